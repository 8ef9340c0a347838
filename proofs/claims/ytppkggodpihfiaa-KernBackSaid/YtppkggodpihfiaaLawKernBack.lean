/- KernBack: the row. For every input the law's function returns true and leaves its arguments as they were. -/
import Derived.Test.YtppkggodpihfiaaK40q
import Derived.Test.YtppkggodpihfiaaK40r
import Derived.Test.YtppkggodpihfiaaRows
import Derived.Test.YtppkggodpihfiaaDen38
set_option linter.unusedVariables false
set_option linter.unusedSimpArgs false
set_option maxRecDepth 100000
namespace Go.Proofs.Ytppkggodpihfiaa.kernBack
open Go Go.Den
theorem inMachine (xs : List AV) (h : ArgsAre [.slice (.agg [.int .i64, .int .i64, .int .i64]), .agg [.int .i64, .int .i64, .int .i64]] xs) : ∃ H', call env 3 xs [] = some (.bool true, H') := by
  obtain ⟨v, r, rfl, h1, v2, r', rfl, h2, rfl⟩ := h
  obtain ⟨l, s1, n1⟩ := kerns_in [] h1
  obtain ⟨c, rfl, h⟩ := h2
  obtain ⟨c1, r, rfl, h1, h⟩ := has_cons h
  obtain ⟨c2, r, rfl, h2, h⟩ := has_cons h
  obtain ⟨c3, r, rfl, h3, h⟩ := has_cons h
  obtain rfl := has_nil h
  obtain ⟨x1, rfl, _⟩ := has_int h1
  obtain ⟨x2, rfl, _⟩ := has_int h2
  obtain ⟨x3, rfl, _⟩ := has_int h3
  exact c3 s1 (by unfold maxLen at n1; omega) x1 x2 x3
theorem laidOut : laidOutB Try.prog = true := by kernel_rfl
theorem own : ownKnob Try.prog.godebug = none := by kernel_rfl
theorem lifted (os : Os) (started : os.Started) (H : Type) (enc : TypeId × Value → H) :
    ReturnsInHanded {} Try.checked os 3 .any (Rows.kernBackSpec.pre6 enc Try.prog Try.f3 Rows.kernBackRow.domain false) (Rows.kernBackSpec.post enc Try.prog Try.f3 false true false false) :=
  law_of (C := Try.checked) (e := env) (sf := s3) (tb := 4) [.slice (.agg [.int .i64, .int .i64, .int .i64]), .agg [.int .i64, .int .i64, .int .i64]] own started (by kernel_rfl) Try.func3
    (ChangeSpec.witness6 (enc := enc) (C := Try.checked) false ⟨#[], #[.slice none 0 0, .agg #[.int .i64 0, .int .i64 0, .int .i64 0]], []⟩ 8 (by kernel_rfl) (by kernel_rfl) (by kernel_rfl) (by kernel_rfl))
    rfl (fun ds hd => by match ds, hd with | [a, b], _ => rfl) (fitsArgs_ok (by kernel_rfl)) (by kernel_rfl) laidOut (by kernel_rfl) Try.underlying4 envOk rfl rfl sound inMachine
theorem over : Rows.kernBackRow.holds Try.pinned (OpenSpec.ofChange Rows.kernBackSpec) :=
  OpenClaim.holds_of_wide 3 Try.f3 rfl rfl rfl rfl rfl rfl rfl ⟨rfl, rfl, rfl, rfl, rfl⟩ rfl rfl rfl rfl rfl (by kernel_rfl) Try.func3 (by kernel_rfl)
    (of_decide_eq_true (by kernel_rfl)) (by unfold Func.isWrapper; first | (rw [if_pos (by decide +kernel)]; kernel_rfl) | (rw [if_neg (by decide +kernel)]; exact ⟨rfl, rfl⟩))
    (fun os started H enc _ => lifted os started H enc)
end Go.Proofs.Ytppkggodpihfiaa.kernBack
namespace Go.Proofs.Ytppkggodpihfiaa
/-- The row, under a short name, for the claim. -/
theorem kernBack_holds : Rows.KernBackSaid := kernBack.over
#print axioms kernBack_holds
end Go.Proofs.Ytppkggodpihfiaa
