/- PackLays: the row. For every input the law's function returns true and leaves its arguments as they were. -/
import Derived.Test.YtkcbjeenoafbkaaC29v
import Derived.Test.YtkcbjeenoafbkaaRows
import Derived.Test.YtkcbjeenoafbkaaDen38
set_option linter.unusedVariables false
set_option linter.unusedSimpArgs false
set_option maxRecDepth 100000
namespace Go.Proofs.Ytkcbjeenoafbkaa.packLays
open Go Go.Den
theorem inMachine (xs : List AV) (h : ArgsAre [.slice (.agg [.int .i64, .int .i64]), .agg [.int .i64, .int .i64], .int .i64] xs) : ∃ H', call env 9 xs [] = some (.bool true, H') := by
  obtain ⟨v, r, rfl, h1, w, r', rfl, h2, u, r2, rfl, h3, rfl⟩ := h
  obtain ⟨l, s1, n1⟩ := sizes_in [] h1
  obtain ⟨c, rfl, hx⟩ := h2
  obtain ⟨a, b, rfl⟩ := two_in hx
  obtain ⟨k, hk, hw⟩ := has_int h3
  injection hk with hk
  subst hk
  exact c9 s1 a b k
theorem laidOut : laidOutB Try.prog = true := by kernel_rfl
theorem own : ownKnob Try.prog.godebug = none := by kernel_rfl
theorem lifted (os : Os) (started : os.Started) (H : Type) (enc : TypeId × Value → H) :
    ReturnsInHanded {} Try.checked os 9 .any (Rows.packLaysSpec.pre6 enc Try.prog Try.f9 Rows.packLaysRow.domain false) (Rows.packLaysSpec.post enc Try.prog Try.f9 false true false false) :=
  law_of (C := Try.checked) (e := env) (sf := s9) (tb := 4) [.slice (.agg [.int .i64, .int .i64]), .agg [.int .i64, .int .i64], .int .i64] own started (by kernel_rfl) Try.func9
    (ChangeSpec.witness6 (enc := enc) (C := Try.checked) false ⟨#[], #[.slice none 0 0, .agg #[.int .i64 0, .int .i64 0], .int .i64 0], []⟩ 8 (by kernel_rfl) (by kernel_rfl) (by kernel_rfl) (by kernel_rfl))
    rfl (fun ds hd => by match ds, hd with | [a, b, c], _ => rfl) (fitsArgs_ok (by kernel_rfl)) (by kernel_rfl) laidOut (by kernel_rfl) Try.underlying4 envOk rfl rfl sound inMachine
theorem over : Rows.packLaysRow.holds Try.pinned (OpenSpec.ofChange Rows.packLaysSpec) :=
  OpenClaim.holds_of_wide 9 Try.f9 rfl rfl rfl rfl rfl rfl rfl ⟨rfl, rfl, rfl, rfl, rfl⟩ rfl rfl rfl rfl rfl (by kernel_rfl) Try.func9 (by kernel_rfl)
    (of_decide_eq_true (by kernel_rfl)) (by unfold Func.isWrapper; first | (rw [if_pos (by decide +kernel)]; kernel_rfl) | (rw [if_neg (by decide +kernel)]; exact ⟨rfl, rfl⟩))
    (fun os started H enc _ => lifted os started H enc)
end Go.Proofs.Ytkcbjeenoafbkaa.packLays
namespace Go.Proofs.Ytkcbjeenoafbkaa
/-- The row, under a short name, for the claim. -/
theorem packLays_holds : Rows.PackLaysSaid := packLays.over
#print axioms packLays_holds
end Go.Proofs.Ytkcbjeenoafbkaa
