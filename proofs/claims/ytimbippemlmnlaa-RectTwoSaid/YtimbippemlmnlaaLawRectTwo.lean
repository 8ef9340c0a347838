/- RectTwo: the row. For every input the law's function returns true and leaves its arguments as they were. -/
import Derived.Test.YtimbippemlmnlaaC28c
import Derived.Test.YtimbippemlmnlaaRows
import Derived.Test.YtimbippemlmnlaaDen33
set_option linter.unusedVariables false
set_option linter.unusedSimpArgs false
set_option maxRecDepth 100000
namespace Go.Proofs.Ytimbippemlmnlaa.rectTwo
open Go Go.Den
theorem inMachine (xs : List AV) (h : ArgsAre [.agg [.int .i64, .int .i64, .int .i64, .int .i64], .agg [.int .i64, .int .i64, .int .i64, .int .i64]] xs) : ∃ H', call env 11 xs [] = some (.bool true, H') := by
  obtain ⟨v, r, rfl, h1, w, r', rfl, h2, rfl⟩ := h
  have rin : ∀ v, ArgIs (.agg [.int .i64, .int .i64, .int .i64, .int .i64]) v → ∃ a : Rect, v = .agg a.cs := by
    rintro v ⟨c, rfl, hx⟩
    obtain ⟨a, r, rfl, h1, hx⟩ := has_cons hx
    obtain ⟨b, r, rfl, h2, hx⟩ := has_cons hx
    obtain ⟨c, r, rfl, h3, hx⟩ := has_cons hx
    obtain ⟨d, r, rfl, h4, hx⟩ := has_cons hx
    obtain rfl := has_nil hx
    obtain ⟨x, rfl, w1⟩ := has_int h1
    obtain ⟨y, rfl, w2⟩ := has_int h2
    obtain ⟨z, rfl, w3⟩ := has_int h3
    obtain ⟨q, rfl, w4⟩ := has_int h4
    exact ⟨⟨x, y, z, q⟩, rfl⟩
  obtain ⟨a, rfl⟩ := rin v h1
  obtain ⟨b, rfl⟩ := rin w h2
  exact ⟨_, c11 a b⟩
theorem laidOut : laidOutB Try.prog = true := by kernel_rfl
theorem own : ownKnob Try.prog.godebug = none := by kernel_rfl
theorem lifted (os : Os) (started : os.Started) (H : Type) (enc : TypeId × Value → H) :
    ReturnsInHanded {} Try.checked os 11 .any (Rows.rectTwoSpec.pre6 enc Try.prog Try.f11 Rows.rectTwoRow.domain false) (Rows.rectTwoSpec.post enc Try.prog Try.f11 false true false false) :=
  law_of (C := Try.checked) (e := env) (sf := s11) (tb := 4) [.agg [.int .i64, .int .i64, .int .i64, .int .i64], .agg [.int .i64, .int .i64, .int .i64, .int .i64]] own started (by kernel_rfl) Try.func11
    (ChangeSpec.witness6 (enc := enc) (C := Try.checked) false ⟨#[], #[.agg #[.int .i64 0, .int .i64 0, .int .i64 0, .int .i64 0], .agg #[.int .i64 0, .int .i64 0, .int .i64 0, .int .i64 0]], []⟩ 8 (by kernel_rfl) (by kernel_rfl) (by kernel_rfl) (by kernel_rfl))
    rfl (fun ds hd => by match ds, hd with | [a, b], _ => rfl) (fitsArgs_ok (by kernel_rfl)) (by kernel_rfl) laidOut (by kernel_rfl) Try.underlying4 envOk rfl rfl sound inMachine
theorem over : Rows.rectTwoRow.holds Try.pinned (OpenSpec.ofChange Rows.rectTwoSpec) :=
  OpenClaim.holds_of_wide 11 Try.f11 rfl rfl rfl rfl rfl rfl rfl ⟨rfl, rfl, rfl, rfl, rfl⟩ rfl rfl rfl rfl rfl (by kernel_rfl) Try.func11 (by kernel_rfl)
    (of_decide_eq_true (by kernel_rfl)) (by unfold Func.isWrapper; first | (rw [if_pos (by decide +kernel)]; kernel_rfl) | (rw [if_neg (by decide +kernel)]; exact ⟨rfl, rfl⟩))
    (fun os started H enc _ => lifted os started H enc)
end Go.Proofs.Ytimbippemlmnlaa.rectTwo
namespace Go.Proofs.Ytimbippemlmnlaa
/-- The row, under a short name, for the claim. -/
theorem rectTwo_holds : Rows.RectTwoSaid := rectTwo.over
#print axioms rectTwo_holds
end Go.Proofs.Ytimbippemlmnlaa
