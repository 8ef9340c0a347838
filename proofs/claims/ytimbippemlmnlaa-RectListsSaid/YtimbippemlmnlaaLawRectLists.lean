/- RectLists: the row. For every input the law's function returns true and leaves its arguments as they were. -/
import Derived.Test.YtimbippemlmnlaaC28l
import Derived.Test.YtimbippemlmnlaaRows
import Derived.Test.YtimbippemlmnlaaDen33
set_option linter.unusedVariables false
set_option linter.unusedSimpArgs false
set_option maxRecDepth 100000
namespace Go.Proofs.Ytimbippemlmnlaa.rectLists
open Go Go.Den
theorem inMachine (xs : List AV) (h : ArgsAre [.slice (.agg [.int .i64, .int .i64, .int .i64, .int .i64]), .agg [.int .i64, .int .i64, .int .i64, .int .i64]] xs) : ∃ H', call env 12 xs [] = some (.bool true, H') := by
  obtain ⟨v, r, rfl, h1, w, r', rfl, h2, rfl⟩ := h
  have rcs : ∀ c, HasAll [.int .i64, .int .i64, .int .i64, .int .i64] c → ∃ a : Rect, c = a.cs := by
    intro c hx
    obtain ⟨a, r, rfl, h1, hx⟩ := has_cons hx
    obtain ⟨b, r, rfl, h2, hx⟩ := has_cons hx
    obtain ⟨c, r, rfl, h3, hx⟩ := has_cons hx
    obtain ⟨d, r, rfl, h4, hx⟩ := has_cons hx
    obtain rfl := has_nil hx
    obtain ⟨x, rfl, w1⟩ := has_int h1
    obtain ⟨y, rfl, w2⟩ := has_int h2
    obtain ⟨z, rfl, w3⟩ := has_int h3
    obtain ⟨q, rfl, w4⟩ := has_int h4
    exact ⟨⟨x, y, z, q⟩, rfl⟩
  obtain ⟨c, rfl, hc⟩ := h2
  obtain ⟨b, rfl⟩ := rcs c hc
  obtain ⟨l, hl, hok, hm⟩ := slice_in (H := []) (g := Rect.cs) (ok := fun _ => True) h1 (by decide) (fun x hx => by
    simp only [Has] at hx
    obtain ⟨a, rfl⟩ := rcs x hx
    exact ⟨a, rfl, trivial⟩) (fun a => rfl)
  exact ⟨_, c12 b hl⟩
theorem laidOut : laidOutB Try.prog = true := by kernel_rfl
theorem own : ownKnob Try.prog.godebug = none := by kernel_rfl
theorem lifted (os : Os) (started : os.Started) (H : Type) (enc : TypeId × Value → H) :
    ReturnsInHanded {} Try.checked os 12 .any (Rows.rectListsSpec.pre6 enc Try.prog Try.f12 Rows.rectListsRow.domain false) (Rows.rectListsSpec.post enc Try.prog Try.f12 false true false false) :=
  law_of (C := Try.checked) (e := env) (sf := s12) (tb := 4) [.slice (.agg [.int .i64, .int .i64, .int .i64, .int .i64]), .agg [.int .i64, .int .i64, .int .i64, .int .i64]] own started (by kernel_rfl) Try.func12
    (ChangeSpec.witness6 (enc := enc) (C := Try.checked) false ⟨#[], #[.slice none 0 0, .agg #[.int .i64 0, .int .i64 0, .int .i64 0, .int .i64 0]], []⟩ 8 (by kernel_rfl) (by kernel_rfl) (by kernel_rfl) (by kernel_rfl))
    rfl (fun ds hd => by match ds, hd with | [a, b], _ => rfl) (fitsArgs_ok (by kernel_rfl)) (by kernel_rfl) laidOut (by kernel_rfl) Try.underlying4 envOk rfl rfl sound inMachine
theorem over : Rows.rectListsRow.holds Try.pinned (OpenSpec.ofChange Rows.rectListsSpec) :=
  OpenClaim.holds_of_wide 12 Try.f12 rfl rfl rfl rfl rfl rfl rfl ⟨rfl, rfl, rfl, rfl, rfl⟩ rfl rfl rfl rfl rfl (by kernel_rfl) Try.func12 (by kernel_rfl)
    (of_decide_eq_true (by kernel_rfl)) (by unfold Func.isWrapper; first | (rw [if_pos (by decide +kernel)]; kernel_rfl) | (rw [if_neg (by decide +kernel)]; exact ⟨rfl, rfl⟩))
    (fun os started H enc _ => lifted os started H enc)
end Go.Proofs.Ytimbippemlmnlaa.rectLists
namespace Go.Proofs.Ytimbippemlmnlaa
/-- The row, under a short name, for the claim. -/
theorem rectLists_holds : Rows.RectListsSaid := rectLists.over
#print axioms rectLists_holds
end Go.Proofs.Ytimbippemlmnlaa
