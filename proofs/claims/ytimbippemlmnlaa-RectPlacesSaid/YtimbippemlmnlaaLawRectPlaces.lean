/- RectPlaces: the row. For every input the law's function returns true and leaves its arguments as they were. -/
import Derived.Test.YtimbippemlmnlaaC28o
import Derived.Test.YtimbippemlmnlaaRows
import Derived.Test.YtimbippemlmnlaaDen33
set_option linter.unusedVariables false
set_option linter.unusedSimpArgs false
set_option maxRecDepth 100000
namespace Go.Proofs.Ytimbippemlmnlaa.rectPlaces
open Go Go.Den
theorem inMachine (xs : List AV) (h : ArgsAre [.slice (.agg [.int .i64, .int .i64, .int .i64, .int .i64]), .agg [.int .i64, .int .i64, .int .i64, .int .i64], .agg [.int .i64, .int .i64]] xs) : ∃ H', call env 13 xs [] = some (.bool true, H') := by
  obtain ⟨v, r, rfl, h1, w, r', rfl, h2, u, r', rfl, h3, rfl⟩ := h
  have rcs : ∀ c, HasAll [.int .i64, .int .i64, .int .i64, .int .i64] c → ∃ a : Rect, c = a.cs := by
    intro c hx
    obtain ⟨a, r, rfl, h1, hx⟩ := has_cons hx
    obtain ⟨b, r, rfl, h2, hx⟩ := has_cons hx
    obtain ⟨c, r, rfl, h3, hx⟩ := has_cons hx
    obtain ⟨d, r, rfl, h4, hx⟩ := has_cons hx
    obtain rfl := has_nil hx
    obtain ⟨x, rfl, w1⟩ := has_int h1
    obtain ⟨y, rfl, w2⟩ := has_int h2
    obtain ⟨z, rfl, w3⟩ := has_int h3
    obtain ⟨q, rfl, w4⟩ := has_int h4
    exact ⟨⟨x, y, z, q⟩, rfl⟩
  obtain ⟨c, rfl, hc⟩ := h2
  obtain ⟨b, rfl⟩ := rcs c hc
  obtain ⟨c, rfl, hc⟩ := h3
  obtain ⟨p, r, rfl, h4, hx⟩ := has_cons hc
  obtain ⟨q, r, rfl, h5, hx⟩ := has_cons hx
  obtain rfl := has_nil hx
  obtain ⟨x, rfl, _⟩ := has_int h4
  obtain ⟨y, rfl, _⟩ := has_int h5
  obtain ⟨l, hl, hok, hm⟩ := slice_in (H := []) (g := Rect.cs) (ok := fun _ => True) h1 (by decide) (fun x hx => by
    simp only [Has] at hx
    obtain ⟨a, rfl⟩ := rcs x hx
    exact ⟨a, rfl, trivial⟩) (fun a => rfl)
  exact ⟨_, c13 b x y hl⟩
theorem laidOut : laidOutB Try.prog = true := by kernel_rfl
theorem own : ownKnob Try.prog.godebug = none := by kernel_rfl
theorem lifted (os : Os) (started : os.Started) (H : Type) (enc : TypeId × Value → H) :
    ReturnsInHanded {} Try.checked os 13 .any (Rows.rectPlacesSpec.pre6 enc Try.prog Try.f13 Rows.rectPlacesRow.domain false) (Rows.rectPlacesSpec.post enc Try.prog Try.f13 false true false false) :=
  law_of (C := Try.checked) (e := env) (sf := s13) (tb := 4) [.slice (.agg [.int .i64, .int .i64, .int .i64, .int .i64]), .agg [.int .i64, .int .i64, .int .i64, .int .i64], .agg [.int .i64, .int .i64]] own started (by kernel_rfl) Try.func13
    (ChangeSpec.witness6 (enc := enc) (C := Try.checked) false ⟨#[], #[.slice none 0 0, .agg #[.int .i64 0, .int .i64 0, .int .i64 0, .int .i64 0], .agg #[.int .i64 0, .int .i64 0]], []⟩ 8 (by kernel_rfl) (by kernel_rfl) (by kernel_rfl) (by kernel_rfl))
    rfl (fun ds hd => by match ds, hd with | [a, b, c], _ => rfl) (fitsArgs_ok (by kernel_rfl)) (by kernel_rfl) laidOut (by kernel_rfl) Try.underlying4 envOk rfl rfl sound inMachine
theorem over : Rows.rectPlacesRow.holds Try.pinned (OpenSpec.ofChange Rows.rectPlacesSpec) :=
  OpenClaim.holds_of_wide 13 Try.f13 rfl rfl rfl rfl rfl rfl rfl ⟨rfl, rfl, rfl, rfl, rfl⟩ rfl rfl rfl rfl rfl (by kernel_rfl) Try.func13 (by kernel_rfl)
    (of_decide_eq_true (by kernel_rfl)) (by unfold Func.isWrapper; first | (rw [if_pos (by decide +kernel)]; kernel_rfl) | (rw [if_neg (by decide +kernel)]; exact ⟨rfl, rfl⟩))
    (fun os started H enc _ => lifted os started H enc)
end Go.Proofs.Ytimbippemlmnlaa.rectPlaces
namespace Go.Proofs.Ytimbippemlmnlaa
/-- The row, under a short name, for the claim. -/
theorem rectPlaces_holds : Rows.RectPlacesSaid := rectPlaces.over
#print axioms rectPlaces_holds
end Go.Proofs.Ytimbippemlmnlaa
