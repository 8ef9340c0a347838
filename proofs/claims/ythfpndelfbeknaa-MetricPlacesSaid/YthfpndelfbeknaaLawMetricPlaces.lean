/- MetricPlaces: the row. For every input the law's function returns true and leaves its arguments as they were. -/
import Derived.Test.YthfpndelfbeknaaC10i
import Derived.Test.YthfpndelfbeknaaC11m
import Derived.Test.YthfpndelfbeknaaRows
import Derived.Test.YthfpndelfbeknaaDen33
set_option linter.unusedVariables false
set_option linter.unusedSimpArgs false
set_option maxRecDepth 100000
namespace Go.Proofs.Ythfpndelfbeknaa.metricPlaces
open Go Go.Den
theorem inMachine (xs : List AV) (h : ArgsAre [.agg [.int .i64, .bool, .int .i64, .int .i64, .int .i64, .int .i64, .int .i64], .slice (.int .i64)] xs) : ∃ H', call env 13 xs [] = some (.bool true, H') := by
  obtain ⟨v, r, rfl, h1, v2, r, rfl, h2, rfl⟩ := h
  obtain ⟨hd, rfl⟩ := head_arg h1
  obtain ⟨l, hl, _, hm⟩ := slice_in (H := []) (g := IntC) (ok := fun _ => True) h2 (by decide) (fun x hx => by
    obtain ⟨n, rfl, _⟩ := has_int hx
    exact ⟨n, rfl, trivial⟩) (fun a => rfl)
  exact ⟨_, c13 hd hl⟩
theorem laidOut : laidOutB Try.prog = true := by kernel_rfl
theorem own : ownKnob Try.prog.godebug = none := by kernel_rfl
theorem lifted (os : Os) (started : os.Started) (H : Type) (enc : TypeId × Value → H) :
    ReturnsInHanded {} Try.checked os 13 .any (Rows.metricPlacesSpec.pre6 enc Try.prog Try.f13 Rows.metricPlacesRow.domain false) (Rows.metricPlacesSpec.post enc Try.prog Try.f13 false true false false) :=
  law_of (C := Try.checked) (e := env) (sf := s13) (tb := 4) [.agg [.int .i64, .bool, .int .i64, .int .i64, .int .i64, .int .i64, .int .i64], .slice (.int .i64)] own started (by kernel_rfl) Try.func13
    (ChangeSpec.witness6 (enc := enc) (C := Try.checked) false ⟨#[], #[.agg #[.int .i64 0, .bool false, .int .i64 0, .int .i64 0, .int .i64 0, .int .i64 0, .int .i64 0], .slice none 0 0], []⟩ 8 (by kernel_rfl) (by kernel_rfl) (by kernel_rfl) (by kernel_rfl))
    rfl (fun ds hd => by match ds, hd with | [a, b], _ => rfl) (fitsArgs_ok (by kernel_rfl)) (by kernel_rfl) laidOut (by kernel_rfl) Try.underlying4 envOk rfl rfl sound inMachine
theorem over : Rows.metricPlacesRow.holds Try.pinned (OpenSpec.ofChange Rows.metricPlacesSpec) :=
  OpenClaim.holds_of_wide 13 Try.f13 rfl rfl rfl rfl rfl rfl rfl ⟨rfl, rfl, rfl, rfl, rfl⟩ rfl rfl rfl rfl rfl (by kernel_rfl) Try.func13 (by kernel_rfl)
    (of_decide_eq_true (by kernel_rfl)) (by unfold Func.isWrapper; first | (rw [if_pos (by decide +kernel)]; kernel_rfl) | (rw [if_neg (by decide +kernel)]; exact ⟨rfl, rfl⟩))
    (fun os started H enc _ => lifted os started H enc)
end Go.Proofs.Ythfpndelfbeknaa.metricPlaces
namespace Go.Proofs.Ythfpndelfbeknaa
/-- The row, under a short name, for the claim. -/
theorem metricPlaces_holds : Rows.MetricPlacesSaid := metricPlaces.over
#print axioms metricPlaces_holds
end Go.Proofs.Ythfpndelfbeknaa
