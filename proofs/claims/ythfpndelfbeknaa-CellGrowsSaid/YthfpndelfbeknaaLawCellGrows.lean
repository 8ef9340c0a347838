/- CellGrows: the row. For every input the law's function returns true and leaves its arguments as they were. -/
import Derived.Test.YthfpndelfbeknaaGeoI
import Derived.Test.YthfpndelfbeknaaC25e
import Derived.Test.YthfpndelfbeknaaRows
import Derived.Test.YthfpndelfbeknaaDen33
set_option linter.unusedVariables false
set_option linter.unusedSimpArgs false
set_option maxRecDepth 100000
namespace Go.Proofs.Ythfpndelfbeknaa.cellGrows
open Go Go.Den
theorem inMachine (xs : List AV) (h : ArgsAre [.slice (.agg [.int .i64, .bool, .agg [.int .i64, .int .i64], .agg [.int .i64, .int .i64], .agg [.int .i64, .int .i64]]), .int .i64, .int .i64] xs) : ∃ H', call env 7 xs [] = some (.bool true, H') := by
  obtain ⟨v, r, rfl, h1, v2, r, rfl, h2, v3, r, rfl, h3, rfl⟩ := h
  obtain ⟨em, rfl, _⟩ := int_arg h2
  obtain ⟨k, rfl, _⟩ := int_arg h3
  obtain ⟨l, hl, _, hm⟩ := slice_in (H := []) (g := Edge.cs) (ok := fun _ => True) h1 (by decide) (fun x hx => by
    simp only [Has] at hx
    obtain ⟨a, rfl⟩ := edge_cells hx
    exact ⟨a, rfl, trivial⟩) (fun a => rfl)
  exact ⟨_, c7 hl em k⟩
theorem laidOut : laidOutB Try.prog = true := by kernel_rfl
theorem own : ownKnob Try.prog.godebug = none := by kernel_rfl
theorem lifted (os : Os) (started : os.Started) (H : Type) (enc : TypeId × Value → H) :
    ReturnsInHanded {} Try.checked os 7 .any (Rows.cellGrowsSpec.pre6 enc Try.prog Try.f7 Rows.cellGrowsRow.domain false) (Rows.cellGrowsSpec.post enc Try.prog Try.f7 false true false false) :=
  law_of (C := Try.checked) (e := env) (sf := s7) (tb := 4) [.slice (.agg [.int .i64, .bool, .agg [.int .i64, .int .i64], .agg [.int .i64, .int .i64], .agg [.int .i64, .int .i64]]), .int .i64, .int .i64] own started (by kernel_rfl) Try.func7
    (ChangeSpec.witness6 (enc := enc) (C := Try.checked) false ⟨#[], #[.slice none 0 0, .int .i64 0, .int .i64 0], []⟩ 8 (by kernel_rfl) (by kernel_rfl) (by kernel_rfl) (by kernel_rfl))
    rfl (fun ds hd => by match ds, hd with | [a, b, c], _ => rfl) (fitsArgs_ok (by kernel_rfl)) (by kernel_rfl) laidOut (by kernel_rfl) Try.underlying4 envOk rfl rfl sound inMachine
theorem over : Rows.cellGrowsRow.holds Try.pinned (OpenSpec.ofChange Rows.cellGrowsSpec) :=
  OpenClaim.holds_of_wide 7 Try.f7 rfl rfl rfl rfl rfl rfl rfl ⟨rfl, rfl, rfl, rfl, rfl⟩ rfl rfl rfl rfl rfl (by kernel_rfl) Try.func7 (by kernel_rfl)
    (of_decide_eq_true (by kernel_rfl)) (by unfold Func.isWrapper; first | (rw [if_pos (by decide +kernel)]; kernel_rfl) | (rw [if_neg (by decide +kernel)]; exact ⟨rfl, rfl⟩))
    (fun os started H enc _ => lifted os started H enc)
end Go.Proofs.Ythfpndelfbeknaa.cellGrows
namespace Go.Proofs.Ythfpndelfbeknaa
/-- The row, under a short name, for the claim. -/
theorem cellGrows_holds : Rows.CellGrowsSaid := cellGrows.over
#print axioms cellGrows_holds
end Go.Proofs.Ythfpndelfbeknaa
