/- EdgeAsks: the row. For every input the law's function returns true and leaves its arguments as they were. -/
import Derived.Test.YtkcbjeenoafbkaaGeoI
import Derived.Test.YtkcbjeenoafbkaaC16e
import Derived.Test.YtkcbjeenoafbkaaRows
import Derived.Test.YtkcbjeenoafbkaaDen33
set_option linter.unusedVariables false
set_option linter.unusedSimpArgs false
set_option maxRecDepth 100000
namespace Go.Proofs.Ytkcbjeenoafbkaa.edgeAsks
open Go Go.Den
theorem inMachine (xs : List AV) (h : ArgsAre [.slice (.agg [.int .i64, .bool, .agg [.int .i64, .int .i64], .agg [.int .i64, .int .i64], .agg [.int .i64, .int .i64]])] xs) : ∃ H', call env 4 xs [] = some (.bool true, H') := by
  obtain ⟨v, r, rfl, h1, rfl⟩ := h
  obtain ⟨l, hl, _, hm⟩ := slice_in (H := []) (g := Edge.cs) (ok := fun _ => True) h1 (by decide) (fun x hx => by
    simp only [Has] at hx
    obtain ⟨a, rfl⟩ := edge_cells hx
    exact ⟨a, rfl, trivial⟩) (fun a => rfl)
  exact ⟨_, c4 hl⟩
theorem laidOut : laidOutB Try.prog = true := by kernel_rfl
theorem own : ownKnob Try.prog.godebug = none := by kernel_rfl
theorem lifted (os : Os) (started : os.Started) (H : Type) (enc : TypeId × Value → H) :
    ReturnsInHanded {} Try.checked os 4 .any (Rows.edgeAsksSpec.pre6 enc Try.prog Try.f4 Rows.edgeAsksRow.domain false) (Rows.edgeAsksSpec.post enc Try.prog Try.f4 false true false false) :=
  law_of (C := Try.checked) (e := env) (sf := s4) (tb := 4) [.slice (.agg [.int .i64, .bool, .agg [.int .i64, .int .i64], .agg [.int .i64, .int .i64], .agg [.int .i64, .int .i64]])] own started (by kernel_rfl) Try.func4
    (ChangeSpec.witness6 (enc := enc) (C := Try.checked) false ⟨#[], #[.slice none 0 0], []⟩ 8 (by kernel_rfl) (by kernel_rfl) (by kernel_rfl) (by kernel_rfl))
    rfl (fun ds hd => by match ds, hd with | [a], _ => rfl) (fitsArgs_ok (by kernel_rfl)) (by kernel_rfl) laidOut (by kernel_rfl) Try.underlying4 envOk rfl rfl sound inMachine
theorem over : Rows.edgeAsksRow.holds Try.pinned (OpenSpec.ofChange Rows.edgeAsksSpec) :=
  OpenClaim.holds_of_wide 4 Try.f4 rfl rfl rfl rfl rfl rfl rfl ⟨rfl, rfl, rfl, rfl, rfl⟩ rfl rfl rfl rfl rfl (by kernel_rfl) Try.func4 (by kernel_rfl)
    (of_decide_eq_true (by kernel_rfl)) (by unfold Func.isWrapper; first | (rw [if_pos (by decide +kernel)]; kernel_rfl) | (rw [if_neg (by decide +kernel)]; exact ⟨rfl, rfl⟩))
    (fun os started H enc _ => lifted os started H enc)
end Go.Proofs.Ytkcbjeenoafbkaa.edgeAsks
namespace Go.Proofs.Ytkcbjeenoafbkaa
/-- The row, under a short name, for the claim. -/
theorem edgeAsks_holds : Rows.EdgeAsksSaid := edgeAsks.over
#print axioms edgeAsks_holds
end Go.Proofs.Ytkcbjeenoafbkaa
