/- EdgeTurned: the row. For every input the law's function returns true and leaves its arguments as they were. -/
import Derived.Test.YtkcbjeenoafbkaaGeoI
import Derived.Test.YtkcbjeenoafbkaaC16q
import Derived.Test.YtkcbjeenoafbkaaRows
import Derived.Test.YtkcbjeenoafbkaaDen38
set_option linter.unusedVariables false
set_option linter.unusedSimpArgs false
set_option maxRecDepth 100000
namespace Go.Proofs.Ytkcbjeenoafbkaa.edgeTurned
open Go Go.Den
theorem inMachine (xs : List AV) (h : ArgsAre [.slice (.agg [.int .i64, .int .i64, .bool]), .int .i64] xs) : ∃ H', call env 5 xs [] = some (.bool true, H') := by
  obtain ⟨v, r, rfl, h1, v2, r, rfl, h2, rfl⟩ := h
  obtain ⟨l, hl, hn⟩ := points_in (v := v) [] h1
  obtain ⟨n, rfl, _⟩ := int_arg h2
  exact ⟨_, c5 hl (by simpa [maxLen] using hn) n⟩
theorem laidOut : laidOutB Try.prog = true := by kernel_rfl
theorem own : ownKnob Try.prog.godebug = none := by kernel_rfl
theorem lifted (os : Os) (started : os.Started) (H : Type) (enc : TypeId × Value → H) :
    ReturnsInHanded {} Try.checked os 5 .any (Rows.edgeTurnedSpec.pre6 enc Try.prog Try.f5 Rows.edgeTurnedRow.domain false) (Rows.edgeTurnedSpec.post enc Try.prog Try.f5 false true false false) :=
  law_of (C := Try.checked) (e := env) (sf := s5) (tb := 4) [.slice (.agg [.int .i64, .int .i64, .bool]), .int .i64] own started (by kernel_rfl) Try.func5
    (ChangeSpec.witness6 (enc := enc) (C := Try.checked) false ⟨#[], #[.slice none 0 0, .int .i64 0], []⟩ 8 (by kernel_rfl) (by kernel_rfl) (by kernel_rfl) (by kernel_rfl))
    rfl (fun ds hd => by match ds, hd with | [a, b], _ => rfl) (fitsArgs_ok (by kernel_rfl)) (by kernel_rfl) laidOut (by kernel_rfl) Try.underlying4 envOk rfl rfl sound inMachine
theorem over : Rows.edgeTurnedRow.holds Try.pinned (OpenSpec.ofChange Rows.edgeTurnedSpec) :=
  OpenClaim.holds_of_wide 5 Try.f5 rfl rfl rfl rfl rfl rfl rfl ⟨rfl, rfl, rfl, rfl, rfl⟩ rfl rfl rfl rfl rfl (by kernel_rfl) Try.func5 (by kernel_rfl)
    (of_decide_eq_true (by kernel_rfl)) (by unfold Func.isWrapper; first | (rw [if_pos (by decide +kernel)]; kernel_rfl) | (rw [if_neg (by decide +kernel)]; exact ⟨rfl, rfl⟩))
    (fun os started H enc _ => lifted os started H enc)
end Go.Proofs.Ytkcbjeenoafbkaa.edgeTurned
namespace Go.Proofs.Ytkcbjeenoafbkaa
/-- The row, under a short name, for the claim. -/
theorem edgeTurned_holds : Rows.EdgeTurnedSaid := edgeTurned.over
#print axioms edgeTurned_holds
end Go.Proofs.Ytkcbjeenoafbkaa
