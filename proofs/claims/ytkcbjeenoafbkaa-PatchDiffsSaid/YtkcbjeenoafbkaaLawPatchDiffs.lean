/- PatchDiffs: the row. For every input the law's function returns true and leaves its arguments as they were. -/
import Derived.Test.YtkcbjeenoafbkaaC42l
import Derived.Test.YtkcbjeenoafbkaaRows
import Derived.Test.YtkcbjeenoafbkaaDen38
set_option linter.unusedVariables false
set_option linter.unusedSimpArgs false
set_option maxRecDepth 100000
namespace Go.Proofs.Ytkcbjeenoafbkaa.patchDiffs
open Go Go.Den
theorem inMachine (xs : List AV) (h : ArgsAre [.str, .str] xs) : ∃ H', call env 6 xs [] = some (.bool true, H') := by
  obtain ⟨v, r, rfl, h1, v2, r, rfl, h2, rfl⟩ := h
  obtain ⟨s1, rfl⟩ := str_arg h1
  obtain ⟨s2, rfl⟩ := str_arg h2
  exact c6 s1 s2
theorem laidOut : laidOutB Try.prog = true := by kernel_rfl
theorem own : ownKnob Try.prog.godebug = none := by kernel_rfl
theorem lifted (os : Os) (started : os.Started) (H : Type) (enc : TypeId × Value → H) :
    ReturnsInHanded {} Try.checked os 6 .any (Rows.patchDiffsSpec.pre6 enc Try.prog Try.f6 Rows.patchDiffsRow.domain false) (Rows.patchDiffsSpec.post enc Try.prog Try.f6 false true false false) :=
  law_of (C := Try.checked) (e := env) (sf := s6) (tb := 4) [.str, .str] own started (by kernel_rfl) Try.func6
    (ChangeSpec.witness6 (enc := enc) (C := Try.checked) false ⟨#[], #[.string ⟨#[]⟩, .string ⟨#[]⟩], []⟩ 8 (by kernel_rfl) (by kernel_rfl) (by kernel_rfl) (by kernel_rfl))
    rfl (fun ds hd => by match ds, hd with | [a, b], _ => rfl) (fitsArgs_ok (by kernel_rfl)) (by kernel_rfl) laidOut (by kernel_rfl) Try.underlying4 envOk rfl rfl sound inMachine
theorem over : Rows.patchDiffsRow.holds Try.pinned (OpenSpec.ofChange Rows.patchDiffsSpec) :=
  OpenClaim.holds_of_wide 6 Try.f6 rfl rfl rfl rfl rfl rfl rfl ⟨rfl, rfl, rfl, rfl, rfl⟩ rfl rfl rfl rfl rfl (by kernel_rfl) Try.func6 (by kernel_rfl)
    (of_decide_eq_true (by kernel_rfl)) (by unfold Func.isWrapper; first | (rw [if_pos (by decide +kernel)]; kernel_rfl) | (rw [if_neg (by decide +kernel)]; exact ⟨rfl, rfl⟩))
    (fun os started H enc _ => lifted os started H enc)
end Go.Proofs.Ytkcbjeenoafbkaa.patchDiffs
namespace Go.Proofs.Ytkcbjeenoafbkaa
/-- The row, under a short name, for the claim. -/
theorem patchDiffs_holds : Rows.PatchDiffsSaid := patchDiffs.over
#print axioms patchDiffs_holds
end Go.Proofs.Ytkcbjeenoafbkaa
