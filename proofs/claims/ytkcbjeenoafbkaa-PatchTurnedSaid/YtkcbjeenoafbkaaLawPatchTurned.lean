/- PatchTurned: the row. For every input the law's function returns true and leaves its arguments as they were. -/
import Derived.Test.YtkcbjeenoafbkaaC42n
import Derived.Test.YtkcbjeenoafbkaaRows
import Derived.Test.YtkcbjeenoafbkaaDen38
set_option linter.unusedVariables false
set_option linter.unusedSimpArgs false
set_option maxRecDepth 100000
namespace Go.Proofs.Ytkcbjeenoafbkaa.patchTurned
open Go Go.Den
theorem inMachine (xs : List AV) (h : ArgsAre [.str, .str, .agg [.int .u16, .int .u16]] xs) : ∃ H', call env 8 xs [] = some (.bool true, H') := by
  obtain ⟨v, r, rfl, h1, v2, r, rfl, h2, v3, r, rfl, h3, rfl⟩ := h
  obtain ⟨s1, rfl⟩ := str_arg h1
  obtain ⟨s2, rfl⟩ := str_arg h2
  obtain ⟨c, rfl, h⟩ := h3
  obtain ⟨x1, r, rfl, y1, h⟩ := has_cons h
  obtain ⟨x2, r, rfl, y2, h⟩ := has_cons h
  obtain rfl := has_nil h
  obtain ⟨n0, rfl, z0⟩ := has_int y1
  obtain ⟨n1, rfl, z1⟩ := has_int y2
  exact c8 s1 s2 n0 n1 (wf_u16 z0) (wf_u16 z1)
theorem laidOut : laidOutB Try.prog = true := by kernel_rfl
theorem own : ownKnob Try.prog.godebug = none := by kernel_rfl
theorem lifted (os : Os) (started : os.Started) (H : Type) (enc : TypeId × Value → H) :
    ReturnsInHanded {} Try.checked os 8 .any (Rows.patchTurnedSpec.pre6 enc Try.prog Try.f8 Rows.patchTurnedRow.domain false) (Rows.patchTurnedSpec.post enc Try.prog Try.f8 false true false false) :=
  law_of (C := Try.checked) (e := env) (sf := s8) (tb := 4) [.str, .str, .agg [.int .u16, .int .u16]] own started (by kernel_rfl) Try.func8
    (ChangeSpec.witness6 (enc := enc) (C := Try.checked) false ⟨#[], #[.string ⟨#[]⟩, .string ⟨#[]⟩, .agg #[.int .u16 0, .int .u16 0]], []⟩ 8 (by kernel_rfl) (by kernel_rfl) (by kernel_rfl) (by kernel_rfl))
    rfl (fun ds hd => by match ds, hd with | [a, b, c], _ => rfl) (fitsArgs_ok (by kernel_rfl)) (by kernel_rfl) laidOut (by kernel_rfl) Try.underlying4 envOk rfl rfl sound inMachine
theorem over : Rows.patchTurnedRow.holds Try.pinned (OpenSpec.ofChange Rows.patchTurnedSpec) :=
  OpenClaim.holds_of_wide 8 Try.f8 rfl rfl rfl rfl rfl rfl rfl ⟨rfl, rfl, rfl, rfl, rfl⟩ rfl rfl rfl rfl rfl (by kernel_rfl) Try.func8 (by kernel_rfl)
    (of_decide_eq_true (by kernel_rfl)) (by unfold Func.isWrapper; first | (rw [if_pos (by decide +kernel)]; kernel_rfl) | (rw [if_neg (by decide +kernel)]; exact ⟨rfl, rfl⟩))
    (fun os started H enc _ => lifted os started H enc)
end Go.Proofs.Ytkcbjeenoafbkaa.patchTurned
namespace Go.Proofs.Ytkcbjeenoafbkaa
/-- The row, under a short name, for the claim. -/
theorem patchTurned_holds : Rows.PatchTurnedSaid := patchTurned.over
#print axioms patchTurned_holds
end Go.Proofs.Ytkcbjeenoafbkaa
