/- ChordNear: the row. For every input the law's function returns true and leaves its arguments as they were. -/
import Derived.Test.YthfpndelfbeknaaC39k
import Derived.Test.YthfpndelfbeknaaC39i
import Derived.Test.YthfpndelfbeknaaRows
import Derived.Test.YthfpndelfbeknaaDen33
set_option linter.unusedVariables false
set_option linter.unusedSimpArgs false
set_option maxRecDepth 100000
namespace Go.Proofs.Ythfpndelfbeknaa.chordNear
open Go Go.Den
theorem inMachine (xs : List AV) (h : ArgsAre [.agg [.agg [.int .i16, .int .i16], .agg [.int .i16, .int .i16], .agg [.int .i16, .int .i16]], .int .u8] xs) : ∃ H', call env 5 xs [] = some (.bool true, H') := by
  obtain ⟨v, r, rfl, h1, v3, r, rfl, h3, rfl⟩ := h
  obtain ⟨ax, ay, bx, by', cx, cy, rfl, g⟩ := six_arg h1
  obtain ⟨k, rfl, hk⟩ := int_arg h3
  exact ⟨_, c5 ax ay bx by' cx cy k g.1 g.2.1 g.2.2.1 g.2.2.2.1 g.2.2.2.2.1 g.2.2.2.2.2 (wf_u8 hk).1⟩
theorem laidOut : laidOutB Try.prog = true := by kernel_rfl
theorem own : ownKnob Try.prog.godebug = none := by kernel_rfl
theorem lifted (os : Os) (started : os.Started) (H : Type) (enc : TypeId × Value → H) :
    ReturnsInHanded {} Try.checked os 5 .any (Rows.chordNearSpec.pre6 enc Try.prog Try.f5 Rows.chordNearRow.domain false) (Rows.chordNearSpec.post enc Try.prog Try.f5 false true false false) :=
  law_of (C := Try.checked) (e := env) (sf := s5) (tb := 4) [.agg [.agg [.int .i16, .int .i16], .agg [.int .i16, .int .i16], .agg [.int .i16, .int .i16]], .int .u8] own started (by kernel_rfl) Try.func5
    (ChangeSpec.witness6 (enc := enc) (C := Try.checked) false ⟨#[], #[.agg #[.int .i16 0, .int .i16 0, .int .i16 0, .int .i16 0, .int .i16 0, .int .i16 0], .int .u8 0], []⟩ 8 (by kernel_rfl) (by kernel_rfl) (by kernel_rfl) (by kernel_rfl))
    rfl (fun ds hd => by match ds, hd with | [a, b], _ => rfl) (fitsArgs_ok (by kernel_rfl)) (by kernel_rfl) laidOut (by kernel_rfl) Try.underlying4 envOk rfl rfl sound inMachine
theorem over : Rows.chordNearRow.holds Try.pinned (OpenSpec.ofChange Rows.chordNearSpec) :=
  OpenClaim.holds_of_wide 5 Try.f5 rfl rfl rfl rfl rfl rfl rfl ⟨rfl, rfl, rfl, rfl, rfl⟩ rfl rfl rfl rfl rfl (by kernel_rfl) Try.func5 (by kernel_rfl)
    (of_decide_eq_true (by kernel_rfl)) (by unfold Func.isWrapper; first | (rw [if_pos (by decide +kernel)]; kernel_rfl) | (rw [if_neg (by decide +kernel)]; exact ⟨rfl, rfl⟩))
    (fun os started H enc _ => lifted os started H enc)
end Go.Proofs.Ythfpndelfbeknaa.chordNear
namespace Go.Proofs.Ythfpndelfbeknaa
/-- The row, under a short name, for the claim. -/
theorem chordNear_holds : Rows.ChordNearSaid := chordNear.over
#print axioms chordNear_holds
end Go.Proofs.Ythfpndelfbeknaa
