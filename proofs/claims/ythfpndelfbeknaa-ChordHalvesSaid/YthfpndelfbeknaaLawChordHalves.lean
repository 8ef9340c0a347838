/- ChordHalves: the row. For every input the law's function returns true and leaves its arguments as they were. -/
import Derived.Test.YthfpndelfbeknaaC39k
import Derived.Test.YthfpndelfbeknaaC39i
import Derived.Test.YthfpndelfbeknaaRows
import Derived.Test.YthfpndelfbeknaaDen33
set_option linter.unusedVariables false
set_option linter.unusedSimpArgs false
set_option maxRecDepth 100000
namespace Go.Proofs.Ythfpndelfbeknaa.chordHalves
open Go Go.Den
theorem inMachine (xs : List AV) (h : ArgsAre [.agg [.agg [.int .i16, .int .i16], .agg [.int .i16, .int .i16], .agg [.int .i16, .int .i16]], .bool, .int .u8] xs) : ∃ H', call env 4 xs [] = some (.bool true, H') := by
  obtain ⟨v, r, rfl, h1, v2, r, rfl, h2, v3, r, rfl, h3, rfl⟩ := h
  obtain ⟨ax, ay, bx, by', cx, cy, rfl, g⟩ := six_arg h1
  obtain ⟨q, rfl⟩ := bool_arg h2
  obtain ⟨k, rfl, hk⟩ := int_arg h3
  exact ⟨_, c4 ax ay bx by' cx cy q k g.1 g.2.1 g.2.2.1 g.2.2.2.1 g.2.2.2.2.1 g.2.2.2.2.2 (wf_u8 hk).1⟩
theorem laidOut : laidOutB Try.prog = true := by kernel_rfl
theorem own : ownKnob Try.prog.godebug = none := by kernel_rfl
theorem lifted (os : Os) (started : os.Started) (H : Type) (enc : TypeId × Value → H) :
    ReturnsInHanded {} Try.checked os 4 .any (Rows.chordHalvesSpec.pre6 enc Try.prog Try.f4 Rows.chordHalvesRow.domain false) (Rows.chordHalvesSpec.post enc Try.prog Try.f4 false true false false) :=
  law_of (C := Try.checked) (e := env) (sf := s4) (tb := 4) [.agg [.agg [.int .i16, .int .i16], .agg [.int .i16, .int .i16], .agg [.int .i16, .int .i16]], .bool, .int .u8] own started (by kernel_rfl) Try.func4
    (ChangeSpec.witness6 (enc := enc) (C := Try.checked) false ⟨#[], #[.agg #[.int .i16 0, .int .i16 0, .int .i16 0, .int .i16 0, .int .i16 0, .int .i16 0], .bool false, .int .u8 0], []⟩ 8 (by kernel_rfl) (by kernel_rfl) (by kernel_rfl) (by kernel_rfl))
    rfl (fun ds hd => by match ds, hd with | [a, b, c], _ => rfl) (fitsArgs_ok (by kernel_rfl)) (by kernel_rfl) laidOut (by kernel_rfl) Try.underlying4 envOk rfl rfl sound inMachine
theorem over : Rows.chordHalvesRow.holds Try.pinned (OpenSpec.ofChange Rows.chordHalvesSpec) :=
  OpenClaim.holds_of_wide 4 Try.f4 rfl rfl rfl rfl rfl rfl rfl ⟨rfl, rfl, rfl, rfl, rfl⟩ rfl rfl rfl rfl rfl (by kernel_rfl) Try.func4 (by kernel_rfl)
    (of_decide_eq_true (by kernel_rfl)) (by unfold Func.isWrapper; first | (rw [if_pos (by decide +kernel)]; kernel_rfl) | (rw [if_neg (by decide +kernel)]; exact ⟨rfl, rfl⟩))
    (fun os started H enc _ => lifted os started H enc)
end Go.Proofs.Ythfpndelfbeknaa.chordHalves
namespace Go.Proofs.Ythfpndelfbeknaa
/-- The row, under a short name, for the claim. -/
theorem chordHalves_holds : Rows.ChordHalvesSaid := chordHalves.over
#print axioms chordHalves_holds
end Go.Proofs.Ythfpndelfbeknaa
