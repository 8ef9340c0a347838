/- ChordAsks: the row. For every input the law's function returns true and leaves its arguments as they were. -/
import Derived.Test.YthfpndelfbeknaaC39h
import Derived.Test.YthfpndelfbeknaaC39i
import Derived.Test.YthfpndelfbeknaaRows
import Derived.Test.YthfpndelfbeknaaDen33
set_option linter.unusedVariables false
set_option linter.unusedSimpArgs false
set_option maxRecDepth 100000
namespace Go.Proofs.Ythfpndelfbeknaa.chordAsks
open Go Go.Den
theorem inMachine (xs : List AV) (h : ArgsAre [.agg [.int .i64, .bool, .agg [.int .i64, .int .i64], .agg [.int .i64, .int .i64], .agg [.int .i64, .int .i64]], .int .i64, .int .i64] xs) : ∃ H', call env 3 xs [] = some (.bool true, H') := by
  obtain ⟨v, r, rfl, h1, v2, r, rfl, h2, v3, r, rfl, h3, rfl⟩ := h
  obtain ⟨e, rfl⟩ := edge_arg h1
  obtain ⟨k, rfl, _⟩ := int_arg h2
  obtain ⟨far, rfl, _⟩ := int_arg h3
  exact ⟨_, c3 e k far⟩
theorem laidOut : laidOutB Try.prog = true := by kernel_rfl
theorem own : ownKnob Try.prog.godebug = none := by kernel_rfl
theorem lifted (os : Os) (started : os.Started) (H : Type) (enc : TypeId × Value → H) :
    ReturnsInHanded {} Try.checked os 3 .any (Rows.chordAsksSpec.pre6 enc Try.prog Try.f3 Rows.chordAsksRow.domain false) (Rows.chordAsksSpec.post enc Try.prog Try.f3 false true false false) :=
  law_of (C := Try.checked) (e := env) (sf := s3) (tb := 4) [.agg [.int .i64, .bool, .agg [.int .i64, .int .i64], .agg [.int .i64, .int .i64], .agg [.int .i64, .int .i64]], .int .i64, .int .i64] own started (by kernel_rfl) Try.func3
    (ChangeSpec.witness6 (enc := enc) (C := Try.checked) false ⟨#[], #[.agg #[.int .i64 0, .bool false, .int .i64 0, .int .i64 0, .int .i64 0, .int .i64 0, .int .i64 0, .int .i64 0], .int .i64 0, .int .i64 0], []⟩ 8 (by kernel_rfl) (by kernel_rfl) (by kernel_rfl) (by kernel_rfl))
    rfl (fun ds hd => by match ds, hd with | [a, b, c], _ => rfl) (fitsArgs_ok (by kernel_rfl)) (by kernel_rfl) laidOut (by kernel_rfl) Try.underlying4 envOk rfl rfl sound inMachine
theorem over : Rows.chordAsksRow.holds Try.pinned (OpenSpec.ofChange Rows.chordAsksSpec) :=
  OpenClaim.holds_of_wide 3 Try.f3 rfl rfl rfl rfl rfl rfl rfl ⟨rfl, rfl, rfl, rfl, rfl⟩ rfl rfl rfl rfl rfl (by kernel_rfl) Try.func3 (by kernel_rfl)
    (of_decide_eq_true (by kernel_rfl)) (by unfold Func.isWrapper; first | (rw [if_pos (by decide +kernel)]; kernel_rfl) | (rw [if_neg (by decide +kernel)]; exact ⟨rfl, rfl⟩))
    (fun os started H enc _ => lifted os started H enc)
end Go.Proofs.Ythfpndelfbeknaa.chordAsks
namespace Go.Proofs.Ythfpndelfbeknaa
/-- The row, under a short name, for the claim. -/
theorem chordAsks_holds : Rows.ChordAsksSaid := chordAsks.over
#print axioms chordAsks_holds
end Go.Proofs.Ythfpndelfbeknaa
