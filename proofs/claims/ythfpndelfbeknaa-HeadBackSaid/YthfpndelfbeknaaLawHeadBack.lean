/- HeadBack: the row. For every input the law's function returns true and leaves its arguments as they were. -/
import Derived.Test.YthfpndelfbeknaaC10i
import Derived.Test.YthfpndelfbeknaaC10r
import Derived.Test.YthfpndelfbeknaaRows
import Derived.Test.YthfpndelfbeknaaDen38
set_option linter.unusedVariables false
set_option linter.unusedSimpArgs false
set_option maxRecDepth 100000
namespace Go.Proofs.Ythfpndelfbeknaa.headBack
open Go Go.Den
theorem inMachine (xs : List AV) (h : ArgsAre [.agg [.int .i64, .bool, .int .i64, .int .i64, .int .i64, .int .i64, .int .i64]] xs) : ∃ H', call env 11 xs [] = some (.bool true, H') := by
  obtain ⟨v, r, rfl, h1, rfl⟩ := h
  obtain ⟨hd, rfl⟩ := head_arg h1
  exact ⟨_, c11 hd⟩
theorem laidOut : laidOutB Try.prog = true := by kernel_rfl
theorem own : ownKnob Try.prog.godebug = none := by kernel_rfl
theorem lifted (os : Os) (started : os.Started) (H : Type) (enc : TypeId × Value → H) :
    ReturnsInHanded {} Try.checked os 11 .any (Rows.headBackSpec.pre6 enc Try.prog Try.f11 Rows.headBackRow.domain false) (Rows.headBackSpec.post enc Try.prog Try.f11 false true false false) :=
  law_of (C := Try.checked) (e := env) (sf := s11) (tb := 4) [.agg [.int .i64, .bool, .int .i64, .int .i64, .int .i64, .int .i64, .int .i64]] own started (by kernel_rfl) Try.func11
    (ChangeSpec.witness6 (enc := enc) (C := Try.checked) false ⟨#[], #[.agg #[.int .i64 0, .bool false, .int .i64 0, .int .i64 0, .int .i64 0, .int .i64 0, .int .i64 0]], []⟩ 8 (by kernel_rfl) (by kernel_rfl) (by kernel_rfl) (by kernel_rfl))
    rfl (fun ds hd => by match ds, hd with | [a], _ => rfl) (fitsArgs_ok (by kernel_rfl)) (by kernel_rfl) laidOut (by kernel_rfl) Try.underlying4 envOk rfl rfl sound inMachine
theorem over : Rows.headBackRow.holds Try.pinned (OpenSpec.ofChange Rows.headBackSpec) :=
  OpenClaim.holds_of_wide 11 Try.f11 rfl rfl rfl rfl rfl rfl rfl ⟨rfl, rfl, rfl, rfl, rfl⟩ rfl rfl rfl rfl rfl (by kernel_rfl) Try.func11 (by kernel_rfl)
    (of_decide_eq_true (by kernel_rfl)) (by unfold Func.isWrapper; first | (rw [if_pos (by decide +kernel)]; kernel_rfl) | (rw [if_neg (by decide +kernel)]; exact ⟨rfl, rfl⟩))
    (fun os started H enc _ => lifted os started H enc)
end Go.Proofs.Ythfpndelfbeknaa.headBack
namespace Go.Proofs.Ythfpndelfbeknaa
/-- The row, under a short name, for the claim. -/
theorem headBack_holds : Rows.HeadBackSaid := headBack.over
#print axioms headBack_holds
end Go.Proofs.Ythfpndelfbeknaa
