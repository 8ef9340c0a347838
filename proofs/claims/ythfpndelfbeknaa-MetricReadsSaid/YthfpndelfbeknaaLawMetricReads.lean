/- MetricReads: the row. For every input the law's function returns true and leaves its arguments as they were. -/
import Derived.Test.YthfpndelfbeknaaC10i
import Derived.Test.YthfpndelfbeknaaC11f
import Derived.Test.YthfpndelfbeknaaRows
import Derived.Test.YthfpndelfbeknaaDen33
set_option linter.unusedVariables false
set_option linter.unusedSimpArgs false
set_option maxRecDepth 100000
namespace Go.Proofs.Ythfpndelfbeknaa.metricReads
open Go Go.Den
theorem inMachine (xs : List AV) (h : ArgsAre [.agg [.int .i64, .bool, .int .i64, .int .i64, .int .i64, .int .i64, .int .i64], .str, .int .i64] xs) : ∃ H', call env 9 xs [] = some (.bool true, H') := by
  obtain ⟨v, r, rfl, h1, v2, r, rfl, h2, v3, r, rfl, h3, rfl⟩ := h
  obtain ⟨hd, rfl⟩ := head_arg h1
  obtain ⟨s, rfl⟩ := str_arg h2
  obtain ⟨k, rfl, _⟩ := int_arg h3
  exact ⟨_, c9 hd s k⟩
theorem laidOut : laidOutB Try.prog = true := by kernel_rfl
theorem own : ownKnob Try.prog.godebug = none := by kernel_rfl
theorem lifted (os : Os) (started : os.Started) (H : Type) (enc : TypeId × Value → H) :
    ReturnsInHanded {} Try.checked os 9 .any (Rows.metricReadsSpec.pre6 enc Try.prog Try.f9 Rows.metricReadsRow.domain false) (Rows.metricReadsSpec.post enc Try.prog Try.f9 false true false false) :=
  law_of (C := Try.checked) (e := env) (sf := s9) (tb := 4) [.agg [.int .i64, .bool, .int .i64, .int .i64, .int .i64, .int .i64, .int .i64], .str, .int .i64] own started (by kernel_rfl) Try.func9
    (ChangeSpec.witness6 (enc := enc) (C := Try.checked) false ⟨#[], #[.agg #[.int .i64 0, .bool false, .int .i64 0, .int .i64 0, .int .i64 0, .int .i64 0, .int .i64 0], .string ⟨#[]⟩, .int .i64 0], []⟩ 8 (by kernel_rfl) (by kernel_rfl) (by kernel_rfl) (by kernel_rfl))
    rfl (fun ds hd => by match ds, hd with | [a, b, c], _ => rfl) (fitsArgs_ok (by kernel_rfl)) (by kernel_rfl) laidOut (by kernel_rfl) Try.underlying4 envOk rfl rfl sound inMachine
theorem over : Rows.metricReadsRow.holds Try.pinned (OpenSpec.ofChange Rows.metricReadsSpec) :=
  OpenClaim.holds_of_wide 9 Try.f9 rfl rfl rfl rfl rfl rfl rfl ⟨rfl, rfl, rfl, rfl, rfl⟩ rfl rfl rfl rfl rfl (by kernel_rfl) Try.func9 (by kernel_rfl)
    (of_decide_eq_true (by kernel_rfl)) (by unfold Func.isWrapper; first | (rw [if_pos (by decide +kernel)]; kernel_rfl) | (rw [if_neg (by decide +kernel)]; exact ⟨rfl, rfl⟩))
    (fun os started H enc _ => lifted os started H enc)
end Go.Proofs.Ythfpndelfbeknaa.metricReads
namespace Go.Proofs.Ythfpndelfbeknaa
/-- The row, under a short name, for the claim. -/
theorem metricReads_holds : Rows.MetricReadsSaid := metricReads.over
#print axioms metricReads_holds
end Go.Proofs.Ythfpndelfbeknaa
