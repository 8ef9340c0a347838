/- KernShifts: the row. For every input the law's function returns true and leaves its arguments as they were. -/
import Derived.Test.YtppkggodpihfiaaK40f
import Derived.Test.YtppkggodpihfiaaRows
import Derived.Test.YtppkggodpihfiaaDen38
set_option linter.unusedVariables false
set_option linter.unusedSimpArgs false
set_option maxRecDepth 100000
namespace Go.Proofs.Ytppkggodpihfiaa.kernShifts
open Go Go.Den
theorem inMachine (xs : List AV) (h : ArgsAre [.slice (.agg [.int .i64, .int .i64, .int .i64]), .slice (.agg [.int .i64, .int .i64, .int .i64])] xs) : ∃ H', call env 5 xs [] = some (.bool true, H') := by
  obtain ⟨v, r, rfl, h1, w, r', rfl, h2, rfl⟩ := h
  obtain ⟨l, s1, n1⟩ := kerns_in [] h1
  obtain ⟨p, s2, n2⟩ := places_in [] h2
  exact c5 s1 s2 (by unfold maxLen at n1; omega) (by unfold maxLen at n2; omega)
theorem laidOut : laidOutB Try.prog = true := by kernel_rfl
theorem own : ownKnob Try.prog.godebug = none := by kernel_rfl
theorem lifted (os : Os) (started : os.Started) (H : Type) (enc : TypeId × Value → H) :
    ReturnsInHanded {} Try.checked os 5 .any (Rows.kernShiftsSpec.pre6 enc Try.prog Try.f5 Rows.kernShiftsRow.domain false) (Rows.kernShiftsSpec.post enc Try.prog Try.f5 false true false false) :=
  law_of (C := Try.checked) (e := env) (sf := s5) (tb := 4) [.slice (.agg [.int .i64, .int .i64, .int .i64]), .slice (.agg [.int .i64, .int .i64, .int .i64])] own started (by kernel_rfl) Try.func5
    (ChangeSpec.witness6 (enc := enc) (C := Try.checked) false ⟨#[], #[.slice none 0 0, .slice none 0 0], []⟩ 8 (by kernel_rfl) (by kernel_rfl) (by kernel_rfl) (by kernel_rfl))
    rfl (fun ds hd => by match ds, hd with | [a, b], _ => rfl) (fitsArgs_ok (by kernel_rfl)) (by kernel_rfl) laidOut (by kernel_rfl) Try.underlying4 envOk rfl rfl sound inMachine
theorem over : Rows.kernShiftsRow.holds Try.pinned (OpenSpec.ofChange Rows.kernShiftsSpec) :=
  OpenClaim.holds_of_wide 5 Try.f5 rfl rfl rfl rfl rfl rfl rfl ⟨rfl, rfl, rfl, rfl, rfl⟩ rfl rfl rfl rfl rfl (by kernel_rfl) Try.func5 (by kernel_rfl)
    (of_decide_eq_true (by kernel_rfl)) (by unfold Func.isWrapper; first | (rw [if_pos (by decide +kernel)]; kernel_rfl) | (rw [if_neg (by decide +kernel)]; exact ⟨rfl, rfl⟩))
    (fun os started H enc _ => lifted os started H enc)
end Go.Proofs.Ytppkggodpihfiaa.kernShifts
namespace Go.Proofs.Ytppkggodpihfiaa
/-- The row, under a short name, for the claim. -/
theorem kernShifts_holds : Rows.KernShiftsSaid := kernShifts.over
#print axioms kernShifts_holds
end Go.Proofs.Ytppkggodpihfiaa
