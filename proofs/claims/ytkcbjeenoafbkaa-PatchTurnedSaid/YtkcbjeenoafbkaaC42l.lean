/- Chapter 42: PatchDiffs, in the machine. -/
import Derived.Test.YtkcbjeenoafbkaaC42k
set_option linter.unusedVariables false
set_option linter.unusedSimpArgs false
set_option maxRecDepth 100000
set_option maxHeartbeats 2000000
namespace Go.Proofs.Ytkcbjeenoafbkaa
open Go Go.Den
theorem mid_le (a b : List UInt8) : (midP a b).length ≤ b.length := by unfold midP; rw [List.length_take, List.length_drop]; omega
theorem c6 (old to : List UInt8) : ∃ H', call env 6 [.str (mkS old), .str (mkS to)] [] = some (.bool true, H') := by
  refine ⟨[], ?_⟩
  have e0 := w25
  by_cases ho : old.length ≤ 300
  case neg =>
    have b1 : ((old.length : Int) > 300) = True := eq_true (by omega)
    refine call_ends (fn := s6) rfl rfl (by simp [s6]) ?_
    simp only [s6, R1, R2, R3, R4, R5, R6, R7, R8, AV.flat, fillIn_nil, fillIn_cons, splice, AV.cells, AV.one, eqsOf, idx, SO.calls, List.reduceReplicate, Nat.reduceBEq, Nat.reduceLT, Nat.reduceAdd, Nat.reduceMul, Nat.reduceSub, Nat.reduceLeDiff, Nat.reduceEqDiff, ↓reduceIte, Int.reduceLT, Int.reduceEq, Int.reduceBNe, Int.reduceBEq, aeq, Int.reduceLE, Int.reduceNeg, Int.reduceMul, Int.reduceAdd, Int.reduceSub, Int.reduceToNat, Int.reducePow, e0, b1]
  have b1 : ((old.length : Int) > 300) = False := eq_false (by omega)
  by_cases hp : to.length ≤ 300
  case neg =>
    have b2 : ((to.length : Int) > 300) = True := eq_true (by omega)
    refine call_ends (fn := s6) rfl rfl (by simp [s6]) ?_
    simp only [s6, R1, R2, R3, R4, R5, R6, R7, R8, AV.flat, fillIn_nil, fillIn_cons, splice, AV.cells, AV.one, eqsOf, idx, SO.calls, List.reduceReplicate, Nat.reduceBEq, Nat.reduceLT, Nat.reduceAdd, Nat.reduceMul, Nat.reduceSub, Nat.reduceLeDiff, Nat.reduceEqDiff, ↓reduceIte, Int.reduceLT, Int.reduceEq, Int.reduceBNe, Int.reduceBEq, aeq, Int.reduceLE, Int.reduceNeg, Int.reduceMul, Int.reduceAdd, Int.reduceSub, Int.reduceToNat, Int.reducePow, e0, b1, b2]
  have b2 : ((to.length : Int) > 300) = False := eq_false (by omega)
  have hdl := diff_len old to
  have hml := mid_le old to
  have e1 := fun H => @is_diff old to (by omega) (by omega) H
  have e2 := fun H => @c27 old (DiffP old to) (by omega) (by omega) H
  have e3 := fun H => @c28 old (DiffP old to) (by omega) (by omega) H
  have e4 := fun H => @c29 (DiffP old to) (by omega) H
  have e5 := fun H => @c30 (DiffP old to) (by omega) H
  have e6 := fun H => @c31 old to (by omega) (by omega) H
  rw [diff_apply (by omega) (by omega)] at e2 e3
  rw [diff_count (by omega) (by omega)] at e4 e5
  generalize (StepsN (DiffP old to)).1 = c1 at *
  generalize DiffP old to = D at *
  generalize (midP old to).length = m at *
  have w1 : IntKind.i64.wrap (39 + (m : Int)) = 39 + m := wrap_i64 (by omega) (by omega)
  have b3 : ((D.length : Int) ≤ 39 + (m : Int)) = True := eq_true (by omega)
  simp only at e2 e3
  refine call_ends (fn := s6) rfl rfl (by simp [s6]) ?_
  simp only [s6, R1, R2, R3, R4, R5, R6, R7, R8, AV.flat, fillIn_nil, fillIn_cons, splice, AV.cells, AV.one, eqsOf, idx, SO.calls, List.reduceReplicate, Nat.reduceBEq, Nat.reduceLT, Nat.reduceAdd, Nat.reduceMul, Nat.reduceSub, Nat.reduceLeDiff, Nat.reduceEqDiff, ↓reduceIte, Int.reduceLT, Int.reduceEq, Int.reduceBNe, Int.reduceBEq, aeq, Int.reduceLE, Int.reduceNeg, Int.reduceMul, Int.reduceAdd, Int.reduceSub, Int.reduceToNat, Int.reducePow, e0, b1, b2, e1, e2, e3, e4, e5, e6, w1, b3]
end Go.Proofs.Ytkcbjeenoafbkaa
