/- Chapters 03 and 32: which ratios may be. -/
import Derived.Test.YtdlolhkeckjipaaDoorC32k
import Derived.Test.YtdlolhkeckjipaaDoorGuardA
set_option linter.unusedVariables false
set_option linter.unusedSimpArgs false
set_option maxRecDepth 100000
set_option maxHeartbeats 8000000
namespace Go.Proofs.YtdlolhkeckjipaaDoor
open Go Go.Den
def I64 (n : Int) : Prop := -9223372036854775808 ≤ n ∧ n < 9223372036854775808
def OkR (n d : Int) : Prop := d > 0 ∧ Nat.gcd n.natAbs d.natAbs = 1
instance {n d : Int} : Decidable (OkR n d) := by unfold OkR; infer_instance
theorem wcs_small {x : Nat} (h : x < 18446744073709551616) : wcs x = [.int .u64 0, .int .u64 (x : Int)] := by
  unfold wcs
  rw [Nat.div_eq_of_lt h, Nat.mod_eq_of_lt h]
  rfl
theorem c9 {n d : Int} (hn : I64 n) (hd : I64 d) (H : Heap) : call env 9 [.agg [.int .i64 n, .int .i64 d]] H = some (.bool (decide (OkR n d)), H) := by
  refine call_ends (fn := s9) rfl rfl (by simp [s9]) ?_
  unfold I64 at hn hd
  have e1 := fun H => c33 hn H
  have e2 := fun H => c33 hd H
  have e3 := fun H => c32 (n.natAbs : Int) H
  have e4 := fun H => c32 (d.natAbs : Int) H
  have e5 := fun H => c31 (x := n.natAbs) (y := d.natAbs) (by omega) (by omega) H
  have q1 := wcs_eq (Nat.gcd n.natAbs d.natAbs) 1
  rw [show wcs n.natAbs = _ from wcs_small (by omega), show wcs d.natAbs = _ from wcs_small (by omega)] at e5
  rw [show wcs 1 = [.int .u64 0, .int .u64 1] from rfl] at q1
  by_cases h : d > 0
  · have hD : decide (OkR n d) = (Nat.gcd n.natAbs d.natAbs == 1) := by
      unfold OkR
      by_cases hg : Nat.gcd n.natAbs d.natAbs = 1 <;> simp [h, hg]
    rw [hD]
    generalize (Nat.gcd n.natAbs d.natAbs == 1) = b at *
    generalize Nat.gcd n.natAbs d.natAbs = g at *
    simp only [wcs] at q1 e5
    simp only [s9, R1, R2, R3, R4, R5, R6, R7, R8, AV.flat, fillIn_nil, fillIn_cons, splice, AV.cells, AV.one, eqsOf, idx, SO.calls, List.reduceReplicate, Nat.reduceBEq, Nat.reduceLT, Nat.reduceAdd, Nat.reduceMul, Nat.reduceSub, Nat.reduceLeDiff, Nat.reduceEqDiff, ↓reduceIte, Int.reduceLT, Int.reduceEq, Int.reduceBNe, Int.reduceBEq, aeq, Int.reduceLE, Int.reduceNeg, Int.reduceMul, Int.reduceAdd, Int.reduceSub, Int.reduceToNat, Int.reducePow, eq_true h, e1, e2, e3, e4, e5, q1, opsd_ga, guardA_t, guardA_f, veil_un, shun_un]
    rw [tidy_bool']
  · rw [show decide (OkR n d) = false by simp [OkR, h]]
    simp only [s9, R1, R2, R3, R4, R5, R6, R7, R8, AV.flat, fillIn_nil, fillIn_cons, splice, AV.cells, AV.one, eqsOf, idx, SO.calls, List.reduceReplicate, Nat.reduceBEq, Nat.reduceLT, Nat.reduceAdd, Nat.reduceMul, Nat.reduceSub, Nat.reduceLeDiff, Nat.reduceEqDiff, ↓reduceIte, Int.reduceLT, Int.reduceEq, Int.reduceBNe, Int.reduceBEq, aeq, Int.reduceLE, Int.reduceNeg, Int.reduceMul, Int.reduceAdd, Int.reduceSub, Int.reduceToNat, Int.reducePow, eq_false h, opsd_ga, guardA_t, guardA_f, veil_un, shun_un]
    rw [tidy_bool']
theorem c10 {n d : Int} (hn : I64 n) (hd : I64 d) (H : Heap) : call env 10 [.agg [.int .i64 n, .int .i64 d]] H = some (.bool (decide (OkR n d)), H) := by
  refine call_ends (fn := s10) rfl rfl (by simp [s10]) ?_
  unfold I64 at hn hd
  have e1 := fun H => c29 hn H
  have e2 := fun H => c29 hd H
  have e5 := fun H => c28 n.natAbs d.natAbs (by omega) (by omega) H
  by_cases h : d > 0
  · by_cases hg : Nat.gcd n.natAbs d.natAbs = 1
    · rw [show decide (OkR n d) = true by simp [OkR, h, hg]]
      have q1 : ((Nat.gcd n.natAbs d.natAbs : Int) == 1) = true := by rw [beq_iff_eq]; omega
      simp only [s10, R1, R2, R3, R4, R5, R6, R7, R8, AV.flat, fillIn_nil, fillIn_cons, splice, AV.cells, AV.one, eqsOf, idx, SO.calls, List.reduceReplicate, Nat.reduceBEq, Nat.reduceLT, Nat.reduceAdd, Nat.reduceMul, Nat.reduceSub, Nat.reduceLeDiff, Nat.reduceEqDiff, ↓reduceIte, Int.reduceLT, Int.reduceEq, Int.reduceBNe, Int.reduceBEq, aeq, Int.reduceLE, Int.reduceNeg, Int.reduceMul, Int.reduceAdd, Int.reduceSub, Int.reduceToNat, Int.reducePow, eq_true h, e1, e2, e5, q1, opsd_ga, guardA_t, guardA_f, veil_un, shun_un]
      rw [tidy_bool']
    · rw [show decide (OkR n d) = false by simp [OkR, h, hg]]
      have q1 : ((Nat.gcd n.natAbs d.natAbs : Int) == 1) = false := by rw [beq_eq_false_iff_ne]; omega
      simp only [s10, R1, R2, R3, R4, R5, R6, R7, R8, AV.flat, fillIn_nil, fillIn_cons, splice, AV.cells, AV.one, eqsOf, idx, SO.calls, List.reduceReplicate, Nat.reduceBEq, Nat.reduceLT, Nat.reduceAdd, Nat.reduceMul, Nat.reduceSub, Nat.reduceLeDiff, Nat.reduceEqDiff, ↓reduceIte, Int.reduceLT, Int.reduceEq, Int.reduceBNe, Int.reduceBEq, aeq, Int.reduceLE, Int.reduceNeg, Int.reduceMul, Int.reduceAdd, Int.reduceSub, Int.reduceToNat, Int.reducePow, eq_true h, e1, e2, e5, q1, opsd_ga, guardA_t, guardA_f, veil_un, shun_un]
      rw [tidy_bool']
  · rw [show decide (OkR n d) = false by simp [OkR, h]]
    simp only [s10, R1, R2, R3, R4, R5, R6, R7, R8, AV.flat, fillIn_nil, fillIn_cons, splice, AV.cells, AV.one, eqsOf, idx, SO.calls, List.reduceReplicate, Nat.reduceBEq, Nat.reduceLT, Nat.reduceAdd, Nat.reduceMul, Nat.reduceSub, Nat.reduceLeDiff, Nat.reduceEqDiff, ↓reduceIte, Int.reduceLT, Int.reduceEq, Int.reduceBNe, Int.reduceBEq, aeq, Int.reduceLE, Int.reduceNeg, Int.reduceMul, Int.reduceAdd, Int.reduceSub, Int.reduceToNat, Int.reducePow, eq_false h, opsd_ga, guardA_t, guardA_f, veil_un, shun_un]
    rw [tidy_bool']
end Go.Proofs.YtdlolhkeckjipaaDoor
