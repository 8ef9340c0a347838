/- Chapter 03: the document's sums; the law of sums. -/
import Derived.Test.YtdlolhkeckjipaaDoorN03i
set_option linter.unusedVariables false
set_option linter.unusedSimpArgs false
set_option maxRecDepth 100000
set_option maxHeartbeats 8000000
namespace Go.Proofs.YtdlolhkeckjipaaDoor
open Go Go.Den
theorem c21 {a b c d : Int} (ha : I64 a) (hb : I64 b) (hc : I64 c) (hd : I64 d) (H : Heap) : call env 21 [.agg [.int .i64 a, .int .i64 b], .agg [.int .i64 c, .int .i64 d]] H = some (outR (addR a b c d), H) := by
  have key : Comes (call env 21 [.agg [.int .i64 a, .int .i64 b], .agg [.int .i64 c, .int .i64 d]] H) fun v H1 => v = outR (addR a b c d) ∧ H1 = H := by
    have e1 := fun H => c35 ha hb hc hd H
    have n3 := nd_i64 ha
    have n4 := nd_i64 hb
    have n5 := nd_i64 hc
    have n6 := nd_i64 hd
    refine comes_call (fn := s21) rfl rfl (by simp [s21]) ?_
    unfold addR outR
    by_cases hk : OkR a b ∧ OkR c d
    rotate_left
    · rw [decide_eq_false hk] at e1
      rw [if_neg hk]
      simp only [s21, R1, R2, R3, R4, R5, R6, R7, R8, AV.flat, fillIn_nil, fillIn_cons, splice, AV.cells, AV.one, eqsOf, idx, SO.calls, List.reduceReplicate, Nat.reduceBEq, Nat.reduceLT, Nat.reduceAdd, Nat.reduceMul, Nat.reduceSub, Nat.reduceLeDiff, Nat.reduceEqDiff, ↓reduceIte, Int.reduceLT, Int.reduceEq, Int.reduceBNe, Int.reduceBEq, aeq, Int.reduceLE, Int.reduceNeg, Int.reduceMul, Int.reduceAdd, Int.reduceSub, Int.reduceToNat, Int.reducePow, e1, leftE_ret, got_some]
      rw [tidy_still rfl]
      exact ⟨rfl, rfl⟩
    rw [decide_eq_true hk] at e1
    rw [if_pos hk]
    have t1 := fun H => c37 ha hd H
    have m1 := nd_mul a d
    have t2 := fun H => c37 hc hb H
    have m2 := nd_mul c b
    have t3 := fun H => c37 hb hd H
    have m3 := nd_mul b d
    simp only [s21, R1, R2, R3, R4, R5, R6, R7, R8, AV.flat, fillIn_nil, fillIn_cons, splice, AV.cells, AV.one, eqsOf, idx, SO.calls, List.reduceReplicate, Nat.reduceBEq, Nat.reduceLT, Nat.reduceAdd, Nat.reduceMul, Nat.reduceSub, Nat.reduceLeDiff, Nat.reduceEqDiff, ↓reduceIte, Int.reduceLT, Int.reduceEq, Int.reduceBNe, Int.reduceBEq, aeq, Int.reduceLE, Int.reduceNeg, Int.reduceMul, Int.reduceAdd, Int.reduceSub, Int.reduceToNat, Int.reducePow, e1]
    refine gets_sA (t1 _) ?_ ?_ ?_
    · rintro r _ ⟨X, rfl, q⟩
      exact ⟨X, rfl⟩
    · rintro r X ⟨_, _, q⟩
      simp only [R1, R2, R3, R4, R5, R6, R7, R8, AV.flat, fillIn_nil, fillIn_cons, splice, AV.cells, AV.one, eqsOf, idx, SO.calls, List.reduceReplicate, Nat.reduceBEq, Nat.reduceLT, Nat.reduceAdd, Nat.reduceMul, Nat.reduceSub, Nat.reduceLeDiff, Nat.reduceEqDiff, ↓reduceIte, Int.reduceLT, Int.reduceEq, Int.reduceBNe, Int.reduceBEq, aeq, Int.reduceLE, Int.reduceNeg, Int.reduceMul, Int.reduceAdd, Int.reduceSub, Int.reduceToNat, Int.reducePow]
    rintro r X M F ⟨X', hX, q1⟩ hM f1 f4 f3 f2
    simp only [List.append_assoc, List.cons_append, List.nil_append, List.length_append, List.length_cons, List.length_nil, Nat.add_zero, Nat.zero_add, Nat.reduceAdd] at q1 f2 hM
    simp only [R1, R2, R3, R4, R5, R6, R7, R8, AV.flat, fillIn_nil, fillIn_cons, splice, AV.cells, AV.one, eqsOf, idx, SO.calls, List.reduceReplicate, Nat.reduceBEq, Nat.reduceLT, Nat.reduceAdd, Nat.reduceMul, Nat.reduceSub, Nat.reduceLeDiff, Nat.reduceEqDiff, ↓reduceIte, Int.reduceLT, Int.reduceEq, Int.reduceBNe, Int.reduceBEq, aeq, Int.reduceLE, Int.reduceNeg, Int.reduceMul, Int.reduceAdd, Int.reduceSub, Int.reduceToNat, Int.reducePow, f1, f2, f3, f4, shun_int, shun_old hM (show H.length < _ by omega), shun_old hM (show H.length + 1 < _ by omega)]
    refine gets_mA (H ++ [RX (.int .i64 a) (.int .i64 b), RX (.int .i64 c) (.int .i64 d), RX (.int .i64 0) (.int .i64 0)]) X (by simp) (hM.cast (by simp) (by simp; try omega)) (t2 _) ?_ ?_ ?_
    · rintro r2 _ ⟨Y, rfl, q⟩
      exact ⟨Y, rfl⟩
    · rintro r2 Y ⟨_, _, q⟩
      simp only [R1, R2, R3, R4, R5, R6, R7, R8, AV.flat, fillIn_nil, fillIn_cons, splice, AV.cells, AV.one, eqsOf, idx, SO.calls, List.reduceReplicate, Nat.reduceBEq, Nat.reduceLT, Nat.reduceAdd, Nat.reduceMul, Nat.reduceSub, Nat.reduceLeDiff, Nat.reduceEqDiff, ↓reduceIte, Int.reduceLT, Int.reduceEq, Int.reduceBNe, Int.reduceBEq, aeq, Int.reduceLE, Int.reduceNeg, Int.reduceMul, Int.reduceAdd, Int.reduceSub, Int.reduceToNat, Int.reducePow]
    clear f1 f2 f3 f4 hM
    rintro r2 Y M2 F2 ⟨X', hX2, q2⟩ hM f1 f4 f3 f2
    have q1' := q1.kept (.more _ Y)
    have p := c40 q1' q2 (by omega) (by omega)
    simp only [List.append_assoc, List.cons_append, List.nil_append, List.length_append, List.length_cons, List.length_nil, Nat.add_zero, Nat.zero_add, Nat.reduceAdd] at p f1 f2 f3 f4 hM
    simp only [R1, R2, R3, R4, R5, R6, R7, R8, AV.flat, fillIn_nil, fillIn_cons, splice, AV.cells, AV.one, eqsOf, idx, SO.calls, List.reduceReplicate, Nat.reduceBEq, Nat.reduceLT, Nat.reduceAdd, Nat.reduceMul, Nat.reduceSub, Nat.reduceLeDiff, Nat.reduceEqDiff, ↓reduceIte, Int.reduceLT, Int.reduceEq, Int.reduceBNe, Int.reduceBEq, aeq, Int.reduceLE, Int.reduceNeg, Int.reduceMul, Int.reduceAdd, Int.reduceSub, Int.reduceToNat, Int.reducePow, f1, f2, f3, f4, shun_int, veil_un, shun_un]
    refine gets_mA (H ++ [RX (.int .i64 a) (.int .i64 b), RX (.int .i64 c) (.int .i64 d), RX (.int .i64 0) (.int .i64 0)]) (X ++ Y) (by simp) (hM.cast (by simp) (by simp; try omega)) p ?_ ?_ ?_
    · rintro r2 _ ⟨Y, rfl, q⟩
      exact ⟨Y, rfl⟩
    · rintro r2 Y ⟨_, _, q⟩
      simp only [R1, R2, R3, R4, R5, R6, R7, R8, AV.flat, fillIn_nil, fillIn_cons, splice, AV.cells, AV.one, eqsOf, idx, SO.calls, List.reduceReplicate, Nat.reduceBEq, Nat.reduceLT, Nat.reduceAdd, Nat.reduceMul, Nat.reduceSub, Nat.reduceLeDiff, Nat.reduceEqDiff, ↓reduceIte, Int.reduceLT, Int.reduceEq, Int.reduceBNe, Int.reduceBEq, aeq, Int.reduceLE, Int.reduceNeg, Int.reduceMul, Int.reduceAdd, Int.reduceSub, Int.reduceToNat, Int.reducePow]
    clear f1 f2 f3 f4 hM
    rintro r3 Z M3 F3 ⟨X', hX2, q3⟩ hM f1 f4 f3 f2
    simp only [List.append_assoc, List.cons_append, List.nil_append, List.length_append, List.length_cons, List.length_nil, Nat.add_zero, Nat.zero_add, Nat.reduceAdd] at f1 f2 f3 f4 hM
    simp only [R1, R2, R3, R4, R5, R6, R7, R8, AV.flat, fillIn_nil, fillIn_cons, splice, AV.cells, AV.one, eqsOf, idx, SO.calls, List.reduceReplicate, Nat.reduceBEq, Nat.reduceLT, Nat.reduceAdd, Nat.reduceMul, Nat.reduceSub, Nat.reduceLeDiff, Nat.reduceEqDiff, ↓reduceIte, Int.reduceLT, Int.reduceEq, Int.reduceBNe, Int.reduceBEq, aeq, Int.reduceLE, Int.reduceNeg, Int.reduceMul, Int.reduceAdd, Int.reduceSub, Int.reduceToNat, Int.reducePow, f1, f2, f3, f4, shun_int, shun_old hM (show H.length < _ by omega), shun_old hM (show H.length + 1 < _ by omega), veil_un, shun_un]
    refine gets_comesAll (t3 _) ?_ ?_
    · rintro r2 _ ⟨Y, rfl, q⟩
      simp
    rintro r4 _ ⟨W, rfl, q4⟩
    have ns := nd_add (a * d) (c * b)
    have e5 := c42 (q3.kept (.more _ W)) (by simpa only [List.append_assoc, List.cons_append, List.nil_append] using q4) (Int.ne_of_gt (Int.mul_pos hk.1.1 hk.2.1)) (by omega) (by omega)
    simp only [List.append_assoc, List.cons_append, List.nil_append] at e5
    unfold outR at e5
    generalize lowR (a * d + c * b) (b * d) = z at *
    simp only [R1, R2, R3, R4, R5, R6, R7, R8, AV.flat, fillIn_nil, fillIn_cons, splice, AV.cells, AV.one, eqsOf, idx, SO.calls, List.reduceReplicate, Nat.reduceBEq, Nat.reduceLT, Nat.reduceAdd, Nat.reduceMul, Nat.reduceSub, Nat.reduceLeDiff, Nat.reduceEqDiff, ↓reduceIte, Int.reduceLT, Int.reduceEq, Int.reduceBNe, Int.reduceBEq, aeq, Int.reduceLE, Int.reduceNeg, Int.reduceMul, Int.reduceAdd, Int.reduceSub, Int.reduceToNat, Int.reducePow, e5, leftE_ret, got_some, veil_un, shun_un]
    rw [tidy_still rfl]
    exact ⟨rfl, rfl⟩
  obtain ⟨v, H1, e, rfl, rfl⟩ := key
  exact e
theorem c22 {a b c d : Int} (ha : I64 a) (hb : I64 b) (hc : I64 c) (hd : I64 d) (H : Heap) : call env 22 [.agg [.int .i64 a, .int .i64 b], .agg [.int .i64 c, .int .i64 d]] H = some (outR (subR a b c d), H) := by
  have key : Comes (call env 22 [.agg [.int .i64 a, .int .i64 b], .agg [.int .i64 c, .int .i64 d]] H) fun v H1 => v = outR (subR a b c d) ∧ H1 = H := by
    have e1 := fun H => c35 ha hb hc hd H
    have n3 := nd_i64 ha
    have n4 := nd_i64 hb
    have n5 := nd_i64 hc
    have n6 := nd_i64 hd
    refine comes_call (fn := s22) rfl rfl (by simp [s22]) ?_
    unfold subR outR
    by_cases hk : OkR a b ∧ OkR c d
    rotate_left
    · rw [decide_eq_false hk] at e1
      rw [if_neg hk]
      simp only [s22, R1, R2, R3, R4, R5, R6, R7, R8, AV.flat, fillIn_nil, fillIn_cons, splice, AV.cells, AV.one, eqsOf, idx, SO.calls, List.reduceReplicate, Nat.reduceBEq, Nat.reduceLT, Nat.reduceAdd, Nat.reduceMul, Nat.reduceSub, Nat.reduceLeDiff, Nat.reduceEqDiff, ↓reduceIte, Int.reduceLT, Int.reduceEq, Int.reduceBNe, Int.reduceBEq, aeq, Int.reduceLE, Int.reduceNeg, Int.reduceMul, Int.reduceAdd, Int.reduceSub, Int.reduceToNat, Int.reducePow, e1, leftE_ret, got_some]
      rw [tidy_still rfl]
      exact ⟨rfl, rfl⟩
    rw [decide_eq_true hk] at e1
    rw [if_pos hk]
    have t1 := fun H => c37 ha hd H
    have m1 := nd_mul a d
    have t2 := fun H => c37 hc hb H
    have m2 := nd_mul c b
    have t3 := fun H => c37 hb hd H
    have m3 := nd_mul b d
    simp only [s22, R1, R2, R3, R4, R5, R6, R7, R8, AV.flat, fillIn_nil, fillIn_cons, splice, AV.cells, AV.one, eqsOf, idx, SO.calls, List.reduceReplicate, Nat.reduceBEq, Nat.reduceLT, Nat.reduceAdd, Nat.reduceMul, Nat.reduceSub, Nat.reduceLeDiff, Nat.reduceEqDiff, ↓reduceIte, Int.reduceLT, Int.reduceEq, Int.reduceBNe, Int.reduceBEq, aeq, Int.reduceLE, Int.reduceNeg, Int.reduceMul, Int.reduceAdd, Int.reduceSub, Int.reduceToNat, Int.reducePow, e1]
    refine gets_sA (t1 _) ?_ ?_ ?_
    · rintro r _ ⟨X, rfl, q⟩
      exact ⟨X, rfl⟩
    · rintro r X ⟨_, _, q⟩
      simp only [R1, R2, R3, R4, R5, R6, R7, R8, AV.flat, fillIn_nil, fillIn_cons, splice, AV.cells, AV.one, eqsOf, idx, SO.calls, List.reduceReplicate, Nat.reduceBEq, Nat.reduceLT, Nat.reduceAdd, Nat.reduceMul, Nat.reduceSub, Nat.reduceLeDiff, Nat.reduceEqDiff, ↓reduceIte, Int.reduceLT, Int.reduceEq, Int.reduceBNe, Int.reduceBEq, aeq, Int.reduceLE, Int.reduceNeg, Int.reduceMul, Int.reduceAdd, Int.reduceSub, Int.reduceToNat, Int.reducePow]
    rintro r X M F ⟨X', hX, q1⟩ hM f1 f4 f3 f2
    simp only [List.append_assoc, List.cons_append, List.nil_append, List.length_append, List.length_cons, List.length_nil, Nat.add_zero, Nat.zero_add, Nat.reduceAdd] at q1 f2 hM
    simp only [R1, R2, R3, R4, R5, R6, R7, R8, AV.flat, fillIn_nil, fillIn_cons, splice, AV.cells, AV.one, eqsOf, idx, SO.calls, List.reduceReplicate, Nat.reduceBEq, Nat.reduceLT, Nat.reduceAdd, Nat.reduceMul, Nat.reduceSub, Nat.reduceLeDiff, Nat.reduceEqDiff, ↓reduceIte, Int.reduceLT, Int.reduceEq, Int.reduceBNe, Int.reduceBEq, aeq, Int.reduceLE, Int.reduceNeg, Int.reduceMul, Int.reduceAdd, Int.reduceSub, Int.reduceToNat, Int.reducePow, f1, f2, f3, f4, shun_int, shun_old hM (show H.length < _ by omega), shun_old hM (show H.length + 1 < _ by omega)]
    refine gets_mA (H ++ [RX (.int .i64 a) (.int .i64 b), RX (.int .i64 c) (.int .i64 d), RX (.int .i64 0) (.int .i64 0)]) X (by simp) (hM.cast (by simp) (by simp; try omega)) (t2 _) ?_ ?_ ?_
    · rintro r2 _ ⟨Y, rfl, q⟩
      exact ⟨Y, rfl⟩
    · rintro r2 Y ⟨_, _, q⟩
      simp only [R1, R2, R3, R4, R5, R6, R7, R8, AV.flat, fillIn_nil, fillIn_cons, splice, AV.cells, AV.one, eqsOf, idx, SO.calls, List.reduceReplicate, Nat.reduceBEq, Nat.reduceLT, Nat.reduceAdd, Nat.reduceMul, Nat.reduceSub, Nat.reduceLeDiff, Nat.reduceEqDiff, ↓reduceIte, Int.reduceLT, Int.reduceEq, Int.reduceBNe, Int.reduceBEq, aeq, Int.reduceLE, Int.reduceNeg, Int.reduceMul, Int.reduceAdd, Int.reduceSub, Int.reduceToNat, Int.reducePow]
    clear f1 f2 f3 f4 hM
    rintro r2 Y M2 F2 ⟨X', hX2, q2⟩ hM f1 f4 f3 f2
    have q1' := q1.kept (.more _ Y)
    have p := c38 q1' q2 (by omega) (by omega)
    simp only [List.append_assoc, List.cons_append, List.nil_append, List.length_append, List.length_cons, List.length_nil, Nat.add_zero, Nat.zero_add, Nat.reduceAdd] at p f1 f2 f3 f4 hM
    simp only [R1, R2, R3, R4, R5, R6, R7, R8, AV.flat, fillIn_nil, fillIn_cons, splice, AV.cells, AV.one, eqsOf, idx, SO.calls, List.reduceReplicate, Nat.reduceBEq, Nat.reduceLT, Nat.reduceAdd, Nat.reduceMul, Nat.reduceSub, Nat.reduceLeDiff, Nat.reduceEqDiff, ↓reduceIte, Int.reduceLT, Int.reduceEq, Int.reduceBNe, Int.reduceBEq, aeq, Int.reduceLE, Int.reduceNeg, Int.reduceMul, Int.reduceAdd, Int.reduceSub, Int.reduceToNat, Int.reducePow, f1, f2, f3, f4, shun_int, veil_un, shun_un]
    refine gets_mA (H ++ [RX (.int .i64 a) (.int .i64 b), RX (.int .i64 c) (.int .i64 d), RX (.int .i64 0) (.int .i64 0)]) (X ++ Y) (by simp) (hM.cast (by simp) (by simp; try omega)) p ?_ ?_ ?_
    · rintro r2 _ ⟨Y, rfl, q⟩
      exact ⟨Y, rfl⟩
    · rintro r2 Y ⟨_, _, q⟩
      simp only [R1, R2, R3, R4, R5, R6, R7, R8, AV.flat, fillIn_nil, fillIn_cons, splice, AV.cells, AV.one, eqsOf, idx, SO.calls, List.reduceReplicate, Nat.reduceBEq, Nat.reduceLT, Nat.reduceAdd, Nat.reduceMul, Nat.reduceSub, Nat.reduceLeDiff, Nat.reduceEqDiff, ↓reduceIte, Int.reduceLT, Int.reduceEq, Int.reduceBNe, Int.reduceBEq, aeq, Int.reduceLE, Int.reduceNeg, Int.reduceMul, Int.reduceAdd, Int.reduceSub, Int.reduceToNat, Int.reducePow]
    clear f1 f2 f3 f4 hM
    rintro r3 Z M3 F3 ⟨X', hX2, q3⟩ hM f1 f4 f3 f2
    simp only [List.append_assoc, List.cons_append, List.nil_append, List.length_append, List.length_cons, List.length_nil, Nat.add_zero, Nat.zero_add, Nat.reduceAdd] at f1 f2 f3 f4 hM
    simp only [R1, R2, R3, R4, R5, R6, R7, R8, AV.flat, fillIn_nil, fillIn_cons, splice, AV.cells, AV.one, eqsOf, idx, SO.calls, List.reduceReplicate, Nat.reduceBEq, Nat.reduceLT, Nat.reduceAdd, Nat.reduceMul, Nat.reduceSub, Nat.reduceLeDiff, Nat.reduceEqDiff, ↓reduceIte, Int.reduceLT, Int.reduceEq, Int.reduceBNe, Int.reduceBEq, aeq, Int.reduceLE, Int.reduceNeg, Int.reduceMul, Int.reduceAdd, Int.reduceSub, Int.reduceToNat, Int.reducePow, f1, f2, f3, f4, shun_int, shun_old hM (show H.length < _ by omega), shun_old hM (show H.length + 1 < _ by omega), veil_un, shun_un]
    refine gets_comesAll (t3 _) ?_ ?_
    · rintro r2 _ ⟨Y, rfl, q⟩
      simp
    rintro r4 _ ⟨W, rfl, q4⟩
    have ns := nd_sub (a * d) (c * b)
    have e5 := c42 (q3.kept (.more _ W)) (by simpa only [List.append_assoc, List.cons_append, List.nil_append] using q4) (Int.ne_of_gt (Int.mul_pos hk.1.1 hk.2.1)) (by omega) (by omega)
    simp only [List.append_assoc, List.cons_append, List.nil_append] at e5
    unfold outR at e5
    generalize lowR (a * d - c * b) (b * d) = z at *
    simp only [R1, R2, R3, R4, R5, R6, R7, R8, AV.flat, fillIn_nil, fillIn_cons, splice, AV.cells, AV.one, eqsOf, idx, SO.calls, List.reduceReplicate, Nat.reduceBEq, Nat.reduceLT, Nat.reduceAdd, Nat.reduceMul, Nat.reduceSub, Nat.reduceLeDiff, Nat.reduceEqDiff, ↓reduceIte, Int.reduceLT, Int.reduceEq, Int.reduceBNe, Int.reduceBEq, aeq, Int.reduceLE, Int.reduceNeg, Int.reduceMul, Int.reduceAdd, Int.reduceSub, Int.reduceToNat, Int.reducePow, e5, leftE_ret, got_some, veil_un, shun_un]
    rw [tidy_still rfl]
    exact ⟨rfl, rfl⟩
  obtain ⟨v, H1, e, rfl, rfl⟩ := key
  exact e
theorem c23 {a b c d : Int} (ha : I64 a) (hb : I64 b) (hc : I64 c) (hd : I64 d) (H : Heap) : call env 23 [.agg [.int .i64 a, .int .i64 b], .agg [.int .i64 c, .int .i64 d]] H = some (outR (mulR a b c d), H) := by
  have key : Comes (call env 23 [.agg [.int .i64 a, .int .i64 b], .agg [.int .i64 c, .int .i64 d]] H) fun v H1 => v = outR (mulR a b c d) ∧ H1 = H := by
    have e1 := fun H => c35 ha hb hc hd H
    have n3 := nd_i64 ha
    have n4 := nd_i64 hb
    have n5 := nd_i64 hc
    have n6 := nd_i64 hd
    refine comes_call (fn := s23) rfl rfl (by simp [s23]) ?_
    unfold mulR outR
    by_cases hk : OkR a b ∧ OkR c d
    rotate_left
    · rw [decide_eq_false hk] at e1
      rw [if_neg hk]
      simp only [s23, R1, R2, R3, R4, R5, R6, R7, R8, AV.flat, fillIn_nil, fillIn_cons, splice, AV.cells, AV.one, eqsOf, idx, SO.calls, List.reduceReplicate, Nat.reduceBEq, Nat.reduceLT, Nat.reduceAdd, Nat.reduceMul, Nat.reduceSub, Nat.reduceLeDiff, Nat.reduceEqDiff, ↓reduceIte, Int.reduceLT, Int.reduceEq, Int.reduceBNe, Int.reduceBEq, aeq, Int.reduceLE, Int.reduceNeg, Int.reduceMul, Int.reduceAdd, Int.reduceSub, Int.reduceToNat, Int.reducePow, e1, leftE_ret, got_some]
      rw [tidy_still rfl]
      exact ⟨rfl, rfl⟩
    rw [decide_eq_true hk] at e1
    rw [if_pos hk]
    have t1 := fun H => c37 ha hc H
    have m1 := nd_mul a c
    have t2 := fun H => c37 hb hd H
    have m2 := nd_mul b d
    simp only [s23, R1, R2, R3, R4, R5, R6, R7, R8, AV.flat, fillIn_nil, fillIn_cons, splice, AV.cells, AV.one, eqsOf, idx, SO.calls, List.reduceReplicate, Nat.reduceBEq, Nat.reduceLT, Nat.reduceAdd, Nat.reduceMul, Nat.reduceSub, Nat.reduceLeDiff, Nat.reduceEqDiff, ↓reduceIte, Int.reduceLT, Int.reduceEq, Int.reduceBNe, Int.reduceBEq, aeq, Int.reduceLE, Int.reduceNeg, Int.reduceMul, Int.reduceAdd, Int.reduceSub, Int.reduceToNat, Int.reducePow, e1]
    refine gets_sA (t1 _) ?_ ?_ ?_
    · rintro r _ ⟨X, rfl, q⟩
      exact ⟨X, rfl⟩
    · rintro r X ⟨_, _, q⟩
      simp only [R1, R2, R3, R4, R5, R6, R7, R8, AV.flat, fillIn_nil, fillIn_cons, splice, AV.cells, AV.one, eqsOf, idx, SO.calls, List.reduceReplicate, Nat.reduceBEq, Nat.reduceLT, Nat.reduceAdd, Nat.reduceMul, Nat.reduceSub, Nat.reduceLeDiff, Nat.reduceEqDiff, ↓reduceIte, Int.reduceLT, Int.reduceEq, Int.reduceBNe, Int.reduceBEq, aeq, Int.reduceLE, Int.reduceNeg, Int.reduceMul, Int.reduceAdd, Int.reduceSub, Int.reduceToNat, Int.reducePow]
    rintro r X M F ⟨X', hX, q1⟩ hM f1 f4 f3 f2
    simp only [List.append_assoc, List.cons_append, List.nil_append, List.length_append, List.length_cons, List.length_nil, Nat.add_zero, Nat.zero_add, Nat.reduceAdd] at q1 f2 hM
    simp only [R1, R2, R3, R4, R5, R6, R7, R8, AV.flat, fillIn_nil, fillIn_cons, splice, AV.cells, AV.one, eqsOf, idx, SO.calls, List.reduceReplicate, Nat.reduceBEq, Nat.reduceLT, Nat.reduceAdd, Nat.reduceMul, Nat.reduceSub, Nat.reduceLeDiff, Nat.reduceEqDiff, ↓reduceIte, Int.reduceLT, Int.reduceEq, Int.reduceBNe, Int.reduceBEq, aeq, Int.reduceLE, Int.reduceNeg, Int.reduceMul, Int.reduceAdd, Int.reduceSub, Int.reduceToNat, Int.reducePow, f1, f2, f3, f4, shun_int, shun_old hM (show H.length < _ by omega), shun_old hM (show H.length + 1 < _ by omega)]
    refine gets_comesAll (t2 _) ?_ ?_
    · rintro r2 _ ⟨Y, rfl, q⟩
      simp
    rintro r4 _ ⟨W, rfl, q4⟩
    have e5 := c42 (q1.kept (.more _ W)) (by simpa only [List.append_assoc, List.cons_append, List.nil_append] using q4) (Int.ne_of_gt (Int.mul_pos hk.1.1 hk.2.1)) (by omega) (by omega)
    simp only [List.append_assoc, List.cons_append, List.nil_append] at e5
    unfold outR at e5
    generalize lowR (a * c) (b * d) = z at *
    simp only [R1, R2, R3, R4, R5, R6, R7, R8, AV.flat, fillIn_nil, fillIn_cons, splice, AV.cells, AV.one, eqsOf, idx, SO.calls, List.reduceReplicate, Nat.reduceBEq, Nat.reduceLT, Nat.reduceAdd, Nat.reduceMul, Nat.reduceSub, Nat.reduceLeDiff, Nat.reduceEqDiff, ↓reduceIte, Int.reduceLT, Int.reduceEq, Int.reduceBNe, Int.reduceBEq, aeq, Int.reduceLE, Int.reduceNeg, Int.reduceMul, Int.reduceAdd, Int.reduceSub, Int.reduceToNat, Int.reducePow, e5, leftE_ret, got_some, veil_un, shun_un]
    rw [tidy_still rfl]
    exact ⟨rfl, rfl⟩
  obtain ⟨v, H1, e, rfl, rfl⟩ := key
  exact e
theorem c24 {a b c d : Int} (ha : I64 a) (hb : I64 b) (hc : I64 c) (hd : I64 d) (H : Heap) : call env 24 [.agg [.int .i64 a, .int .i64 b], .agg [.int .i64 c, .int .i64 d]] H = some (outR (divR a b c d), H) := by
  have key : Comes (call env 24 [.agg [.int .i64 a, .int .i64 b], .agg [.int .i64 c, .int .i64 d]] H) fun v H1 => v = outR (divR a b c d) ∧ H1 = H := by
    have e1 := fun H => c35 ha hb hc hd H
    have n3 := nd_i64 ha
    have n4 := nd_i64 hb
    have n5 := nd_i64 hc
    have n6 := nd_i64 hd
    refine comes_call (fn := s24) rfl rfl (by simp [s24]) ?_
    unfold divR outR
    by_cases hk : OkR a b ∧ OkR c d
    rotate_left
    · rw [decide_eq_false hk] at e1
      rw [if_neg hk]
      simp only [s24, R1, R2, R3, R4, R5, R6, R7, R8, AV.flat, fillIn_nil, fillIn_cons, splice, AV.cells, AV.one, eqsOf, idx, SO.calls, List.reduceReplicate, Nat.reduceBEq, Nat.reduceLT, Nat.reduceAdd, Nat.reduceMul, Nat.reduceSub, Nat.reduceLeDiff, Nat.reduceEqDiff, ↓reduceIte, Int.reduceLT, Int.reduceEq, Int.reduceBNe, Int.reduceBEq, aeq, Int.reduceLE, Int.reduceNeg, Int.reduceMul, Int.reduceAdd, Int.reduceSub, Int.reduceToNat, Int.reducePow, e1, leftE_ret, got_some]
      rw [tidy_still rfl]
      exact ⟨rfl, rfl⟩
    rw [decide_eq_true hk] at e1
    rw [if_pos hk]
    by_cases hc0 : c = 0
    · subst hc0
      rw [if_pos rfl]
      simp only [s24, R1, R2, R3, R4, R5, R6, R7, R8, AV.flat, fillIn_nil, fillIn_cons, splice, AV.cells, AV.one, eqsOf, idx, SO.calls, List.reduceReplicate, Nat.reduceBEq, Nat.reduceLT, Nat.reduceAdd, Nat.reduceMul, Nat.reduceSub, Nat.reduceLeDiff, Nat.reduceEqDiff, ↓reduceIte, Int.reduceLT, Int.reduceEq, Int.reduceBNe, Int.reduceBEq, aeq, Int.reduceLE, Int.reduceNeg, Int.reduceMul, Int.reduceAdd, Int.reduceSub, Int.reduceToNat, Int.reducePow, e1, leftE_ret, got_some]
      rw [tidy_still rfl]
      exact ⟨rfl, rfl⟩
    rw [if_neg hc0]
    have c0 : (c == 0) = false := by rw [beq_eq_false_iff_ne]; exact hc0
    have t1 := fun H => c37 ha hd H
    have m1 := nd_mul a d
    have t2 := fun H => c37 hb hc H
    have m2 := nd_mul b c
    simp only [s24, R1, R2, R3, R4, R5, R6, R7, R8, AV.flat, fillIn_nil, fillIn_cons, splice, AV.cells, AV.one, eqsOf, idx, SO.calls, List.reduceReplicate, Nat.reduceBEq, Nat.reduceLT, Nat.reduceAdd, Nat.reduceMul, Nat.reduceSub, Nat.reduceLeDiff, Nat.reduceEqDiff, ↓reduceIte, Int.reduceLT, Int.reduceEq, Int.reduceBNe, Int.reduceBEq, aeq, Int.reduceLE, Int.reduceNeg, Int.reduceMul, Int.reduceAdd, Int.reduceSub, Int.reduceToNat, Int.reducePow, e1, c0]
    refine gets_sA (t1 _) ?_ ?_ ?_
    · rintro r _ ⟨X, rfl, q⟩
      exact ⟨X, rfl⟩
    · rintro r X ⟨_, _, q⟩
      simp only [R1, R2, R3, R4, R5, R6, R7, R8, AV.flat, fillIn_nil, fillIn_cons, splice, AV.cells, AV.one, eqsOf, idx, SO.calls, List.reduceReplicate, Nat.reduceBEq, Nat.reduceLT, Nat.reduceAdd, Nat.reduceMul, Nat.reduceSub, Nat.reduceLeDiff, Nat.reduceEqDiff, ↓reduceIte, Int.reduceLT, Int.reduceEq, Int.reduceBNe, Int.reduceBEq, aeq, Int.reduceLE, Int.reduceNeg, Int.reduceMul, Int.reduceAdd, Int.reduceSub, Int.reduceToNat, Int.reducePow]
    rintro r X M F ⟨X', hX, q1⟩ hM f1 f4 f3 f2
    simp only [List.append_assoc, List.cons_append, List.nil_append, List.length_append, List.length_cons, List.length_nil, Nat.add_zero, Nat.zero_add, Nat.reduceAdd] at q1 f2 hM
    simp only [R1, R2, R3, R4, R5, R6, R7, R8, AV.flat, fillIn_nil, fillIn_cons, splice, AV.cells, AV.one, eqsOf, idx, SO.calls, List.reduceReplicate, Nat.reduceBEq, Nat.reduceLT, Nat.reduceAdd, Nat.reduceMul, Nat.reduceSub, Nat.reduceLeDiff, Nat.reduceEqDiff, ↓reduceIte, Int.reduceLT, Int.reduceEq, Int.reduceBNe, Int.reduceBEq, aeq, Int.reduceLE, Int.reduceNeg, Int.reduceMul, Int.reduceAdd, Int.reduceSub, Int.reduceToNat, Int.reducePow, f1, f2, f3, f4, shun_int, shun_old hM (show H.length < _ by omega), shun_old hM (show H.length + 1 < _ by omega)]
    refine gets_comesAll (t2 _) ?_ ?_
    · rintro r2 _ ⟨Y, rfl, q⟩
      simp
    rintro r4 _ ⟨W, rfl, q4⟩
    have e5 := c42 (q1.kept (.more _ W)) (by simpa only [List.append_assoc, List.cons_append, List.nil_append] using q4) (Int.mul_ne_zero (Int.ne_of_gt hk.1.1) hc0) (by omega) (by omega)
    simp only [List.append_assoc, List.cons_append, List.nil_append] at e5
    unfold outR at e5
    generalize lowR (a * d) (b * c) = z at *
    simp only [R1, R2, R3, R4, R5, R6, R7, R8, AV.flat, fillIn_nil, fillIn_cons, splice, AV.cells, AV.one, eqsOf, idx, SO.calls, List.reduceReplicate, Nat.reduceBEq, Nat.reduceLT, Nat.reduceAdd, Nat.reduceMul, Nat.reduceSub, Nat.reduceLeDiff, Nat.reduceEqDiff, ↓reduceIte, Int.reduceLT, Int.reduceEq, Int.reduceBNe, Int.reduceBEq, aeq, Int.reduceLE, Int.reduceNeg, Int.reduceMul, Int.reduceAdd, Int.reduceSub, Int.reduceToNat, Int.reducePow, e5, leftE_ret, got_some, veil_un, shun_un]
    rw [tidy_still rfl]
    exact ⟨rfl, rfl⟩
  obtain ⟨v, H1, e, rfl, rfl⟩ := key
  exact e
theorem c5 {a b c d : Int} (ha : I64 a) (hb : I64 b) (hc : I64 c) (hd : I64 d) : ∃ H', call env 5 [.agg [.int .i64 a, .int .i64 b], .agg [.int .i64 c, .int .i64 d]] [] = some (.bool true, H') := by
  have e1 := fun H => c17 ha hb hc hd H
  have e2 := fun H => c18 ha hb hc hd H
  have e3 := fun H => c19 ha hb hc hd H
  have e4 := fun H => c20 ha hb hc hd H
  have f1 := fun H => c21 ha hb hc hd H
  have f2 := fun H => c22 ha hb hc hd H
  have f3 := fun H => c23 ha hb hc hd H
  have f4 := fun H => c24 ha hb hc hd H
  unfold outR at e1 e2 e3 e4 f1 f2 f3 f4
  generalize addR a b c d = r1 at *
  generalize subR a b c d = r2 at *
  generalize mulR a b c d = r3 at *
  generalize divR a b c d = r4 at *
  have q : ∀ x y : Int, aeqs [1, 1] [.int .i64 x, .int .i64 y] [.int .i64 x, .int .i64 y] = some true := fun x y => by simp [aeqs]
  refine ⟨[], ?_⟩
  refine call_ends (fn := s5) rfl rfl (by simp [s5]) ?_
  simp only [s5, R1, R2, R3, R4, R5, R6, R7, R8, AV.flat, fillIn_nil, fillIn_cons, splice, AV.cells, AV.one, eqsOf, idx, SO.calls, List.reduceReplicate, Nat.reduceBEq, Nat.reduceLT, Nat.reduceAdd, Nat.reduceMul, Nat.reduceSub, Nat.reduceLeDiff, Nat.reduceEqDiff, ↓reduceIte, Int.reduceLT, Int.reduceEq, Int.reduceBNe, Int.reduceBEq, aeq, Int.reduceLE, Int.reduceNeg, Int.reduceMul, Int.reduceAdd, Int.reduceSub, Int.reduceToNat, Int.reducePow, w6, e1, e2, e3, e4, f1, f2, f3, f4, q]
end Go.Proofs.YtdlolhkeckjipaaDoor
