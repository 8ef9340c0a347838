/- Chapter 03: ratio.Cmp; the law of order. -/
import Derived.Test.YtdlolhkeckjipaaDoorN03b
import Derived.Test.YtdlolhkeckjipaaDoorC03d
set_option linter.unusedVariables false
set_option linter.unusedSimpArgs false
set_option maxRecDepth 100000
set_option maxHeartbeats 8000000
namespace Go.Proofs.YtdlolhkeckjipaaDoor
open Go Go.Den
theorem prod_nat {a d : Int} (hd : 0 < d) : ((a.natAbs * d.natAbs : Nat) : Int) = if a < 0 then -(a * d) else a * d := by
  rw [Int.natCast_mul]
  have : (d.natAbs : Int) = d := by omega
  rw [this]
  split
  · rw [show (a.natAbs : Int) = -a by omega, Int.neg_mul]
  · rw [show (a.natAbs : Int) = a by omega]
theorem c11 {a b c d : Int} (ha : I64 a) (hb : I64 b) (hc : I64 c) (hd : I64 d) (H : Heap) : call env 11 [.agg [.int .i64 a, .int .i64 b], .agg [.int .i64 c, .int .i64 d]] H = some (.tup [.int .i64 (cmpR a b c d).1, .int .i64 (cmpR a b c d).2], H) := by
  have e1 := fun H => c9 ha hb H
  have e2 := fun H => c9 hc hd H
  refine call_ends (fn := s11) rfl rfl (by simp [s11]) ?_
  unfold cmpR
  by_cases h1 : OkR a b
  rotate_left
  · rw [decide_eq_false h1] at e1
    rw [if_neg (by simp [h1])]
    simp only [s11, R1, R2, R3, R4, R5, R6, R7, R8, AV.flat, fillIn_nil, fillIn_cons, splice, AV.cells, AV.one, eqsOf, idx, SO.calls, List.reduceReplicate, Nat.reduceBEq, Nat.reduceLT, Nat.reduceAdd, Nat.reduceMul, Nat.reduceSub, Nat.reduceLeDiff, Nat.reduceEqDiff, ↓reduceIte, Int.reduceLT, Int.reduceEq, Int.reduceBNe, Int.reduceBEq, aeq, Int.reduceLE, Int.reduceNeg, Int.reduceMul, Int.reduceAdd, Int.reduceSub, Int.reduceToNat, Int.reducePow, e1]
    rw [tidy_tup' rfl]
  by_cases h2 : OkR c d
  rotate_left
  · rw [decide_eq_true h1] at e1
    rw [decide_eq_false h2] at e2
    rw [if_neg (by simp [h2])]
    simp only [s11, R1, R2, R3, R4, R5, R6, R7, R8, AV.flat, fillIn_nil, fillIn_cons, splice, AV.cells, AV.one, eqsOf, idx, SO.calls, List.reduceReplicate, Nat.reduceBEq, Nat.reduceLT, Nat.reduceAdd, Nat.reduceMul, Nat.reduceSub, Nat.reduceLeDiff, Nat.reduceEqDiff, ↓reduceIte, Int.reduceLT, Int.reduceEq, Int.reduceBNe, Int.reduceBEq, aeq, Int.reduceLE, Int.reduceNeg, Int.reduceMul, Int.reduceAdd, Int.reduceSub, Int.reduceToNat, Int.reducePow, e1, e2]
    rw [tidy_tup' rfl]
  rw [decide_eq_true h1] at e1
  rw [decide_eq_true h2] at e2
  rw [if_pos ⟨h1, h2⟩]
  have e3 := fun H => c27 ha hd H
  have e4 := fun H => c27 hc hb H
  have e5 := fun x y H => c34 x y H
  have p1 := prod_nat (a := a) h2.1
  have p2 := prod_nat (a := c) h1.1
  have z1 := wcs_eq (a.natAbs * d.natAbs) 0
  have z2 := wcs_eq (c.natAbs * b.natAbs) 0
  have m1 : 0 ≤ a → 0 ≤ a * d := fun h => Int.mul_nonneg h (by have := h2.1; omega)
  have m2 : 0 ≤ c → 0 ≤ c * b := fun h => Int.mul_nonneg h (by have := h1.1; omega)
  have m3 : a < 0 → a * d < 0 := fun h => Int.mul_neg_of_neg_of_pos h h2.1
  have m4 : c < 0 → c * b < 0 := fun h => Int.mul_neg_of_neg_of_pos h h1.1
  generalize a.natAbs * d.natAbs = x at *
  generalize c.natAbs * b.natAbs = y at *
  generalize a * d = X at *
  generalize c * b = Y at *
  rw [wcs_zero] at z1 z2
  simp only [wcs] at e3 e4 e5 z1 z2
  by_cases h0 : x = 0 ∧ y = 0
  · have q1 : (x == 0) = true := by rw [beq_iff_eq]; exact h0.1
    have q2 : (y == 0) = true := by rw [beq_iff_eq]; exact h0.2
    rw [q1] at z1
    rw [q2] at z2
    have : X - Y = 0 := by split at p1 <;> split at p2 <;> omega
    rw [this, sgn_zero]
    simp only [s11, R1, R2, R3, R4, R5, R6, R7, R8, AV.flat, fillIn_nil, fillIn_cons, splice, AV.cells, AV.one, eqsOf, idx, SO.calls, List.reduceReplicate, Nat.reduceBEq, Nat.reduceLT, Nat.reduceAdd, Nat.reduceMul, Nat.reduceSub, Nat.reduceLeDiff, Nat.reduceEqDiff, ↓reduceIte, Int.reduceLT, Int.reduceEq, Int.reduceBNe, Int.reduceBEq, aeq, Int.reduceLE, Int.reduceNeg, Int.reduceMul, Int.reduceAdd, Int.reduceSub, Int.reduceToNat, Int.reducePow, e1, e2, e3, e4, z1, z2, veil_un, shun_un]
    rw [tidy_tup' rfl]
  have hz : (x == 0) = false ∨ ((x == 0) = true ∧ (y == 0) = false) := by
    by_cases hx : x = 0
    · exact .inr ⟨by rw [beq_iff_eq]; exact hx, by rw [beq_eq_false_iff_ne]; omega⟩
    · exact .inl (by rw [beq_eq_false_iff_ne]; omega)
  by_cases ha0 : a < 0
  · rw [if_pos ha0] at p1
    have n1 := m3 ha0
    have a1 : (a ≥ 0) = False := eq_false (by omega)
    by_cases hc0 : c < 0
    · rw [if_pos hc0] at p2
      have c1 : (c ≥ 0) = False := eq_false (by omega)
      have hs : cmpI (y : Int) (x : Int) = sgn (X - Y) := by rw [cmp_sgn, p1, p2, show -Y - -X = X - Y by omega]
      have e5' := e5 y x
      rw [hs] at e5'
      rcases hz with q1 | ⟨q1, q2⟩
      · rw [q1] at z1
        simp only [s11, R1, R2, R3, R4, R5, R6, R7, R8, AV.flat, fillIn_nil, fillIn_cons, splice, AV.cells, AV.one, eqsOf, idx, SO.calls, List.reduceReplicate, Nat.reduceBEq, Nat.reduceLT, Nat.reduceAdd, Nat.reduceMul, Nat.reduceSub, Nat.reduceLeDiff, Nat.reduceEqDiff, ↓reduceIte, Int.reduceLT, Int.reduceEq, Int.reduceBNe, Int.reduceBEq, aeq, Int.reduceLE, Int.reduceNeg, Int.reduceMul, Int.reduceAdd, Int.reduceSub, Int.reduceToNat, Int.reducePow, e1, e2, e3, e4, e5', z1, z2, eq_true ha0, eq_true hc0, a1, c1, veil_un, shun_un]
        rw [tidy_tup' rfl]
      · rw [q1] at z1
        rw [q2] at z2
        simp only [s11, R1, R2, R3, R4, R5, R6, R7, R8, AV.flat, fillIn_nil, fillIn_cons, splice, AV.cells, AV.one, eqsOf, idx, SO.calls, List.reduceReplicate, Nat.reduceBEq, Nat.reduceLT, Nat.reduceAdd, Nat.reduceMul, Nat.reduceSub, Nat.reduceLeDiff, Nat.reduceEqDiff, ↓reduceIte, Int.reduceLT, Int.reduceEq, Int.reduceBNe, Int.reduceBEq, aeq, Int.reduceLE, Int.reduceNeg, Int.reduceMul, Int.reduceAdd, Int.reduceSub, Int.reduceToNat, Int.reducePow, e1, e2, e3, e4, e5', z1, z2, eq_true ha0, eq_true hc0, a1, c1, veil_un, shun_un]
        rw [tidy_tup' rfl]
    · have n2 := m2 (by omega)
      have c1 : (c ≥ 0) = True := eq_true (by omega)
      rw [sgn_neg (by omega)]
      rcases hz with q1 | ⟨q1, q2⟩
      · rw [q1] at z1
        simp only [s11, R1, R2, R3, R4, R5, R6, R7, R8, AV.flat, fillIn_nil, fillIn_cons, splice, AV.cells, AV.one, eqsOf, idx, SO.calls, List.reduceReplicate, Nat.reduceBEq, Nat.reduceLT, Nat.reduceAdd, Nat.reduceMul, Nat.reduceSub, Nat.reduceLeDiff, Nat.reduceEqDiff, ↓reduceIte, Int.reduceLT, Int.reduceEq, Int.reduceBNe, Int.reduceBEq, aeq, Int.reduceLE, Int.reduceNeg, Int.reduceMul, Int.reduceAdd, Int.reduceSub, Int.reduceToNat, Int.reducePow, e1, e2, e3, e4, z1, z2, eq_true ha0, eq_false hc0, a1, c1, veil_un, shun_un]
        rw [tidy_tup' rfl]
      · rw [q1] at z1
        rw [q2] at z2
        simp only [s11, R1, R2, R3, R4, R5, R6, R7, R8, AV.flat, fillIn_nil, fillIn_cons, splice, AV.cells, AV.one, eqsOf, idx, SO.calls, List.reduceReplicate, Nat.reduceBEq, Nat.reduceLT, Nat.reduceAdd, Nat.reduceMul, Nat.reduceSub, Nat.reduceLeDiff, Nat.reduceEqDiff, ↓reduceIte, Int.reduceLT, Int.reduceEq, Int.reduceBNe, Int.reduceBEq, aeq, Int.reduceLE, Int.reduceNeg, Int.reduceMul, Int.reduceAdd, Int.reduceSub, Int.reduceToNat, Int.reducePow, e1, e2, e3, e4, z1, z2, eq_true ha0, eq_false hc0, a1, c1, veil_un, shun_un]
        rw [tidy_tup' rfl]
  · rw [if_neg ha0] at p1
    have n1 := m1 (by omega)
    have a1 : (a ≥ 0) = True := eq_true (by omega)
    by_cases hc0 : c < 0
    · have n2 := m4 hc0
      have c1 : (c ≥ 0) = False := eq_false (by omega)
      rw [sgn_pos (by omega)]
      rcases hz with q1 | ⟨q1, q2⟩
      · rw [q1] at z1
        simp only [s11, R1, R2, R3, R4, R5, R6, R7, R8, AV.flat, fillIn_nil, fillIn_cons, splice, AV.cells, AV.one, eqsOf, idx, SO.calls, List.reduceReplicate, Nat.reduceBEq, Nat.reduceLT, Nat.reduceAdd, Nat.reduceMul, Nat.reduceSub, Nat.reduceLeDiff, Nat.reduceEqDiff, ↓reduceIte, Int.reduceLT, Int.reduceEq, Int.reduceBNe, Int.reduceBEq, aeq, Int.reduceLE, Int.reduceNeg, Int.reduceMul, Int.reduceAdd, Int.reduceSub, Int.reduceToNat, Int.reducePow, e1, e2, e3, e4, z1, z2, eq_false ha0, eq_true hc0, a1, c1, veil_un, shun_un]
        rw [tidy_tup' rfl]
      · rw [q1] at z1
        rw [q2] at z2
        simp only [s11, R1, R2, R3, R4, R5, R6, R7, R8, AV.flat, fillIn_nil, fillIn_cons, splice, AV.cells, AV.one, eqsOf, idx, SO.calls, List.reduceReplicate, Nat.reduceBEq, Nat.reduceLT, Nat.reduceAdd, Nat.reduceMul, Nat.reduceSub, Nat.reduceLeDiff, Nat.reduceEqDiff, ↓reduceIte, Int.reduceLT, Int.reduceEq, Int.reduceBNe, Int.reduceBEq, aeq, Int.reduceLE, Int.reduceNeg, Int.reduceMul, Int.reduceAdd, Int.reduceSub, Int.reduceToNat, Int.reducePow, e1, e2, e3, e4, z1, z2, eq_false ha0, eq_true hc0, a1, c1, veil_un, shun_un]
        rw [tidy_tup' rfl]
    · rw [if_neg hc0] at p2
      have c1 : (c ≥ 0) = True := eq_true (by omega)
      have hs : cmpI (x : Int) (y : Int) = sgn (X - Y) := by rw [cmp_sgn, p1, p2]
      have e5' := e5 x y
      rw [hs] at e5'
      rcases hz with q1 | ⟨q1, q2⟩
      · rw [q1] at z1
        simp only [s11, R1, R2, R3, R4, R5, R6, R7, R8, AV.flat, fillIn_nil, fillIn_cons, splice, AV.cells, AV.one, eqsOf, idx, SO.calls, List.reduceReplicate, Nat.reduceBEq, Nat.reduceLT, Nat.reduceAdd, Nat.reduceMul, Nat.reduceSub, Nat.reduceLeDiff, Nat.reduceEqDiff, ↓reduceIte, Int.reduceLT, Int.reduceEq, Int.reduceBNe, Int.reduceBEq, aeq, Int.reduceLE, Int.reduceNeg, Int.reduceMul, Int.reduceAdd, Int.reduceSub, Int.reduceToNat, Int.reducePow, e1, e2, e3, e4, e5', z1, z2, eq_false ha0, eq_false hc0, a1, c1, veil_un, shun_un]
        rw [tidy_tup' rfl]
      · rw [q1] at z1
        rw [q2] at z2
        simp only [s11, R1, R2, R3, R4, R5, R6, R7, R8, AV.flat, fillIn_nil, fillIn_cons, splice, AV.cells, AV.one, eqsOf, idx, SO.calls, List.reduceReplicate, Nat.reduceBEq, Nat.reduceLT, Nat.reduceAdd, Nat.reduceMul, Nat.reduceSub, Nat.reduceLeDiff, Nat.reduceEqDiff, ↓reduceIte, Int.reduceLT, Int.reduceEq, Int.reduceBNe, Int.reduceBEq, aeq, Int.reduceLE, Int.reduceNeg, Int.reduceMul, Int.reduceAdd, Int.reduceSub, Int.reduceToNat, Int.reducePow, e1, e2, e3, e4, e5', z1, z2, eq_false ha0, eq_false hc0, a1, c1, veil_un, shun_un]
        rw [tidy_tup' rfl]
theorem c4 {a b c d : Int} (ha : I64 a) (hb : I64 b) (hc : I64 c) (hd : I64 d) : ∃ H', call env 4 [.agg [.int .i64 a, .int .i64 b], .agg [.int .i64 c, .int .i64 d]] [] = some (.bool true, H') := by
  have e1 := fun H => c11 ha hb hc hd H
  have e2 := fun H => c12 ha hb hc hd H
  have e3 := fun H => c13 ha hb H
  have e4 := fun H => c14 ha hb H
  have e5 := fun H => c10 ha hb H
  have c0 : ∀ z : Int, (z != z) = false := fun z => by simp
  refine ⟨[], ?_⟩
  refine call_ends (fn := s4) rfl rfl (by simp [s4]) ?_
  by_cases hk : OkR a b
  · have e6 := fun H => c15 ha hk.1 H
    have e7 := fun H => c16 ha hb hk.1 H
    rw [decide_eq_true hk] at e5
    simp only [if_pos hk] at e3 e4
    simp only [s4, R1, R2, R3, R4, R5, R6, R7, R8, AV.flat, fillIn_nil, fillIn_cons, splice, AV.cells, AV.one, eqsOf, idx, SO.calls, List.reduceReplicate, Nat.reduceBEq, Nat.reduceLT, Nat.reduceAdd, Nat.reduceMul, Nat.reduceSub, Nat.reduceLeDiff, Nat.reduceEqDiff, ↓reduceIte, Int.reduceLT, Int.reduceEq, Int.reduceBNe, Int.reduceBEq, aeq, Int.reduceLE, Int.reduceNeg, Int.reduceMul, Int.reduceAdd, Int.reduceSub, Int.reduceToNat, Int.reducePow, w6, e1, e2, e3, e4, e5, e6, e7, c0]
  · rw [decide_eq_false hk] at e5
    simp only [if_neg hk] at e3 e4
    simp only [s4, R1, R2, R3, R4, R5, R6, R7, R8, AV.flat, fillIn_nil, fillIn_cons, splice, AV.cells, AV.one, eqsOf, idx, SO.calls, List.reduceReplicate, Nat.reduceBEq, Nat.reduceLT, Nat.reduceAdd, Nat.reduceMul, Nat.reduceSub, Nat.reduceLeDiff, Nat.reduceEqDiff, ↓reduceIte, Int.reduceLT, Int.reduceEq, Int.reduceBNe, Int.reduceBEq, aeq, Int.reduceLE, Int.reduceNeg, Int.reduceMul, Int.reduceAdd, Int.reduceSub, Int.reduceToNat, Int.reducePow, w6, e1, e2, e3, e4, e5, c0]
end Go.Proofs.YtdlolhkeckjipaaDoor
