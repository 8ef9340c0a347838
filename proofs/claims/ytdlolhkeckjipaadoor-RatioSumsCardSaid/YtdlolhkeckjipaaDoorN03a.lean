/- Chapter 03, the document's: products, order, whole numbers. -/
import Derived.Test.YtdlolhkeckjipaaDoorN02e
import Derived.Test.YtdlolhkeckjipaaDoorVeX
import Derived.Test.YtdlolhkeckjipaaDoorC03c
set_option linter.unusedVariables false
set_option linter.unusedSimpArgs false
set_option maxRecDepth 100000
set_option maxHeartbeats 8000000
namespace Go.Proofs.YtdlolhkeckjipaaDoor
open Go Go.Den
theorem nd_small {n : Int} (h : n.natAbs < 65536 ^ 4) : nd n ≤ 4 := digs_small h
theorem nd_i64 {n : Int} (h : I64 n) : nd n ≤ 4 := by
  unfold I64 at h
  exact nd_small (by omega)
theorem nd_mul (x y : Int) : nd (x * y) ≤ nd x + nd y := by
  unfold nd
  rw [Int.natAbs_mul]
  exact digs_mul _ _
theorem c37 {a b : Int} (ha : I64 a) (hb : I64 b) (H : Heap) : Comes (call env 37 [.int .i64 a, .int .i64 b] H) (Makes H (a * b)) := by
  have n1 := nd_i64 ha
  have n2 := nd_i64 hb
  have e1 := fun H => c39 ha.1 ha.2 H
  have e2 := fun H => c39 hb.1 hb.2 H
  refine comes_call (fn := s37) rfl rfl (by simp [s37]) ?_
  simp only [s37, R1, R2, R3, R4, R5, R6, R7, R8, AV.flat, fillIn_nil, fillIn_cons, splice, AV.cells, AV.one, eqsOf, idx, SO.calls, List.reduceReplicate, Nat.reduceBEq, Nat.reduceLT, Nat.reduceAdd, Nat.reduceMul, Nat.reduceSub, Nat.reduceLeDiff, Nat.reduceEqDiff, ↓reduceIte, Int.reduceLT, Int.reduceEq, Int.reduceBNe, Int.reduceBEq, aeq, Int.reduceLE, Int.reduceNeg, Int.reduceMul, Int.reduceAdd, Int.reduceSub, Int.reduceToNat, Int.reducePow]
  refine gets_comes (e1 _) ?_
  rintro r _ ⟨X, rfl, q1⟩
  simp only [R1, R2, R3, R4, R5, R6, R7, R8, AV.flat, fillIn_nil, fillIn_cons, splice, AV.cells, AV.one, eqsOf, idx, SO.calls, List.reduceReplicate, Nat.reduceBEq, Nat.reduceLT, Nat.reduceAdd, Nat.reduceMul, Nat.reduceSub, Nat.reduceLeDiff, Nat.reduceEqDiff, ↓reduceIte, Int.reduceLT, Int.reduceEq, Int.reduceBNe, Int.reduceBEq, aeq, Int.reduceLE, Int.reduceNeg, Int.reduceMul, Int.reduceAdd, Int.reduceSub, Int.reduceToNat, Int.reducePow]
  simp only [List.append_assoc, List.cons_append, List.nil_append] at q1
  refine gets_comes (e2 _) ?_
  rintro r2 _ ⟨Y, rfl, q2⟩
  simp only [R1, R2, R3, R4, R5, R6, R7, R8, AV.flat, fillIn_nil, fillIn_cons, splice, AV.cells, AV.one, eqsOf, idx, SO.calls, List.reduceReplicate, Nat.reduceBEq, Nat.reduceLT, Nat.reduceAdd, Nat.reduceMul, Nat.reduceSub, Nat.reduceLeDiff, Nat.reduceEqDiff, ↓reduceIte, Int.reduceLT, Int.reduceEq, Int.reduceBNe, Int.reduceBEq, aeq, Int.reduceLE, Int.reduceNeg, Int.reduceMul, Int.reduceAdd, Int.reduceSub, Int.reduceToNat, Int.reducePow]
  simp only [List.append_assoc, List.cons_append, List.nil_append] at q2
  have q1' : NumOf (H ++ (BX (.bool false) .nils :: (X ++ Y))) r a := q1.kept (by
    have := Kept.more (e := 45) (H ++ (BX (.bool false) .nils :: X)) Y
    simpa only [List.append_assoc, List.cons_append, List.nil_append] using this)
  refine gets_comes (c53 q1' q2 (by omega) (by omega)) ?_
  rintro r3 _ ⟨Z, rfl, q3⟩
  obtain ⟨u, rfl, u1, u2⟩ := num_cells q3
  simp only [AV.cells, AV.one] at u1 u2
  have q4 : NumOf (H ++ (BX (.bool (decide (a * b < 0))) u :: (X ++ (Y ++ Z)))) _ (a * b) := q3.kept (by
    simp only [List.append_assoc, List.cons_append, List.nil_append]
    exact .on (.box (by decide) (.refl _)))
  have q5 := makes_tidy q4
  generalize decide (a * b < 0) = b3 at *
  simp only [R1, R2, R3, R4, R5, R6, R7, R8, AV.flat, fillIn_nil, fillIn_cons, splice, AV.cells, AV.one, eqsOf, idx, SO.calls, List.reduceReplicate, Nat.reduceBEq, Nat.reduceLT, Nat.reduceAdd, Nat.reduceMul, Nat.reduceSub, Nat.reduceLeDiff, Nat.reduceEqDiff, ↓reduceIte, Int.reduceLT, Int.reduceEq, Int.reduceBNe, Int.reduceBEq, aeq, Int.reduceLE, Int.reduceNeg, Int.reduceMul, Int.reduceAdd, Int.reduceSub, Int.reduceToNat, Int.reducePow, u1, u2, leftE_ret, got_some]
  exact q5
theorem c35 {a b c d : Int} (ha : I64 a) (hb : I64 b) (hc : I64 c) (hd : I64 d) (H : Heap) : call env 35 [.agg [.int .i64 a, .int .i64 b], .agg [.int .i64 c, .int .i64 d]] H = some (.bool (decide (OkR a b ∧ OkR c d)), H) := by
  have e1 := fun H => c10 ha hb H
  have e2 := fun H => c10 hc hd H
  refine call_ends (fn := s35) rfl rfl (by simp [s35]) ?_
  by_cases h1 : OkR a b
  · rw [decide_eq_true h1] at e1
    have : decide (OkR a b ∧ OkR c d) = decide (OkR c d) := by simp [h1]
    rw [this]
    simp only [s35, R1, R2, R3, R4, R5, R6, R7, R8, AV.flat, fillIn_nil, fillIn_cons, splice, AV.cells, AV.one, eqsOf, idx, SO.calls, List.reduceReplicate, Nat.reduceBEq, Nat.reduceLT, Nat.reduceAdd, Nat.reduceMul, Nat.reduceSub, Nat.reduceLeDiff, Nat.reduceEqDiff, ↓reduceIte, Int.reduceLT, Int.reduceEq, Int.reduceBNe, Int.reduceBEq, aeq, Int.reduceLE, Int.reduceNeg, Int.reduceMul, Int.reduceAdd, Int.reduceSub, Int.reduceToNat, Int.reducePow, e1, e2]
    rw [tidy_bool']
  · rw [decide_eq_false h1] at e1
    have : decide (OkR a b ∧ OkR c d) = false := by simp [h1]
    rw [this]
    simp only [s35, R1, R2, R3, R4, R5, R6, R7, R8, AV.flat, fillIn_nil, fillIn_cons, splice, AV.cells, AV.one, eqsOf, idx, SO.calls, List.reduceReplicate, Nat.reduceBEq, Nat.reduceLT, Nat.reduceAdd, Nat.reduceMul, Nat.reduceSub, Nat.reduceLeDiff, Nat.reduceEqDiff, ↓reduceIte, Int.reduceLT, Int.reduceEq, Int.reduceBNe, Int.reduceBEq, aeq, Int.reduceLE, Int.reduceNeg, Int.reduceMul, Int.reduceAdd, Int.reduceSub, Int.reduceToNat, Int.reducePow, e1, e2]
    rw [tidy_bool']
/-- -1, 0, 1, and how it went. -/
def cmpR (a b c d : Int) : Int × Int := if OkR a b ∧ OkR c d then (sgn (a * d - c * b), 0) else (0, 1)
theorem c12 {a b c d : Int} (ha : I64 a) (hb : I64 b) (hc : I64 c) (hd : I64 d) (H : Heap) : call env 12 [.agg [.int .i64 a, .int .i64 b], .agg [.int .i64 c, .int .i64 d]] H = some (.tup [.int .i64 (cmpR a b c d).1, .int .i64 (cmpR a b c d).2], H) := by
  have key : Comes (call env 12 [.agg [.int .i64 a, .int .i64 b], .agg [.int .i64 c, .int .i64 d]] H) fun v H1 => v = .tup [.int .i64 (cmpR a b c d).1, .int .i64 (cmpR a b c d).2] ∧ H1 = H := by
    have e1 := fun H => c35 ha hb hc hd H
    have e2 := fun H => c37 ha hd H
    have e3 := fun H => c37 hc hb H
    have n1 := nd_mul a d
    have n2 := nd_mul c b
    have n3 := nd_i64 ha
    have n4 := nd_i64 hb
    have n5 := nd_i64 hc
    have n6 := nd_i64 hd
    refine comes_call (fn := s12) rfl rfl (by simp [s12]) ?_
    unfold cmpR
    by_cases hk : OkR a b ∧ OkR c d
    rotate_left
    · rw [decide_eq_false hk] at e1
      rw [if_neg hk]
      simp only [s12, R1, R2, R3, R4, R5, R6, R7, R8, AV.flat, fillIn_nil, fillIn_cons, splice, AV.cells, AV.one, eqsOf, idx, SO.calls, List.reduceReplicate, Nat.reduceBEq, Nat.reduceLT, Nat.reduceAdd, Nat.reduceMul, Nat.reduceSub, Nat.reduceLeDiff, Nat.reduceEqDiff, ↓reduceIte, Int.reduceLT, Int.reduceEq, Int.reduceBNe, Int.reduceBEq, aeq, Int.reduceLE, Int.reduceNeg, Int.reduceMul, Int.reduceAdd, Int.reduceSub, Int.reduceToNat, Int.reducePow, e1, leftE_ret, got_some]
      rw [tidy_tup' rfl]
      exact ⟨rfl, rfl⟩
    rw [decide_eq_true hk] at e1
    rw [if_pos hk]
    simp only [s12, R1, R2, R3, R4, R5, R6, R7, R8, AV.flat, fillIn_nil, fillIn_cons, splice, AV.cells, AV.one, eqsOf, idx, SO.calls, List.reduceReplicate, Nat.reduceBEq, Nat.reduceLT, Nat.reduceAdd, Nat.reduceMul, Nat.reduceSub, Nat.reduceLeDiff, Nat.reduceEqDiff, ↓reduceIte, Int.reduceLT, Int.reduceEq, Int.reduceBNe, Int.reduceBEq, aeq, Int.reduceLE, Int.reduceNeg, Int.reduceMul, Int.reduceAdd, Int.reduceSub, Int.reduceToNat, Int.reducePow, e1]
    refine gets_sA (e2 _) ?_ ?_ ?_
    · rintro r _ ⟨X, rfl, q⟩
      exact ⟨X, rfl⟩
    · rintro r X ⟨_, _, q⟩
      simp only [R1, R2, R3, R4, R5, R6, R7, R8, AV.flat, fillIn_nil, fillIn_cons, splice, AV.cells, AV.one, eqsOf, idx, SO.calls, List.reduceReplicate, Nat.reduceBEq, Nat.reduceLT, Nat.reduceAdd, Nat.reduceMul, Nat.reduceSub, Nat.reduceLeDiff, Nat.reduceEqDiff, ↓reduceIte, Int.reduceLT, Int.reduceEq, Int.reduceBNe, Int.reduceBEq, aeq, Int.reduceLE, Int.reduceNeg, Int.reduceMul, Int.reduceAdd, Int.reduceSub, Int.reduceToNat, Int.reducePow]
    rintro r X M F ⟨X', hX, q1⟩ hM f1 f4 f3 f2
    simp only [List.append_assoc, List.cons_append, List.nil_append, List.length_append, List.length_cons, List.length_nil, Nat.add_zero, Nat.zero_add, Nat.reduceAdd] at q1 f2 hM
    simp only [R1, R2, R3, R4, R5, R6, R7, R8, AV.flat, fillIn_nil, fillIn_cons, splice, AV.cells, AV.one, eqsOf, idx, SO.calls, List.reduceReplicate, Nat.reduceBEq, Nat.reduceLT, Nat.reduceAdd, Nat.reduceMul, Nat.reduceSub, Nat.reduceLeDiff, Nat.reduceEqDiff, ↓reduceIte, Int.reduceLT, Int.reduceEq, Int.reduceBNe, Int.reduceBEq, aeq, Int.reduceLE, Int.reduceNeg, Int.reduceMul, Int.reduceAdd, Int.reduceSub, Int.reduceToNat, Int.reducePow, f1, f2, f3, f4, shun_int, shun_old hM (show H.length < H.length + 2 by omega), shun_old hM (show H.length + 1 < H.length + 2 by omega)]
    refine gets_comesAll (e3 _) ?_ ?_
    · rintro r2 _ ⟨Y, rfl, q⟩
      simp
    rintro r2 _ ⟨Y, rfl, q2⟩
    have q1' := q1.kept (.more _ Y)
    have e4 := c36 q1' q2 (by omega) (by omega) []
    simp only [List.append_nil, List.append_assoc, List.cons_append, List.nil_append] at e4
    simp only [R1, R2, R3, R4, R5, R6, R7, R8, AV.flat, fillIn_nil, fillIn_cons, splice, AV.cells, AV.one, eqsOf, idx, SO.calls, List.reduceReplicate, Nat.reduceBEq, Nat.reduceLT, Nat.reduceAdd, Nat.reduceMul, Nat.reduceSub, Nat.reduceLeDiff, Nat.reduceEqDiff, ↓reduceIte, Int.reduceLT, Int.reduceEq, Int.reduceBNe, Int.reduceBEq, aeq, Int.reduceLE, Int.reduceNeg, Int.reduceMul, Int.reduceAdd, Int.reduceSub, Int.reduceToNat, Int.reducePow, e4, leftE_ret, got_some, shun_int, veil_un, shun_un]
    rw [tidy_tup' rfl]
    exact ⟨rfl, rfl⟩
  obtain ⟨v, H1, e, rfl, rfl⟩ := key
  exact e
/-- The whole number that isn't above. -/
theorem tdiv_floor {n d : Int} (hd : d > 0) : (if n.tmod d < 0 then n.tdiv d - 1 else n.tdiv d) = n / d := by
  have h1 := Int.mul_tdiv_add_tmod n d
  have h2 : n.tmod d < d := Int.tmod_lt_of_pos n hd
  have h3 : -d < n.tmod d := by
    by_cases h : 0 ≤ n
    · have := Int.tmod_nonneg d h; omega
    · have := Int.lt_tmod_of_pos n hd; omega
  split
  · refine (Int.ediv_eq_iff_of_pos hd).2 ?_ |>.symm
    rw [Int.sub_mul, Int.mul_comm (n.tdiv d) d]
    omega
  · refine (Int.ediv_eq_iff_of_pos hd).2 ?_ |>.symm
    rw [Int.mul_comm (n.tdiv d) d]
    omega
end Go.Proofs.YtdlolhkeckjipaaDoor
