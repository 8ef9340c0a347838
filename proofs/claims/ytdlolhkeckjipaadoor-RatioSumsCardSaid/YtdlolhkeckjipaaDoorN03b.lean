/- Chapter 03: which fraction is greater, the whole number below, the nearest. -/
import Derived.Test.YtdlolhkeckjipaaDoorN03a
set_option linter.unusedVariables false
set_option linter.unusedSimpArgs false
set_option maxRecDepth 100000
set_option maxHeartbeats 8000000
namespace Go.Proofs.YtdlolhkeckjipaaDoor
open Go Go.Den
theorem floor_i64 {n d : Int} (hn : I64 n) (hd : d > 0) : I64 (n / d) ∧ I64 (n.tdiv d) ∧ (n.tmod d < 0 → I64 (n.tdiv d - 1)) ∧ 0 ≤ n % d ∧ n % d < d := by
  unfold I64 at *
  have h1 := Int.mul_tdiv_add_tmod n d
  have h2 : n.tmod d < d := Int.tmod_lt_of_pos n hd
  have h3 := Int.lt_tmod_of_pos n hd
  have h4 := tdiv_floor (n := n) hd
  have h5 : (n.tdiv d).natAbs ≤ n.natAbs := by rw [Int.natAbs_tdiv]; exact Nat.div_le_self _ _
  have h6 : (n / d).natAbs ≤ n.natAbs := Int.natAbs_ediv_le_natAbs n d
  have h7 := Int.emod_nonneg n (show d ≠ 0 by omega)
  have h8 := Int.emod_lt_of_pos n hd
  have h9 : n / d ≤ 9223372036854775807 ∧ n.tdiv d ≤ 9223372036854775807 := by
    by_cases h0 : 0 ≤ n
    · have := Int.ediv_le_self d h0
      have := Int.tmod_nonneg d h0
      rw [if_neg (by omega)] at h4
      omega
    · have := Int.ediv_neg_of_neg_of_pos (show n < 0 by omega) hd
      split at h4 <;> omega
  refine ⟨by omega, by omega, fun h => ?_, h7, h8⟩
  · rw [if_pos h] at h4
    omega
theorem c13 {n d : Int} (hn : I64 n) (hd : I64 d) (H : Heap) : call env 13 [.agg [.int .i64 n, .int .i64 d]] H = some (if OkR n d then .tup [.int .i64 (n / d), .int .i64 0] else .tup [.int .i64 0, .int .i64 1], H) := by
  have e1 := fun H => c9 hn hd H
  refine call_ends (fn := s13) rfl rfl (by simp [s13]) ?_
  by_cases hk : OkR n d
  rotate_left
  · rw [decide_eq_false hk] at e1
    rw [if_neg hk]
    simp only [s13, R1, R2, R3, R4, R5, R6, R7, R8, AV.flat, fillIn_nil, fillIn_cons, splice, AV.cells, AV.one, eqsOf, idx, SO.calls, List.reduceReplicate, Nat.reduceBEq, Nat.reduceLT, Nat.reduceAdd, Nat.reduceMul, Nat.reduceSub, Nat.reduceLeDiff, Nat.reduceEqDiff, ↓reduceIte, Int.reduceLT, Int.reduceEq, Int.reduceBNe, Int.reduceBEq, aeq, Int.reduceLE, Int.reduceNeg, Int.reduceMul, Int.reduceAdd, Int.reduceSub, Int.reduceToNat, Int.reducePow, e1]
    rw [tidy_tup' rfl]
  rw [decide_eq_true hk] at e1
  rw [if_pos hk]
  obtain ⟨f1, f2, f3, f4, f5⟩ := floor_i64 hn hk.1
  have f6 := tdiv_floor (n := n) hk.1
  have d0 : (d = 0) = False := eq_false (by have := hk.1; omega)
  have w1 := wrap_i64 f2.1 f2.2
  by_cases hm : n.tmod d < 0
  · have w2 := wrap_i64 (f3 hm).1 (f3 hm).2
    rw [if_pos hm] at f6
    rw [f6] at w2
    simp only [s13, R1, R2, R3, R4, R5, R6, R7, R8, AV.flat, fillIn_nil, fillIn_cons, splice, AV.cells, AV.one, eqsOf, idx, SO.calls, List.reduceReplicate, Nat.reduceBEq, Nat.reduceLT, Nat.reduceAdd, Nat.reduceMul, Nat.reduceSub, Nat.reduceLeDiff, Nat.reduceEqDiff, ↓reduceIte, Int.reduceLT, Int.reduceEq, Int.reduceBNe, Int.reduceBEq, aeq, Int.reduceLE, Int.reduceNeg, Int.reduceMul, Int.reduceAdd, Int.reduceSub, Int.reduceToNat, Int.reducePow, e1, d0, w1, w2, f6, eq_true hm]
    rw [tidy_tup' rfl]
  · rw [if_neg hm] at f6
    rw [f6] at w1
    simp only [s13, R1, R2, R3, R4, R5, R6, R7, R8, AV.flat, fillIn_nil, fillIn_cons, splice, AV.cells, AV.one, eqsOf, idx, SO.calls, List.reduceReplicate, Nat.reduceBEq, Nat.reduceLT, Nat.reduceAdd, Nat.reduceMul, Nat.reduceSub, Nat.reduceLeDiff, Nat.reduceEqDiff, ↓reduceIte, Int.reduceLT, Int.reduceEq, Int.reduceBNe, Int.reduceBEq, aeq, Int.reduceLE, Int.reduceNeg, Int.reduceMul, Int.reduceAdd, Int.reduceSub, Int.reduceToNat, Int.reducePow, e1, d0, w1, f6, eq_false hm]
    rw [tidy_tup' rfl]
theorem c15 {n d : Int} (hn : I64 n) (hd : d > 0) (H : Heap) : call env 15 [.agg [.int .i64 n, .int .i64 d]] H = some (.int .i64 (n / d), H) := by
  refine call_ends (fn := s15) rfl rfl (by simp [s15]) ?_
  obtain ⟨f1, f2, f3, f4, f5⟩ := floor_i64 hn hd
  have f6 := tdiv_floor (n := n) hd
  have d0 : (d = 0) = False := eq_false (by omega)
  have w1 := wrap_i64 f2.1 f2.2
  by_cases hm : n.tmod d < 0
  · have w2 := wrap_i64 (f3 hm).1 (f3 hm).2
    rw [if_pos hm] at f6
    rw [f6] at w2
    simp only [s15, R1, R2, R3, R4, R5, R6, R7, R8, AV.flat, fillIn_nil, fillIn_cons, splice, AV.cells, AV.one, eqsOf, idx, SO.calls, List.reduceReplicate, Nat.reduceBEq, Nat.reduceLT, Nat.reduceAdd, Nat.reduceMul, Nat.reduceSub, Nat.reduceLeDiff, Nat.reduceEqDiff, ↓reduceIte, Int.reduceLT, Int.reduceEq, Int.reduceBNe, Int.reduceBEq, aeq, Int.reduceLE, Int.reduceNeg, Int.reduceMul, Int.reduceAdd, Int.reduceSub, Int.reduceToNat, Int.reducePow, d0, w1, w2, f6, eq_true hm]
    rw [tidy_int']
  · rw [if_neg hm] at f6
    rw [f6] at w1
    simp only [s15, R1, R2, R3, R4, R5, R6, R7, R8, AV.flat, fillIn_nil, fillIn_cons, splice, AV.cells, AV.one, eqsOf, idx, SO.calls, List.reduceReplicate, Nat.reduceBEq, Nat.reduceLT, Nat.reduceAdd, Nat.reduceMul, Nat.reduceSub, Nat.reduceLeDiff, Nat.reduceEqDiff, ↓reduceIte, Int.reduceLT, Int.reduceEq, Int.reduceBNe, Int.reduceBEq, aeq, Int.reduceLE, Int.reduceNeg, Int.reduceMul, Int.reduceAdd, Int.reduceSub, Int.reduceToNat, Int.reducePow, d0, w1, f6, eq_false hm]
    rw [tidy_int']
def roundI (n d : Int) : Int := if 2 * (n % d) ≥ d then n / d + 1 else n / d
theorem round_i64 {n d : Int} (hn : I64 n) (hd : d > 0) (h : 2 * (n % d) ≥ d) : I64 (n / d + 1) := by
  obtain ⟨f1, f2, f3, f4, f5⟩ := floor_i64 hn hd
  unfold I64 at *
  have : d ≠ 1 := fun h1 => by subst h1; omega
  have h2 : n / d ≤ 4611686018427387904 := by
    by_cases h0 : 0 ≤ n
    · have : n / d ≤ n / 2 := by
        rw [Int.le_ediv_iff_mul_le (by decide)]
        have h3 := Int.mul_ediv_add_emod n d
        have h4 : 2 * (n / d) ≤ d * (n / d) := Int.mul_le_mul_of_nonneg_right (by omega) (Int.ediv_nonneg h0 (by omega))
        omega
      omega
    · have := Int.ediv_neg_of_neg_of_pos (show n < 0 by omega) hd; omega
  omega
theorem c14 {n d : Int} (hn : I64 n) (hd : I64 d) (H : Heap) : call env 14 [.agg [.int .i64 n, .int .i64 d]] H = some (if OkR n d then .tup [.int .i64 (roundI n d), .int .i64 0] else .tup [.int .i64 0, .int .i64 1], H) := by
  have e1 := fun H => c13 hn hd H
  refine call_ends (fn := s14) rfl rfl (by simp [s14]) ?_
  by_cases hk : OkR n d
  rotate_left
  · simp only [if_neg hk] at e1
    rw [if_neg hk]
    simp only [s14, R1, R2, R3, R4, R5, R6, R7, R8, AV.flat, fillIn_nil, fillIn_cons, splice, AV.cells, AV.one, eqsOf, idx, SO.calls, List.reduceReplicate, Nat.reduceBEq, Nat.reduceLT, Nat.reduceAdd, Nat.reduceMul, Nat.reduceSub, Nat.reduceLeDiff, Nat.reduceEqDiff, ↓reduceIte, Int.reduceLT, Int.reduceEq, Int.reduceBNe, Int.reduceBEq, aeq, Int.reduceLE, Int.reduceNeg, Int.reduceMul, Int.reduceAdd, Int.reduceSub, Int.reduceToNat, Int.reducePow, e1]
    rw [tidy_tup' rfl]
  simp only [if_pos hk] at e1
  rw [if_pos hk]
  obtain ⟨f1, f2, f3, f4, f5⟩ := floor_i64 hn hk.1
  have hd0 := hk.1
  have d0 : (d = 0) = False := eq_false (by omega)
  have t1 : n.tmod d = n % d ∨ n.tmod d = n % d - d := by
    have h1 := Int.mul_tdiv_add_tmod n d
    have h2 : n.tmod d < d := Int.tmod_lt_of_pos n hd0
    have h3 := Int.lt_tmod_of_pos n hd0
    have h4 := tdiv_floor (n := n) hd0
    have h5 := Int.mul_ediv_add_emod n d
    split at h4
    · rw [← h4, Int.mul_sub] at h5; omega
    · rw [← h4] at h5; omega
  unfold I64 at hd
  have w1 := wrap_i64 (x := n.tmod d + d) (by omega)
  have c1 : IntKind.u64.wrap d = d := by rw [wrap_u64_mod]; omega
  have hz : ∃ z : Int, IntKind.i64.wrap (n.tmod d + d) = z ∧ IntKind.u64.wrap z = z % 18446744073709551616 ∧ (z % 18446744073709551616).tmod d = n % d := by
    refine ⟨_, rfl, wrap_u64_mod _, ?_⟩
    have e : IntKind.i64.wrap (n.tmod d + d) % 18446744073709551616 = n.tmod d + d := by
      rw [wrap_i64_mod]
      split <;> omega
    rw [e, Int.tmod_eq_emod_of_nonneg (by omega)]
    rcases t1 with h | h
    · rw [h, Int.add_emod_right, Int.emod_emod_of_dvd _ (Int.dvd_refl d)]
    · rw [h, show n % d - d + d = n % d by omega, Int.emod_emod_of_dvd _ (Int.dvd_refl d)]
  obtain ⟨z, z1, z2, z3⟩ := hz
  have c2 : IntKind.u64.wrap (d - n % d) = d - n % d := by rw [wrap_u64_mod]; omega
  unfold roundI
  by_cases hr : 2 * (n % d) ≥ d
  · have a1 : (n % d ≥ d - n % d) = True := eq_true (by omega)
    have w2 := wrap_i64 (round_i64 hn hd0 hr).1 (round_i64 hn hd0 hr).2
    rw [if_pos hr]
    simp only [s14, R1, R2, R3, R4, R5, R6, R7, R8, AV.flat, fillIn_nil, fillIn_cons, splice, AV.cells, AV.one, eqsOf, idx, SO.calls, List.reduceReplicate, Nat.reduceBEq, Nat.reduceLT, Nat.reduceAdd, Nat.reduceMul, Nat.reduceSub, Nat.reduceLeDiff, Nat.reduceEqDiff, ↓reduceIte, Int.reduceLT, Int.reduceEq, Int.reduceBNe, Int.reduceBEq, aeq, Int.reduceLE, Int.reduceNeg, Int.reduceMul, Int.reduceAdd, Int.reduceSub, Int.reduceToNat, Int.reducePow, e1, d0, z1, z2, z3, c1, c2, a1, w2, veil_un, shun_un]
    rw [tidy_tup' rfl]
  · have a1 : (n % d ≥ d - n % d) = False := eq_false (by omega)
    rw [if_neg hr]
    simp only [s14, R1, R2, R3, R4, R5, R6, R7, R8, AV.flat, fillIn_nil, fillIn_cons, splice, AV.cells, AV.one, eqsOf, idx, SO.calls, List.reduceReplicate, Nat.reduceBEq, Nat.reduceLT, Nat.reduceAdd, Nat.reduceMul, Nat.reduceSub, Nat.reduceLeDiff, Nat.reduceEqDiff, ↓reduceIte, Int.reduceLT, Int.reduceEq, Int.reduceBNe, Int.reduceBEq, aeq, Int.reduceLE, Int.reduceNeg, Int.reduceMul, Int.reduceAdd, Int.reduceSub, Int.reduceToNat, Int.reducePow, e1, d0, z1, z2, z3, c1, c2, a1, veil_un, shun_un]
    rw [tidy_tup' rfl]
theorem c16 {n d : Int} (hn : I64 n) (hd : I64 d) (hd0 : d > 0) (H : Heap) : call env 16 [.agg [.int .i64 n, .int .i64 d]] H = some (.int .i64 (roundI n d), H) := by
  have key : Comes (call env 16 [.agg [.int .i64 n, .int .i64 d]] H) fun v H1 => v = .int .i64 (roundI n d) ∧ H1 = H := by
    have e1 := fun H => c15 hn hd0 H
    obtain ⟨f1, f2, f3, f4, f5⟩ := floor_i64 hn hd0
    have e2 := fun H => c39 hn.1 hn.2 H
    have e3 := fun H => c37 f1 hd H
    have e4 := fun H => c39 hd.1 hd.2 H
    have n1 := nd_i64 hn
    have n2 := nd_i64 hd
    have n3 := nd_i64 f1
    have n4 := nd_mul (n / d) d
    have n5 := nd_sub n (n / d * d)
    have hrem : n - n / d * d = n % d := by
      have := Int.mul_ediv_add_emod n d
      rw [Int.mul_comm (n / d) d]
      omega
    have n6 := nd_add (n % d) (n % d)
    rw [hrem] at n5
    refine comes_call (fn := s16) rfl rfl (by simp [s16]) ?_
    simp only [s16, R1, R2, R3, R4, R5, R6, R7, R8, AV.flat, fillIn_nil, fillIn_cons, splice, AV.cells, AV.one, eqsOf, idx, SO.calls, List.reduceReplicate, Nat.reduceBEq, Nat.reduceLT, Nat.reduceAdd, Nat.reduceMul, Nat.reduceSub, Nat.reduceLeDiff, Nat.reduceEqDiff, ↓reduceIte, Int.reduceLT, Int.reduceEq, Int.reduceBNe, Int.reduceBEq, aeq, Int.reduceLE, Int.reduceNeg, Int.reduceMul, Int.reduceAdd, Int.reduceSub, Int.reduceToNat, Int.reducePow, e1, veil_un, shun_un]
    refine gets_sS (e2 _) ?_ ?_
    · rintro r _ ⟨X, rfl, q⟩
      exact ⟨X, rfl⟩
    rintro r X M F ⟨X', hX, q1⟩ hM f1 f4 f3 f2
    simp only [List.append_assoc, List.cons_append, List.nil_append, List.length_append, List.length_cons, List.length_nil, Nat.add_zero, Nat.zero_add, Nat.reduceAdd] at q1 f2 hM
    simp only [R1, R2, R3, R4, R5, R6, R7, R8, AV.flat, fillIn_nil, fillIn_cons, splice, AV.cells, AV.one, eqsOf, idx, SO.calls, List.reduceReplicate, Nat.reduceBEq, Nat.reduceLT, Nat.reduceAdd, Nat.reduceMul, Nat.reduceSub, Nat.reduceLeDiff, Nat.reduceEqDiff, ↓reduceIte, Int.reduceLT, Int.reduceEq, Int.reduceBNe, Int.reduceBEq, aeq, Int.reduceLE, Int.reduceNeg, Int.reduceMul, Int.reduceAdd, Int.reduceSub, Int.reduceToNat, Int.reducePow, f1, f2, f3, f4, shun_int, shun_old hM (show H.length < H.length + 1 by omega), veil_un, shun_un]
    refine gets_mS (H ++ [AO.cells [AV.int IntKind.i64 n, AV.int IntKind.i64 d] 24 true]) X (by simp) (by simpa using hM) (e3 _) ?_ ?_
    · rintro r2 _ ⟨Y, rfl, q⟩
      exact ⟨Y, rfl⟩
    clear f1 f2 f3 f4 hM
    rintro r2 Y M2 F2 ⟨X', hX2, q2⟩ hM f1 f4 f3 f2
    simp only [List.append_assoc, List.cons_append, List.nil_append, List.length_append, List.length_cons, List.length_nil, Nat.add_zero, Nat.zero_add, Nat.reduceAdd] at q2 f1 f2 f3 f4 hM
    have q1' : NumOf (H ++ AO.cells [AV.int IntKind.i64 n, AV.int IntKind.i64 d] 24 true :: (X ++ Y)) r n := q1.kept (by
      have := Kept.more (e := 45) (H ++ AO.cells [AV.int IntKind.i64 n, AV.int IntKind.i64 d] 24 true :: X) Y
      simpa only [List.append_assoc, List.cons_append, List.nil_append] using this)
    simp only [R1, R2, R3, R4, R5, R6, R7, R8, AV.flat, fillIn_nil, fillIn_cons, splice, AV.cells, AV.one, eqsOf, idx, SO.calls, List.reduceReplicate, Nat.reduceBEq, Nat.reduceLT, Nat.reduceAdd, Nat.reduceMul, Nat.reduceSub, Nat.reduceLeDiff, Nat.reduceEqDiff, ↓reduceIte, Int.reduceLT, Int.reduceEq, Int.reduceBNe, Int.reduceBEq, aeq, Int.reduceLE, Int.reduceNeg, Int.reduceMul, Int.reduceAdd, Int.reduceSub, Int.reduceToNat, Int.reducePow, f1, f2, f3, f4, shun_int, veil_un, shun_un]
    refine gets_mS (H ++ [AO.cells [AV.int IntKind.i64 n, AV.int IntKind.i64 d] 24 true]) (X ++ Y) (by simp) (by simpa using hM) (c38 q1' q2 (by omega) (by omega)) ?_ ?_
    · rintro r2 _ ⟨Y, rfl, q⟩
      exact ⟨Y, rfl⟩
    clear f1 f2 f3 f4 hM
    rintro r3 Z M2 F2 ⟨X', hX2, q3⟩ hM f1 f4 f3 f2
    rw [hrem] at q3
    obtain ⟨u, rfl, u1, u2⟩ := num_cells q3
    simp only [AV.cells, AV.one] at u1 u2
    simp only [List.append_assoc, List.cons_append, List.nil_append, List.length_append, List.length_cons, List.length_nil, Nat.add_zero, Nat.zero_add, Nat.reduceAdd] at q3 f1 f2 f3 f4 hM
    have sh := shun_box (u := [2, 6, 7]) (l := [.bool false, .nils]) (e := 61) (w := true) (o := H.length + (X.length + (Y.length + Z.length) + 1)) hM (by omega) rfl
    have q3' := fun Z' => q3.kept (.more _ Z')
    simp only [List.append_assoc, List.cons_append] at q3'
    generalize decide (n % d < 0) = b3 at *
    simp only [R1, R2, R3, R4, R5, R6, R7, R8, AV.flat, fillIn_nil, fillIn_cons, splice, AV.cells, AV.one, eqsOf, idx, SO.calls, List.reduceReplicate, Nat.reduceBEq, Nat.reduceLT, Nat.reduceAdd, Nat.reduceMul, Nat.reduceSub, Nat.reduceLeDiff, Nat.reduceEqDiff, ↓reduceIte, Int.reduceLT, Int.reduceEq, Int.reduceBNe, Int.reduceBEq, aeq, Int.reduceLE, Int.reduceNeg, Int.reduceMul, Int.reduceAdd, Int.reduceSub, Int.reduceToNat, Int.reducePow, f1, f2, f3, f4, sh, u1, u2, shun_int, veil_un, shun_un]
    refine gets_sA (c40 (q3' _) (q3' _) (by omega) (by omega)) ?_ ?_ ?_
    · rintro r _ ⟨X, rfl, q⟩
      exact ⟨X, rfl⟩
    · rintro r X ⟨_, _, q⟩
      simp only [R1, R2, R3, R4, R5, R6, R7, R8, AV.flat, fillIn_nil, fillIn_cons, splice, AV.cells, AV.one, eqsOf, idx, SO.calls, List.reduceReplicate, Nat.reduceBEq, Nat.reduceLT, Nat.reduceAdd, Nat.reduceMul, Nat.reduceSub, Nat.reduceLeDiff, Nat.reduceEqDiff, ↓reduceIte, Int.reduceLT, Int.reduceEq, Int.reduceBNe, Int.reduceBEq, aeq, Int.reduceLE, Int.reduceNeg, Int.reduceMul, Int.reduceAdd, Int.reduceSub, Int.reduceToNat, Int.reducePow]
    clear f1 f2 f3 f4 hM sh
    rintro r4 T M F ⟨X', hX, q4⟩ hM f1 f4 f3 f2
    simp only [List.append_assoc, List.cons_append, List.nil_append, List.length_append, List.length_cons, List.length_nil, Nat.add_zero, Nat.zero_add, Nat.reduceAdd] at q4 f1 f2 f3 f4 hM
    simp only [R1, R2, R3, R4, R5, R6, R7, R8, AV.flat, fillIn_nil, fillIn_cons, splice, AV.cells, AV.one, eqsOf, idx, SO.calls, List.reduceReplicate, Nat.reduceBEq, Nat.reduceLT, Nat.reduceAdd, Nat.reduceMul, Nat.reduceSub, Nat.reduceLeDiff, Nat.reduceEqDiff, ↓reduceIte, Int.reduceLT, Int.reduceEq, Int.reduceBNe, Int.reduceBEq, aeq, Int.reduceLE, Int.reduceNeg, Int.reduceMul, Int.reduceAdd, Int.reduceSub, Int.reduceToNat, Int.reducePow, f1, f2, f3, f4, shun_int, shun_old hM (show H.length < _ by omega), veil_un, shun_un]
    refine gets_comesAll (e4 _) ?_ ?_
    · rintro r2 _ ⟨Y, rfl, q⟩
      simp
    rintro r5 _ ⟨S1, rfl, q5⟩
    have q4' := q4.kept (.more _ S1)
    have e5 := c36 q4' (by simpa only [List.append_assoc, List.cons_append, List.nil_append] using q5) (by omega) (by omega) []
    simp only [List.append_nil, List.append_assoc, List.cons_append, List.nil_append] at e5
    unfold roundI
    by_cases hr : 2 * (n % d) ≥ d
    · have a1 : (sgn (n % d + n % d - d) ≥ 0) = True := eq_true (by unfold sgn; split <;> (try split) <;> omega)
      have w2 := wrap_i64 (round_i64 hn hd0 hr).1 (round_i64 hn hd0 hr).2
      rw [if_pos hr]
      simp only [R1, R2, R3, R4, R5, R6, R7, R8, AV.flat, fillIn_nil, fillIn_cons, splice, AV.cells, AV.one, eqsOf, idx, SO.calls, List.reduceReplicate, Nat.reduceBEq, Nat.reduceLT, Nat.reduceAdd, Nat.reduceMul, Nat.reduceSub, Nat.reduceLeDiff, Nat.reduceEqDiff, ↓reduceIte, Int.reduceLT, Int.reduceEq, Int.reduceBNe, Int.reduceBEq, aeq, Int.reduceLE, Int.reduceNeg, Int.reduceMul, Int.reduceAdd, Int.reduceSub, Int.reduceToNat, Int.reducePow, e5, a1, w2, leftE_ret, got_some, shun_bool, veil_un, shun_un]
      rw [tidy_int']
      exact ⟨rfl, rfl⟩
    · have a1 : (sgn (n % d + n % d - d) ≥ 0) = False := eq_false (by unfold sgn; split <;> (try split) <;> omega)
      rw [if_neg hr]
      simp only [R1, R2, R3, R4, R5, R6, R7, R8, AV.flat, fillIn_nil, fillIn_cons, splice, AV.cells, AV.one, eqsOf, idx, SO.calls, List.reduceReplicate, Nat.reduceBEq, Nat.reduceLT, Nat.reduceAdd, Nat.reduceMul, Nat.reduceSub, Nat.reduceLeDiff, Nat.reduceEqDiff, ↓reduceIte, Int.reduceLT, Int.reduceEq, Int.reduceBNe, Int.reduceBEq, aeq, Int.reduceLE, Int.reduceNeg, Int.reduceMul, Int.reduceAdd, Int.reduceSub, Int.reduceToNat, Int.reducePow, e5, a1, leftE_ret, got_some, shun_bool, veil_un, shun_un]
      rw [tidy_int']
      exact ⟨rfl, rfl⟩
  obtain ⟨v, H1, e, rfl, rfl⟩ := key
  exact e
theorem cmp_sgn (x y : Int) : cmpI x y = sgn (x - y) := by unfold cmpI sgn; split <;> (try split) <;> (try split) <;> omega
end Go.Proofs.YtdlolhkeckjipaaDoor
