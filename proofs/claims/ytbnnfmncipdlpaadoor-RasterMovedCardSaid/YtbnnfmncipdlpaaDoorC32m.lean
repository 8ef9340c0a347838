/- Chapter 32: covers. -/
import Derived.Test.YtbnnfmncipdlpaaDoorC32l
set_option linter.unusedVariables false
set_option linter.unusedSimpArgs false
set_option maxRecDepth 100000
set_option maxHeartbeats 8000000
namespace Go.Proofs.YtbnnfmncipdlpaaDoor
open Go Go.Den
theorem floor_eq {n d : Int} (hd : 0 < d) : (n.tmod d < 0 → n.tdiv d - 1 = n / d) ∧ (¬ n.tmod d < 0 → n.tdiv d = n / d) := by
  have h0 := Int.emod_nonneg n (show d ≠ 0 by omega)
  have h1 := Int.emod_lt_of_pos n hd
  rw [Int.tmod_eq_emod, Int.tdiv_eq_ediv]
  by_cases h : 0 ≤ n ∨ d ∣ n
  · rw [if_pos h, if_pos h]
    omega
  · rw [if_neg h, if_neg h, Int.sign_eq_one_of_pos hd]
    omega
theorem floor_le {n d : Int} (hd : 0 < d) : (n ≤ n / d ∨ 0 ≤ n / d) ∧ (n / d ≤ n ∨ n / d ≤ 0) := by
  have h := Int.mul_ediv_add_emod n d
  have h0 := Int.emod_nonneg n (show d ≠ 0 by omega)
  have h1 := Int.emod_lt_of_pos n hd
  by_cases hn : 0 ≤ n
  · have h2 := Int.ediv_nonneg hn (show 0 ≤ d by omega)
    have h3 : 1 * (n / d) ≤ d * (n / d) := Int.mul_le_mul_of_nonneg_right (by omega) h2
    omega
  · have h2 : n / d < 0 := Int.ediv_neg_of_neg_of_pos (by omega) hd
    have h3 : n * d ≤ n * 1 := Int.mul_le_mul_of_nonpos_left (by omega) (by omega)
    have h4 : n ≤ n / d := (Int.le_ediv_iff_mul_le hd).2 (by omega)
    omega
theorem tdiv_le (n d : Int) : -(n.natAbs : Int) ≤ n.tdiv d ∧ n.tdiv d ≤ n.natAbs := by
  have : (n.tdiv d).natAbs ≤ n.natAbs := by rw [Int.natAbs_tdiv]; exact Nat.div_le_self _ _
  omega
theorem c85 {n d : Int} (hn : I64 n) (hd : 0 < d) (H : Heap) : call env 85 [.agg [.int .i64 n, .int .i64 d]] H = some (.int .i64 (n / d), H) := by
  refine call_ends (fn := s85) rfl rfl (by simp [s85]) ?_
  unfold I64 at hn
  obtain ⟨f1, f2⟩ := floor_eq (n := n) hd
  have f3 := floor_le (n := n) hd
  have f4 := tdiv_le n d
  have c0 : (d = 0) = False := eq_false (by omega)
  by_cases h : n.tmod d < 0
  · have e := f1 h
    have w1 := wrap_i64 (x := n.tdiv d) (by omega) (by omega)
    have w2 : IntKind.i64.wrap (n.tdiv d - 1) = n / d := by rw [e, wrap_i64 (by omega) (by omega)]
    simp only [s85, R1, R2, R3, R4, R5, R6, R7, R8, AV.flat, fillIn_nil, fillIn_cons, splice, AV.cells, AV.one, eqsOf, idx, SO.calls, List.reduceReplicate, Nat.reduceBEq, Nat.reduceLT, Nat.reduceAdd, Nat.reduceMul, Nat.reduceSub, Nat.reduceLeDiff, Nat.reduceEqDiff, ↓reduceIte, Int.reduceLT, Int.reduceEq, Int.reduceBNe, Int.reduceBEq, aeq, Int.reduceLE, Int.reduceNeg, Int.reduceMul, Int.reduceAdd, Int.reduceSub, Int.reduceToNat, Int.reducePow, eq_true h, c0, w1, w2]
    rw [tidy_int']
  · have e := f2 h
    have w1 : IntKind.i64.wrap (n.tdiv d) = n / d := by rw [e, wrap_i64 (by omega) (by omega)]
    simp only [s85, R1, R2, R3, R4, R5, R6, R7, R8, AV.flat, fillIn_nil, fillIn_cons, splice, AV.cells, AV.one, eqsOf, idx, SO.calls, List.reduceReplicate, Nat.reduceBEq, Nat.reduceLT, Nat.reduceAdd, Nat.reduceMul, Nat.reduceSub, Nat.reduceLeDiff, Nat.reduceEqDiff, ↓reduceIte, Int.reduceLT, Int.reduceEq, Int.reduceBNe, Int.reduceBEq, aeq, Int.reduceLE, Int.reduceNeg, Int.reduceMul, Int.reduceAdd, Int.reduceSub, Int.reduceToNat, Int.reducePow, eq_false h, c0, w1]
    rw [tidy_int']
def OkC (r n d : Int) : Prop := (¬ r < 1 ∧ ¬ r > 16) ∧ OkR n d ∧ (¬ n ≤ 0 ∧ ¬ n > 1073741824) ∧ ¬ d > 1073741824
instance {r n d : Int} : Decidable (OkC r n d) := by unfold OkC; infer_instance
def clampM (m : Int) : Int := min (max m 0) 16711680
def upC (m r n d : Int) : Int := 8355840 * d + (2 * clampM m - 16711680) * r * n
def covI (m r n d : Int) : Int := if OkC r n d then (if upC m r n d < 0 then 0 else min (upC m r n d / (65536 * d)) 255) else 0
def covE (r n d : Int) : Int := if OkC r n d then 0 else 1
theorem cov_ok (m r n d : Int) : 0 ≤ covI m r n d ∧ covI m r n d ≤ 255 := by
  unfold covI
  by_cases h : OkC r n d
  · rw [if_pos h]
    by_cases h0 : upC m r n d < 0
    · rw [if_pos h0]; omega
    · rw [if_neg h0]
      have := Int.ediv_nonneg (a := upC m r n d) (b := 65536 * d) (by omega) (by have := h.2.1.1; omega)
      omega
  · rw [if_neg h]; omega
theorem prod_le {a b A B : Int} (ha : -A ≤ a ∧ a ≤ A) (hb : 0 ≤ b ∧ b ≤ B) : -(A * B) ≤ a * b ∧ a * b ≤ A * B := by
  have h1 : a * b ≤ A * b := Int.mul_le_mul_of_nonneg_right ha.2 hb.1
  have h2 : -A * b ≤ a * b := Int.mul_le_mul_of_nonneg_right ha.1 hb.1
  have h3 : A * b ≤ A * B := Int.mul_le_mul_of_nonneg_left hb.2 (by omega)
  rw [Int.neg_mul] at h2
  omega
theorem up_ok {m r n d : Int} (h : OkC r n d) : (-16711680 ≤ 2 * clampM m - 16711680 ∧ 2 * clampM m - 16711680 ≤ 16711680) ∧ (-267386880 ≤ (2 * clampM m - 16711680) * r ∧ (2 * clampM m - 16711680) * r ≤ 267386880) ∧ -287104476244869120 ≤ (2 * clampM m - 16711680) * r * n ∧ (2 * clampM m - 16711680) * r * n ≤ 287104476244869120 := by
  have h0 : -16711680 ≤ 2 * clampM m - 16711680 ∧ 2 * clampM m - 16711680 ≤ 16711680 := by unfold clampM; omega
  have h1 := prod_le h0 (b := r) (B := 16) (by have := h.1; omega)
  have h2 := prod_le (A := 267386880) (by omega) (a := (2 * clampM m - 16711680) * r) (b := n) (B := 1073741824) (by have := h.2.2.1; omega)
  omega
theorem c83 {m r n d : Int} (hr : I64 r) (hn : I64 n) (hd : I64 d) (H : Heap) : call env 83 [.int .i64 m, .int .i64 r, .agg [.int .i64 n, .int .i64 d]] H = some (.tup [.int .u8 (covI m r n d), .int .i64 (covE r n d)], H) := by
  refine call_ends (fn := s83) rfl rfl (by simp [s83]) ?_
  have e1 := fun H => c108 hn hd H
  unfold I64 at hr hn hd
  by_cases hk : OkC r n d
  rotate_left
  · unfold covI covE
    rw [if_neg hk, if_neg hk]
    by_cases h1 : r < 1
    · simp only [s83, R1, R2, R3, R4, R5, R6, R7, R8, AV.flat, fillIn_nil, fillIn_cons, splice, AV.cells, AV.one, eqsOf, idx, SO.calls, List.reduceReplicate, Nat.reduceBEq, Nat.reduceLT, Nat.reduceAdd, Nat.reduceMul, Nat.reduceSub, Nat.reduceLeDiff, Nat.reduceEqDiff, ↓reduceIte, Int.reduceLT, Int.reduceEq, Int.reduceBNe, Int.reduceBEq, aeq, Int.reduceLE, Int.reduceNeg, Int.reduceMul, Int.reduceAdd, Int.reduceSub, Int.reduceToNat, Int.reducePow, e1, eq_true h1]
      rw [tidy_still rfl]
    by_cases h2 : r > 16
    · simp only [s83, R1, R2, R3, R4, R5, R6, R7, R8, AV.flat, fillIn_nil, fillIn_cons, splice, AV.cells, AV.one, eqsOf, idx, SO.calls, List.reduceReplicate, Nat.reduceBEq, Nat.reduceLT, Nat.reduceAdd, Nat.reduceMul, Nat.reduceSub, Nat.reduceLeDiff, Nat.reduceEqDiff, ↓reduceIte, Int.reduceLT, Int.reduceEq, Int.reduceBNe, Int.reduceBEq, aeq, Int.reduceLE, Int.reduceNeg, Int.reduceMul, Int.reduceAdd, Int.reduceSub, Int.reduceToNat, Int.reducePow, e1, eq_false h1, eq_true h2]
      rw [tidy_still rfl]
    by_cases h3 : OkR n d
    rotate_left
    · simp only [s83, R1, R2, R3, R4, R5, R6, R7, R8, AV.flat, fillIn_nil, fillIn_cons, splice, AV.cells, AV.one, eqsOf, idx, SO.calls, List.reduceReplicate, Nat.reduceBEq, Nat.reduceLT, Nat.reduceAdd, Nat.reduceMul, Nat.reduceSub, Nat.reduceLeDiff, Nat.reduceEqDiff, ↓reduceIte, Int.reduceLT, Int.reduceEq, Int.reduceBNe, Int.reduceBEq, aeq, Int.reduceLE, Int.reduceNeg, Int.reduceMul, Int.reduceAdd, Int.reduceSub, Int.reduceToNat, Int.reducePow, e1, eq_false h1, eq_false h2, decide_eq_false h3]
      rw [tidy_still rfl]
    by_cases h4 : n ≤ 0
    · simp only [s83, R1, R2, R3, R4, R5, R6, R7, R8, AV.flat, fillIn_nil, fillIn_cons, splice, AV.cells, AV.one, eqsOf, idx, SO.calls, List.reduceReplicate, Nat.reduceBEq, Nat.reduceLT, Nat.reduceAdd, Nat.reduceMul, Nat.reduceSub, Nat.reduceLeDiff, Nat.reduceEqDiff, ↓reduceIte, Int.reduceLT, Int.reduceEq, Int.reduceBNe, Int.reduceBEq, aeq, Int.reduceLE, Int.reduceNeg, Int.reduceMul, Int.reduceAdd, Int.reduceSub, Int.reduceToNat, Int.reducePow, e1, eq_false h1, eq_false h2, decide_eq_true h3, eq_true h4]
      rw [tidy_still rfl]
    by_cases h5 : n > 1073741824
    · simp only [s83, R1, R2, R3, R4, R5, R6, R7, R8, AV.flat, fillIn_nil, fillIn_cons, splice, AV.cells, AV.one, eqsOf, idx, SO.calls, List.reduceReplicate, Nat.reduceBEq, Nat.reduceLT, Nat.reduceAdd, Nat.reduceMul, Nat.reduceSub, Nat.reduceLeDiff, Nat.reduceEqDiff, ↓reduceIte, Int.reduceLT, Int.reduceEq, Int.reduceBNe, Int.reduceBEq, aeq, Int.reduceLE, Int.reduceNeg, Int.reduceMul, Int.reduceAdd, Int.reduceSub, Int.reduceToNat, Int.reducePow, e1, eq_false h1, eq_false h2, decide_eq_true h3, eq_false h4, eq_true h5]
      rw [tidy_still rfl]
    by_cases h6 : d > 1073741824
    · simp only [s83, R1, R2, R3, R4, R5, R6, R7, R8, AV.flat, fillIn_nil, fillIn_cons, splice, AV.cells, AV.one, eqsOf, idx, SO.calls, List.reduceReplicate, Nat.reduceBEq, Nat.reduceLT, Nat.reduceAdd, Nat.reduceMul, Nat.reduceSub, Nat.reduceLeDiff, Nat.reduceEqDiff, ↓reduceIte, Int.reduceLT, Int.reduceEq, Int.reduceBNe, Int.reduceBEq, aeq, Int.reduceLE, Int.reduceNeg, Int.reduceMul, Int.reduceAdd, Int.reduceSub, Int.reduceToNat, Int.reducePow, e1, eq_false h1, eq_false h2, decide_eq_true h3, eq_false h4, eq_false h5, eq_true h6]
      rw [tidy_still rfl]
    exact absurd ⟨⟨h1, h2⟩, h3, ⟨h4, h5⟩, h6⟩ hk
  obtain ⟨u1, u2, u3⟩ := up_ok (m := m) hk
  have hc := cov_ok m r n d
  obtain ⟨⟨h1, h2⟩, h3, ⟨h4, h5⟩, h6⟩ := id hk
  have hd0 := h3.1
  unfold covE
  rw [if_pos hk]
  unfold covI at hc ⊢
  rw [if_pos hk] at hc ⊢
  have hm : min (max m 0) 16711680 = clampM m := rfl
  have hM : 0 ≤ clampM m ∧ clampM m ≤ 16711680 := by unfold clampM; omega
  unfold upC at hc ⊢
  generalize clampM m = M at *
  have w1 := wrap_i64 (x := 65536 * d) (by omega) (by omega)
  have w2 := wrap_i64 (x := 255 * (65536 * d)) (by omega) (by omega)
  have w3 : IntKind.i64.wrap ((255 * (65536 * d)).tdiv 2) = 8355840 * d := by
    rw [show 255 * (65536 * d) = 2 * (8355840 * d) by omega, Int.mul_tdiv_cancel_left _ (by decide), wrap_i64 (by omega) (by omega)]
  have w4 := wrap_i64 (x := 2 * M) (by omega) (by omega)
  have w5 := wrap_i64 (x := 2 * M - 16711680) (by omega) (by omega)
  have w6 := wrap_i64 (x := (2 * M - 16711680) * r) (by omega) (by omega)
  have w7 := wrap_i64 (x := (2 * M - 16711680) * r * n) (by omega) (by omega)
  have w8 := wrap_i64 (x := 8355840 * d + (2 * M - 16711680) * r * n) (by omega) (by omega)
  generalize hz : (2 * M - 16711680) * r * n = z at *
  have c0 : (65536 * d = 0) = False := eq_false (by omega)
  by_cases h0 : 8355840 * d + z < 0
  · rw [if_pos h0]
    simp only [s83, R1, R2, R3, R4, R5, R6, R7, R8, AV.flat, fillIn_nil, fillIn_cons, splice, AV.cells, AV.one, eqsOf, idx, SO.calls, List.reduceReplicate, Nat.reduceBEq, Nat.reduceLT, Nat.reduceAdd, Nat.reduceMul, Nat.reduceSub, Nat.reduceLeDiff, Nat.reduceEqDiff, ↓reduceIte, Int.reduceLT, Int.reduceEq, Int.reduceBNe, Int.reduceBEq, aeq, Int.reduceLE, Int.reduceNeg, Int.reduceMul, Int.reduceAdd, Int.reduceSub, Int.reduceToNat, Int.reducePow, e1, eq_false h1, eq_false h2, decide_eq_true h3, eq_false h4, eq_false h5, eq_false h6, hm, w1, w2, w3, w4, w5, w6, hz, w7, w8, eq_true h0]
    rw [tidy_still rfl]
  · rw [if_neg h0] at hc ⊢
    have f3 := floor_le (n := 8355840 * d + z) (d := 65536 * d) (by omega)
    have f5 := Int.ediv_nonneg (a := 8355840 * d + z) (b := 65536 * d) (by omega) (by omega)
    have w9 : IntKind.i64.wrap ((8355840 * d + z).tdiv (65536 * d)) = (8355840 * d + z) / (65536 * d) := by
      rw [Int.tdiv_eq_ediv_of_nonneg (by omega), wrap_i64 (by omega) (by omega)]
    have v1 : IntKind.u8.wrap (min ((8355840 * d + z) / (65536 * d)) 255) = min ((8355840 * d + z) / (65536 * d)) 255 := by rw [wrap_u8_mod]; omega
    simp only [s83, R1, R2, R3, R4, R5, R6, R7, R8, AV.flat, fillIn_nil, fillIn_cons, splice, AV.cells, AV.one, eqsOf, idx, SO.calls, List.reduceReplicate, Nat.reduceBEq, Nat.reduceLT, Nat.reduceAdd, Nat.reduceMul, Nat.reduceSub, Nat.reduceLeDiff, Nat.reduceEqDiff, ↓reduceIte, Int.reduceLT, Int.reduceEq, Int.reduceBNe, Int.reduceBEq, aeq, Int.reduceLE, Int.reduceNeg, Int.reduceMul, Int.reduceAdd, Int.reduceSub, Int.reduceToNat, Int.reducePow, e1, eq_false h1, eq_false h2, decide_eq_true h3, eq_false h4, eq_false h5, eq_false h6, hm, w1, w2, w3, w4, w5, w6, hz, w7, w8, w9, v1, c0, eq_false h0]
    rw [tidy_still rfl]
theorem c66 {m r n d : Int} (hr : I64 r) (hn : I64 n) (hd : I64 d) (H : Heap) : call env 66 [.int .i64 m, .int .i64 r, .agg [.int .i64 n, .int .i64 d]] H = some (.tup [.int .i64 (covI m r n d), .int .i64 (covE r n d)], H) := by
  refine call_ends (fn := s66) rfl rfl (by simp [s66]) ?_
  have e1 := fun H => c91 hn hd H
  unfold I64 at hr hn hd
  by_cases hk : OkC r n d
  rotate_left
  · unfold covI covE
    rw [if_neg hk, if_neg hk]
    by_cases h1 : r < 1
    · simp only [s66, R1, R2, R3, R4, R5, R6, R7, R8, AV.flat, fillIn_nil, fillIn_cons, splice, AV.cells, AV.one, eqsOf, idx, SO.calls, List.reduceReplicate, Nat.reduceBEq, Nat.reduceLT, Nat.reduceAdd, Nat.reduceMul, Nat.reduceSub, Nat.reduceLeDiff, Nat.reduceEqDiff, ↓reduceIte, Int.reduceLT, Int.reduceEq, Int.reduceBNe, Int.reduceBEq, aeq, Int.reduceLE, Int.reduceNeg, Int.reduceMul, Int.reduceAdd, Int.reduceSub, Int.reduceToNat, Int.reducePow, e1, eq_true h1]
      rw [tidy_still rfl]
    by_cases h2 : r > 16
    · simp only [s66, R1, R2, R3, R4, R5, R6, R7, R8, AV.flat, fillIn_nil, fillIn_cons, splice, AV.cells, AV.one, eqsOf, idx, SO.calls, List.reduceReplicate, Nat.reduceBEq, Nat.reduceLT, Nat.reduceAdd, Nat.reduceMul, Nat.reduceSub, Nat.reduceLeDiff, Nat.reduceEqDiff, ↓reduceIte, Int.reduceLT, Int.reduceEq, Int.reduceBNe, Int.reduceBEq, aeq, Int.reduceLE, Int.reduceNeg, Int.reduceMul, Int.reduceAdd, Int.reduceSub, Int.reduceToNat, Int.reducePow, e1, eq_false h1, eq_true h2]
      rw [tidy_still rfl]
    by_cases h3 : OkR n d
    rotate_left
    · simp only [s66, R1, R2, R3, R4, R5, R6, R7, R8, AV.flat, fillIn_nil, fillIn_cons, splice, AV.cells, AV.one, eqsOf, idx, SO.calls, List.reduceReplicate, Nat.reduceBEq, Nat.reduceLT, Nat.reduceAdd, Nat.reduceMul, Nat.reduceSub, Nat.reduceLeDiff, Nat.reduceEqDiff, ↓reduceIte, Int.reduceLT, Int.reduceEq, Int.reduceBNe, Int.reduceBEq, aeq, Int.reduceLE, Int.reduceNeg, Int.reduceMul, Int.reduceAdd, Int.reduceSub, Int.reduceToNat, Int.reducePow, e1, eq_false h1, eq_false h2, decide_eq_false h3]
      rw [tidy_still rfl]
    by_cases h4 : n ≤ 0
    · simp only [s66, R1, R2, R3, R4, R5, R6, R7, R8, AV.flat, fillIn_nil, fillIn_cons, splice, AV.cells, AV.one, eqsOf, idx, SO.calls, List.reduceReplicate, Nat.reduceBEq, Nat.reduceLT, Nat.reduceAdd, Nat.reduceMul, Nat.reduceSub, Nat.reduceLeDiff, Nat.reduceEqDiff, ↓reduceIte, Int.reduceLT, Int.reduceEq, Int.reduceBNe, Int.reduceBEq, aeq, Int.reduceLE, Int.reduceNeg, Int.reduceMul, Int.reduceAdd, Int.reduceSub, Int.reduceToNat, Int.reducePow, e1, eq_false h1, eq_false h2, decide_eq_true h3, eq_true h4]
      rw [tidy_still rfl]
    by_cases h5 : n > 1073741824
    · simp only [s66, R1, R2, R3, R4, R5, R6, R7, R8, AV.flat, fillIn_nil, fillIn_cons, splice, AV.cells, AV.one, eqsOf, idx, SO.calls, List.reduceReplicate, Nat.reduceBEq, Nat.reduceLT, Nat.reduceAdd, Nat.reduceMul, Nat.reduceSub, Nat.reduceLeDiff, Nat.reduceEqDiff, ↓reduceIte, Int.reduceLT, Int.reduceEq, Int.reduceBNe, Int.reduceBEq, aeq, Int.reduceLE, Int.reduceNeg, Int.reduceMul, Int.reduceAdd, Int.reduceSub, Int.reduceToNat, Int.reducePow, e1, eq_false h1, eq_false h2, decide_eq_true h3, eq_false h4, eq_true h5]
      rw [tidy_still rfl]
    by_cases h6 : d > 1073741824
    · simp only [s66, R1, R2, R3, R4, R5, R6, R7, R8, AV.flat, fillIn_nil, fillIn_cons, splice, AV.cells, AV.one, eqsOf, idx, SO.calls, List.reduceReplicate, Nat.reduceBEq, Nat.reduceLT, Nat.reduceAdd, Nat.reduceMul, Nat.reduceSub, Nat.reduceLeDiff, Nat.reduceEqDiff, ↓reduceIte, Int.reduceLT, Int.reduceEq, Int.reduceBNe, Int.reduceBEq, aeq, Int.reduceLE, Int.reduceNeg, Int.reduceMul, Int.reduceAdd, Int.reduceSub, Int.reduceToNat, Int.reducePow, e1, eq_false h1, eq_false h2, decide_eq_true h3, eq_false h4, eq_false h5, eq_true h6]
      rw [tidy_still rfl]
    exact absurd ⟨⟨h1, h2⟩, h3, ⟨h4, h5⟩, h6⟩ hk
  obtain ⟨u1, u2, u3⟩ := up_ok (m := m) hk
  obtain ⟨⟨h1, h2⟩, h3, ⟨h4, h5⟩, h6⟩ := id hk
  have hd0 := h3.1
  have hq : covI m r n d = min (max (upC m r n d / (65536 * d)) 0) 255 := by
    unfold covI
    rw [if_pos hk]
    by_cases h0 : upC m r n d < 0
    · rw [if_pos h0]
      have := Int.ediv_neg_of_neg_of_pos h0 (b := 65536 * d) (by omega)
      omega
    · rw [if_neg h0]
      have := Int.ediv_nonneg (a := upC m r n d) (b := 65536 * d) (by omega) (by omega)
      omega
  rw [hq]
  unfold covE
  rw [if_pos hk]
  have hm : min (max m 0) 16711680 = clampM m := rfl
  have hM : 0 ≤ clampM m ∧ clampM m ≤ 16711680 := by unfold clampM; omega
  unfold upC
  generalize clampM m = M at *
  have w1 := wrap_i64 (x := 65536 * d) (by omega) (by omega)
  have w3 := wrap_i64 (x := 8355840 * d) (by omega) (by omega)
  have w4 := wrap_i64 (x := 2 * M) (by omega) (by omega)
  have w5 := wrap_i64 (x := 2 * M - 16711680) (by omega) (by omega)
  have w6 := wrap_i64 (x := (2 * M - 16711680) * r) (by omega) (by omega)
  have w7 := wrap_i64 (x := (2 * M - 16711680) * r * n) (by omega) (by omega)
  have w8 := wrap_i64 (x := 8355840 * d + (2 * M - 16711680) * r * n) (by omega) (by omega)
  generalize hz : (2 * M - 16711680) * r * n = z at *
  have e2 := fun H => c85 (n := 8355840 * d + z) (d := 65536 * d) (by unfold I64; omega) (by omega) H
  simp only [s66, R1, R2, R3, R4, R5, R6, R7, R8, AV.flat, fillIn_nil, fillIn_cons, splice, AV.cells, AV.one, eqsOf, idx, SO.calls, List.reduceReplicate, Nat.reduceBEq, Nat.reduceLT, Nat.reduceAdd, Nat.reduceMul, Nat.reduceSub, Nat.reduceLeDiff, Nat.reduceEqDiff, ↓reduceIte, Int.reduceLT, Int.reduceEq, Int.reduceBNe, Int.reduceBEq, aeq, Int.reduceLE, Int.reduceNeg, Int.reduceMul, Int.reduceAdd, Int.reduceSub, Int.reduceToNat, Int.reducePow, e1, eq_false h1, eq_false h2, decide_eq_true h3, eq_false h4, eq_false h5, eq_false h6, hm, w1, w3, w4, w5, w6, hz, w7, w8, e2]
  rw [tidy_still rfl]
/-- A greater sample covers no less. -/
theorem cov_mono {m m' r n d : Int} (h : m ≤ m') : covI m r n d ≤ covI m' r n d := by
  by_cases hk : OkC r n d
  · have h1 : clampM m ≤ clampM m' := by unfold clampM; omega
    obtain ⟨⟨h1', h2⟩, h3, ⟨h4, h5⟩, h6⟩ := id hk
    have hu : upC m r n d ≤ upC m' r n d := by
      unfold upC
      have a := Int.mul_le_mul_of_nonneg_right (a := 2 * clampM m - 16711680) (b := 2 * clampM m' - 16711680) (c := r) (by omega) (by omega)
      have := Int.mul_le_mul_of_nonneg_right a (c := n) (by omega)
      omega
    have hc := cov_ok m' r n d
    have hdv := Int.ediv_le_ediv (c := 65536 * d) (by have := h3.1; omega) hu
    unfold covI at hc ⊢
    rw [if_pos hk] at hc
    rw [if_pos hk, if_pos hk]
    by_cases h0 : upC m r n d < 0
    · rw [if_pos h0]; exact hc.1
    · rw [if_neg h0, if_neg (by omega)]
      omega
  · unfold covI
    rw [if_neg hk, if_neg hk]
    omega
end Go.Proofs.YtbnnfmncipdlpaaDoor
