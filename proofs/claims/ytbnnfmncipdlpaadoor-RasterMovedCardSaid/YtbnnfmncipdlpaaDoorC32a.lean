/- Chapter 32: what lies between texels. -/
import Derived.Test.YtbnnfmncipdlpaaDoorC30g
import Derived.Test.YtbnnfmncipdlpaaDoorLeftX
set_option linter.unusedVariables false
set_option linter.unusedSimpArgs false
set_option maxRecDepth 100000
set_option maxHeartbeats 4000000
namespace Go.Proofs.YtbnnfmncipdlpaaDoor
open Go Go.Den
/-- A byte of a texel. -/
def texI (a : Atl) (pg x y : Int) (c : Nat) : Int := (((a.pgs.getD pg.toNat []).getD ((4 * (y * a.w + x)).toNat + c) 0).toNat : Int)
theorem texI_le (a : Atl) (pg x y : Int) (c : Nat) : 0 ≤ texI a pg x y c ∧ texI a pg x y c ≤ 255 := by
  unfold texI
  have := ((a.pgs.getD pg.toNat []).getD ((4 * (y * a.w + x)).toNat + c) 0).toNat_lt
  omega
theorem texL_ok {a : Atl} {pg x y : Int} (h : TexOk a pg x y) : texL a pg x y = [.int .u8 (texI a pg x y 0), .int .u8 (texI a pg x y 1), .int .u8 (texI a pg x y 2), .int .u8 (texI a pg x y 3)] := by
  unfold texL
  rw [if_pos h]
  rfl
/-- Where a coordinate is. -/
def cutI (x n : Int) : Int := min (x / 256) (max (n - 2) 0)
theorem cutI_ok {x n : Int} (h0 : 0 ≤ x) (hn : 1 ≤ n) (hx : x ≤ 256 * (n - 1)) : 0 ≤ cutI x n ∧ cutI x n ≤ n - 1 ∧ 0 ≤ x - 256 * cutI x n ∧ x - 256 * cutI x n ≤ 256 ∧ (x - 256 * cutI x n ≠ 0 → cutI x n + 1 ≤ n - 1) := by
  unfold cutI
  omega
theorem c105 {x n : Int} (h0 : 0 ≤ x) (hn : 1 ≤ n ∧ n ≤ 1024) (hx : x ≤ 256 * (n - 1)) (H : Heap) : call env 105 [.int .i64 x, .int .i64 n] H = some (.tup [.int .i64 (cutI x n), .int .i64 (x - 256 * cutI x n)], H) := by
  obtain ⟨k1, k2, k3, k4, _⟩ := cutI_ok h0 hn.1 hx
  have w1 := wrap_i64 (x := n - 2) (by omega) (by omega)
  have w2 := wrap_i64 (x := 256 * cutI x n) (by omega) (by omega)
  have w3 := wrap_i64 (x := x - 256 * cutI x n) (by omega) (by omega)
  have d1 : IntKind.i64.wrap (x.tdiv 256) = x / 256 := by rw [Int.tdiv_eq_ediv_of_nonneg h0, wrap_i64 (by omega) (by omega)]
  have hc : min (x / 256) (max (n - 2) 0) = cutI x n := rfl
  refine call_ends (fn := s105) rfl rfl (by simp [s105]) ?_
  simp only [s105, R1, R2, R3, R4, R5, R6, R7, R8, AV.flat, fillIn_nil, fillIn_cons, splice, AV.cells, AV.one, eqsOf, idx, SO.calls, List.reduceReplicate, Nat.reduceBEq, Nat.reduceLT, Nat.reduceAdd, Nat.reduceMul, Nat.reduceSub, Nat.reduceLeDiff, Nat.reduceEqDiff, ↓reduceIte, Int.reduceLT, Int.reduceEq, Int.reduceBNe, Int.reduceBEq, aeq, Int.reduceLE, Int.reduceNeg, Int.reduceMul, Int.reduceAdd, Int.reduceSub, Int.reduceToNat, Int.reducePow, d1, w1, hc, w2, w3]
  try rw [tidy_still0 rfl]
theorem c86 {x n : Int} (h0 : 0 ≤ x) (hn : 1 ≤ n ∧ n ≤ 1024) (hx : x ≤ 256 * (n - 1)) (H : Heap) : call env 86 [.int .i64 x, .int .i64 n] H = some (.tup [.int .i64 (cutI x n), .int .i64 (x - 256 * cutI x n)], H) := by
  obtain ⟨k1, k2, k3, k4, _⟩ := cutI_ok h0 hn.1 hx
  have w1 := wrap_i64 (x := n - 2) (by omega) (by omega)
  have w2 := wrap_i64 (x := 256 * cutI x n) (by omega) (by omega)
  have w3 := wrap_i64 (x := x - 256 * cutI x n) (by omega) (by omega)
  have d1 : IntKind.i64.wrap (x.tdiv 256) = x / 256 := by rw [Int.tdiv_eq_ediv_of_nonneg h0, wrap_i64 (by omega) (by omega)]
  have hc : max (min (x / 256) (n - 2)) 0 = cutI x n := by unfold cutI; omega
  refine call_ends (fn := s86) rfl rfl (by simp [s86]) ?_
  simp only [s86, R1, R2, R3, R4, R5, R6, R7, R8, AV.flat, fillIn_nil, fillIn_cons, splice, AV.cells, AV.one, eqsOf, idx, SO.calls, List.reduceReplicate, Nat.reduceBEq, Nat.reduceLT, Nat.reduceAdd, Nat.reduceMul, Nat.reduceSub, Nat.reduceLeDiff, Nat.reduceEqDiff, ↓reduceIte, Int.reduceLT, Int.reduceEq, Int.reduceBNe, Int.reduceBEq, aeq, Int.reduceLE, Int.reduceNeg, Int.reduceMul, Int.reduceAdd, Int.reduceSub, Int.reduceToNat, Int.reducePow, d1, w1, hc, w2, w3]
  try rw [tidy_still0 rfl]
def mixI (a b u : Int) : Int := a * (256 - u) + b * u
theorem mix_le {a b u M : Int} (ha : 0 ≤ a ∧ a ≤ M) (hb : 0 ≤ b ∧ b ≤ M) (hu : 0 ≤ u ∧ u ≤ 256) : (0 ≤ a * (256 - u) ∧ a * (256 - u) ≤ 256 * M) ∧ (0 ≤ b * u ∧ b * u ≤ 256 * M) ∧ 0 ≤ mixI a b u ∧ mixI a b u ≤ 256 * M := by
  have h1 : 0 ≤ a * (256 - u) := Int.mul_nonneg ha.1 (by omega)
  have h2 : 0 ≤ b * u := Int.mul_nonneg hb.1 hu.1
  have h3 : a * (256 - u) ≤ M * (256 - u) := Int.mul_le_mul_of_nonneg_right ha.2 (by omega)
  have h4 : b * u ≤ M * u := Int.mul_le_mul_of_nonneg_right hb.2 hu.1
  have h5 : M * (256 - u) = 256 * M - M * u := by rw [Int.mul_sub, Int.mul_comm M 256]
  have h6 : 0 ≤ M * u := Int.mul_nonneg (by omega) hu.1
  have h7 : 0 ≤ M * (256 - u) := Int.mul_nonneg (by omega) (by omega)
  unfold mixI
  omega
theorem c107 {a0 a1 a2 a3 b0 b1 b2 b3 u : Int} (ha : (0 ≤ a0 ∧ a0 ≤ 1000000) ∧ (0 ≤ a1 ∧ a1 ≤ 1000000) ∧ (0 ≤ a2 ∧ a2 ≤ 1000000) ∧ 0 ≤ a3 ∧ a3 ≤ 1000000) (hb : (0 ≤ b0 ∧ b0 ≤ 1000000) ∧ (0 ≤ b1 ∧ b1 ≤ 1000000) ∧ (0 ≤ b2 ∧ b2 ≤ 1000000) ∧ 0 ≤ b3 ∧ b3 ≤ 1000000) (hu : 0 ≤ u ∧ u ≤ 256) (H : Heap) :
    call env 107 [.agg [.int .i64 a0, .int .i64 a1, .int .i64 a2, .int .i64 a3], .agg [.int .i64 b0, .int .i64 b1, .int .i64 b2, .int .i64 b3], .int .i64 u] H =
      some (.agg [.int .i64 (mixI a0 b0 u), .int .i64 (mixI a1 b1 u), .int .i64 (mixI a2 b2 u), .int .i64 (mixI a3 b3 u)], H) := by
  have m0 := mix_le ha.1 hb.1 hu
  have m1 := mix_le ha.2.1 hb.2.1 hu
  have m2 := mix_le ha.2.2.1 hb.2.2.1 hu
  have m3 := mix_le ha.2.2.2 hb.2.2.2 hu
  have w0 := wrap_i64 (x := 256 - u) (by omega) (by omega)
  have p0 := wrap_i64 (x := a0 * (256 - u)) (by omega) (by omega)
  have p1 := wrap_i64 (x := a1 * (256 - u)) (by omega) (by omega)
  have p2 := wrap_i64 (x := a2 * (256 - u)) (by omega) (by omega)
  have p3 := wrap_i64 (x := a3 * (256 - u)) (by omega) (by omega)
  have q0 := wrap_i64 (x := b0 * u) (by omega) (by omega)
  have q1 := wrap_i64 (x := b1 * u) (by omega) (by omega)
  have q2 := wrap_i64 (x := b2 * u) (by omega) (by omega)
  have q3 := wrap_i64 (x := b3 * u) (by omega) (by omega)
  have r0 := wrap_i64 (x := mixI a0 b0 u) (by omega) (by omega)
  have r1 := wrap_i64 (x := mixI a1 b1 u) (by omega) (by omega)
  have r2 := wrap_i64 (x := mixI a2 b2 u) (by omega) (by omega)
  have r3 := wrap_i64 (x := mixI a3 b3 u) (by omega) (by omega)
  unfold mixI at r0 r1 r2 r3 ⊢
  refine call_ends (fn := s107) rfl rfl (by simp [s107]) ?_
  simp only [s107, ends_unroll, R1, R2, R3, R4, R5, R6, R7, R8, AV.flat, fillIn_nil, fillIn_cons, splice, AV.cells, AV.one, eqsOf, idx, SO.calls, List.reduceReplicate, Nat.reduceBEq, Nat.reduceLT, Nat.reduceAdd, Nat.reduceMul, Nat.reduceSub, Nat.reduceLeDiff, Nat.reduceEqDiff, ↓reduceIte, Int.reduceLT, Int.reduceEq, Int.reduceBNe, Int.reduceBEq, aeq, Int.reduceLE, Int.reduceNeg, Int.reduceMul, Int.reduceAdd, Int.reduceSub, Int.reduceToNat, Int.reducePow, w0, p0, p1, p2, p3, q0, q1, q2, q3, r0, r1, r2, r3]
  rw [tidy_agg' rfl]
theorem med_eq (a b c : Int) : max (min a b) (min (max a b) c) = a + b + c - min (min a b) c - max (max a b) c := by omega
def medI (a b c : Int) : Int := max (min a b) (min (max a b) c)
theorem c84 (s0 s1 s2 s3 : Int) (H : Heap) : call env 84 [.agg [.int .i64 s0, .int .i64 s1, .int .i64 s2, .int .i64 s3]] H = some (.int .i64 (medI s1 s2 s3), H) := by
  unfold medI
  refine call_ends (fn := s84) rfl rfl (by simp [s84]) ?_
  simp only [s84, R1, R2, R3, R4, R5, R6, R7, R8, AV.flat, fillIn_nil, fillIn_cons, splice, AV.cells, AV.one, eqsOf, idx, SO.calls, List.reduceReplicate, Nat.reduceBEq, Nat.reduceLT, Nat.reduceAdd, Nat.reduceMul, Nat.reduceSub, Nat.reduceLeDiff, Nat.reduceEqDiff, ↓reduceIte, Int.reduceLT, Int.reduceEq, Int.reduceBNe, Int.reduceBEq, aeq, Int.reduceLE, Int.reduceNeg, Int.reduceMul, Int.reduceAdd, Int.reduceSub, Int.reduceToNat, Int.reducePow]
  rw [tidy_int']
theorem c67 {s1 s2 s3 : Int} (s0 : Int) (h1 : 0 ≤ s1 ∧ s1 ≤ 100000000) (h2 : 0 ≤ s2 ∧ s2 ≤ 100000000) (h3 : 0 ≤ s3 ∧ s3 ≤ 100000000) (H : Heap) : call env 67 [.agg [.int .i64 s0, .int .i64 s1, .int .i64 s2, .int .i64 s3]] H = some (.int .i64 (medI s1 s2 s3), H) := by
  have e1 : ∀ H, call env 92 [.int .i64 s1, .int .i64 s2, .int .i64 s3] H = some (.int .i64 (medI s1 s2 s3), H) := fun H => by
    have w1 := wrap_i64 (x := s1 + s2) (by omega) (by omega)
    have w2 := wrap_i64 (x := s1 + s2 + s3) (by omega) (by omega)
    have w3 := wrap_i64 (x := s1 + s2 + s3 - min (min s1 s2) s3) (by omega) (by omega)
    have w4 := wrap_i64 (x := s1 + s2 + s3 - min (min s1 s2) s3 - max (max s1 s2) s3) (by omega) (by omega)
    unfold medI
    rw [med_eq]
    refine call_ends (fn := s92) rfl rfl (by simp [s92]) ?_
    simp only [s92, R1, R2, R3, R4, R5, R6, R7, R8, AV.flat, fillIn_nil, fillIn_cons, splice, AV.cells, AV.one, eqsOf, idx, SO.calls, List.reduceReplicate, Nat.reduceBEq, Nat.reduceLT, Nat.reduceAdd, Nat.reduceMul, Nat.reduceSub, Nat.reduceLeDiff, Nat.reduceEqDiff, ↓reduceIte, Int.reduceLT, Int.reduceEq, Int.reduceBNe, Int.reduceBEq, aeq, Int.reduceLE, Int.reduceNeg, Int.reduceMul, Int.reduceAdd, Int.reduceSub, Int.reduceToNat, Int.reducePow, w1, w2, w3, w4]
    try rw [tidy_int]
  refine call_ends (fn := s67) rfl rfl (by simp [s67]) ?_
  simp only [s67, R1, R2, R3, R4, R5, R6, R7, R8, AV.flat, fillIn_nil, fillIn_cons, splice, AV.cells, AV.one, eqsOf, idx, SO.calls, List.reduceReplicate, Nat.reduceBEq, Nat.reduceLT, Nat.reduceAdd, Nat.reduceMul, Nat.reduceSub, Nat.reduceLeDiff, Nat.reduceEqDiff, ↓reduceIte, Int.reduceLT, Int.reduceEq, Int.reduceBNe, Int.reduceBEq, aeq, Int.reduceLE, Int.reduceNeg, Int.reduceMul, Int.reduceAdd, Int.reduceSub, Int.reduceToNat, Int.reducePow, e1]
  rw [tidy_int']
end Go.Proofs.YtbnnfmncipdlpaaDoor
