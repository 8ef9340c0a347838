/- Chapter 03: quotients of 128 bits, sums with a sign. -/
import Derived.Test.YtdlolhkeckjipaaDoorN03d
import Derived.Test.YtdlolhkeckjipaaDoorVeX
set_option linter.unusedVariables false
set_option linter.unusedSimpArgs false
set_option maxRecDepth 100000
set_option maxHeartbeats 8000000
namespace Go.Proofs.YtdlolhkeckjipaaDoor
open Go Go.Den
theorem div_high {N M K u0 y : Nat} (hN : N = M * 18446744073709551616 + u0) (hK : K = M % y * 18446744073709551616 + u0) (h0 : u0 < 18446744073709551616) (hy : 0 < y) : N / y = M / y * 18446744073709551616 + K / y ∧ N % y = K % y ∧ K / y < 18446744073709551616 := by
  have e1 := Nat.div_add_mod M y
  have e2 := Nat.div_add_mod K y
  have l1 := Nat.mod_lt M hy
  have l2 := Nat.mod_lt K hy
  have l3 : K / y < 18446744073709551616 := by
    rw [Nat.div_lt_iff_lt_mul hy]
    rw [hK]
    generalize M % y = r at *
    have := Nat.mul_le_mul_right 18446744073709551616 (show r + 1 ≤ y by omega)
    rw [Nat.mul_comm 18446744073709551616 y]
    omega
  refine ⟨?_, ?_, l3⟩ <;> clear l3
  all_goals
    generalize M / y = Q1 at *
    generalize M % y = Rm at *
    generalize K / y = Q0 at *
    generalize hr0 : K % y = R0 at *
    have e3 : y * (Q1 * 18446744073709551616 + Q0) = y * Q1 * 18446744073709551616 + y * Q0 := by rw [Nat.mul_add, Nat.mul_assoc]
    have hN' : R0 + y * (Q1 * 18446744073709551616 + Q0) = N := by
      rw [e3]
      generalize y * Q1 = A at *
      generalize y * Q0 = B at *
      omega
    have := (Nat.div_mod_unique hy).2 ⟨hN', l2⟩
  · exact this.1
  · exact this.2
theorem c64 {a n : Nat} (ha : a < 340282366920938463463374607431768211456) (hn : 0 < n) (hn2 : n < 18446744073709551616) (H : Heap) : call env 64 [.agg (wcs a), .int .u64 (n : Int)] H = some (.tup [.agg (wcs (a / n)), .int .u64 ((a % n : Nat) : Int), .int .i64 0], H) := by
  refine call_ends (fn := s64) rfl rfl (by simp [s64]) ?_
  obtain ⟨h, hh⟩ : ∃ h, h = a / 18446744073709551616 := ⟨_, rfl⟩
  obtain ⟨l, hl⟩ : ∃ l, l = a % 18446744073709551616 := ⟨_, rfl⟩
  have hr := Nat.mod_lt h (show n > 0 by omega)
  obtain ⟨K, hK⟩ : ∃ K, K = h % n * 18446744073709551616 + l := ⟨_, rfl⟩
  obtain ⟨d1, d2, d3⟩ := div_high (N := a) (M := h) (K := K) (u0 := l) (y := n) (by omega) hK (by omega) hn
  have e1 : ∀ H, call env 79 [.int .u64 ((h % n : Nat) : Int), .int .u64 (l : Int), .int .u64 (n : Int)] H = some (.tup [.int .u64 ((K / n : Nat) : Int), .int .u64 ((K % n : Nat) : Int)], H) := fun H => by
    have := c79 (h := h % n) (l := l) (y := n) hr (by omega) hn2 H
    subst hK
    exact this
  have hq := Nat.div_le_self h n
  have q1 : a / n / 18446744073709551616 = h / n := by
    rw [d1]
    generalize K / n = z at *
    omega
  have q2 : a / n % 18446744073709551616 = K / n := by
    rw [d1]
    generalize K / n = z at *
    omega
  rw [← d2] at e1
  simp only [wcs]
  rw [q1, q2, ← hh, ← hl]
  generalize K / n = z at *
  generalize a % n = r at *
  have c1 : ((n : Int) == 0) = false := by rw [beq_eq_false_iff_ne]; omega
  have c3 : ((n : Int) = 0) = False := eq_false (by omega)
  have w1 : IntKind.u64.wrap ((h : Int).tdiv (n : Int)) = ((h / n : Nat) : Int) := by
    rw [Int.tdiv_eq_ediv_of_nonneg (by omega), ← Int.natCast_ediv, wrap_u64_mod]
    generalize h / n = z at *
    omega
  have w2 : (h : Int).tmod (n : Int) = ((h % n : Nat) : Int) := by
    rw [Int.tmod_eq_emod_of_nonneg (by omega), ← Int.natCast_emod]
  simp only [s64, R1, R2, R3, R4, R5, R6, R7, R8, AV.flat, fillIn_nil, fillIn_cons, splice, AV.cells, AV.one, eqsOf, idx, SO.calls, List.reduceReplicate, Nat.reduceBEq, Nat.reduceLT, Nat.reduceAdd, Nat.reduceMul, Nat.reduceSub, Nat.reduceLeDiff, Nat.reduceEqDiff, ↓reduceIte, Int.reduceLT, Int.reduceEq, Int.reduceBNe, Int.reduceBEq, aeq, Int.reduceLE, Int.reduceNeg, Int.reduceMul, Int.reduceAdd, Int.reduceSub, Int.reduceToNat, Int.reducePow, c1, c3, e1, w1, w2, veil_un, shun_un]
  rw [tidy_still rfl]
theorem c48_over {x k : Nat} (h0 : x ≠ 0) (hx : x < 340282366920938463463374607431768211456) (hk : k ≤ 200) (h : 128 < k + blen x) (H : Heap) : call env 48 [.agg (wcs x), .int .i64 (k : Int)] H = some (.tup [.agg (wcs 0), .int .i64 2], H) := by
  refine call_ends (fn := s48) rfl rfl (by simp [s48]) ?_
  have q1 := wcs_eq x 0
  have c1 : (x == 0) = false := by simp [h0]
  rw [c1] at q1
  have hb := blen_small (n := x) (k := 128) hx
  have e1 := fun H => c68 hx H
  have n1 : ((k : Int) ≤ -128) = False := eq_false (by omega)
  have n2 : ((k : Int) < 0) = False := eq_false (by omega)
  have n3 : ((k : Int) > 128 - ((blen x : Nat) : Int)) = True := eq_true (by omega)
  have w1 := wrap_i64 (x := 128 - ((blen x : Nat) : Int)) (by omega) (by omega)
  rw [wcs_zero] at q1 ⊢
  simp only [wcs] at q1 e1 ⊢
  simp only [s48, R1, R2, R3, R4, R5, R6, R7, R8, AV.flat, fillIn_nil, fillIn_cons, splice, AV.cells, AV.one, eqsOf, idx, SO.calls, List.reduceReplicate, Nat.reduceBEq, Nat.reduceLT, Nat.reduceAdd, Nat.reduceMul, Nat.reduceSub, Nat.reduceLeDiff, Nat.reduceEqDiff, ↓reduceIte, Int.reduceLT, Int.reduceEq, Int.reduceBNe, Int.reduceBEq, aeq, Int.reduceLE, Int.reduceNeg, Int.reduceMul, Int.reduceAdd, Int.reduceSub, Int.reduceToNat, Int.reducePow, q1, n1, n2, n3, e1, w1]
  rw [tidy_still rfl]
theorem or_bit (m i : Nat) : 2 ^ (i + 1) * m ||| 2 ^ i = 2 ^ (i + 1) * m + 2 ^ i := Nat.two_pow_add_eq_or_of_lt (Nat.pow_lt_pow_right (by omega) (by omega)) m |>.symm
theorem wcs_lo {x : Nat} (h : x < 18446744073709551616) (y : AV) : wcs x = [.int .u64 0, .int .u64 (x : Int)] := wcs_small h
theorem c44 {a b : Nat} (ha : a < 340282366920938463463374607431768211456) (hb : b < 340282366920938463463374607431768211456) (hb0 : 0 < b) (H : Heap) : call env 44 [.agg (wcs a), .agg (wcs b)] H = some (.agg (wcs (a / b)), H) := by
  refine call_ends (fn := s44) rfl rfl (by simp [s44]) ?_
  by_cases hhi : b < 18446744073709551616
  · have e1 := fun H => c64 ha hb0 hhi H
    rw [wcs_small hhi]
    simp only [wcs] at e1 ⊢
    have c1 : ((0 : Int) == 0) = true := rfl
    simp only [s44, R1, R2, R3, R4, R5, R6, R7, R8, AV.flat, fillIn_nil, fillIn_cons, splice, AV.cells, AV.one, eqsOf, idx, SO.calls, List.reduceReplicate, Nat.reduceBEq, Nat.reduceLT, Nat.reduceAdd, Nat.reduceMul, Nat.reduceSub, Nat.reduceLeDiff, Nat.reduceEqDiff, ↓reduceIte, Int.reduceLT, Int.reduceEq, Int.reduceBNe, Int.reduceBEq, aeq, Int.reduceLE, Int.reduceNeg, Int.reduceMul, Int.reduceAdd, Int.reduceSub, Int.reduceToNat, Int.reducePow, c1, e1]
    rw [tidy_agg' rfl]
  · have c1 : (((b / 18446744073709551616 : Nat) : Int) == 0) = false := by rw [beq_eq_false_iff_ne]; omega
    have hq : a / b < 18446744073709551616 := by
      rw [Nat.div_lt_iff_lt_mul hb0]
      omega
    rw [wcs_small hq]
    simp only [wcs]
    simp only [s44, R1, R2, R3, R4, R5, R6, R7, R8, AV.flat, fillIn_nil, fillIn_cons, splice, AV.cells, AV.one, eqsOf, idx, SO.calls, List.reduceReplicate, Nat.reduceBEq, Nat.reduceLT, Nat.reduceAdd, Nat.reduceMul, Nat.reduceSub, Nat.reduceLeDiff, Nat.reduceEqDiff, ↓reduceIte, Int.reduceLT, Int.reduceEq, Int.reduceBNe, Int.reduceBEq, aeq, Int.reduceLE, Int.reduceNeg, Int.reduceMul, Int.reduceAdd, Int.reduceSub, Int.reduceToNat, Int.reducePow, c1]
    refine ends_loop (fun k t H' => t.length = 55 ∧ t.getD 2 .undef = .ptr H.length 0 ∧ t.getD 3 .undef = .ptr (H.length + 1) 0 ∧ t.getD 4 .undef = .ptr (H.length + 2) 0 ∧ t.getD 8 .undef = .ptr (H.length + 3) 0 ∧ k ≤ 64 ∧ t.getD 9 .undef = .int .i64 ((k : Int) - 1) ∧
      ∃ x m X, H ++ (AO.cells (wcs x) 47 true :: AO.cells (wcs b) 47 true :: AO.cells [.int .u64 0, .int .u64 0] 47 true :: AO.cells [.int .u64 0, .int .u64 ((2 ^ k * m : Nat) : Int)] 47 true :: X) = H' ∧ 2 ^ k * m * b + x = a ∧ x < b * 2 ^ k) 64 ?_ ?_
    · simp only [R1, R2, R3, R4, R5, R6, R7, R8, AV.flat, fillIn_nil, fillIn_cons, splice, AV.cells, AV.one, eqsOf, idx, SO.calls, List.reduceReplicate, Nat.reduceBEq, Nat.reduceLT, Nat.reduceAdd, Nat.reduceMul, Nat.reduceSub, Nat.reduceLeDiff, Nat.reduceEqDiff, ↓reduceIte, Int.reduceLT, Int.reduceEq, Int.reduceBNe, Int.reduceBEq, aeq, Int.reduceLE, Int.reduceNeg, Int.reduceMul, Int.reduceAdd, Int.reduceSub, Int.reduceToNat, Int.reducePow]
      refine ⟨a, 0, [], by simp only [wcs]; rfl, by omega, ?_⟩
      omega
    rintro k t _ ⟨k0, k1, k2, k3, k4, hk, k5, x, m, X, rfl, g1, g2⟩
    rw [← tm_nil t]
    by_cases h0 : k = 0
    · have a2 : ((k : Int) - 1 ≥ 0) = False := eq_false (by omega)
      have hm : 2 ^ k * m = a / b := by
        rw [h0, Nat.pow_zero, Nat.one_mul] at g1 ⊢
        rw [h0, Nat.pow_zero, Nat.mul_one] at g2
        rw [← g1, Nat.mul_comm m b, Nat.mul_add_div hb0, Nat.div_eq_of_lt g2, Nat.add_zero]
      rw [hm]
      simp only [wcs]
      simp only [R1, R2, R3, R4, R5, R6, R7, R8, AV.flat, fillIn_nil, fillIn_cons, splice, AV.cells, AV.one, eqsOf, idx, SO.calls, List.reduceReplicate, Nat.reduceBEq, Nat.reduceLT, Nat.reduceAdd, Nat.reduceMul, Nat.reduceSub, Nat.reduceLeDiff, Nat.reduceEqDiff, ↓reduceIte, Int.reduceLT, Int.reduceEq, Int.reduceBNe, Int.reduceBEq, aeq, Int.reduceLE, Int.reduceNeg, Int.reduceMul, Int.reduceAdd, Int.reduceSub, Int.reduceToNat, Int.reducePow, k0, k1, k2, k3, k4, k5, a2]
      rw [tidy_agg' rfl]
    obtain ⟨i, rfl⟩ : ∃ i, k = i + 1 := ⟨k - 1, by omega⟩
    have ei : ((i + 1 : Nat) : Int) - 1 = (i : Int) := by omega
    rw [ei] at k5
    have a2 : ((i : Int) ≥ 0) = True := eq_true (by omega)
    have w1 : IntKind.i64.wrap ((i : Int) - 1) = (i : Int) - 1 := wrap_i64 (by omega) (by omega)
    have hxa : x ≤ a := by omega
    have pi := Nat.two_pow_pos i
    have e22 : 2 ^ (i + 1) * m = 2 ^ i * (2 * m) := by rw [Nat.pow_succ, Nat.mul_assoc]
    have e23 : 2 ^ i * (2 * m + 1) = 2 ^ (i + 1) * m + 2 ^ i := by rw [Nat.mul_add, e22, Nat.mul_one]
    have b2 : b * 2 ^ (i + 1) = b * 2 ^ i + b * 2 ^ i := by rw [Nat.pow_succ, ← Nat.mul_assoc]; omega
    by_cases hs : i + blen b ≤ 128
    · have e1 := fun H => c48_left (x := b) (k := i) hs H
      have e2 := fun H => c34 x (b * 2 ^ i) H
      by_cases hc : b * 2 ^ i ≤ x
      · have a3 : (cmpI (x : Int) ((b * 2 ^ i : Nat) : Int) ≥ 0) = True := eq_true (by unfold cmpI; split <;> (try split) <;> omega)
        have e3 := fun H => c49 (x := x) (y := b * 2 ^ i) hc (by omega) H
        have p63 : 2 ^ i < 18446744073709551616 := Nat.lt_of_lt_of_le (Nat.pow_lt_pow_right (by omega) (show i < 64 by omega)) (by decide)
        have hml : 2 ^ (i + 1) * m < 18446744073709551616 := by
          refine Nat.lt_of_le_of_lt ?_ hq
          rw [Nat.le_div_iff_mul_le hb0]
          omega
        have w3 : IntKind.u64.wrap (1 * 2 ^ i) = ((2 ^ i : Nat) : Int) := by
          have := mul_cast 1 i
          rw [Nat.one_mul, Nat.mod_eq_of_lt p63] at this
          rw [wrap_u64_mod]
          exact this
        have w3' : IntKind.u64.wrap (2 ^ i) = ((2 ^ i : Nat) : Int) := by rw [← w3, Int.one_mul]
        have o1 : abits .or .u64 ((2 ^ (i + 1) * m : Nat) : Int) ((2 ^ i : Nat) : Int) = ((2 ^ i * (2 * m + 1) : Nat) : Int) := by
          rw [or_nat hml p63, or_bit, e23]
        have n1 : ((i : Int) < 0) = False := eq_false (by omega)
        have n2 : (i ≤ 64) = True := eq_true (by omega)
        generalize hP : 2 ^ (i + 1) * m = P at *
        simp only [wcs] at e1 e2 e3 ⊢
        simp only [R1, R2, R3, R4, R5, R6, R7, R8, AV.flat, fillIn_nil, fillIn_cons, splice, AV.cells, AV.one, eqsOf, idx, SO.calls, List.reduceReplicate, Nat.reduceBEq, Nat.reduceLT, Nat.reduceAdd, Nat.reduceMul, Nat.reduceSub, Nat.reduceLeDiff, Nat.reduceEqDiff, ↓reduceIte, Int.reduceLT, Int.reduceEq, Int.reduceBNe, Int.reduceBEq, aeq, Int.reduceLE, Int.reduceNeg, Int.reduceMul, Int.reduceAdd, Int.reduceSub, Int.reduceToNat, Int.reducePow, k0, k1, k2, k3, k4, k5, a2, a3, e1, e2, e3, w1, w3, w3', o1, n1, n2, veil_un, shun_un]
        refine ⟨i, by omega, by omega, rfl, x - b * 2 ^ i, 2 * m + 1, _, rfl, ?_, by omega⟩
        rw [e23, Nat.add_mul, Nat.mul_comm (2 ^ i) b]
        omega
      · have a3 : (cmpI (x : Int) ((b * 2 ^ i : Nat) : Int) ≥ 0) = False := eq_false (by unfold cmpI; split <;> (try split) <;> omega)
        generalize hP : 2 ^ (i + 1) * m = P at *
        simp only [wcs] at e1 e2 ⊢
        simp only [R1, R2, R3, R4, R5, R6, R7, R8, AV.flat, fillIn_nil, fillIn_cons, splice, AV.cells, AV.one, eqsOf, idx, SO.calls, List.reduceReplicate, Nat.reduceBEq, Nat.reduceLT, Nat.reduceAdd, Nat.reduceMul, Nat.reduceSub, Nat.reduceLeDiff, Nat.reduceEqDiff, ↓reduceIte, Int.reduceLT, Int.reduceEq, Int.reduceBNe, Int.reduceBEq, aeq, Int.reduceLE, Int.reduceNeg, Int.reduceMul, Int.reduceAdd, Int.reduceSub, Int.reduceToNat, Int.reducePow, k0, k1, k2, k3, k4, k5, a2, a3, e1, e2, w1, veil_un, shun_un]
        refine ⟨i, by omega, by omega, rfl, x, 2 * m, _, by rw [← e22], by rw [← e22]; exact g1, by omega⟩
    · have e1 := fun H => c48_over (x := b) (k := i) (by omega) hb (by omega) (by omega) H
      have hlt : x < b * 2 ^ i := by
        have h1 := blen_le (n := b) (by omega)
        have h2 : 2 ^ (blen b - 1) * 2 ^ i ≤ b * 2 ^ i := Nat.mul_le_mul_right _ h1.2
        rw [← Nat.pow_add] at h2
        have h3 : 2 ^ 128 ≤ 2 ^ (blen b - 1 + i) := Nat.pow_le_pow_right (by omega) (by omega)
        omega
      rw [wcs_zero] at e1
      generalize hP : 2 ^ (i + 1) * m = P at *
      simp only [wcs] at e1 ⊢
      simp only [R1, R2, R3, R4, R5, R6, R7, R8, AV.flat, fillIn_nil, fillIn_cons, splice, AV.cells, AV.one, eqsOf, idx, SO.calls, List.reduceReplicate, Nat.reduceBEq, Nat.reduceLT, Nat.reduceAdd, Nat.reduceMul, Nat.reduceSub, Nat.reduceLeDiff, Nat.reduceEqDiff, ↓reduceIte, Int.reduceLT, Int.reduceEq, Int.reduceBNe, Int.reduceBEq, aeq, Int.reduceLE, Int.reduceNeg, Int.reduceMul, Int.reduceAdd, Int.reduceSub, Int.reduceToNat, Int.reducePow, k0, k1, k2, k3, k4, k5, a2, e1, w1]
      refine ⟨i, by omega, by omega, rfl, x, 2 * m, _, by rw [← e22], by rw [← e22]; exact g1, by omega⟩
theorem c_add {x y b : Nat} (hb : b ≤ 1) (H : Heap) : call env 74 [.int .u64 (x : Int), .int .u64 (y : Int), .int .u64 (b : Int)] H = some (.tup [.int .u64 (((x + y + b) % 18446744073709551616 : Nat) : Int), .int .u64 (((x + y + b) / 18446744073709551616 : Nat) : Int)], H) := by
  rw [cadd64]
  unfold add64A
  simp only
  rw [if_pos (by omega)]
  simp only [Int.toNat_natCast]
theorem c59 {x y : Nat} (h : x + y < 340282366920938463463374607431768211456) (H : Heap) : call env 59 [.agg (wcs x), .agg (wcs y)] H = some (.tup [.agg (wcs (x + y)), .int .i64 0], H) := by
  obtain ⟨q, hq⟩ : ∃ q, q = (x % 18446744073709551616 + y % 18446744073709551616 + 0) / 18446744073709551616 := ⟨_, rfl⟩
  have e1 := fun H => c_add (x := x % 18446744073709551616) (y := y % 18446744073709551616) (b := 0) (by omega) H
  have e2 := fun H => c_add (x := x / 18446744073709551616) (y := y / 18446744073709551616) (b := q) (by omega) H
  have a1 : (x % 18446744073709551616 + y % 18446744073709551616 + 0) % 18446744073709551616 = (x + y) % 18446744073709551616 := by omega
  have a2 : (x / 18446744073709551616 + y / 18446744073709551616 + q) % 18446744073709551616 = (x + y) / 18446744073709551616 := by omega
  have a3 : (x / 18446744073709551616 + y / 18446744073709551616 + q) / 18446744073709551616 = 0 := by omega
  rw [a1, ← hq] at e1
  rw [a2, a3] at e2
  clear hq
  simp only [Int.natCast_zero, Int.cast_ofNat_Int] at e1 e2
  simp only [wcs]
  refine call_ends (fn := s59) rfl rfl (by simp [s59]) ?_
  simp only [s59, R1, R2, R3, R4, R5, R6, R7, R8, AV.flat, fillIn_nil, fillIn_cons, splice, AV.cells, AV.one, eqsOf, idx, SO.calls, List.reduceReplicate, Nat.reduceBEq, Nat.reduceLT, Nat.reduceAdd, Nat.reduceMul, Nat.reduceSub, Nat.reduceLeDiff, Nat.reduceEqDiff, ↓reduceIte, Int.reduceLT, Int.reduceEq, Int.reduceBNe, Int.reduceBEq, aeq, Int.reduceLE, Int.reduceNeg, Int.reduceMul, Int.reduceAdd, Int.reduceSub, Int.reduceToNat, Int.reducePow, e1, e2]
  rw [tidy_still rfl]
/-- What a sign and a size stand for. -/
def sgV (s : Bool) (w : Nat) : Int := if s = true then -(w : Int) else (w : Int)
theorem c41 (s1 s2 : Bool) {x y : Nat} (hx : x + y < 340282366920938463463374607431768211456) : ∃ s w, (∀ H, call env 41 [.agg (.bool s1 :: wcs x), .agg (.bool s2 :: wcs y)] H = some (.agg (.bool s :: wcs w), H)) ∧ sgV s w = sgV s1 x + sgV s2 y ∧ w ≤ x + y := by
  have e1 := fun H => c59 hx H
  have e2 := fun H => c34 x y H
  by_cases hs : s1 = s2
  · refine ⟨s1, x + y, fun H => ?_, by subst hs; unfold sgV; split <;> omega, by omega⟩
    have a1 : (s1 == s2) = true := by rw [beq_iff_eq]; exact hs
    refine call_ends (fn := s41) rfl rfl (by simp [s41]) ?_
    simp only [wcs] at e1 ⊢
    simp only [s41, R1, R2, R3, R4, R5, R6, R7, R8, AV.flat, fillIn_nil, fillIn_cons, splice, AV.cells, AV.one, eqsOf, idx, SO.calls, List.reduceReplicate, Nat.reduceBEq, Nat.reduceLT, Nat.reduceAdd, Nat.reduceMul, Nat.reduceSub, Nat.reduceLeDiff, Nat.reduceEqDiff, ↓reduceIte, Int.reduceLT, Int.reduceEq, Int.reduceBNe, Int.reduceBEq, aeq, Int.reduceLE, Int.reduceNeg, Int.reduceMul, Int.reduceAdd, Int.reduceSub, Int.reduceToNat, Int.reducePow, a1, e1]
    rw [tidy_agg' rfl]
  · have a1 : (s1 == s2) = false := by rw [beq_eq_false_iff_ne]; exact hs
    have hs' : (s1 = true ∧ s2 = false) ∨ (s1 = false ∧ s2 = true) := by cases s1 <;> cases s2 <;> simp at hs ⊢
    by_cases hc : x < y
    · have a2 : (cmpI (x : Int) (y : Int) < 0) = True := eq_true (by unfold cmpI; rw [if_pos (by omega)]; decide)
      have e3 := fun H => c49 (x := y) (y := x) (by omega) (by omega) H
      refine ⟨s2, y - x, fun H => ?_, ?_, by omega⟩
      · refine call_ends (fn := s41) rfl rfl (by simp [s41]) ?_
        simp only [wcs] at e2 e3 ⊢
        simp only [s41, R1, R2, R3, R4, R5, R6, R7, R8, AV.flat, fillIn_nil, fillIn_cons, splice, AV.cells, AV.one, eqsOf, idx, SO.calls, List.reduceReplicate, Nat.reduceBEq, Nat.reduceLT, Nat.reduceAdd, Nat.reduceMul, Nat.reduceSub, Nat.reduceLeDiff, Nat.reduceEqDiff, ↓reduceIte, Int.reduceLT, Int.reduceEq, Int.reduceBNe, Int.reduceBEq, aeq, Int.reduceLE, Int.reduceNeg, Int.reduceMul, Int.reduceAdd, Int.reduceSub, Int.reduceToNat, Int.reducePow, a1, a2, e2, e3]
        rw [tidy_agg' rfl]
      · rcases hs' with ⟨rfl, rfl⟩ | ⟨rfl, rfl⟩ <;> simp [sgV] <;> omega
    · have a2 : (cmpI (x : Int) (y : Int) < 0) = False := eq_false (by unfold cmpI; split <;> (try split) <;> omega)
      have e3 := fun H => c49 (x := x) (y := y) (by omega) (by omega) H
      refine ⟨s1, x - y, fun H => ?_, ?_, by omega⟩
      · refine call_ends (fn := s41) rfl rfl (by simp [s41]) ?_
        simp only [wcs] at e2 e3 ⊢
        simp only [s41, R1, R2, R3, R4, R5, R6, R7, R8, AV.flat, fillIn_nil, fillIn_cons, splice, AV.cells, AV.one, eqsOf, idx, SO.calls, List.reduceReplicate, Nat.reduceBEq, Nat.reduceLT, Nat.reduceAdd, Nat.reduceMul, Nat.reduceSub, Nat.reduceLeDiff, Nat.reduceEqDiff, ↓reduceIte, Int.reduceLT, Int.reduceEq, Int.reduceBNe, Int.reduceBEq, aeq, Int.reduceLE, Int.reduceNeg, Int.reduceMul, Int.reduceAdd, Int.reduceSub, Int.reduceToNat, Int.reducePow, a1, a2, e2, e3]
        rw [tidy_agg' rfl]
      · rcases hs' with ⟨rfl, rfl⟩ | ⟨rfl, rfl⟩ <;> simp [sgV] <;> omega
end Go.Proofs.YtdlolhkeckjipaaDoor
