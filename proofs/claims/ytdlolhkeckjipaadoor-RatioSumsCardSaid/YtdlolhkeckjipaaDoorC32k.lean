/- Chapter 32: the greatest common divisor of 128 bits, by halves and differences. -/
import Derived.Test.YtdlolhkeckjipaaDoorC32j
set_option linter.unusedVariables false
set_option linter.unusedSimpArgs false
set_option maxRecDepth 100000
set_option maxHeartbeats 8000000
namespace Go.Proofs.YtdlolhkeckjipaaDoor
open Go Go.Den
theorem cmpI_pos {a b : Int} : cmpI a b > 0 ↔ a > b := by unfold cmpI; split <;> (try split) <;> omega
theorem odd_small {k m : Nat} (h : 2 ^ k * (2 * m + 1) < 340282366920938463463374607431768211456) : k < 128 ∧ 2 * m + 1 ≤ 2 ^ k * (2 * m + 1) := by
  have hp := Nat.two_pow_pos k
  refine ⟨?_, Nat.le_mul_of_pos_left _ hp⟩
  refine Decidable.byContradiction fun hk => ?_
  have h1 : 2 ^ 128 ≤ 2 ^ k := Nat.pow_le_pow_right (by omega) (by omega)
  have h2 : 2 ^ k ≤ 2 ^ k * (2 * m + 1) := Nat.le_mul_of_pos_right _ (by omega)
  omega
theorem c31 {x y : Nat} (hx : x < 340282366920938463463374607431768211456) (hy : y < 340282366920938463463374607431768211456) (H : Heap) : call env 31 [.agg (wcs x), .agg (wcs y)] H = some (.agg (wcs (Nat.gcd x y)), H) := by
  refine call_ends (fn := s31) rfl rfl (by simp [s31]) ?_
  have q1 := wcs_eq x 0
  have q2 := wcs_eq y 0
  by_cases hx0 : x = 0
  · rw [show (x == 0) = true by simp [hx0]] at q1
    rw [show Nat.gcd x y = y by rw [hx0, Nat.gcd_zero_left]]
    simp only [wcs_zero] at q1
    simp only [wcs] at q1 ⊢
    simp only [s31, R1, R2, R3, R4, R5, R6, R7, R8, AV.flat, fillIn_nil, fillIn_cons, splice, AV.cells, AV.one, eqsOf, idx, SO.calls, List.reduceReplicate, Nat.reduceBEq, Nat.reduceLT, Nat.reduceAdd, Nat.reduceMul, Nat.reduceSub, Nat.reduceLeDiff, Nat.reduceEqDiff, ↓reduceIte, Int.reduceLT, Int.reduceEq, Int.reduceBNe, Int.reduceBEq, aeq, Int.reduceLE, Int.reduceNeg, Int.reduceMul, Int.reduceAdd, Int.reduceSub, Int.reduceToNat, Int.reducePow, q1]
    rw [tidy_agg' rfl]
  rw [show (x == 0) = false by simp [hx0]] at q1
  by_cases hy0 : y = 0
  · rw [show (y == 0) = true by simp [hy0]] at q2
    rw [show Nat.gcd x y = x by rw [hy0, Nat.gcd_zero_right]]
    simp only [wcs_zero] at q1 q2
    simp only [wcs] at q1 q2 ⊢
    simp only [s31, R1, R2, R3, R4, R5, R6, R7, R8, AV.flat, fillIn_nil, fillIn_cons, splice, AV.cells, AV.one, eqsOf, idx, SO.calls, List.reduceReplicate, Nat.reduceBEq, Nat.reduceLT, Nat.reduceAdd, Nat.reduceMul, Nat.reduceSub, Nat.reduceLeDiff, Nat.reduceEqDiff, ↓reduceIte, Int.reduceLT, Int.reduceEq, Int.reduceBNe, Int.reduceBEq, aeq, Int.reduceLE, Int.reduceNeg, Int.reduceMul, Int.reduceAdd, Int.reduceSub, Int.reduceToNat, Int.reducePow, q1, q2]
    rw [tidy_agg' rfl]
  rw [show (y == 0) = false by simp [hy0]] at q2
  obtain ⟨i, m, hm⟩ := odd_part x (by omega)
  obtain ⟨j, n, hn⟩ := odd_part y (by omega)
  have e1 := fun H => c47 (k := i) (m := m) (by omega) H
  have e2 := fun H => c47 (k := j) (m := n) (by omega) H
  have e3 := fun H => c48_right (x := x) (k := i) hx (odd_small (by rw [← hm]; exact hx)).1 H
  rw [← hm] at e1
  rw [← hn] at e2
  have hdi : x / 2 ^ i = 2 * m + 1 := by rw [hm, Nat.mul_comm]; exact Nat.mul_div_cancel _ (Nat.two_pow_pos i)
  rw [hdi] at e3
  obtain ⟨hi, _⟩ := odd_small (by rw [← hm]; exact hx)
  obtain ⟨hj, _⟩ := odd_small (by rw [← hn]; exact hy)
  have hgxy : Nat.gcd x y = 2 ^ min i j * Nat.gcd (2 * m + 1) (2 * n + 1) := by rw [hm, hn, gcd_parts]
  have hg0 : Nat.gcd (2 * m + 1) y = Nat.gcd (2 * m + 1) (2 * n + 1) := by rw [hn, gcd_odd _ m j _ rfl]
  have ha1 : 2 * m + 1 ≤ x := by rw [hm]; exact Nat.le_mul_of_pos_left _ (Nat.two_pow_pos i)
  have hgle : Nat.gcd x y ≤ x := Nat.gcd_le_left y (by omega)
  have wi : IntKind.i64.wrap (0 - (i : Int)) = -(i : Int) := by rw [wrap_i64 (by omega) (by omega)]; omega
  have hmin : min (i : Int) (j : Int) = ((min i j : Nat) : Int) := by omega
  simp only [wcs_zero] at q1 q2
  simp only [wcs] at q1 q2 e1 e2 e3 ⊢
  simp only [s31, R1, R2, R3, R4, R5, R6, R7, R8, AV.flat, fillIn_nil, fillIn_cons, splice, AV.cells, AV.one, eqsOf, idx, SO.calls, List.reduceReplicate, Nat.reduceBEq, Nat.reduceLT, Nat.reduceAdd, Nat.reduceMul, Nat.reduceSub, Nat.reduceLeDiff, Nat.reduceEqDiff, ↓reduceIte, Int.reduceLT, Int.reduceEq, Int.reduceBNe, Int.reduceBEq, aeq, Int.reduceLE, Int.reduceNeg, Int.reduceMul, Int.reduceAdd, Int.reduceSub, Int.reduceToNat, Int.reducePow, q1, q2, e1, e2, e3, wi, hmin, veil_un, shun_un]
  refine ends_loop (fun k t H' => t.length = 57 ∧ (t.getD 2 .undef = .ptr H.length 0 ∧ t.getD 3 .undef = .ptr (H.length + 1) 0 ∧ t.getD 4 .undef = .ptr (H.length + 2) 0 ∧ t.getD 5 .undef = .int .i64 ((min i j : Nat) : Int)) ∧ ∃ p b : Nat, H' = H ++ [.cells (wcs (2 * p + 1)) 47 true, .cells (wcs b) 47 true, .cells [.int .u64 0, .int .u64 0] 47 true] ∧ k = 2 * p + 1 + b ∧ (2 * p + 1 < 340282366920938463463374607431768211456 ∧ b < 340282366920938463463374607431768211456) ∧ Nat.gcd (2 * p + 1) b = Nat.gcd (2 * m + 1) y) (2 * m + 1 + y) ?_ ?_
  · simp only [R1, R2, R3, R4, R5, R6, R7, R8, AV.flat, fillIn_nil, fillIn_cons, splice, AV.cells, AV.one, eqsOf, idx, SO.calls, List.reduceReplicate, Nat.reduceBEq, Nat.reduceLT, Nat.reduceAdd, Nat.reduceMul, Nat.reduceSub, Nat.reduceLeDiff, Nat.reduceEqDiff, ↓reduceIte, Int.reduceLT, Int.reduceEq, Int.reduceBNe, Int.reduceBEq, aeq, Int.reduceLE, Int.reduceNeg, Int.reduceMul, Int.reduceAdd, Int.reduceSub, Int.reduceToNat, Int.reducePow]
    exact ⟨m, y, by simp only [wcs], by omega, by omega, rfl⟩
  rintro k t _ ⟨g1, ⟨g2, g3, g4, g5⟩, p, b, rfl, rfl, ⟨hp, hb⟩, hg⟩
  rw [← tm_nil t]
  have q3 := wcs_eq b 0
  by_cases hb0 : b = 0
  · rw [hb0, Nat.gcd_zero_right, hg0] at hg
    rw [← hg] at hgxy
    have hbl : min i j + blen (2 * p + 1) ≤ 128 := by
      obtain ⟨b1, b2⟩ := blen_le (n := 2 * p + 1) (by omega)
      have h1 : 2 ^ min i j * 2 ^ (blen (2 * p + 1) - 1) ≤ Nat.gcd x y := by rw [hgxy]; exact Nat.mul_le_mul_left _ b2
      rw [← Nat.pow_add] at h1
      refine Decidable.byContradiction fun hc => ?_
      have h2 : 2 ^ 128 ≤ 2 ^ (min i j + (blen (2 * p + 1) - 1)) := Nat.pow_le_pow_right (by omega) (by omega)
      omega
    have e4 := fun H => c48_left (x := 2 * p + 1) (k := min i j) hbl H
    rw [show (2 * p + 1) * 2 ^ min i j = Nat.gcd x y by rw [hgxy, Nat.mul_comm]] at e4
    rw [show (b == 0) = true by simp [hb0]] at q3
    simp only [wcs_zero] at q3
    simp only [wcs] at q3 e4 ⊢
    simp only [R1, R2, R3, R4, R5, R6, R7, R8, AV.flat, fillIn_nil, fillIn_cons, splice, AV.cells, AV.one, eqsOf, idx, SO.calls, List.reduceReplicate, Nat.reduceBEq, Nat.reduceLT, Nat.reduceAdd, Nat.reduceMul, Nat.reduceSub, Nat.reduceLeDiff, Nat.reduceEqDiff, ↓reduceIte, Int.reduceLT, Int.reduceEq, Int.reduceBNe, Int.reduceBEq, aeq, Int.reduceLE, Int.reduceNeg, Int.reduceMul, Int.reduceAdd, Int.reduceSub, Int.reduceToNat, Int.reducePow, g1, g2, g3, g4, g5, q3, e4]
    rw [tidy_agg' rfl]
  rw [show (b == 0) = false by simp [hb0]] at q3
  obtain ⟨l, r, hr⟩ := odd_part b (by omega)
  have hr1 : 2 * r + 1 ≤ b := by rw [hr]; exact Nat.le_mul_of_pos_left _ (Nat.two_pow_pos l)
  have hgb : Nat.gcd (2 * p + 1) (2 * r + 1) = Nat.gcd (2 * m + 1) y := by rw [← hg, hr, gcd_odd _ p l _ rfl]
  have hdb : b / 2 ^ l = 2 * r + 1 := by rw [hr, Nat.mul_comm]; exact Nat.mul_div_cancel _ (Nat.two_pow_pos l)
  obtain ⟨hl, _⟩ := odd_small (by rw [← hr]; exact hb)
  have e5 := fun H => c47 (k := l) (m := r) (by omega) H
  rw [← hr] at e5
  have e6 := fun H => c48_right (x := b) (k := l) hb hl H
  rw [hdb] at e6
  have wl : IntKind.i64.wrap (0 - (l : Int)) = -(l : Int) := by rw [wrap_i64 (by omega) (by omega)]; omega
  have e7 := fun H => c34 (2 * p + 1) (2 * r + 1) H
  by_cases hc : 2 * p + 1 > 2 * r + 1
  · have c1 : (cmpI ((2 * p + 1 : Nat) : Int) ((2 * r + 1 : Nat) : Int) > 0) = True := eq_true (cmpI_pos.2 (by omega))
    have e8 := fun H => c49 (x := 2 * p + 1) (y := 2 * r + 1) (by omega) hp H
    have hgn : Nat.gcd (2 * r + 1) (2 * p + 1 - (2 * r + 1)) = Nat.gcd (2 * m + 1) y := by rw [gcd_less (by omega), Nat.gcd_comm, hgb]
    simp only [wcs_zero] at q3
    generalize cmpI ((2 * p + 1 : Nat) : Int) ((2 * r + 1 : Nat) : Int) = z at *
    simp only [wcs] at q3 e5 e6 e7 e8 ⊢
    simp only [R1, R2, R3, R4, R5, R6, R7, R8, AV.flat, fillIn_nil, fillIn_cons, splice, AV.cells, AV.one, eqsOf, idx, SO.calls, List.reduceReplicate, Nat.reduceBEq, Nat.reduceLT, Nat.reduceAdd, Nat.reduceMul, Nat.reduceSub, Nat.reduceLeDiff, Nat.reduceEqDiff, ↓reduceIte, Int.reduceLT, Int.reduceEq, Int.reduceBNe, Int.reduceBEq, aeq, Int.reduceLE, Int.reduceNeg, Int.reduceMul, Int.reduceAdd, Int.reduceSub, Int.reduceToNat, Int.reducePow, g1, g2, g3, g4, g5, q3, e5, e6, e7, e8, wl, c1, veil_un, shun_un]
    exact ⟨_, by omega, r, 2 * p + 1 - (2 * r + 1), rfl, rfl, by omega, hgn⟩
  · have c1 : (cmpI ((2 * p + 1 : Nat) : Int) ((2 * r + 1 : Nat) : Int) > 0) = False := eq_false (fun h => hc (by have := cmpI_pos.1 h; omega))
    have e8 := fun H => c49 (x := 2 * r + 1) (y := 2 * p + 1) (by omega) (by omega) H
    have hgn : Nat.gcd (2 * p + 1) (2 * r + 1 - (2 * p + 1)) = Nat.gcd (2 * m + 1) y := by rw [gcd_less (by omega), hgb]
    simp only [wcs_zero] at q3
    generalize cmpI ((2 * p + 1 : Nat) : Int) ((2 * r + 1 : Nat) : Int) = z at *
    simp only [wcs] at q3 e5 e6 e7 e8 ⊢
    simp only [R1, R2, R3, R4, R5, R6, R7, R8, AV.flat, fillIn_nil, fillIn_cons, splice, AV.cells, AV.one, eqsOf, idx, SO.calls, List.reduceReplicate, Nat.reduceBEq, Nat.reduceLT, Nat.reduceAdd, Nat.reduceMul, Nat.reduceSub, Nat.reduceLeDiff, Nat.reduceEqDiff, ↓reduceIte, Int.reduceLT, Int.reduceEq, Int.reduceBNe, Int.reduceBEq, aeq, Int.reduceLE, Int.reduceNeg, Int.reduceMul, Int.reduceAdd, Int.reduceSub, Int.reduceToNat, Int.reducePow, g1, g2, g3, g4, g5, q3, e5, e6, e7, e8, wl, c1, veil_un, shun_un]
    exact ⟨_, by omega, p, 2 * r + 1 - (2 * p + 1), rfl, rfl, by omega, hgn⟩
end Go.Proofs.YtdlolhkeckjipaaDoor
