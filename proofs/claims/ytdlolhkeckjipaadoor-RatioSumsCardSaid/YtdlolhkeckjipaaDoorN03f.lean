/- Chapter 03: sums, differences, products, quotients. -/
import Derived.Test.YtdlolhkeckjipaaDoorN03e
import Derived.Test.YtdlolhkeckjipaaDoorN03c
set_option linter.unusedVariables false
set_option linter.unusedSimpArgs false
set_option maxRecDepth 100000
set_option maxHeartbeats 8000000
namespace Go.Proofs.YtdlolhkeckjipaaDoor
open Go Go.Den
/-- n by d, which isn't 0, in lowest terms. -/
def lowR (n d : Int) : Int × Int × Int := lowP (decide (n * d < 0)) (n.natAbs / Nat.gcd n.natAbs d.natAbs) (d.natAbs / Nat.gcd n.natAbs d.natAbs)
theorem sgV_abs (s : Bool) (w : Nat) : (sgV s w).natAbs = w := by unfold sgV; split <;> omega
theorem low_is {s1 s2 : Bool} {x y : Nat} (hy : y ≠ 0) : lowP (s1 != s2 && (x / Nat.gcd x y != 0)) (x / Nat.gcd x y) (y / Nat.gcd x y) = lowR (sgV s1 x) (sgV s2 y) := by
  unfold lowR
  rw [sgV_abs, sgV_abs]
  congr 1
  have hg : 0 < Nat.gcd x y := Nat.gcd_pos_of_pos_right _ (by omega)
  by_cases hx : x = 0
  · subst hx
    have : sgV s1 0 = 0 := by unfold sgV; split <;> rfl
    rw [this, Int.zero_mul, Nat.zero_div]
    simp
  · have h1 : x / Nat.gcd x y ≠ 0 := by
      have := Nat.div_pos (Nat.le_of_dvd (by omega) (Nat.gcd_dvd_left x y)) hg
      omega
    have h2 : (x / Nat.gcd x y != 0) = true := by rw [bne_iff_ne]; exact h1
    rw [h2, Bool.and_true]
    have e : sgV s1 x * sgV s2 y = if s1 = s2 then ((x * y : Nat) : Int) else -((x * y : Nat) : Int) := by
      cases s1 <;> cases s2 <;> simp [sgV, Int.neg_mul, Int.mul_neg]
    have hxy : 0 < x * y := Nat.mul_pos (by omega) (by omega)
    rw [e]
    cases s1 <;> cases s2 <;> simp <;> omega
theorem c26_g (s1 s2 : Bool) {x y : Nat} (hx : x < 340282366920938463463374607431768211456) (hy : y < 340282366920938463463374607431768211456) (hy0 : y ≠ 0) (H : Heap) :
    call env 26 [.agg (.bool s1 :: wcs x), .agg (.bool s2 :: wcs y)] H = some (.tup [.agg [.int .i64 (lowR (sgV s1 x) (sgV s2 y)).1, .int .i64 (lowR (sgV s1 x) (sgV s2 y)).2.1], .int .i64 (lowR (sgV s1 x) (sgV s2 y)).2.2], H) := by
  have hg : 0 < Nat.gcd x y := Nat.gcd_pos_of_pos_right _ (by omega)
  have h2 : Nat.gcd x y ≤ y := Nat.le_of_dvd (by omega) (Nat.gcd_dvd_right x y)
  rw [← low_is hy0]
  exact c26 s1 s2 hx hy (fun H => c44 hx (by omega) hg H) (fun H => c44 hy (by omega) hg H) H
theorem sgV_times {a b : Int} : sgV (decide (a < 0) != decide (b < 0)) (a.natAbs * b.natAbs) = a * b := by
  unfold sgV
  have e : a * b = (if a < 0 then -1 else 1) * (if b < 0 then -1 else 1) * ((a.natAbs * b.natAbs : Nat) : Int) := by
    rw [Int.natCast_mul]
    by_cases ha : a < 0
    · by_cases hb : b < 0
      · rw [if_pos ha, if_pos hb, show (a.natAbs : Int) = -a by omega, show (b.natAbs : Int) = -b by omega, Int.neg_mul_neg]; simp [Int.neg_mul, Int.mul_neg]
      · rw [if_pos ha, if_neg hb, show (a.natAbs : Int) = -a by omega, show (b.natAbs : Int) = b by omega, Int.neg_mul]; simp [Int.neg_mul, Int.mul_neg]
    · by_cases hb : b < 0
      · rw [if_neg ha, if_pos hb, show (a.natAbs : Int) = a by omega, show (b.natAbs : Int) = -b by omega, Int.mul_neg]; simp [Int.neg_mul, Int.mul_neg]
      · rw [if_neg ha, if_neg hb, show (a.natAbs : Int) = a by omega, show (b.natAbs : Int) = b by omega]; simp
  rw [e]
  by_cases ha : a < 0 <;> by_cases hb : b < 0 <;> simp [ha, hb]
theorem mul126 {a b : Int} (ha : I64 a) (hb : I64 b) : a.natAbs * b.natAbs ≤ 85070591730234615865843651857942052864 := by
  unfold I64 at *
  have := Nat.mul_le_mul (show a.natAbs ≤ 9223372036854775808 by omega) (show b.natAbs ≤ 9223372036854775808 by omega)
  omega
def addR (a b c d : Int) : Int × Int × Int := if OkR a b ∧ OkR c d then lowR (a * d + c * b) (b * d) else (0, 0, 1)
def subR (a b c d : Int) : Int × Int × Int := if OkR a b ∧ OkR c d then lowR (a * d - c * b) (b * d) else (0, 0, 1)
def mulR (a b c d : Int) : Int × Int × Int := if OkR a b ∧ OkR c d then lowR (a * c) (b * d) else (0, 0, 1)
def divR (a b c d : Int) : Int × Int × Int := if OkR a b ∧ OkR c d then (if c = 0 then (0, 0, 13) else lowR (a * d) (b * c)) else (0, 0, 1)
def outR (r : Int × Int × Int) : AV := .tup [.agg [.int .i64 r.1, .int .i64 r.2.1], .int .i64 r.2.2]
theorem mul_ne {b d : Int} (hb : b > 0) (hd : d > 0) : b.natAbs * d.natAbs ≠ 0 := Nat.mul_ne_zero (by omega) (by omega)
theorem c17 {a b c d : Int} (ha : I64 a) (hb : I64 b) (hc : I64 c) (hd : I64 d) (H : Heap) : call env 17 [.agg [.int .i64 a, .int .i64 b], .agg [.int .i64 c, .int .i64 d]] H = some (outR (addR a b c d), H) := by
  have e1 := fun H => c9 ha hb H
  have e2 := fun H => c9 hc hd H
  refine call_ends (fn := s17) rfl rfl (by simp [s17]) ?_
  unfold addR outR
  by_cases h1 : OkR a b
  rotate_left
  · rw [decide_eq_false h1] at e1
    rw [if_neg (by simp [h1])]
    simp only [s17, R1, R2, R3, R4, R5, R6, R7, R8, AV.flat, fillIn_nil, fillIn_cons, splice, AV.cells, AV.one, eqsOf, idx, SO.calls, List.reduceReplicate, Nat.reduceBEq, Nat.reduceLT, Nat.reduceAdd, Nat.reduceMul, Nat.reduceSub, Nat.reduceLeDiff, Nat.reduceEqDiff, ↓reduceIte, Int.reduceLT, Int.reduceEq, Int.reduceBNe, Int.reduceBEq, aeq, Int.reduceLE, Int.reduceNeg, Int.reduceMul, Int.reduceAdd, Int.reduceSub, Int.reduceToNat, Int.reducePow, e1]
    rw [tidy_still rfl]
  by_cases h2 : OkR c d
  rotate_left
  · rw [decide_eq_true h1] at e1
    rw [decide_eq_false h2] at e2
    rw [if_neg (by simp [h2])]
    simp only [s17, R1, R2, R3, R4, R5, R6, R7, R8, AV.flat, fillIn_nil, fillIn_cons, splice, AV.cells, AV.one, eqsOf, idx, SO.calls, List.reduceReplicate, Nat.reduceBEq, Nat.reduceLT, Nat.reduceAdd, Nat.reduceMul, Nat.reduceSub, Nat.reduceLeDiff, Nat.reduceEqDiff, ↓reduceIte, Int.reduceLT, Int.reduceEq, Int.reduceBNe, Int.reduceBEq, aeq, Int.reduceLE, Int.reduceNeg, Int.reduceMul, Int.reduceAdd, Int.reduceSub, Int.reduceToNat, Int.reducePow, e1, e2]
    rw [tidy_still rfl]
  rw [decide_eq_true h1] at e1
  rw [decide_eq_true h2] at e2
  rw [if_pos ⟨h1, h2⟩]
  have e3 := fun H => c27 ha hd H
  have m1 := mul126 ha hd
  have t1 := sgV_times (a := a) (b := d)
  have e4 := fun H => c27 hc hb H
  have m2 := mul126 hc hb
  have t2 := sgV_times (a := c) (b := b)
  have e5 := fun H => c27 hb hd H
  have m3 := mul126 hb hd
  have t3 := sgV_times (a := b) (b := d)
  have n1 := mul_ne h1.1 h2.1
  generalize a.natAbs * d.natAbs = x at *
  generalize c.natAbs * b.natAbs = y at *
  generalize b.natAbs * d.natAbs = z at *
  generalize (decide (a < 0) != decide (d < 0)) = s1' at *
  generalize (decide (c < 0) != decide (b < 0)) = s2' at *
  generalize (decide (b < 0) != decide (d < 0)) = s3' at *
  obtain ⟨s, w, e6, hv, hw⟩ := c41 s1' s2' (x := x) (y := y) (by omega)
  have e7 := fun H => c26_g s s3' (x := w) (y := z) (by omega) (by omega) n1 H
  rw [hv, t1, t2, t3] at e7
  simp only [wcs] at e3 e4 e5 e6 e7 ⊢
  generalize lowR (a * d + c * b) (b * d) = r at *
  simp only [s17, R1, R2, R3, R4, R5, R6, R7, R8, AV.flat, fillIn_nil, fillIn_cons, splice, AV.cells, AV.one, eqsOf, idx, SO.calls, List.reduceReplicate, Nat.reduceBEq, Nat.reduceLT, Nat.reduceAdd, Nat.reduceMul, Nat.reduceSub, Nat.reduceLeDiff, Nat.reduceEqDiff, ↓reduceIte, Int.reduceLT, Int.reduceEq, Int.reduceBNe, Int.reduceBEq, aeq, Int.reduceLE, Int.reduceNeg, Int.reduceMul, Int.reduceAdd, Int.reduceSub, Int.reduceToNat, Int.reducePow, e1, e2, e3, e4, e5, e6, e7, veil_un, shun_un]
  rw [tidy_still rfl]
theorem c18 {a b c d : Int} (ha : I64 a) (hb : I64 b) (hc : I64 c) (hd : I64 d) (H : Heap) : call env 18 [.agg [.int .i64 a, .int .i64 b], .agg [.int .i64 c, .int .i64 d]] H = some (outR (subR a b c d), H) := by
  have e1 := fun H => c9 ha hb H
  have e2 := fun H => c9 hc hd H
  refine call_ends (fn := s18) rfl rfl (by simp [s18]) ?_
  unfold subR outR
  by_cases h1 : OkR a b
  rotate_left
  · rw [decide_eq_false h1] at e1
    rw [if_neg (by simp [h1])]
    simp only [s18, R1, R2, R3, R4, R5, R6, R7, R8, AV.flat, fillIn_nil, fillIn_cons, splice, AV.cells, AV.one, eqsOf, idx, SO.calls, List.reduceReplicate, Nat.reduceBEq, Nat.reduceLT, Nat.reduceAdd, Nat.reduceMul, Nat.reduceSub, Nat.reduceLeDiff, Nat.reduceEqDiff, ↓reduceIte, Int.reduceLT, Int.reduceEq, Int.reduceBNe, Int.reduceBEq, aeq, Int.reduceLE, Int.reduceNeg, Int.reduceMul, Int.reduceAdd, Int.reduceSub, Int.reduceToNat, Int.reducePow, e1]
    rw [tidy_still rfl]
  by_cases h2 : OkR c d
  rotate_left
  · rw [decide_eq_true h1] at e1
    rw [decide_eq_false h2] at e2
    rw [if_neg (by simp [h2])]
    simp only [s18, R1, R2, R3, R4, R5, R6, R7, R8, AV.flat, fillIn_nil, fillIn_cons, splice, AV.cells, AV.one, eqsOf, idx, SO.calls, List.reduceReplicate, Nat.reduceBEq, Nat.reduceLT, Nat.reduceAdd, Nat.reduceMul, Nat.reduceSub, Nat.reduceLeDiff, Nat.reduceEqDiff, ↓reduceIte, Int.reduceLT, Int.reduceEq, Int.reduceBNe, Int.reduceBEq, aeq, Int.reduceLE, Int.reduceNeg, Int.reduceMul, Int.reduceAdd, Int.reduceSub, Int.reduceToNat, Int.reducePow, e1, e2]
    rw [tidy_still rfl]
  rw [decide_eq_true h1] at e1
  rw [decide_eq_true h2] at e2
  rw [if_pos ⟨h1, h2⟩]
  have e3 := fun H => c27 ha hd H
  have m1 := mul126 ha hd
  have t1 := sgV_times (a := a) (b := d)
  have e4 := fun H => c27 hc hb H
  have m2 := mul126 hc hb
  have t2 := sgV_times (a := c) (b := b)
  have e5 := fun H => c27 hb hd H
  have m3 := mul126 hb hd
  have t3 := sgV_times (a := b) (b := d)
  have n1 := mul_ne h1.1 h2.1
  generalize a.natAbs * d.natAbs = x at *
  generalize c.natAbs * b.natAbs = y at *
  generalize b.natAbs * d.natAbs = z at *
  generalize (decide (a < 0) != decide (d < 0)) = s1' at *
  generalize (decide (c < 0) != decide (b < 0)) = s2' at *
  generalize (decide (b < 0) != decide (d < 0)) = s3' at *
  obtain ⟨s, w, e6, hv, hw⟩ := c41 s1' (!s2') (x := x) (y := y) (by omega)
  have hng : sgV (!s2') y = -(sgV s2' y) := by cases s2' <;> simp [sgV]
  have e7 := fun H => c26_g s s3' (x := w) (y := z) (by omega) (by omega) n1 H
  rw [hv, hng, t1, t2, t3, ← Int.sub_eq_add_neg] at e7
  simp only [wcs] at e3 e4 e5 e6 e7 ⊢
  generalize lowR (a * d - c * b) (b * d) = r at *
  simp only [s18, R1, R2, R3, R4, R5, R6, R7, R8, AV.flat, fillIn_nil, fillIn_cons, splice, AV.cells, AV.one, eqsOf, idx, SO.calls, List.reduceReplicate, Nat.reduceBEq, Nat.reduceLT, Nat.reduceAdd, Nat.reduceMul, Nat.reduceSub, Nat.reduceLeDiff, Nat.reduceEqDiff, ↓reduceIte, Int.reduceLT, Int.reduceEq, Int.reduceBNe, Int.reduceBEq, aeq, Int.reduceLE, Int.reduceNeg, Int.reduceMul, Int.reduceAdd, Int.reduceSub, Int.reduceToNat, Int.reducePow, e1, e2, e3, e4, e5, e6, e7, veil_un, shun_un]
  rw [tidy_still rfl]
theorem c19 {a b c d : Int} (ha : I64 a) (hb : I64 b) (hc : I64 c) (hd : I64 d) (H : Heap) : call env 19 [.agg [.int .i64 a, .int .i64 b], .agg [.int .i64 c, .int .i64 d]] H = some (outR (mulR a b c d), H) := by
  have e1 := fun H => c9 ha hb H
  have e2 := fun H => c9 hc hd H
  refine call_ends (fn := s19) rfl rfl (by simp [s19]) ?_
  unfold mulR outR
  by_cases h1 : OkR a b
  rotate_left
  · rw [decide_eq_false h1] at e1
    rw [if_neg (by simp [h1])]
    simp only [s19, R1, R2, R3, R4, R5, R6, R7, R8, AV.flat, fillIn_nil, fillIn_cons, splice, AV.cells, AV.one, eqsOf, idx, SO.calls, List.reduceReplicate, Nat.reduceBEq, Nat.reduceLT, Nat.reduceAdd, Nat.reduceMul, Nat.reduceSub, Nat.reduceLeDiff, Nat.reduceEqDiff, ↓reduceIte, Int.reduceLT, Int.reduceEq, Int.reduceBNe, Int.reduceBEq, aeq, Int.reduceLE, Int.reduceNeg, Int.reduceMul, Int.reduceAdd, Int.reduceSub, Int.reduceToNat, Int.reducePow, e1]
    rw [tidy_still rfl]
  by_cases h2 : OkR c d
  rotate_left
  · rw [decide_eq_true h1] at e1
    rw [decide_eq_false h2] at e2
    rw [if_neg (by simp [h2])]
    simp only [s19, R1, R2, R3, R4, R5, R6, R7, R8, AV.flat, fillIn_nil, fillIn_cons, splice, AV.cells, AV.one, eqsOf, idx, SO.calls, List.reduceReplicate, Nat.reduceBEq, Nat.reduceLT, Nat.reduceAdd, Nat.reduceMul, Nat.reduceSub, Nat.reduceLeDiff, Nat.reduceEqDiff, ↓reduceIte, Int.reduceLT, Int.reduceEq, Int.reduceBNe, Int.reduceBEq, aeq, Int.reduceLE, Int.reduceNeg, Int.reduceMul, Int.reduceAdd, Int.reduceSub, Int.reduceToNat, Int.reducePow, e1, e2]
    rw [tidy_still rfl]
  rw [decide_eq_true h1] at e1
  rw [decide_eq_true h2] at e2
  rw [if_pos ⟨h1, h2⟩]
  have e3 := fun H => c27 ha hc H
  have m1 := mul126 ha hc
  have t1 := sgV_times (a := a) (b := c)
  have e5 := fun H => c27 hb hd H
  have m3 := mul126 hb hd
  have t3 := sgV_times (a := b) (b := d)
  have n1 := mul_ne h1.1 h2.1
  generalize a.natAbs * c.natAbs = x at *
  generalize b.natAbs * d.natAbs = z at *
  generalize (decide (a < 0) != decide (c < 0)) = s1' at *
  generalize (decide (b < 0) != decide (d < 0)) = s3' at *
  have e7 := fun H => c26_g s1' s3' (x := x) (y := z) (by omega) (by omega) n1 H
  rw [t1, t3] at e7
  simp only [wcs] at e3 e5 e7 ⊢
  generalize lowR (a * c) (b * d) = r at *
  simp only [s19, R1, R2, R3, R4, R5, R6, R7, R8, AV.flat, fillIn_nil, fillIn_cons, splice, AV.cells, AV.one, eqsOf, idx, SO.calls, List.reduceReplicate, Nat.reduceBEq, Nat.reduceLT, Nat.reduceAdd, Nat.reduceMul, Nat.reduceSub, Nat.reduceLeDiff, Nat.reduceEqDiff, ↓reduceIte, Int.reduceLT, Int.reduceEq, Int.reduceBNe, Int.reduceBEq, aeq, Int.reduceLE, Int.reduceNeg, Int.reduceMul, Int.reduceAdd, Int.reduceSub, Int.reduceToNat, Int.reducePow, e1, e2, e3, e5, e7, veil_un, shun_un]
  rw [tidy_still rfl]
theorem c20 {a b c d : Int} (ha : I64 a) (hb : I64 b) (hc : I64 c) (hd : I64 d) (H : Heap) : call env 20 [.agg [.int .i64 a, .int .i64 b], .agg [.int .i64 c, .int .i64 d]] H = some (outR (divR a b c d), H) := by
  have e1 := fun H => c9 ha hb H
  have e2 := fun H => c9 hc hd H
  refine call_ends (fn := s20) rfl rfl (by simp [s20]) ?_
  unfold divR outR
  by_cases h1 : OkR a b
  rotate_left
  · rw [decide_eq_false h1] at e1
    rw [if_neg (by simp [h1])]
    simp only [s20, R1, R2, R3, R4, R5, R6, R7, R8, AV.flat, fillIn_nil, fillIn_cons, splice, AV.cells, AV.one, eqsOf, idx, SO.calls, List.reduceReplicate, Nat.reduceBEq, Nat.reduceLT, Nat.reduceAdd, Nat.reduceMul, Nat.reduceSub, Nat.reduceLeDiff, Nat.reduceEqDiff, ↓reduceIte, Int.reduceLT, Int.reduceEq, Int.reduceBNe, Int.reduceBEq, aeq, Int.reduceLE, Int.reduceNeg, Int.reduceMul, Int.reduceAdd, Int.reduceSub, Int.reduceToNat, Int.reducePow, e1]
    rw [tidy_still rfl]
  by_cases h2 : OkR c d
  rotate_left
  · rw [decide_eq_true h1] at e1
    rw [decide_eq_false h2] at e2
    rw [if_neg (by simp [h2])]
    simp only [s20, R1, R2, R3, R4, R5, R6, R7, R8, AV.flat, fillIn_nil, fillIn_cons, splice, AV.cells, AV.one, eqsOf, idx, SO.calls, List.reduceReplicate, Nat.reduceBEq, Nat.reduceLT, Nat.reduceAdd, Nat.reduceMul, Nat.reduceSub, Nat.reduceLeDiff, Nat.reduceEqDiff, ↓reduceIte, Int.reduceLT, Int.reduceEq, Int.reduceBNe, Int.reduceBEq, aeq, Int.reduceLE, Int.reduceNeg, Int.reduceMul, Int.reduceAdd, Int.reduceSub, Int.reduceToNat, Int.reducePow, e1, e2]
    rw [tidy_still rfl]
  rw [decide_eq_true h1] at e1
  rw [decide_eq_true h2] at e2
  rw [if_pos ⟨h1, h2⟩]
  by_cases hc0 : c = 0
  · subst hc0
    rw [if_pos rfl]
    simp only [s20, R1, R2, R3, R4, R5, R6, R7, R8, AV.flat, fillIn_nil, fillIn_cons, splice, AV.cells, AV.one, eqsOf, idx, SO.calls, List.reduceReplicate, Nat.reduceBEq, Nat.reduceLT, Nat.reduceAdd, Nat.reduceMul, Nat.reduceSub, Nat.reduceLeDiff, Nat.reduceEqDiff, ↓reduceIte, Int.reduceLT, Int.reduceEq, Int.reduceBNe, Int.reduceBEq, aeq, Int.reduceLE, Int.reduceNeg, Int.reduceMul, Int.reduceAdd, Int.reduceSub, Int.reduceToNat, Int.reducePow, e1, e2]
    rw [tidy_still rfl]
  rw [if_neg hc0]
  have c0 : (c == 0) = false := by rw [beq_eq_false_iff_ne]; exact hc0
  have e3 := fun H => c27 ha hd H
  have m1 := mul126 ha hd
  have t1 := sgV_times (a := a) (b := d)
  have e5 := fun H => c27 hb hc H
  have m3 := mul126 hb hc
  have t3 := sgV_times (a := b) (b := c)
  have n1 : b.natAbs * c.natAbs ≠ 0 := Nat.mul_ne_zero (by have := h1.1; omega) (by omega)
  generalize a.natAbs * d.natAbs = x at *
  generalize b.natAbs * c.natAbs = z at *
  generalize (decide (a < 0) != decide (d < 0)) = s1' at *
  generalize (decide (b < 0) != decide (c < 0)) = s3' at *
  have e7 := fun H => c26_g s1' s3' (x := x) (y := z) (by omega) (by omega) n1 H
  rw [t1, t3] at e7
  simp only [wcs] at e3 e5 e7 ⊢
  generalize lowR (a * d) (b * c) = r at *
  simp only [s20, R1, R2, R3, R4, R5, R6, R7, R8, AV.flat, fillIn_nil, fillIn_cons, splice, AV.cells, AV.one, eqsOf, idx, SO.calls, List.reduceReplicate, Nat.reduceBEq, Nat.reduceLT, Nat.reduceAdd, Nat.reduceMul, Nat.reduceSub, Nat.reduceLeDiff, Nat.reduceEqDiff, ↓reduceIte, Int.reduceLT, Int.reduceEq, Int.reduceBNe, Int.reduceBEq, aeq, Int.reduceLE, Int.reduceNeg, Int.reduceMul, Int.reduceAdd, Int.reduceSub, Int.reduceToNat, Int.reducePow, e1, e2, e3, e5, e7, c0, veil_un, shun_un]
  rw [tidy_still rfl]
end Go.Proofs.YtdlolhkeckjipaaDoor
