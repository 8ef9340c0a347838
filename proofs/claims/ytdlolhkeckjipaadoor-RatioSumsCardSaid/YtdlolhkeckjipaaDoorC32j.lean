/- Chapter 32: comparisons and differences of 128 bits; the greatest common divisor. -/
import Derived.Test.YtdlolhkeckjipaaDoorC32h
set_option linter.unusedVariables false
set_option linter.unusedSimpArgs false
set_option maxRecDepth 100000
set_option maxHeartbeats 8000000
namespace Go.Proofs.YtdlolhkeckjipaaDoor
open Go Go.Den
def IntC (n : Int) : List AV := [.int .i64 n]
theorem int_cel : Cel 1 IntC := ⟨fun _ => rfl, fun _ => rfl, fun _ => rfl, by decide⟩
def orI (l : List Int) : Int := (l.find? fun x => x != 0).getD 0
theorem c50 {H : Heap} {v : AV} {l : List Int} (hs : SlOf H 1 IntC v l) (hn : l.length ≤ 1000000) : call env 50 [v] H = some (.int .i64 (orI l), H) := by
  have l1 := hs.lenOf
  refine call_ends (fn := s50) rfl rfl (by simp [s50]) ?_
  simp only [s50, R1, R2, R3, R4, R5, R6, R7, R8, AV.flat, fillIn_nil, fillIn_cons, splice, AV.cells, AV.one, eqsOf, idx, SO.calls, List.reduceReplicate, Nat.reduceBEq, Nat.reduceLT, Nat.reduceAdd, Nat.reduceMul, Nat.reduceSub, Nat.reduceLeDiff, Nat.reduceEqDiff, ↓reduceIte, Int.reduceLT, Int.reduceEq, Int.reduceBNe, Int.reduceBEq, aeq, Int.reduceLE, Int.reduceNeg, Int.reduceMul, Int.reduceAdd, Int.reduceSub, Int.reduceToNat, Int.reducePow, l1]
  refine ends_loop (fun k t H' => t.length = 18 ∧ H = H' ∧ (t.getD 3 .undef = .int .i64 0 ∧ t.getD 6 .undef = v ∧ t.getD 7 .undef = .int .i64 (l.length : Int)) ∧ ∃ i : Nat, i ≤ l.length ∧ k = l.length - i ∧ t.getD 8 .undef = .int .i64 (i : Int) ∧ orI l = orI (l.drop i)) l.length ?_ ?_
  · simp only [R1, R2, R3, R4, R5, R6, R7, R8, AV.flat, fillIn_nil, fillIn_cons, splice, AV.cells, AV.one, eqsOf, idx, SO.calls, List.reduceReplicate, Nat.reduceBEq, Nat.reduceLT, Nat.reduceAdd, Nat.reduceMul, Nat.reduceSub, Nat.reduceLeDiff, Nat.reduceEqDiff, ↓reduceIte, Int.reduceLT, Int.reduceEq, Int.reduceBNe, Int.reduceBEq, aeq, Int.reduceLE, Int.reduceNeg, Int.reduceMul, Int.reduceAdd, Int.reduceSub, Int.reduceToNat, Int.reducePow]
    exact ⟨0, by omega, by omega, rfl, rfl⟩
  · rintro k t _ ⟨g1, rfl, ⟨g2, g3, g4⟩, i, hi, rfl, g5, g6⟩
    rw [← tm_nil t]
    by_cases hc : i < l.length
    · have a1 : ((i : Int) < (l.length : Int)) = True := eq_true (by omega)
      have w1 : IntKind.i64.wrap ((i : Int) + 1) = ((i + 1 : Nat) : Int) := by rw [wrap_i64 (by omega) (by omega)]; rfl
      have E := hs.elem0 hc
      rw [List.drop_eq_getElem_cons hc] at g6
      generalize l[i] = q at *
      simp only [IntC, Nat.mul_one] at E
      by_cases hq : q = 0
      · have c1 : (q != 0) = false := by rw [bne_eq_false_iff_eq]; exact hq
        simp only [R1, R2, R3, R4, R5, R6, R7, R8, AV.flat, fillIn_nil, fillIn_cons, splice, AV.cells, AV.one, eqsOf, idx, SO.calls, List.reduceReplicate, Nat.reduceBEq, Nat.reduceLT, Nat.reduceAdd, Nat.reduceMul, Nat.reduceSub, Nat.reduceLeDiff, Nat.reduceEqDiff, ↓reduceIte, Int.reduceLT, Int.reduceEq, Int.reduceBNe, Int.reduceBEq, aeq, Int.reduceLE, Int.reduceNeg, Int.reduceMul, Int.reduceAdd, Int.reduceSub, Int.reduceToNat, Int.reducePow, g1, g2, g3, g4, g5, a1, w1, E, c1]
        exact ⟨_, by omega, i + 1, by omega, rfl, rfl, by rw [g6]; unfold orI; rw [List.find?_cons_of_neg (by simp [hq])]⟩
      · have c1 : (q != 0) = true := by rw [bne_iff_ne]; exact hq
        have hr : orI l = q := by rw [g6]; unfold orI; rw [List.find?_cons_of_pos (by simp [hq])]; rfl
        rw [hr]
        simp only [R1, R2, R3, R4, R5, R6, R7, R8, AV.flat, fillIn_nil, fillIn_cons, splice, AV.cells, AV.one, eqsOf, idx, SO.calls, List.reduceReplicate, Nat.reduceBEq, Nat.reduceLT, Nat.reduceAdd, Nat.reduceMul, Nat.reduceSub, Nat.reduceLeDiff, Nat.reduceEqDiff, ↓reduceIte, Int.reduceLT, Int.reduceEq, Int.reduceBNe, Int.reduceBEq, aeq, Int.reduceLE, Int.reduceNeg, Int.reduceMul, Int.reduceAdd, Int.reduceSub, Int.reduceToNat, Int.reducePow, g1, g2, g3, g4, g5, a1, w1, E, c1]
        try rw [tidy_int]
    · have a1 : ((i : Int) < (l.length : Int)) = False := eq_false (by omega)
      obtain rfl : i = l.length := by omega
      rw [List.drop_length] at g6
      have hr : orI l = 0 := g6
      rw [hr]
      simp only [R1, R2, R3, R4, R5, R6, R7, R8, AV.flat, fillIn_nil, fillIn_cons, splice, AV.cells, AV.one, eqsOf, idx, SO.calls, List.reduceReplicate, Nat.reduceBEq, Nat.reduceLT, Nat.reduceAdd, Nat.reduceMul, Nat.reduceSub, Nat.reduceLeDiff, Nat.reduceEqDiff, ↓reduceIte, Int.reduceLT, Int.reduceEq, Int.reduceBNe, Int.reduceBEq, aeq, Int.reduceLE, Int.reduceNeg, Int.reduceMul, Int.reduceAdd, Int.reduceSub, Int.reduceToNat, Int.reducePow, g1, g2, g3, g4, g5, a1]
      try rw [tidy_int]
theorem slrow {H : Heap} {l : List Int} {cap : Option Nat} : SlOf (H ++ [.cells (l.flatMap IntC) 3 true]) 1 IntC (.sl H.length 0 l.length 1 cap) l := SlOf.row (fun a _ => int_cel.size a) (by decide)
theorem orI_two {a b : Int} : orI [a, b] = if a = 0 then b else a := by
  unfold orI
  by_cases h : a = 0
  · subst h
    by_cases h2 : b = 0
    · subst h2; rfl
    · simp [h2]
  · simp [h]
theorem c34 (x y : Nat) (H : Heap) : call env 34 [.agg (wcs x), .agg (wcs y)] H = some (.int .i64 (cmpI (x : Int) (y : Int)), H) := by
  have hz : orI [cmpI ((x / 18446744073709551616 : Nat) : Int) ((y / 18446744073709551616 : Nat) : Int), cmpI ((x % 18446744073709551616 : Nat) : Int) ((y % 18446744073709551616 : Nat) : Int)] = cmpI (x : Int) (y : Int) := by
    rw [orI_two]
    unfold cmpI
    split <;> split <;> (try split) <;> (try split) <;> (try split) <;> (try split) <;> omega
  have e1 := fun H => c51 ((x / 18446744073709551616 : Nat) : Int) ((y / 18446744073709551616 : Nat) : Int) H
  have e2 := fun H => c51 ((x % 18446744073709551616 : Nat) : Int) ((y % 18446744073709551616 : Nat) : Int) H
  have e5 := fun X => c50 (@slrow (H ++ X) [cmpI ((x / 18446744073709551616 : Nat) : Int) ((y / 18446744073709551616 : Nat) : Int), cmpI ((x % 18446744073709551616 : Nat) : Int) ((y % 18446744073709551616 : Nat) : Int)] (some 2)) (by simp)
  have e5 := e5 [.cells (wcs x) 47 true, .cells (wcs y) 47 true]
  rw [hz] at e5
  simp only [wcs] at e5 ⊢
  simp only [List.flatMap_cons, List.flatMap_nil, IntC, List.cons_append, List.nil_append, List.length_cons, List.length_nil, Nat.zero_add, Nat.reduceAdd, List.length_append, List.append_assoc] at e5
  refine call_ends (fn := s34) rfl rfl (by simp [s34]) ?_
  simp only [s34, R1, R2, R3, R4, R5, R6, R7, R8, AV.flat, fillIn_nil, fillIn_cons, splice, AV.cells, AV.one, eqsOf, idx, SO.calls, List.reduceReplicate, Nat.reduceBEq, Nat.reduceLT, Nat.reduceAdd, Nat.reduceMul, Nat.reduceSub, Nat.reduceLeDiff, Nat.reduceEqDiff, ↓reduceIte, Int.reduceLT, Int.reduceEq, Int.reduceBNe, Int.reduceBEq, aeq, Int.reduceLE, Int.reduceNeg, Int.reduceMul, Int.reduceAdd, Int.reduceSub, Int.reduceToNat, Int.reducePow, e1, e2, e5, veil_un, shun_un]
  try rw [tidy_int']
theorem c_sub {x y b : Nat} (hb : b ≤ 1) (H : Heap) : call env 70 [.int .u64 (x : Int), .int .u64 (y : Int), .int .u64 (b : Int)] H = some (.tup [.int .u64 (((x + 18446744073709551616 - y - b) % 18446744073709551616 : Nat) : Int), .int .u64 ((if x < y + b then 1 else 0 : Nat) : Int)], H) := by
  rw [csub64]
  unfold sub64A
  simp only
  rw [if_pos (by omega)]
  simp only [Int.toNat_natCast]
theorem c49 {x y : Nat} (h : y ≤ x) (hx : x < 340282366920938463463374607431768211456) (H : Heap) : call env 49 [.agg (wcs x), .agg (wcs y)] H = some (.tup [.agg (wcs (x - y)), .int .i64 0], H) := by
  have e1 := fun H => c_sub (x := x % 18446744073709551616) (y := y % 18446744073709551616) (b := 0) (by omega) H
  have e2 := fun H => c_sub (x := x / 18446744073709551616) (y := y / 18446744073709551616) (b := if x % 18446744073709551616 < y % 18446744073709551616 + 0 then 1 else 0) (by split <;> omega) H
  have a1 : (x % 18446744073709551616 + 18446744073709551616 - y % 18446744073709551616 - 0) % 18446744073709551616 = (x - y) % 18446744073709551616 := by omega
  have a2 : (x / 18446744073709551616 + 18446744073709551616 - y / 18446744073709551616 - (if x % 18446744073709551616 < y % 18446744073709551616 + 0 then 1 else 0)) % 18446744073709551616 = (x - y) / 18446744073709551616 := by split <;> omega
  have a3 : (if x / 18446744073709551616 < y / 18446744073709551616 + (if x % 18446744073709551616 < y % 18446744073709551616 + 0 then 1 else 0) then 1 else 0) = 0 := by
    by_cases hq : x % 18446744073709551616 < y % 18446744073709551616 + 0
    · rw [if_pos hq, if_neg (by omega)]
    · rw [if_neg hq, if_neg (by omega)]
  rw [a1] at e1
  rw [a2, a3] at e2
  generalize (if x % 18446744073709551616 < y % 18446744073709551616 + 0 then 1 else 0) = q at *
  simp only [Int.natCast_zero, Int.cast_ofNat_Int] at e1 e2
  simp only [wcs]
  refine call_ends (fn := s49) rfl rfl (by simp [s49]) ?_
  simp only [s49, R1, R2, R3, R4, R5, R6, R7, R8, AV.flat, fillIn_nil, fillIn_cons, splice, AV.cells, AV.one, eqsOf, idx, SO.calls, List.reduceReplicate, Nat.reduceBEq, Nat.reduceLT, Nat.reduceAdd, Nat.reduceMul, Nat.reduceSub, Nat.reduceLeDiff, Nat.reduceEqDiff, ↓reduceIte, Int.reduceLT, Int.reduceEq, Int.reduceBNe, Int.reduceBEq, aeq, Int.reduceLE, Int.reduceNeg, Int.reduceMul, Int.reduceAdd, Int.reduceSub, Int.reduceToNat, Int.reducePow, e1, e2]
  rw [tidy_still rfl]
theorem odd_lo {k m : Nat} (hk : k < 64) : 2 ^ k * (2 * m + 1) % 18446744073709551616 = 2 ^ k * (2 * (m % 2 ^ (63 - k)) + 1) := by
  have e : (18446744073709551616 : Nat) = 2 ^ k * (2 * 2 ^ (63 - k)) := by
    rw [← Nat.pow_succ', ← Nat.pow_add, show k + (63 - k + 1) = 64 by omega]
  rw [e, Nat.mul_mod_mul_left, Nat.mod_mul]
  congr 1
  rw [show (2 * m + 1) / 2 = m by omega]
  omega
theorem c47 {k m : Nat} (h : 2 ^ k * (2 * m + 1) < 340282366920938463463374607431768211456) (H : Heap) : call env 47 [.agg (wcs (2 ^ k * (2 * m + 1)))] H = some (.int .i64 (k : Int), H) := by
  have hk : k < 128 := by
    refine Decidable.byContradiction fun hk => ?_
    have h1 : 2 ^ 128 ≤ 2 ^ k := Nat.pow_le_pow_right (by omega) (by omega)
    have h2 : 2 ^ k ≤ 2 ^ k * (2 * m + 1) := Nat.le_mul_of_pos_right _ (by omega)
    omega
  have hp := Nat.two_pow_pos k
  simp only [wcs]
  refine call_ends (fn := s47) rfl rfl (by simp [s47]) ?_
  by_cases h6 : k < 64
  · have hl := odd_lo (m := m) h6
    have e1 := fun H => c66 (k := k) (m := m % 2 ^ (63 - k)) (by rw [← hl]; omega) H
    rw [← hl] at e1
    have hne : 2 ^ k * (2 * m + 1) % 18446744073709551616 ≠ 0 := by
      rw [hl]
      have := Nat.mul_pos hp (show 0 < 2 * (m % 2 ^ (63 - k)) + 1 by omega)
      omega
    generalize 2 ^ k * (2 * m + 1) % 18446744073709551616 = l at *
    generalize 2 ^ k * (2 * m + 1) / 18446744073709551616 = u at *
    have c1 : (((l : Nat) : Int) != 0) = true := by rw [bne_iff_ne]; omega
    simp only [s47, R1, R2, R3, R4, R5, R6, R7, R8, AV.flat, fillIn_nil, fillIn_cons, splice, AV.cells, AV.one, eqsOf, idx, SO.calls, List.reduceReplicate, Nat.reduceBEq, Nat.reduceLT, Nat.reduceAdd, Nat.reduceMul, Nat.reduceSub, Nat.reduceLeDiff, Nat.reduceEqDiff, ↓reduceIte, Int.reduceLT, Int.reduceEq, Int.reduceBNe, Int.reduceBEq, aeq, Int.reduceLE, Int.reduceNeg, Int.reduceMul, Int.reduceAdd, Int.reduceSub, Int.reduceToNat, Int.reducePow, c1, e1]
    rw [tidy_int']
  · have e : 2 ^ k * (2 * m + 1) = 2 ^ (k - 64) * (2 * m + 1) * 18446744073709551616 := by
      rw [Nat.mul_right_comm]
      congr 1
      rw [show (18446744073709551616 : Nat) = 2 ^ 64 from rfl, ← Nat.pow_add, show k - 64 + 64 = k by omega]
    have a1 : 2 ^ k * (2 * m + 1) % 18446744073709551616 = 0 := by rw [e]; exact Nat.mul_mod_left _ _
    have a2 : 2 ^ k * (2 * m + 1) / 18446744073709551616 = 2 ^ (k - 64) * (2 * m + 1) := by rw [e]; exact Nat.mul_div_cancel _ (by omega)
    have e1 := fun H => c66 (k := k - 64) (m := m) (by rw [← a2]; omega) H
    rw [a1, a2]
    have w1 : IntKind.i64.wrap (64 + ((k - 64 : Nat) : Int)) = (k : Int) := by rw [wrap_i64 (by omega) (by omega)]; omega
    have c1 : (((0 : Nat) : Int) != 0) = false := rfl
    generalize 2 ^ (k - 64) * (2 * m + 1) = u at *
    simp only [s47, R1, R2, R3, R4, R5, R6, R7, R8, AV.flat, fillIn_nil, fillIn_cons, splice, AV.cells, AV.one, eqsOf, idx, SO.calls, List.reduceReplicate, Nat.reduceBEq, Nat.reduceLT, Nat.reduceAdd, Nat.reduceMul, Nat.reduceSub, Nat.reduceLeDiff, Nat.reduceEqDiff, ↓reduceIte, Int.reduceLT, Int.reduceEq, Int.reduceBNe, Int.reduceBEq, aeq, Int.reduceLE, Int.reduceNeg, Int.reduceMul, Int.reduceAdd, Int.reduceSub, Int.reduceToNat, Int.reducePow, c1, e1, w1]
    rw [tidy_int']
end Go.Proofs.YtdlolhkeckjipaaDoor
