/- Chapter 03: fractions in lowest terms. -/
import Derived.Test.YtdlolhkeckjipaaDoorC03a
set_option linter.unusedVariables false
set_option linter.unusedSimpArgs false
set_option maxRecDepth 100000
set_option maxHeartbeats 8000000
namespace Go.Proofs.YtdlolhkeckjipaaDoor
open Go Go.Den
theorem wrap_i64_mod (x : Int) : IntKind.i64.wrap x = if x % 18446744073709551616 ≥ 9223372036854775808 then x % 18446744073709551616 - 18446744073709551616 else x % 18446744073709551616 := by
  have e : (2 ^ IntKind.i64.bits : Int) = 18446744073709551616 := by decide
  have e2 : (2 ^ (IntKind.i64.bits - 1) : Int) = 9223372036854775808 := by decide
  unfold IntKind.wrap
  simp only [e, e2, show IntKind.i64.signed = true from rfl]
  split <;> simp at * <;> (intro _; omega)
/-- A number of a sign, where it fits. -/
def fitI (neg : Bool) (w : Nat) : Option Int := if w < 9223372036854775808 ∨ (w = 9223372036854775808 ∧ neg = true) then some (if neg = true then -(w : Int) else (w : Int)) else none
theorem fit_out {neg : Bool} {w : Nat} (h : ¬ (w < 9223372036854775808 ∨ (w = 9223372036854775808 ∧ neg = true))) : fitI neg w = none := if_neg h
theorem fit_in {neg : Bool} {w : Nat} (h : w < 9223372036854775808 ∨ (w = 9223372036854775808 ∧ neg = true)) : fitI neg w = some (if neg = true then -(w : Int) else (w : Int)) := if_pos h
theorem c45 (neg : Bool) {w : Nat} (hw : w < 340282366920938463463374607431768211456) (H : Heap) : call env 45 [.bool neg, .agg (wcs w)] H = some (.tup [.int .i64 ((fitI neg w).getD 0), .bool (fitI neg w).isSome], H) := by
  refine call_ends (fn := s45) rfl rfl (by simp [s45]) ?_
  simp only [wcs]
  by_cases h1 : w / 18446744073709551616 = 0
  rotate_left
  · have c1 : (((w / 18446744073709551616 : Nat) : Int) != 0) = true := by rw [bne_iff_ne]; omega
    rw [fit_out (by omega)]
    simp only [s45, R1, R2, R3, R4, R5, R6, R7, R8, AV.flat, fillIn_nil, fillIn_cons, splice, AV.cells, AV.one, eqsOf, idx, SO.calls, List.reduceReplicate, Nat.reduceBEq, Nat.reduceLT, Nat.reduceAdd, Nat.reduceMul, Nat.reduceSub, Nat.reduceLeDiff, Nat.reduceEqDiff, ↓reduceIte, Int.reduceLT, Int.reduceEq, Int.reduceBNe, Int.reduceBEq, aeq, Int.reduceLE, Int.reduceNeg, Int.reduceMul, Int.reduceAdd, Int.reduceSub, Int.reduceToNat, Int.reducePow, c1, Option.isSome_none]
    rw [tidy_still rfl]
  have hlo : w % 18446744073709551616 = w := by omega
  have c1 : (((w / 18446744073709551616 : Nat) : Int) != 0) = false := by rw [h1]; rfl
  by_cases h2 : w > 9223372036854775808
  · have c2 : ((w : Int) > 9223372036854775808) = True := eq_true (by omega)
    rw [fit_out (by omega)]
    simp only [s45, R1, R2, R3, R4, R5, R6, R7, R8, AV.flat, fillIn_nil, fillIn_cons, splice, AV.cells, AV.one, eqsOf, idx, SO.calls, List.reduceReplicate, Nat.reduceBEq, Nat.reduceLT, Nat.reduceAdd, Nat.reduceMul, Nat.reduceSub, Nat.reduceLeDiff, Nat.reduceEqDiff, ↓reduceIte, Int.reduceLT, Int.reduceEq, Int.reduceBNe, Int.reduceBEq, aeq, Int.reduceLE, Int.reduceNeg, Int.reduceMul, Int.reduceAdd, Int.reduceSub, Int.reduceToNat, Int.reducePow, hlo, c1, c2, Option.isSome_none]
    rw [tidy_still rfl]
  have c2 : ((w : Int) > 9223372036854775808) = False := eq_false (by omega)
  by_cases h3 : w = 9223372036854775808
  · have c3 : ((w : Int) == 9223372036854775808) = true := by rw [beq_iff_eq]; omega
    cases neg
    · rw [fit_out (by simp; omega)]
      simp only [s45, R1, R2, R3, R4, R5, R6, R7, R8, AV.flat, fillIn_nil, fillIn_cons, splice, AV.cells, AV.one, eqsOf, idx, SO.calls, List.reduceReplicate, Nat.reduceBEq, Nat.reduceLT, Nat.reduceAdd, Nat.reduceMul, Nat.reduceSub, Nat.reduceLeDiff, Nat.reduceEqDiff, ↓reduceIte, Int.reduceLT, Int.reduceEq, Int.reduceBNe, Int.reduceBEq, aeq, Int.reduceLE, Int.reduceNeg, Int.reduceMul, Int.reduceAdd, Int.reduceSub, Int.reduceToNat, Int.reducePow, hlo, c1, c2, c3, Option.isSome_none]
      rw [tidy_still rfl]
    · rw [fit_in (by simp; omega)]
      have w1 : IntKind.u64.wrap (0 - (w : Int)) = 18446744073709551616 - (w : Int) := by rw [wrap_u64_mod]; omega
      have w2 : IntKind.i64.wrap (18446744073709551616 - (w : Int)) = -(w : Int) := by rw [h3]; rfl
      simp only [s45, R1, R2, R3, R4, R5, R6, R7, R8, AV.flat, fillIn_nil, fillIn_cons, splice, AV.cells, AV.one, eqsOf, idx, SO.calls, List.reduceReplicate, Nat.reduceBEq, Nat.reduceLT, Nat.reduceAdd, Nat.reduceMul, Nat.reduceSub, Nat.reduceLeDiff, Nat.reduceEqDiff, ↓reduceIte, Int.reduceLT, Int.reduceEq, Int.reduceBNe, Int.reduceBEq, aeq, Int.reduceLE, Int.reduceNeg, Int.reduceMul, Int.reduceAdd, Int.reduceSub, Int.reduceToNat, Int.reducePow, hlo, c1, c2, c3, w1, w2, Option.isSome_some]
      rw [tidy_still rfl]
  · have c3 : ((w : Int) == 9223372036854775808) = false := by rw [beq_eq_false_iff_ne]; omega
    rw [fit_in (by omega)]
    cases neg
    · have w2 := wrap_i64 (x := (w : Int)) (by omega) (by omega)
      simp only [s45, R1, R2, R3, R4, R5, R6, R7, R8, AV.flat, fillIn_nil, fillIn_cons, splice, AV.cells, AV.one, eqsOf, idx, SO.calls, List.reduceReplicate, Nat.reduceBEq, Nat.reduceLT, Nat.reduceAdd, Nat.reduceMul, Nat.reduceSub, Nat.reduceLeDiff, Nat.reduceEqDiff, ↓reduceIte, Int.reduceLT, Int.reduceEq, Int.reduceBNe, Int.reduceBEq, aeq, Int.reduceLE, Int.reduceNeg, Int.reduceMul, Int.reduceAdd, Int.reduceSub, Int.reduceToNat, Int.reducePow, hlo, c1, c2, c3, w2, Option.isSome_some]
      rw [tidy_still rfl]
    · have w1 : IntKind.u64.wrap (0 - (w : Int)) = (0 - (w : Int)) % 18446744073709551616 := wrap_u64_mod _
      have w2 : IntKind.i64.wrap ((0 - (w : Int)) % 18446744073709551616) = -(w : Int) := by rw [wrap_i64_mod]; omega
      simp only [s45, R1, R2, R3, R4, R5, R6, R7, R8, AV.flat, fillIn_nil, fillIn_cons, splice, AV.cells, AV.one, eqsOf, idx, SO.calls, List.reduceReplicate, Nat.reduceBEq, Nat.reduceLT, Nat.reduceAdd, Nat.reduceMul, Nat.reduceSub, Nat.reduceLeDiff, Nat.reduceEqDiff, ↓reduceIte, Int.reduceLT, Int.reduceEq, Int.reduceBNe, Int.reduceBEq, aeq, Int.reduceLE, Int.reduceNeg, Int.reduceMul, Int.reduceAdd, Int.reduceSub, Int.reduceToNat, Int.reducePow, hlo, c1, c2, c3, w1, w2, Option.isSome_some]
      rw [tidy_still rfl]
theorem c30 (neg : Bool) {w : Nat} (hw : w < 18446744073709551616) : ∃ v : Int, (∀ z, fitI neg w = some z → v = z) ∧ ∀ H : Heap, call env 30 [.bool neg, .int .u64 (w : Int)] H = some (.tup [.int .i64 v, .bool (fitI neg w).isSome], H) := by
  cases neg
  · refine ⟨IntKind.i64.wrap (w : Int), ?_, fun H => ?_⟩
    · intro z hz
      by_cases h : w < 9223372036854775808
      · rw [fit_in (.inl h)] at hz
        have hz : (w : Int) = z := by simpa using hz
        rw [← hz, wrap_i64 (by omega) (by omega)]
      · rw [fit_out (neg := false) (w := w) (by simp; omega)] at hz
        cases hz
    · refine call_ends (fn := s30) rfl rfl (by simp [s30]) ?_
      have c1 : ((w : Int) < 9223372036854775808) = ((fitI false w).isSome = true) := by
        by_cases h : w < 9223372036854775808
        · rw [fit_in (by omega), eq_true (show (w : Int) < 9223372036854775808 by omega)]; simp
        · rw [fit_out (neg := false) (w := w) (by simp; omega), eq_false (show ¬ (w : Int) < 9223372036854775808 by omega)]; simp
      simp only [s30, R1, R2, R3, R4, R5, R6, R7, R8, AV.flat, fillIn_nil, fillIn_cons, splice, AV.cells, AV.one, eqsOf, idx, SO.calls, List.reduceReplicate, Nat.reduceBEq, Nat.reduceLT, Nat.reduceAdd, Nat.reduceMul, Nat.reduceSub, Nat.reduceLeDiff, Nat.reduceEqDiff, ↓reduceIte, Int.reduceLT, Int.reduceEq, Int.reduceBNe, Int.reduceBEq, aeq, Int.reduceLE, Int.reduceNeg, Int.reduceMul, Int.reduceAdd, Int.reduceSub, Int.reduceToNat, Int.reducePow, c1, Bool.decide_eq_true]
  · refine ⟨IntKind.i64.wrap (IntKind.u64.wrap (0 - (w : Int))), ?_, fun H => ?_⟩
    · intro z hz
      unfold fitI at hz
      split at hz
      · injection hz with hz
        simp at hz
        rw [wrap_i64_mod, wrap_u64_mod]
        omega
      · cases hz
    · refine call_ends (fn := s30) rfl rfl (by simp [s30]) ?_
      have c1 : ((w : Int) ≤ 9223372036854775808) = ((fitI true w).isSome = true) := by
        by_cases h : w ≤ 9223372036854775808
        · rw [fit_in (by simp; omega), eq_true (show (w : Int) ≤ 9223372036854775808 by omega)]; simp
        · rw [fit_out (neg := true) (w := w) (by simp; omega), eq_false (show ¬ (w : Int) ≤ 9223372036854775808 by omega)]; simp
      simp only [s30, R1, R2, R3, R4, R5, R6, R7, R8, AV.flat, fillIn_nil, fillIn_cons, splice, AV.cells, AV.one, eqsOf, idx, SO.calls, List.reduceReplicate, Nat.reduceBEq, Nat.reduceLT, Nat.reduceAdd, Nat.reduceMul, Nat.reduceSub, Nat.reduceLeDiff, Nat.reduceEqDiff, ↓reduceIte, Int.reduceLT, Int.reduceEq, Int.reduceBNe, Int.reduceBEq, aeq, Int.reduceLE, Int.reduceNeg, Int.reduceMul, Int.reduceAdd, Int.reduceSub, Int.reduceToNat, Int.reducePow, c1, Bool.decide_eq_true]
/-- Of 64 bits. -/
theorem c79_0 {a n : Nat} (ha : a < 18446744073709551616) (hn : 0 < n) (hn2 : n < 18446744073709551616) (H : Heap) : call env 79 [.int .u64 0, .int .u64 (a : Int), .int .u64 (n : Int)] H = some (.tup [.int .u64 ((a / n : Nat) : Int), .int .u64 ((a % n : Nat) : Int)], H) := by
  refine call_ends (fn := s79) rfl rfl (by simp [s79]) ?_
  have c1 : ((n : Int) == 0) = false := by rw [beq_eq_false_iff_ne]; omega
  have c2 : ((n : Int) ≤ 0) = False := eq_false (by omega)
  have c3 : ((n : Int) = 0) = False := eq_false (by omega)
  have w1 : IntKind.u64.wrap ((a : Int).tdiv (n : Int)) = ((a / n : Nat) : Int) := by
    rw [Int.tdiv_eq_ediv_of_nonneg (by omega), ← Int.natCast_ediv, wrap_u64_mod]
    have := Nat.div_le_self a n
    generalize a / n = q at *
    omega
  have w2 : (a : Int).tmod (n : Int) = ((a % n : Nat) : Int) := by
    rw [Int.tmod_eq_emod_of_nonneg (by omega), ← Int.natCast_emod]
  simp only [s79, R1, R2, R3, R4, R5, R6, R7, R8, AV.flat, fillIn_nil, fillIn_cons, splice, AV.cells, AV.one, eqsOf, idx, SO.calls, List.reduceReplicate, Nat.reduceBEq, Nat.reduceLT, Nat.reduceAdd, Nat.reduceMul, Nat.reduceSub, Nat.reduceLeDiff, Nat.reduceEqDiff, ↓reduceIte, Int.reduceLT, Int.reduceEq, Int.reduceBNe, Int.reduceBEq, aeq, Int.reduceLE, Int.reduceNeg, Int.reduceMul, Int.reduceAdd, Int.reduceSub, Int.reduceToNat, Int.reducePow, c1, c2, c3, w1, w2]
theorem c64_0 {a n : Nat} (ha : a < 18446744073709551616) (hn : 0 < n) (hn2 : n < 18446744073709551616) (H : Heap) : call env 64 [.agg (wcs a), .int .u64 (n : Int)] H = some (.tup [.agg (wcs (a / n)), .int .u64 ((a % n : Nat) : Int), .int .i64 0], H) := by
  refine call_ends (fn := s64) rfl rfl (by simp [s64]) ?_
  have hq := Nat.div_le_self a n
  rw [wcs_small ha, wcs_small (x := a / n) (by omega)]
  have c1 : ((n : Int) == 0) = false := by rw [beq_eq_false_iff_ne]; omega
  have c3 : ((n : Int) = 0) = False := eq_false (by omega)
  have e1 := fun H => c79_0 ha hn hn2 H
  have w1 : (0 : Int).tdiv (n : Int) = 0 := Int.zero_tdiv _
  have w2 : (0 : Int).tmod (n : Int) = 0 := Int.zero_tmod _
  have w3 : IntKind.u64.wrap 0 = 0 := rfl
  simp only [s64, R1, R2, R3, R4, R5, R6, R7, R8, AV.flat, fillIn_nil, fillIn_cons, splice, AV.cells, AV.one, eqsOf, idx, SO.calls, List.reduceReplicate, Nat.reduceBEq, Nat.reduceLT, Nat.reduceAdd, Nat.reduceMul, Nat.reduceSub, Nat.reduceLeDiff, Nat.reduceEqDiff, ↓reduceIte, Int.reduceLT, Int.reduceEq, Int.reduceBNe, Int.reduceBEq, aeq, Int.reduceLE, Int.reduceNeg, Int.reduceMul, Int.reduceAdd, Int.reduceSub, Int.reduceToNat, Int.reducePow, c1, c3, e1, w1, w2, w3, veil_un, shun_un]
  rw [tidy_still rfl]
theorem c44_0 {a n : Nat} (ha : a < 18446744073709551616) (hn : 0 < n) (hn2 : n < 18446744073709551616) (H : Heap) : call env 44 [.agg (wcs a), .agg (wcs n)] H = some (.agg (wcs (a / n)), H) := by
  refine call_ends (fn := s44) rfl rfl (by simp [s44]) ?_
  have e1 := fun H => c64_0 ha hn hn2 H
  have hq := Nat.div_le_self a n
  rw [wcs_small ha, wcs_small hn2, wcs_small (x := a / n) (by omega)]
  rw [wcs_small ha, wcs_small (x := a / n) (by omega)] at e1
  have c1 : ((0 : Int) == 0) = true := rfl
  simp only [s44, R1, R2, R3, R4, R5, R6, R7, R8, AV.flat, fillIn_nil, fillIn_cons, splice, AV.cells, AV.one, eqsOf, idx, SO.calls, List.reduceReplicate, Nat.reduceBEq, Nat.reduceLT, Nat.reduceAdd, Nat.reduceMul, Nat.reduceSub, Nat.reduceLeDiff, Nat.reduceEqDiff, ↓reduceIte, Int.reduceLT, Int.reduceEq, Int.reduceBNe, Int.reduceBEq, aeq, Int.reduceLE, Int.reduceNeg, Int.reduceMul, Int.reduceAdd, Int.reduceSub, Int.reduceToNat, Int.reducePow, c1, e1]
  rw [tidy_agg' rfl]
end Go.Proofs.YtdlolhkeckjipaaDoor
