/- Chapter 40: what stands ahead of the pairs; which pairs may be. -/
import Derived.Test.YtppkggodpihfiaaK40g
set_option linter.unusedVariables false
set_option linter.unusedSimpArgs false
set_option maxRecDepth 100000
set_option maxHeartbeats 4000000
namespace Go.Proofs.Ytppkggodpihfiaa
open Go Go.Den
def threeP (n : Nat) : List Int := if n = 0 then [0, 0, 0] else [6 * ((2 ^ n.log2 : Nat) : Int), (n.log2 : Nat), 6 * (n : Int) - 6 * ((2 ^ n.log2 : Nat) : Int)]
def headL (n : Nat) : List Int := [0, 1, 0, 14 + 6 * (n : Int), 1, (n : Int)] ++ threeP n
theorem log2_le {n : Nat} (h0 : n ≠ 0) : 2 ^ n.log2 ≤ n := Nat.log2_self_le h0
theorem slrow {H : Heap} {l : List Int} {cap : Option Nat} : SlOf (H ++ [.cells (l.flatMap IntC) 3 true]) 1 IntC (.sl H.length 0 l.length 1 cap) l := SlOf.row (fun a _ => int_cel.size a) (by decide)
theorem c78 {n : Nat} (h : n ≤ 60000) (H : Heap) : call env 78 [.int .i64 (n : Int)] H = some (.str (mkS (shB (threeP n))), H) := by
  by_cases h0 : n = 0
  · subst h0
    have e1 := fun X => c36 (@slrow (H ++ X) [0, 0, 0] (some 3)) (by simp)
    simp only [List.flatMap_cons, List.flatMap_nil, IntC, List.cons_append, List.nil_append, List.length_cons, List.length_nil, Nat.zero_add, Nat.reduceAdd] at e1
    have e1 := e1 []
    simp only [List.append_nil] at e1
    refine call_ends (fn := s78) rfl rfl (by simp [s78]) ?_
    simp only [s78, R1, R2, R3, R4, R5, R6, R7, R8, AV.flat, fillIn_nil, fillIn_cons, splice, AV.cells, AV.one, eqsOf, idx, SO.calls, List.reduceReplicate, Nat.reduceBEq, Nat.reduceLT, Nat.reduceAdd, Nat.reduceMul, Nat.reduceSub, Nat.reduceLeDiff, Nat.reduceEqDiff, ↓reduceIte, Int.reduceLT, Int.reduceEq, Int.reduceBNe, Int.reduceBEq, aeq, Int.reduceLE, Int.reduceNeg, Int.reduceMul, Int.reduceAdd, Int.reduceSub, Int.reduceToNat, Int.reducePow, Int.natCast_zero, threeP, e1]
    try rw [tidy_flat rfl]
  · have hl := log2_le h0
    have hb : n.log2 ≤ 16 := by
      have := (Nat.log2_lt (k := 16) h0).2 (by omega); omega
    have c1 : ((n : Int) == 0) = false := by rw [beq_eq_false_iff_ne]; omega
    have w1 : IntKind.u64.wrap (n : Int) = n := by rw [wrap_u64_mod]; omega
    have e2 := fun H => c98 (n := n) (by omega) h H
    have w2 : IntKind.i64.wrap (((n.log2 + 1 : Nat) : Int) - 1) = ((n.log2 : Nat) : Int) := by rw [wrap_i64 (by omega) (by omega)]; omega
    have hp : (2 : Int) ^ n.log2 = ((2 ^ n.log2 : Nat) : Int) := by push_cast; rfl
    have c2 : (((n.log2 : Nat) : Int) < 0) = False := eq_false (by omega)
    have c3 : (n.log2 ≤ 64) = True := eq_true (by omega)
    rw [threeP, if_neg h0]
    generalize n.log2 = k at *
    generalize (2 ^ k : Nat) = q at *
    have w3 : IntKind.i64.wrap (6 * (q : Int)) = 6 * (q : Int) := wrap_i64 (by omega) (by omega)
    have w4 : IntKind.i64.wrap (6 * (n : Int)) = 6 * (n : Int) := wrap_i64 (by omega) (by omega)
    have w5 : IntKind.i64.wrap (6 * (n : Int) - 6 * (q : Int)) = 6 * (n : Int) - 6 * (q : Int) := wrap_i64 (by omega) (by omega)
    have e1 := c36 (@slrow H [6 * (q : Int), (k : Int), 6 * (n : Int) - 6 * (q : Int)] (some 3)) (by simp)
    simp only [List.flatMap_cons, List.flatMap_nil, IntC, List.cons_append, List.nil_append, List.length_cons, List.length_nil, Nat.zero_add, Nat.reduceAdd] at e1
    refine call_ends (fn := s78) rfl rfl (by simp [s78]) ?_
    simp only [s78, R1, R2, R3, R4, R5, R6, R7, R8, AV.flat, fillIn_nil, fillIn_cons, splice, AV.cells, AV.one, eqsOf, idx, SO.calls, List.reduceReplicate, Nat.reduceBEq, Nat.reduceLT, Nat.reduceAdd, Nat.reduceMul, Nat.reduceSub, Nat.reduceLeDiff, Nat.reduceEqDiff, ↓reduceIte, Int.reduceLT, Int.reduceEq, Int.reduceBNe, Int.reduceBEq, aeq, Int.reduceLE, Int.reduceNeg, Int.reduceMul, Int.reduceAdd, Int.reduceSub, Int.reduceToNat, Int.reducePow, c1, w1, e2, w2, c2, c3, Int.toNat_natCast, hp, w3, w4, w5, e1]
    try rw [tidy_flat rfl]
theorem threeP_len (n : Nat) : (threeP n).length = 3 := by unfold threeP; split <;> rfl
theorem c35 {n : Nat} (h : n ≤ 60000) (H : Heap) : call env 35 [.int .i64 (n : Int)] H = some (.str (mkS (shB (headL n))), H) := by
  have w4 : IntKind.i64.wrap (6 * (n : Int)) = 6 * (n : Int) := wrap_i64 (by omega) (by omega)
  have w5 : IntKind.i64.wrap (14 + 6 * (n : Int)) = 14 + 6 * (n : Int) := wrap_i64 (by omega) (by omega)
  have e1 := c36 (@slrow H [0, 1, 0, 14 + 6 * (n : Int), 1, (n : Int)] (some 6)) (by simp)
  simp only [List.flatMap_cons, List.flatMap_nil, IntC, List.cons_append, List.nil_append, List.length_cons, List.length_nil, Nat.zero_add, Nat.reduceAdd] at e1
  have e2 := fun H => c78 h H
  have hh : shB (headL n) = shB [0, 1, 0, 14 + 6 * (n : Int), 1, (n : Int)] ++ shB (threeP n) := by unfold headL shB; rw [List.flatMap_append]
  have e3 := fun H => @bin_adds H (shB [0, 1, 0, 14 + 6 * (n : Int), 1, (n : Int)]) (shB (threeP n)) (by rw [shB_len, shB_len, threeP_len]; simp)
  rw [← hh] at e3
  generalize shB (headL n) = A at *
  generalize shB (threeP n) = B at *
  generalize shB [0, 1, 0, 14 + 6 * (n : Int), 1, (n : Int)] = C at *
  refine call_ends (fn := s35) rfl rfl (by simp [s35]) ?_
  simp only [s35, R1, R2, R3, R4, R5, R6, R7, R8, AV.flat, fillIn_nil, fillIn_cons, splice, AV.cells, AV.one, eqsOf, idx, SO.calls, List.reduceReplicate, Nat.reduceBEq, Nat.reduceLT, Nat.reduceAdd, Nat.reduceMul, Nat.reduceSub, Nat.reduceLeDiff, Nat.reduceEqDiff, ↓reduceIte, Int.reduceLT, Int.reduceEq, Int.reduceBNe, Int.reduceBEq, aeq, Int.reduceLE, Int.reduceNeg, Int.reduceMul, Int.reduceAdd, Int.reduceSub, Int.reduceToNat, Int.reducePow, w4, w5, e1, e2, e3]
  try rw [tidy_flat rfl]
theorem c39 (n : Int) (H : Heap) : call env 39 [.int .i64 n] H = some (.str (mkS (putB (u16N n) 2)), H) := by
  have w1 := u16N_wrap n
  have w2 : IntKind.u32.wrap ((u16N n : Nat) : Int) = ((u16N n : Nat) : Int) := by have := u16N_lt n; rw [wrap_u32 (by omega) (by omega)]
  have e1 := fun H => c68 (u16N n) 2 H (by have := u16N_lt n; omega) (by decide)
  simp only [Int.cast_ofNat_Int] at e1
  refine call_ends (fn := s39) rfl rfl (by simp [s39]) ?_
  simp only [s39, R1, R2, R3, R4, R5, R6, R7, R8, AV.flat, fillIn_nil, fillIn_cons, splice, AV.cells, AV.one, eqsOf, idx, SO.calls, List.reduceReplicate, Nat.reduceBEq, Nat.reduceLT, Nat.reduceAdd, Nat.reduceMul, Nat.reduceSub, Nat.reduceLeDiff, Nat.reduceEqDiff, ↓reduceIte, Int.reduceLT, Int.reduceEq, Int.reduceBNe, Int.reduceBEq, aeq, Int.reduceLE, Int.reduceNeg, Int.reduceMul, Int.reduceAdd, Int.reduceSub, Int.reduceToNat, Int.reducePow, w1, w2, e1]
  try rw [tidy_flat0 rfl]
/-- Numbers in a row of their own. -/
theorem c38 {n : Nat} (h : n ≤ 60000) (H : Heap) : call env 38 [.int .i64 (n : Int)] H = some (.sl H.length 0 3 1 (some 3), H ++ [.cells ((threeP n).flatMap IntC) 3 true]) := by
  refine call_ends (fn := s38) rfl rfl (by simp [s38]) ?_
  by_cases h0 : n = 0
  · subst h0
    have ti := @tidy_sl1 H [.cells [.int .i64 0, .int .i64 0, .int .i64 0] 3 true] 0 0 3 1 (some 3) _ 3 true rfl rfl (by simp) (by decide)
    simp only [Nat.add_zero, List.drop_zero, Nat.mul_one, List.take_succ_cons, List.take_nil, List.take_zero] at ti
    simp only [s38, R1, R2, R3, R4, R5, R6, R7, R8, AV.flat, fillIn_nil, fillIn_cons, splice, AV.cells, AV.one, eqsOf, idx, SO.calls, List.reduceReplicate, Nat.reduceBEq, Nat.reduceLT, Nat.reduceAdd, Nat.reduceMul, Nat.reduceSub, Nat.reduceLeDiff, Nat.reduceEqDiff, ↓reduceIte, Int.reduceLT, Int.reduceEq, Int.reduceBNe, Int.reduceBEq, aeq, Int.reduceLE, Int.reduceNeg, Int.reduceMul, Int.reduceAdd, Int.reduceSub, Int.reduceToNat, Int.reducePow, Int.natCast_zero]
    rw [ti]; rfl
  · have c1 : ((n : Int) == 0) = false := by rw [beq_eq_false_iff_ne]; omega
    simp only [s38, R1, R2, R3, R4, R5, R6, R7, R8, AV.flat, fillIn_nil, fillIn_cons, splice, AV.cells, AV.one, eqsOf, idx, SO.calls, List.reduceReplicate, Nat.reduceBEq, Nat.reduceLT, Nat.reduceAdd, Nat.reduceMul, Nat.reduceSub, Nat.reduceLeDiff, Nat.reduceEqDiff, ↓reduceIte, Int.reduceLT, Int.reduceEq, Int.reduceBNe, Int.reduceBEq, aeq, Int.reduceLE, Int.reduceNeg, Int.reduceMul, Int.reduceAdd, Int.reduceSub, Int.reduceToNat, Int.reducePow, c1]
    refine ends_loop (fun k t H' => t.length = 25 ∧ H = H' ∧ t.getD 0 .undef = .int .i64 (n : Int) ∧ ∃ i : Nat, i ≤ n.log2 ∧ k = n.log2 - i ∧ t.getD 3 .undef = .int .i64 ((2 ^ i : Nat) : Int) ∧ t.getD 4 .undef = .int .i64 (i : Int)) n.log2 ?_ ?_
    · simp only [R1, R2, R3, R4, R5, R6, R7, R8, AV.flat, fillIn_nil, fillIn_cons, splice, AV.cells, AV.one, eqsOf, idx, SO.calls, List.reduceReplicate, Nat.reduceBEq, Nat.reduceLT, Nat.reduceAdd, Nat.reduceMul, Nat.reduceSub, Nat.reduceLeDiff, Nat.reduceEqDiff, ↓reduceIte, Int.reduceLT, Int.reduceEq, Int.reduceBNe, Int.reduceBEq, aeq, Int.reduceLE, Int.reduceNeg, Int.reduceMul, Int.reduceAdd, Int.reduceSub, Int.reduceToNat, Int.reducePow]
      exact ⟨0, by omega, by omega, rfl, rfl⟩
    · rintro k t H' ⟨g1, hH, g2, i, hi, rfl, g3, g4⟩
      subst hH
      rw [← tm_nil t]
      have hl := log2_le h0
      have hu := Nat.lt_log2_self (n := n)
      have hb : n.log2 ≤ 16 := by
        have := (Nat.log2_lt (k := 16) h0).2 (by omega); omega
      have hi2 : 2 ^ i ≤ 2 ^ n.log2 := Nat.pow_le_pow_right (by decide) hi
      have w1 : IntKind.i64.wrap (2 * ((2 ^ i : Nat) : Int)) = ((2 ^ (i + 1) : Nat) : Int) := by
        have : 2 ^ (i + 1) = 2 * 2 ^ i := by rw [Nat.pow_succ, Nat.mul_comm]
        rw [wrap_i64 (by omega) (by omega)]; omega
      by_cases hc : i < n.log2
      · have hi3 : 2 ^ (i + 1) ≤ 2 ^ n.log2 := Nat.pow_le_pow_right (by decide) hc
        have a1 : (((2 ^ (i + 1) : Nat) : Int) ≤ (n : Int)) = True := eq_true (by omega)
        have w2 : IntKind.i64.wrap ((i : Int) + 1) = ((i + 1 : Nat) : Int) := by rw [wrap_i64 (by omega) (by omega)]; rfl
        generalize hq : 2 ^ (i + 1) = q at *
        generalize 2 ^ i = q0 at *
        simp only [R1, R2, R3, R4, R5, R6, R7, R8, AV.flat, fillIn_nil, fillIn_cons, splice, AV.cells, AV.one, eqsOf, idx, SO.calls, List.reduceReplicate, Nat.reduceBEq, Nat.reduceLT, Nat.reduceAdd, Nat.reduceMul, Nat.reduceSub, Nat.reduceLeDiff, Nat.reduceEqDiff, ↓reduceIte, Int.reduceLT, Int.reduceEq, Int.reduceBNe, Int.reduceBEq, aeq, Int.reduceLE, Int.reduceNeg, Int.reduceMul, Int.reduceAdd, Int.reduceSub, Int.reduceToNat, Int.reducePow, g1, g2, g3, g4, w1, w2, a1]
        exact ⟨_, by omega, i + 1, by omega, rfl, by rw [hq], rfl⟩
      · obtain rfl : i = n.log2 := by omega
        have a1 : (((2 ^ (n.log2 + 1) : Nat) : Int) ≤ (n : Int)) = False := eq_false (by omega)
        have w4 : IntKind.i64.wrap (6 * (n : Int)) = 6 * (n : Int) := wrap_i64 (by omega) (by omega)
        have w3 : IntKind.i64.wrap (6 * ((2 ^ n.log2 : Nat) : Int)) = 6 * ((2 ^ n.log2 : Nat) : Int) := wrap_i64 (by omega) (by omega)
        have w5 : IntKind.i64.wrap (6 * (n : Int) - 6 * ((2 ^ n.log2 : Nat) : Int)) = 6 * (n : Int) - 6 * ((2 ^ n.log2 : Nat) : Int) := wrap_i64 (by omega) (by omega)
        have hT : threeP n = [6 * ((2 ^ n.log2 : Nat) : Int), (n.log2 : Nat), 6 * (n : Int) - 6 * ((2 ^ n.log2 : Nat) : Int)] := by rw [threeP, if_neg h0]
        rw [hT]
        generalize 2 ^ (n.log2 + 1) = q2 at *
        clear hT hl hu hi2 hb hi
        generalize 2 ^ n.log2 = q at *
        generalize n.log2 = i at *
        have ti := @tidy_sl1 H [.cells [.int .i64 (6 * (q : Int)), .int .i64 (i : Int), .int .i64 (6 * (n : Int) - 6 * (q : Int))] 3 true] 0 0 3 1 (some 3) _ 3 true rfl rfl (by simp) (by decide)
        simp only [Nat.add_zero, List.drop_zero, Nat.mul_one, List.take_succ_cons, List.take_nil, List.take_zero] at ti
        simp only [R1, R2, R3, R4, R5, R6, R7, R8, AV.flat, fillIn_nil, fillIn_cons, splice, AV.cells, AV.one, eqsOf, idx, SO.calls, List.reduceReplicate, Nat.reduceBEq, Nat.reduceLT, Nat.reduceAdd, Nat.reduceMul, Nat.reduceSub, Nat.reduceLeDiff, Nat.reduceEqDiff, ↓reduceIte, Int.reduceLT, Int.reduceEq, Int.reduceBNe, Int.reduceBEq, aeq, Int.reduceLE, Int.reduceNeg, Int.reduceMul, Int.reduceAdd, Int.reduceSub, Int.reduceToNat, Int.reducePow, g1, g2, g3, g4, w1, w3, w4, w5, a1]
        rw [ti]; rfl
end Go.Proofs.Ytppkggodpihfiaa
