/- Chapter 42: the reference's Step, Apply, Steps. -/
import Derived.Test.YtkcbjeenoafbkaaC42e
set_option linter.unusedVariables false
set_option linter.unusedSimpArgs false
set_option maxRecDepth 100000
set_option maxHeartbeats 2000000
namespace Go.Proofs.Ytkcbjeenoafbkaa
open Go Go.Den
theorem c57 {p : List UInt8} (hp : p.length ≤ 1000000) {a : Nat} (ha : a + 4 ≤ p.length) (H : Heap) : call env 57 [.str (mkS p), .int .i64 (a : Int)] H = some (.int .i64 (n4 p a : Nat), H) := by
  have e1 := fun H => c91 p (a : Int) H hp
  have hc := cut_ok (p := p) (a := a) (n := 4) ha
  simp only [Int.cast_ofNat_Int] at hc
  rw [hc] at e1
  simp only [cutS, cutE, Option.getD_some, Option.isSome_some, if_true] at e1
  have hb := n4_lt p a
  change ∀ H, call env _ _ H = some (.tup [.int .u32 (n4 p a : Nat), _], H) at e1
  have w1 : IntKind.i64.wrap ((n4 p a : Nat) : Int) = (n4 p a : Nat) := wrap_i64 (by omega) (by omega)
  refine call_ends (fn := s57) rfl rfl (by simp [s57]) ?_
  simp only [s57, R1, R2, R3, R4, R5, R6, R7, R8, AV.flat, fillIn_nil, fillIn_cons, splice, AV.cells, AV.one, eqsOf, idx, SO.calls, List.reduceReplicate, Nat.reduceBEq, Nat.reduceLT, Nat.reduceAdd, Nat.reduceMul, Nat.reduceSub, Nat.reduceLeDiff, Nat.reduceEqDiff, ↓reduceIte, Int.reduceLT, Int.reduceEq, Int.reduceBNe, Int.reduceBEq, aeq, Int.reduceLE, Int.reduceNeg, Int.reduceMul, Int.reduceAdd, Int.reduceSub, Int.reduceToNat, Int.reducePow, e1, w1, tidy_int]
def refT (p : List UInt8) (a : Nat) : List AV := if stepE p a = 0 then [.bool (decide (kd p a = 0)), .int .i64 (if kd p a = 0 then (n4 p (a + 1) : Nat) else (a + 5 : Nat) : Int), .int .i64 (cnt p a : Nat), .int .i64 (stepN p a : Nat), .int .i64 0]
  else [.bool false, .int .i64 0, .int .i64 0, .int .i64 0, .int .i64 (stepE p a)]
theorem c58 {p : List UInt8} (hp : p.length ≤ 1000000) {a : Nat} (ha : a < p.length) (H : Heap) : call env 58 [.str (mkS p), .int .i64 (a : Int)] H = some (.tup (refT p a), H) := by
  have e16 : p[a]? = some p[a] := List.getElem?_eq_getElem ha
  have hk : (p[a].toNat : Int) = (kd p a : Nat) := by unfold kd; simp [List.getD_eq_getElem?_getD, ha]
  have w0 : IntKind.i64.wrap ((p.length : Int) - (a : Int)) = ((p.length - a : Nat) : Int) := by rw [wrap_i64 (by omega) (by omega)]; omega
  have hcl : cnt p a < 4294967296 := n4_lt _ _
  by_cases h1 : kd p a > 1
  · have hE : stepE p a = 4 := by unfold stepE; rw [if_pos h1]
    have b1 : (((kd p a : Nat) : Int) > 1) = True := eq_true (by omega)
    have hT : refT p a = [.bool false, .int .i64 0, .int .i64 0, .int .i64 0, .int .i64 4] := by unfold refT; rw [hE]; rfl
    rw [hT]
    refine call_ends (fn := s58) rfl rfl (by simp [s58]) ?_
    simp only [s58, R1, R2, R3, R4, R5, R6, R7, R8, AV.flat, fillIn_nil, fillIn_cons, splice, AV.cells, AV.one, eqsOf, idx, SO.calls, List.reduceReplicate, Nat.reduceBEq, Nat.reduceLT, Nat.reduceAdd, Nat.reduceMul, Nat.reduceSub, Nat.reduceLeDiff, Nat.reduceEqDiff, ↓reduceIte, Int.reduceLT, Int.reduceEq, Int.reduceBNe, Int.reduceBEq, aeq, Int.reduceLE, Int.reduceNeg, Int.reduceMul, Int.reduceAdd, Int.reduceSub, Int.reduceToNat, Int.reducePow, ixs_mkS, e16, hk, b1]
  have b1 : (((kd p a : Nat) : Int) > 1) = False := eq_false (by omega)
  by_cases h0 : kd p a = 0
  · have b2 : (((kd p a : Nat) : Int) == 0) = true := by rw [h0]; rfl
    have hd9 : hdL p a = 9 := if_pos h0
    by_cases hl : p.length - a < 9
    · have hE : stepE p a = 3 := by unfold stepE; rw [if_neg h1, hd9, if_pos hl]
      have b3 : (((p.length - a : Nat) : Int) < 9) = True := eq_true (by omega)
      have hT : refT p a = [.bool false, .int .i64 0, .int .i64 0, .int .i64 0, .int .i64 3] := by unfold refT; rw [hE]; rfl
      rw [hT]
      refine call_ends (fn := s58) rfl rfl (by simp [s58]) ?_
      simp only [s58, R1, R2, R3, R4, R5, R6, R7, R8, AV.flat, fillIn_nil, fillIn_cons, splice, AV.cells, AV.one, eqsOf, idx, SO.calls, List.reduceReplicate, Nat.reduceBEq, Nat.reduceLT, Nat.reduceAdd, Nat.reduceMul, Nat.reduceSub, Nat.reduceLeDiff, Nat.reduceEqDiff, ↓reduceIte, Int.reduceLT, Int.reduceEq, Int.reduceBNe, Int.reduceBEq, aeq, Int.reduceLE, Int.reduceNeg, Int.reduceMul, Int.reduceAdd, Int.reduceSub, Int.reduceToNat, Int.reducePow, ixs_mkS, e16, hk, b1, b2, w0, b3]
    · have b3 : (((p.length - a : Nat) : Int) < 9) = False := eq_false (by omega)
      have w1 : IntKind.i64.wrap ((a : Int) + 9) = ((a + 9 : Nat) : Int) := by rw [wrap_i64 (by omega) (by omega)]; rfl
      have w2 : IntKind.i64.wrap (((a + 9 : Nat) : Int) - 4) = ((a + 5 : Nat) : Int) := by rw [wrap_i64 (by omega) (by omega)]; omega
      have w3 : IntKind.i64.wrap ((a : Int) + 1) = ((a + 1 : Nat) : Int) := by rw [wrap_i64 (by omega) (by omega)]; rfl
      have e1 := fun H => c57 hp (a := a + 5) (by omega) H
      have e2 := fun H => c57 hp (a := a + 1) (by omega) H
      have hc : n4 p (a + 5) = cnt p a := by unfold cnt; rw [hd9, show a + 9 - 4 = a + 5 by omega]
      rw [hc] at e1
      by_cases hz : cnt p a = 0
      · have hE : stepE p a = 4 := by unfold stepE; rw [if_neg h1, hd9, if_neg hl, if_pos hz]
        have b4 : (((cnt p a : Nat) : Int) == 0) = true := by rw [hz]; rfl
        have hT : refT p a = [.bool false, .int .i64 0, .int .i64 0, .int .i64 0, .int .i64 4] := by unfold refT; rw [hE]; rfl
        rw [hT]
        refine call_ends (fn := s58) rfl rfl (by simp [s58]) ?_
        simp only [s58, R1, R2, R3, R4, R5, R6, R7, R8, AV.flat, fillIn_nil, fillIn_cons, splice, AV.cells, AV.one, eqsOf, idx, SO.calls, List.reduceReplicate, Nat.reduceBEq, Nat.reduceLT, Nat.reduceAdd, Nat.reduceMul, Nat.reduceSub, Nat.reduceLeDiff, Nat.reduceEqDiff, ↓reduceIte, Int.reduceLT, Int.reduceEq, Int.reduceBNe, Int.reduceBEq, aeq, Int.reduceLE, Int.reduceNeg, Int.reduceMul, Int.reduceAdd, Int.reduceSub, Int.reduceToNat, Int.reducePow, ixs_mkS, e16, hk, b1, b2, w0, b3, w1, w2, e1, b4]
      · have hE : stepE p a = 0 := by unfold stepE; rw [if_neg h1, hd9, if_neg hl, if_neg hz, if_pos h0]
        have b4 : (((cnt p a : Nat) : Int) == 0) = false := by rw [beq_eq_false_iff_ne]; omega
        have hN : stepN p a = a + 9 := if_pos h0
        have hT : refT p a = [.bool true, .int .i64 (n4 p (a + 1) : Nat), .int .i64 (cnt p a : Nat), .int .i64 ((a + 9 : Nat) : Int), .int .i64 0] := by unfold refT; rw [if_pos hE, if_pos h0, decide_eq_true h0, hN]
        rw [hT]
        refine call_ends (fn := s58) rfl rfl (by simp [s58]) ?_
        simp only [s58, R1, R2, R3, R4, R5, R6, R7, R8, AV.flat, fillIn_nil, fillIn_cons, splice, AV.cells, AV.one, eqsOf, idx, SO.calls, List.reduceReplicate, Nat.reduceBEq, Nat.reduceLT, Nat.reduceAdd, Nat.reduceMul, Nat.reduceSub, Nat.reduceLeDiff, Nat.reduceEqDiff, ↓reduceIte, Int.reduceLT, Int.reduceEq, Int.reduceBNe, Int.reduceBEq, aeq, Int.reduceLE, Int.reduceNeg, Int.reduceMul, Int.reduceAdd, Int.reduceSub, Int.reduceToNat, Int.reducePow, ixs_mkS, e16, hk, b1, b2, w0, b3, w1, w2, w3, e1, e2, b4]
  · have b2 : (((kd p a : Nat) : Int) == 0) = false := by rw [beq_eq_false_iff_ne]; omega
    have hd5 : hdL p a = 5 := if_neg h0
    by_cases hl : p.length - a < 5
    · have hE : stepE p a = 3 := by unfold stepE; rw [if_neg h1, hd5, if_pos hl]
      have b3 : (((p.length - a : Nat) : Int) < 5) = True := eq_true (by omega)
      have hT : refT p a = [.bool false, .int .i64 0, .int .i64 0, .int .i64 0, .int .i64 3] := by unfold refT; rw [hE]; rfl
      rw [hT]
      refine call_ends (fn := s58) rfl rfl (by simp [s58]) ?_
      simp only [s58, R1, R2, R3, R4, R5, R6, R7, R8, AV.flat, fillIn_nil, fillIn_cons, splice, AV.cells, AV.one, eqsOf, idx, SO.calls, List.reduceReplicate, Nat.reduceBEq, Nat.reduceLT, Nat.reduceAdd, Nat.reduceMul, Nat.reduceSub, Nat.reduceLeDiff, Nat.reduceEqDiff, ↓reduceIte, Int.reduceLT, Int.reduceEq, Int.reduceBNe, Int.reduceBEq, aeq, Int.reduceLE, Int.reduceNeg, Int.reduceMul, Int.reduceAdd, Int.reduceSub, Int.reduceToNat, Int.reducePow, ixs_mkS, e16, hk, b1, b2, w0, b3]
    · have b3 : (((p.length - a : Nat) : Int) < 5) = False := eq_false (by omega)
      have w1 : IntKind.i64.wrap ((a : Int) + 5) = ((a + 5 : Nat) : Int) := by rw [wrap_i64 (by omega) (by omega)]; rfl
      have w2 : IntKind.i64.wrap (((a + 5 : Nat) : Int) - 4) = ((a + 1 : Nat) : Int) := by rw [wrap_i64 (by omega) (by omega)]; omega
      have w4 : IntKind.i64.wrap (((p.length - a : Nat) : Int) - 5) = ((p.length - a - 5 : Nat) : Int) := by rw [wrap_i64 (by omega) (by omega)]; omega
      have w5 : IntKind.i64.wrap (((a + 5 : Nat) : Int) + ((cnt p a : Nat) : Int)) = ((a + 5 + cnt p a : Nat) : Int) := by rw [wrap_i64 (by omega) (by omega)]; rfl
      have e1 := fun H => c57 hp (a := a + 1) (by omega) H
      have hc : n4 p (a + 1) = cnt p a := by unfold cnt; rw [hd5, show a + 5 - 4 = a + 1 by omega]
      rw [hc] at e1
      by_cases hz : cnt p a = 0
      · have hE : stepE p a = 4 := by unfold stepE; rw [if_neg h1, hd5, if_neg hl, if_pos hz]
        have b4 : (((cnt p a : Nat) : Int) == 0) = true := by rw [hz]; rfl
        have hT : refT p a = [.bool false, .int .i64 0, .int .i64 0, .int .i64 0, .int .i64 4] := by unfold refT; rw [hE]; rfl
        rw [hT]
        refine call_ends (fn := s58) rfl rfl (by simp [s58]) ?_
        simp only [s58, R1, R2, R3, R4, R5, R6, R7, R8, AV.flat, fillIn_nil, fillIn_cons, splice, AV.cells, AV.one, eqsOf, idx, SO.calls, List.reduceReplicate, Nat.reduceBEq, Nat.reduceLT, Nat.reduceAdd, Nat.reduceMul, Nat.reduceSub, Nat.reduceLeDiff, Nat.reduceEqDiff, ↓reduceIte, Int.reduceLT, Int.reduceEq, Int.reduceBNe, Int.reduceBEq, aeq, Int.reduceLE, Int.reduceNeg, Int.reduceMul, Int.reduceAdd, Int.reduceSub, Int.reduceToNat, Int.reducePow, ixs_mkS, e16, hk, b1, b2, w0, b3, w1, w2, e1, b4]
      · have b4 : (((cnt p a : Nat) : Int) == 0) = false := by rw [beq_eq_false_iff_ne]; omega
        by_cases ho : cnt p a > p.length - a - 5
        · have hE : stepE p a = 3 := by unfold stepE; rw [if_neg h1, hd5, if_neg hl, if_neg hz, if_neg h0, if_pos ho]
          have b5 : (((cnt p a : Nat) : Int) > ((p.length - a - 5 : Nat) : Int)) = True := eq_true (by omega)
          have hT : refT p a = [.bool false, .int .i64 0, .int .i64 0, .int .i64 0, .int .i64 3] := by unfold refT; rw [hE]; rfl
          rw [hT]
          refine call_ends (fn := s58) rfl rfl (by simp [s58]) ?_
          simp only [s58, R1, R2, R3, R4, R5, R6, R7, R8, AV.flat, fillIn_nil, fillIn_cons, splice, AV.cells, AV.one, eqsOf, idx, SO.calls, List.reduceReplicate, Nat.reduceBEq, Nat.reduceLT, Nat.reduceAdd, Nat.reduceMul, Nat.reduceSub, Nat.reduceLeDiff, Nat.reduceEqDiff, ↓reduceIte, Int.reduceLT, Int.reduceEq, Int.reduceBNe, Int.reduceBEq, aeq, Int.reduceLE, Int.reduceNeg, Int.reduceMul, Int.reduceAdd, Int.reduceSub, Int.reduceToNat, Int.reducePow, ixs_mkS, e16, hk, b1, b2, w0, b3, w1, w2, w4, e1, b4, b5]
        · have hE : stepE p a = 0 := by unfold stepE; rw [if_neg h1, hd5, if_neg hl, if_neg hz, if_neg h0, if_neg ho]
          have b5 : (((cnt p a : Nat) : Int) > ((p.length - a - 5 : Nat) : Int)) = False := eq_false (by omega)
          have hN : stepN p a = a + 5 + cnt p a := if_neg h0
          have hT : refT p a = [.bool false, .int .i64 ((a + 5 : Nat) : Int), .int .i64 (cnt p a : Nat), .int .i64 ((a + 5 + cnt p a : Nat) : Int), .int .i64 0] := by unfold refT; rw [if_pos hE, if_neg h0, decide_eq_false h0, hN]
          rw [hT]
          refine call_ends (fn := s58) rfl rfl (by simp [s58]) ?_
          simp only [s58, R1, R2, R3, R4, R5, R6, R7, R8, AV.flat, fillIn_nil, fillIn_cons, splice, AV.cells, AV.one, eqsOf, idx, SO.calls, List.reduceReplicate, Nat.reduceBEq, Nat.reduceLT, Nat.reduceAdd, Nat.reduceMul, Nat.reduceSub, Nat.reduceLeDiff, Nat.reduceEqDiff, ↓reduceIte, Int.reduceLT, Int.reduceEq, Int.reduceBNe, Int.reduceBEq, aeq, Int.reduceLE, Int.reduceNeg, Int.reduceMul, Int.reduceAdd, Int.reduceSub, Int.reduceToNat, Int.reducePow, ixs_mkS, e16, hk, b1, b2, w0, b3, w1, w2, w4, w5, e1, b4, b5]
end Go.Proofs.Ytkcbjeenoafbkaa
