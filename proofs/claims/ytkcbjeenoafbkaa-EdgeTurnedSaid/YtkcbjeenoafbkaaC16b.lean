/- Edges that are closed: the reference. -/
import Derived.Test.YtkcbjeenoafbkaaC16a
set_option linter.unusedVariables false
set_option linter.unusedSimpArgs false
set_option maxRecDepth 100000
set_option maxHeartbeats 1000000
namespace Go.Proofs.Ytkcbjeenoafbkaa
open Go Go.Den
theorem c22 {H : Heap} {v : AV} {l : List Edge} (hs : SlOf H 8 Edge.cs v l) (hn : l.length ≤ 1000000) : call env 22 [v] H = some (.bool (closedP l), H) := by
  have e1 := hs.lenOf
  refine call_ends (fn := s22) rfl rfl (by simp [s22]) ?_
  simp only [s22, R1, R2, R3, R4, R5, R6, R7, R8, AV.flat, fillIn_nil, fillIn_cons, splice, AV.cells, AV.one, eqsOf, idx, SO.calls, List.reduceReplicate, Nat.reduceBEq, Nat.reduceLT, Nat.reduceAdd, Nat.reduceMul, Nat.reduceSub, Nat.reduceLeDiff, Nat.reduceEqDiff, ↓reduceIte, Int.reduceLT, Int.reduceEq, Int.reduceBNe, Int.reduceBEq, aeq, Int.reduceLE, Int.reduceNeg, Int.reduceMul, Int.reduceAdd, Int.reduceSub, Int.reduceToNat, Int.reducePow]
  refine ends_loop (fun k t H' => t.length = 75 ∧ H' = H ∧ t.getD 0 .undef = v ∧ ∃ i f : Nat, i ≤ l.length ∧ k = l.length - i ∧ t.getD 4 .undef = .int .i64 (i : Int) ∧ t.getD 3 .undef = .int .i64 (f : Int) ∧ f ≤ i ∧ (i = l.length → closedP l = true) ∧
    ∀ (hi : i < l.length) (hf : f < l.length), closedP l = closedRest (if l[i].n = l[f].n then l[f] else l[i]) l[i] (l.drop (i + 1))) l.length ?_ ?_
  · simp only [R1, R2, R3, R4, R5, R6, R7, R8, AV.flat, fillIn_nil, fillIn_cons, splice, AV.cells, AV.one, eqsOf, idx, SO.calls, List.reduceReplicate, Nat.reduceBEq, Nat.reduceLT, Nat.reduceAdd, Nat.reduceMul, Nat.reduceSub, Nat.reduceLeDiff, Nat.reduceEqDiff, ↓reduceIte, Int.reduceLT, Int.reduceEq, Int.reduceBNe, Int.reduceBEq, aeq, Int.reduceLE, Int.reduceNeg, Int.reduceMul, Int.reduceAdd, Int.reduceSub, Int.reduceToNat, Int.reducePow]
    refine ⟨0, 0, by omega, by omega, rfl, rfl, by omega, fun h => ?_, fun hi hf => ?_⟩
    · have : l = [] := List.length_eq_zero_iff.1 h.symm
      rw [this]; rfl
    · rw [if_pos rfl]; exact closed_cons hi
  · rintro k t H' ⟨g1, rfl, g2, i, f, hi, rfl, g3, g4, hfi, g5, g6⟩
    rw [← tm_nil t]
    by_cases hc : i < l.length
    · have hf : f < l.length := by omega
      have g7 := g6 hc hf
      clear g5 g6
      have a1 : ((i : Int) < (l.length : Int)) = True := eq_true (by omega)
      have w1 : IntKind.i64.wrap ((l.length : Int) - 1) = ((l.length - 1 : Nat) : Int) := by rw [wrap_i64 (by omega) (by omega)]; omega
      have w2 : IntKind.i64.wrap ((i : Int) + 1) = ((i + 1 : Nat) : Int) := by rw [wrap_i64 (by omega) (by omega)]; rfl
      have Ei := hs.elem0 hc
      have Ef := hs.elem0 hf
      by_cases hne : l[i].n = l[f].n
      · have b1 : (l[i].n != l[f].n) = false := by simp [hne]
        rw [if_pos hne] at g7
        by_cases hl : i + 1 < l.length
        · have b2 : ((i : Int) == ((l.length - 1 : Nat) : Int)) = false := by simp; omega
          have En := hs.elem0 hl
          rw [cons_at hl, closedRest] at g7
          by_cases hm : l[i + 1].n = l[i].n
          · have b3 : (l[i + 1].n != l[i].n) = false := by simp [hm]
            rw [if_pos hm] at g7
            by_cases hp : l[i].c = l[i + 1].a
            · have b4 := pt_eq hp
              rw [decide_eq_true hp, Bool.true_and] at g7
              simp only [R1, R2, R3, R4, R5, R6, R7, R8, AV.flat, fillIn_nil, fillIn_cons, splice, AV.cells, AV.one, eqsOf, idx, SO.calls, List.reduceReplicate, Nat.reduceBEq, Nat.reduceLT, Nat.reduceAdd, Nat.reduceMul, Nat.reduceSub, Nat.reduceLeDiff, Nat.reduceEqDiff, ↓reduceIte, Int.reduceLT, Int.reduceEq, Int.reduceBNe, Int.reduceBEq, aeq, Int.reduceLE, Int.reduceNeg, Int.reduceMul, Int.reduceAdd, Int.reduceSub, Int.reduceToNat, Int.reducePow, g1, g2, g3, g4, e1, a1, w1, w2, Ei, Ef, Edge.cs, b1, aeqs, b2, b3, b4, En]
              refine ⟨_, by omega, i + 1, f, by omega, rfl, rfl, rfl, by omega, fun h => by omega, fun hi hf => ?_⟩
              rw [if_pos (by rw [hm]; exact hne), g7]
            · have b4 := pt_ne hp
              rw [decide_eq_false hp, Bool.false_and] at g7
              rw [g7]
              simp only [R1, R2, R3, R4, R5, R6, R7, R8, AV.flat, fillIn_nil, fillIn_cons, splice, AV.cells, AV.one, eqsOf, idx, SO.calls, List.reduceReplicate, Nat.reduceBEq, Nat.reduceLT, Nat.reduceAdd, Nat.reduceMul, Nat.reduceSub, Nat.reduceLeDiff, Nat.reduceEqDiff, ↓reduceIte, Int.reduceLT, Int.reduceEq, Int.reduceBNe, Int.reduceBEq, aeq, Int.reduceLE, Int.reduceNeg, Int.reduceMul, Int.reduceAdd, Int.reduceSub, Int.reduceToNat, Int.reducePow, g1, g2, g3, g4, e1, a1, w1, w2, Ei, Ef, Edge.cs, b1, aeqs, b2, b3, b4, En, tidy_bool]
          · have b3 : (l[i + 1].n != l[i].n) = true := by simp [hm]
            rw [if_neg hm] at g7
            by_cases hp : l[i].c = l[f].a
            · have b4 := pt_eq hp
              rw [decide_eq_true hp, Bool.true_and] at g7
              simp only [R1, R2, R3, R4, R5, R6, R7, R8, AV.flat, fillIn_nil, fillIn_cons, splice, AV.cells, AV.one, eqsOf, idx, SO.calls, List.reduceReplicate, Nat.reduceBEq, Nat.reduceLT, Nat.reduceAdd, Nat.reduceMul, Nat.reduceSub, Nat.reduceLeDiff, Nat.reduceEqDiff, ↓reduceIte, Int.reduceLT, Int.reduceEq, Int.reduceBNe, Int.reduceBEq, aeq, Int.reduceLE, Int.reduceNeg, Int.reduceMul, Int.reduceAdd, Int.reduceSub, Int.reduceToNat, Int.reducePow, g1, g2, g3, g4, e1, a1, w1, w2, Ei, Ef, Edge.cs, b1, aeqs, b2, b3, b4, En]
              refine ⟨_, by omega, i + 1, f, by omega, rfl, rfl, rfl, by omega, fun h => by omega, fun hi hf => ?_⟩
              rw [if_neg (fun h => hm (h.trans hne.symm)), g7]
            · have b4 := pt_ne hp
              rw [decide_eq_false hp, Bool.false_and] at g7
              rw [g7]
              simp only [R1, R2, R3, R4, R5, R6, R7, R8, AV.flat, fillIn_nil, fillIn_cons, splice, AV.cells, AV.one, eqsOf, idx, SO.calls, List.reduceReplicate, Nat.reduceBEq, Nat.reduceLT, Nat.reduceAdd, Nat.reduceMul, Nat.reduceSub, Nat.reduceLeDiff, Nat.reduceEqDiff, ↓reduceIte, Int.reduceLT, Int.reduceEq, Int.reduceBNe, Int.reduceBEq, aeq, Int.reduceLE, Int.reduceNeg, Int.reduceMul, Int.reduceAdd, Int.reduceSub, Int.reduceToNat, Int.reducePow, g1, g2, g3, g4, e1, a1, w1, w2, Ei, Ef, Edge.cs, b1, aeqs, b2, b3, b4, En, tidy_bool]
        · have b2 : ((i : Int) == ((l.length - 1 : Nat) : Int)) = true := by simp; omega
          have hd : l.drop (i + 1) = [] := List.drop_eq_nil_of_le (by omega)
          rw [hd, closedRest] at g7
          by_cases hp : l[i].c = l[f].a
          · have b4 := pt_eq hp
            rw [decide_eq_true hp] at g7
            simp only [R1, R2, R3, R4, R5, R6, R7, R8, AV.flat, fillIn_nil, fillIn_cons, splice, AV.cells, AV.one, eqsOf, idx, SO.calls, List.reduceReplicate, Nat.reduceBEq, Nat.reduceLT, Nat.reduceAdd, Nat.reduceMul, Nat.reduceSub, Nat.reduceLeDiff, Nat.reduceEqDiff, ↓reduceIte, Int.reduceLT, Int.reduceEq, Int.reduceBNe, Int.reduceBEq, aeq, Int.reduceLE, Int.reduceNeg, Int.reduceMul, Int.reduceAdd, Int.reduceSub, Int.reduceToNat, Int.reducePow, g1, g2, g3, g4, e1, a1, w1, w2, Ei, Ef, Edge.cs, b1, aeqs, b2, b4]
            exact ⟨_, by omega, i + 1, f, by omega, rfl, rfl, rfl, by omega, fun h => g7, fun hi hf => by omega⟩
          · have b4 := pt_ne hp
            rw [decide_eq_false hp] at g7
            rw [g7]
            simp only [R1, R2, R3, R4, R5, R6, R7, R8, AV.flat, fillIn_nil, fillIn_cons, splice, AV.cells, AV.one, eqsOf, idx, SO.calls, List.reduceReplicate, Nat.reduceBEq, Nat.reduceLT, Nat.reduceAdd, Nat.reduceMul, Nat.reduceSub, Nat.reduceLeDiff, Nat.reduceEqDiff, ↓reduceIte, Int.reduceLT, Int.reduceEq, Int.reduceBNe, Int.reduceBEq, aeq, Int.reduceLE, Int.reduceNeg, Int.reduceMul, Int.reduceAdd, Int.reduceSub, Int.reduceToNat, Int.reducePow, g1, g2, g3, g4, e1, a1, w1, w2, Ei, Ef, Edge.cs, b1, aeqs, b2, b4, tidy_bool]
      · have b1 : (l[i].n != l[f].n) = true := by simp [hne]
        rw [if_neg hne] at g7
        by_cases hl : i + 1 < l.length
        · have b2 : ((i : Int) == ((l.length - 1 : Nat) : Int)) = false := by simp; omega
          have En := hs.elem0 hl
          rw [cons_at hl, closedRest] at g7
          by_cases hm : l[i + 1].n = l[i].n
          · have b3 : (l[i + 1].n != l[i].n) = false := by simp [hm]
            rw [if_pos hm] at g7
            by_cases hp : l[i].c = l[i + 1].a
            · have b4 := pt_eq hp
              rw [decide_eq_true hp, Bool.true_and] at g7
              simp only [R1, R2, R3, R4, R5, R6, R7, R8, AV.flat, fillIn_nil, fillIn_cons, splice, AV.cells, AV.one, eqsOf, idx, SO.calls, List.reduceReplicate, Nat.reduceBEq, Nat.reduceLT, Nat.reduceAdd, Nat.reduceMul, Nat.reduceSub, Nat.reduceLeDiff, Nat.reduceEqDiff, ↓reduceIte, Int.reduceLT, Int.reduceEq, Int.reduceBNe, Int.reduceBEq, aeq, Int.reduceLE, Int.reduceNeg, Int.reduceMul, Int.reduceAdd, Int.reduceSub, Int.reduceToNat, Int.reducePow, g1, g2, g3, g4, e1, a1, w1, w2, Ei, Ef, Edge.cs, b1, aeqs, b2, b3, b4, En]
              refine ⟨_, by omega, i + 1, i, by omega, rfl, rfl, rfl, by omega, fun h => by omega, fun hi hf => ?_⟩
              rw [if_pos (by rw [hm]), g7]
            · have b4 := pt_ne hp
              rw [decide_eq_false hp, Bool.false_and] at g7
              rw [g7]
              simp only [R1, R2, R3, R4, R5, R6, R7, R8, AV.flat, fillIn_nil, fillIn_cons, splice, AV.cells, AV.one, eqsOf, idx, SO.calls, List.reduceReplicate, Nat.reduceBEq, Nat.reduceLT, Nat.reduceAdd, Nat.reduceMul, Nat.reduceSub, Nat.reduceLeDiff, Nat.reduceEqDiff, ↓reduceIte, Int.reduceLT, Int.reduceEq, Int.reduceBNe, Int.reduceBEq, aeq, Int.reduceLE, Int.reduceNeg, Int.reduceMul, Int.reduceAdd, Int.reduceSub, Int.reduceToNat, Int.reducePow, g1, g2, g3, g4, e1, a1, w1, w2, Ei, Ef, Edge.cs, b1, aeqs, b2, b3, b4, En, tidy_bool]
          · have b3 : (l[i + 1].n != l[i].n) = true := by simp [hm]
            rw [if_neg hm] at g7
            by_cases hp : l[i].c = l[i].a
            · have b4 := pt_eq hp
              rw [decide_eq_true hp, Bool.true_and] at g7
              simp only [R1, R2, R3, R4, R5, R6, R7, R8, AV.flat, fillIn_nil, fillIn_cons, splice, AV.cells, AV.one, eqsOf, idx, SO.calls, List.reduceReplicate, Nat.reduceBEq, Nat.reduceLT, Nat.reduceAdd, Nat.reduceMul, Nat.reduceSub, Nat.reduceLeDiff, Nat.reduceEqDiff, ↓reduceIte, Int.reduceLT, Int.reduceEq, Int.reduceBNe, Int.reduceBEq, aeq, Int.reduceLE, Int.reduceNeg, Int.reduceMul, Int.reduceAdd, Int.reduceSub, Int.reduceToNat, Int.reducePow, g1, g2, g3, g4, e1, a1, w1, w2, Ei, Ef, Edge.cs, b1, aeqs, b2, b3, b4, En]
              refine ⟨_, by omega, i + 1, i, by omega, rfl, rfl, rfl, by omega, fun h => by omega, fun hi hf => ?_⟩
              rw [if_neg (hm), g7]
            · have b4 := pt_ne hp
              rw [decide_eq_false hp, Bool.false_and] at g7
              rw [g7]
              simp only [R1, R2, R3, R4, R5, R6, R7, R8, AV.flat, fillIn_nil, fillIn_cons, splice, AV.cells, AV.one, eqsOf, idx, SO.calls, List.reduceReplicate, Nat.reduceBEq, Nat.reduceLT, Nat.reduceAdd, Nat.reduceMul, Nat.reduceSub, Nat.reduceLeDiff, Nat.reduceEqDiff, ↓reduceIte, Int.reduceLT, Int.reduceEq, Int.reduceBNe, Int.reduceBEq, aeq, Int.reduceLE, Int.reduceNeg, Int.reduceMul, Int.reduceAdd, Int.reduceSub, Int.reduceToNat, Int.reducePow, g1, g2, g3, g4, e1, a1, w1, w2, Ei, Ef, Edge.cs, b1, aeqs, b2, b3, b4, En, tidy_bool]
        · have b2 : ((i : Int) == ((l.length - 1 : Nat) : Int)) = true := by simp; omega
          have hd : l.drop (i + 1) = [] := List.drop_eq_nil_of_le (by omega)
          rw [hd, closedRest] at g7
          by_cases hp : l[i].c = l[i].a
          · have b4 := pt_eq hp
            rw [decide_eq_true hp] at g7
            simp only [R1, R2, R3, R4, R5, R6, R7, R8, AV.flat, fillIn_nil, fillIn_cons, splice, AV.cells, AV.one, eqsOf, idx, SO.calls, List.reduceReplicate, Nat.reduceBEq, Nat.reduceLT, Nat.reduceAdd, Nat.reduceMul, Nat.reduceSub, Nat.reduceLeDiff, Nat.reduceEqDiff, ↓reduceIte, Int.reduceLT, Int.reduceEq, Int.reduceBNe, Int.reduceBEq, aeq, Int.reduceLE, Int.reduceNeg, Int.reduceMul, Int.reduceAdd, Int.reduceSub, Int.reduceToNat, Int.reducePow, g1, g2, g3, g4, e1, a1, w1, w2, Ei, Ef, Edge.cs, b1, aeqs, b2, b4]
            exact ⟨_, by omega, i + 1, i, by omega, rfl, rfl, rfl, by omega, fun h => g7, fun hi hf => by omega⟩
          · have b4 := pt_ne hp
            rw [decide_eq_false hp] at g7
            rw [g7]
            simp only [R1, R2, R3, R4, R5, R6, R7, R8, AV.flat, fillIn_nil, fillIn_cons, splice, AV.cells, AV.one, eqsOf, idx, SO.calls, List.reduceReplicate, Nat.reduceBEq, Nat.reduceLT, Nat.reduceAdd, Nat.reduceMul, Nat.reduceSub, Nat.reduceLeDiff, Nat.reduceEqDiff, ↓reduceIte, Int.reduceLT, Int.reduceEq, Int.reduceBNe, Int.reduceBEq, aeq, Int.reduceLE, Int.reduceNeg, Int.reduceMul, Int.reduceAdd, Int.reduceSub, Int.reduceToNat, Int.reducePow, g1, g2, g3, g4, e1, a1, w1, w2, Ei, Ef, Edge.cs, b1, aeqs, b2, b4, tidy_bool]
    · have a1 : ((i : Int) < (l.length : Int)) = False := eq_false (by omega)
      rw [g5 (by omega)]
      simp only [R1, R2, R3, R4, R5, R6, R7, R8, AV.flat, fillIn_nil, fillIn_cons, splice, AV.cells, AV.one, eqsOf, idx, SO.calls, List.reduceReplicate, Nat.reduceBEq, Nat.reduceLT, Nat.reduceAdd, Nat.reduceMul, Nat.reduceSub, Nat.reduceLeDiff, Nat.reduceEqDiff, ↓reduceIte, Int.reduceLT, Int.reduceEq, Int.reduceBNe, Int.reduceBEq, aeq, Int.reduceLE, Int.reduceNeg, Int.reduceMul, Int.reduceAdd, Int.reduceSub, Int.reduceToNat, Int.reducePow, g1, g2, g3, e1, a1, tidy_bool]
end Go.Proofs.Ytkcbjeenoafbkaa
