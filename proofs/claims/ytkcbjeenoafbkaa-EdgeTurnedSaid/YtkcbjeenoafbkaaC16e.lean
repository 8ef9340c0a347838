/- Chapter 16: EdgeAsks, in the machine. -/
import Derived.Test.YtkcbjeenoafbkaaC16d
set_option linter.unusedVariables false
set_option linter.unusedSimpArgs false
set_option maxRecDepth 100000
set_option maxHeartbeats 1000000
namespace Go.Proofs.Ytkcbjeenoafbkaa
open Go Go.Den
theorem c4 {v : AV} {l : List Edge} (hs : SlOf [] 8 Edge.cs v l) : call env 4 [v] [] = some (.bool true, []) := by
  have e0 := fun H => w13 H
  have e1 := hs.lenOf
  by_cases hn : l.length ≤ 60
  · have e2 := fun X => c20 (hs.app X) (by omega)
    have e3 := fun X => c21 (hs.app X) (by omega)
    have e4 := fun X => c19 (hs.app X) (by omega)
    have e5 := fun X => c22 (hs.app X) (by omega)
    have e6 := fun X => c18 (hs.app X) (by omega)
    have e7 := fun X => c23 (hs.app X) (by omega)
    have d1 : ((l.length : Int) > 60) = False := eq_false (by omega)
    generalize boxP l = B at *
    obtain ⟨lo, hi, ok⟩ := B
    simp only [Pt.cs, List.nil_append] at e2 e3 e4 e5 e6 e7
    refine call_ends (fn := s4) rfl rfl (by simp [s4]) ?_
    simp only [s4, R1, R2, R3, R4, R5, R6, R7, R8, AV.flat, fillIn_nil, fillIn_cons, splice, AV.cells, AV.one, eqsOf, idx, SO.calls, List.reduceReplicate, Nat.reduceBEq, Nat.reduceLT, Nat.reduceAdd, Nat.reduceMul, Nat.reduceSub, Nat.reduceLeDiff, Nat.reduceEqDiff, ↓reduceIte, Int.reduceLT, Int.reduceEq, Int.reduceBNe, Int.reduceBEq, aeq, Int.reduceLE, Int.reduceNeg, Int.reduceMul, Int.reduceAdd, Int.reduceSub, Int.reduceToNat, Int.reducePow, e0, e1, d1, e2, e3, e4, e5, e6, e7, aeqs]
  · have d1 : ((l.length : Int) > 60) = True := eq_true (by omega)
    refine call_ends (fn := s4) rfl rfl (by simp [s4]) ?_
    simp only [s4, R1, R2, R3, R4, R5, R6, R7, R8, AV.flat, fillIn_nil, fillIn_cons, splice, AV.cells, AV.one, eqsOf, idx, SO.calls, List.reduceReplicate, Nat.reduceBEq, Nat.reduceLT, Nat.reduceAdd, Nat.reduceMul, Nat.reduceSub, Nat.reduceLeDiff, Nat.reduceEqDiff, ↓reduceIte, Int.reduceLT, Int.reduceEq, Int.reduceBNe, Int.reduceBEq, aeq, Int.reduceLE, Int.reduceNeg, Int.reduceMul, Int.reduceAdd, Int.reduceSub, Int.reduceToNat, Int.reducePow, e0, e1, d1]
end Go.Proofs.Ytkcbjeenoafbkaa
