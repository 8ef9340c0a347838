/- What the functions of chapter 28 come to (printed by gen28.py). -/
import Derived.Test.YtkcbjeenoafbkaaEnv
import Derived.Test.YtkcbjeenoafbkaaDen38
set_option linter.unusedVariables false
set_option linter.unusedSimpArgs false
set_option maxRecDepth 100000
set_option maxHeartbeats 1000000
namespace Go.Proofs.Ytkcbjeenoafbkaa
open Go Go.Den
structure Rect where
  x : Int
  y : Int
  w : Int
  h : Int
  deriving DecidableEq
def Rect.cs (r : Rect) : List AV := [.int .i64 r.x, .int .i64 r.y, .int .i64 r.w, .int .i64 r.h]
def May (r : Rect) : Prop := 0 ≤ r.x ∧ r.x < 1024 ∧ 0 ≤ r.y ∧ r.y < 1024 ∧ 1 ≤ r.w ∧ r.w ≤ 1024 - r.x ∧ 1 ≤ r.h ∧ r.h ≤ 1024 - r.y
instance (r : Rect) : Decidable (May r) := by unfold May; exact inferInstance
def may (r : Rect) : Bool := decide (May r)
def Has' (a b : Rect) : Prop := a.x ≤ b.x ∧ a.y ≤ b.y ∧ a.x + a.w ≥ b.x + b.w ∧ a.y + a.h ≥ b.y + b.h
instance (a b : Rect) : Decidable (Has' a b) := by unfold Has'; exact inferInstance
def has (a b : Rect) : Bool := decide (Has' a b)
def Meet (a b : Rect) : Prop := max a.x b.x < min (a.x + a.w) (b.x + b.w) ∧ max a.y b.y < min (a.y + a.h) (b.y + b.h)
instance (a b : Rect) : Decidable (Meet a b) := by unfold Meet; exact inferInstance
def meet (a b : Rect) : Bool := decide (Meet a b)
theorem may_true {r : Rect} (h : May r) : may r = true := decide_eq_true h
theorem may_false {r : Rect} (h : ¬ May r) : may r = false := decide_eq_false h
theorem has_true {a b : Rect} (h : Has' a b) : has a b = true := decide_eq_true h
theorem has_false {a b : Rect} (h : ¬ Has' a b) : has a b = false := decide_eq_false h
theorem meet_true {a b : Rect} (h : Meet a b) : meet a b = true := decide_eq_true h
theorem meet_false {a b : Rect} (h : ¬ Meet a b) : meet a b = false := decide_eq_false h
theorem c99 (r : Rect) (H : Heap) : call env 99 [.agg r.cs] H = some (.bool (may r), H) := by
  refine call_ends (fn := s99) rfl rfl (by simp [s99]) ?_
  by_cases h0 : r.x ≥ 0
  · skip
    by_cases h1 : r.x < 1024
    · skip
      have w1 := wrap_i64 (x := 1024 - r.x) (by omega) (by omega)
      by_cases h2 : r.y ≥ 0
      · skip
        by_cases h3 : r.y < 1024
        · skip
          have w2 := wrap_i64 (x := 1024 - r.y) (by omega) (by omega)
          by_cases h4 : r.w ≥ 1
          · skip
            by_cases h5 : r.w ≤ 1024 - r.x
            · skip
              by_cases h6 : r.h ≥ 1
              · skip
                by_cases h7 : r.h ≤ 1024 - r.y
                · skip
                  have e : may r = true := may_true (by unfold May; omega)
                  simp only [s99, Rect.cs, R1, R2, R3, R4, R5, R6, R7, R8, AV.flat, fillIn_nil, fillIn_cons, splice, AV.cells, AV.one, eqsOf, idx, SO.calls, List.reduceReplicate, Nat.reduceBEq, Nat.reduceLT, Nat.reduceAdd, Nat.reduceMul, Nat.reduceSub, Nat.reduceLeDiff, Nat.reduceEqDiff, ↓reduceIte, Int.reduceLT, Int.reduceEq, Int.reduceBNe, Int.reduceBEq, aeq, Int.reduceLE, Int.reduceNeg, Int.reduceMul, Int.reduceAdd, Int.reduceSub, Int.reduceToNat, Int.reducePow, eq_true h0, eq_true h1, eq_true h2, eq_true h3, eq_true h4, eq_true h5, eq_true h6, eq_true h7, w1, w2, e, tidy_bool']
                · have e : may r = false := may_false (by unfold May; omega)
                  simp only [s99, Rect.cs, R1, R2, R3, R4, R5, R6, R7, R8, AV.flat, fillIn_nil, fillIn_cons, splice, AV.cells, AV.one, eqsOf, idx, SO.calls, List.reduceReplicate, Nat.reduceBEq, Nat.reduceLT, Nat.reduceAdd, Nat.reduceMul, Nat.reduceSub, Nat.reduceLeDiff, Nat.reduceEqDiff, ↓reduceIte, Int.reduceLT, Int.reduceEq, Int.reduceBNe, Int.reduceBEq, aeq, Int.reduceLE, Int.reduceNeg, Int.reduceMul, Int.reduceAdd, Int.reduceSub, Int.reduceToNat, Int.reducePow, eq_true h0, eq_true h1, eq_true h2, eq_true h3, eq_true h4, eq_true h5, eq_true h6, eq_false h7, w1, w2, e, tidy_bool']
              · have e : may r = false := may_false (by unfold May; omega)
                simp only [s99, Rect.cs, R1, R2, R3, R4, R5, R6, R7, R8, AV.flat, fillIn_nil, fillIn_cons, splice, AV.cells, AV.one, eqsOf, idx, SO.calls, List.reduceReplicate, Nat.reduceBEq, Nat.reduceLT, Nat.reduceAdd, Nat.reduceMul, Nat.reduceSub, Nat.reduceLeDiff, Nat.reduceEqDiff, ↓reduceIte, Int.reduceLT, Int.reduceEq, Int.reduceBNe, Int.reduceBEq, aeq, Int.reduceLE, Int.reduceNeg, Int.reduceMul, Int.reduceAdd, Int.reduceSub, Int.reduceToNat, Int.reducePow, eq_true h0, eq_true h1, eq_true h2, eq_true h3, eq_true h4, eq_true h5, eq_false h6, w1, w2, e, tidy_bool']
            · have e : may r = false := may_false (by unfold May; omega)
              simp only [s99, Rect.cs, R1, R2, R3, R4, R5, R6, R7, R8, AV.flat, fillIn_nil, fillIn_cons, splice, AV.cells, AV.one, eqsOf, idx, SO.calls, List.reduceReplicate, Nat.reduceBEq, Nat.reduceLT, Nat.reduceAdd, Nat.reduceMul, Nat.reduceSub, Nat.reduceLeDiff, Nat.reduceEqDiff, ↓reduceIte, Int.reduceLT, Int.reduceEq, Int.reduceBNe, Int.reduceBEq, aeq, Int.reduceLE, Int.reduceNeg, Int.reduceMul, Int.reduceAdd, Int.reduceSub, Int.reduceToNat, Int.reducePow, eq_true h0, eq_true h1, eq_true h2, eq_true h3, eq_true h4, eq_false h5, w1, w2, e, tidy_bool']
          · have e : may r = false := may_false (by unfold May; omega)
            simp only [s99, Rect.cs, R1, R2, R3, R4, R5, R6, R7, R8, AV.flat, fillIn_nil, fillIn_cons, splice, AV.cells, AV.one, eqsOf, idx, SO.calls, List.reduceReplicate, Nat.reduceBEq, Nat.reduceLT, Nat.reduceAdd, Nat.reduceMul, Nat.reduceSub, Nat.reduceLeDiff, Nat.reduceEqDiff, ↓reduceIte, Int.reduceLT, Int.reduceEq, Int.reduceBNe, Int.reduceBEq, aeq, Int.reduceLE, Int.reduceNeg, Int.reduceMul, Int.reduceAdd, Int.reduceSub, Int.reduceToNat, Int.reducePow, eq_true h0, eq_true h1, eq_true h2, eq_true h3, eq_false h4, w1, w2, e, tidy_bool']
        · have e : may r = false := may_false (by unfold May; omega)
          simp only [s99, Rect.cs, R1, R2, R3, R4, R5, R6, R7, R8, AV.flat, fillIn_nil, fillIn_cons, splice, AV.cells, AV.one, eqsOf, idx, SO.calls, List.reduceReplicate, Nat.reduceBEq, Nat.reduceLT, Nat.reduceAdd, Nat.reduceMul, Nat.reduceSub, Nat.reduceLeDiff, Nat.reduceEqDiff, ↓reduceIte, Int.reduceLT, Int.reduceEq, Int.reduceBNe, Int.reduceBEq, aeq, Int.reduceLE, Int.reduceNeg, Int.reduceMul, Int.reduceAdd, Int.reduceSub, Int.reduceToNat, Int.reducePow, eq_true h0, eq_true h1, eq_true h2, eq_false h3, w1, e, tidy_bool']
      · have e : may r = false := may_false (by unfold May; omega)
        simp only [s99, Rect.cs, R1, R2, R3, R4, R5, R6, R7, R8, AV.flat, fillIn_nil, fillIn_cons, splice, AV.cells, AV.one, eqsOf, idx, SO.calls, List.reduceReplicate, Nat.reduceBEq, Nat.reduceLT, Nat.reduceAdd, Nat.reduceMul, Nat.reduceSub, Nat.reduceLeDiff, Nat.reduceEqDiff, ↓reduceIte, Int.reduceLT, Int.reduceEq, Int.reduceBNe, Int.reduceBEq, aeq, Int.reduceLE, Int.reduceNeg, Int.reduceMul, Int.reduceAdd, Int.reduceSub, Int.reduceToNat, Int.reducePow, eq_true h0, eq_true h1, eq_false h2, w1, e, tidy_bool']
    · have e : may r = false := may_false (by unfold May; omega)
      simp only [s99, Rect.cs, R1, R2, R3, R4, R5, R6, R7, R8, AV.flat, fillIn_nil, fillIn_cons, splice, AV.cells, AV.one, eqsOf, idx, SO.calls, List.reduceReplicate, Nat.reduceBEq, Nat.reduceLT, Nat.reduceAdd, Nat.reduceMul, Nat.reduceSub, Nat.reduceLeDiff, Nat.reduceEqDiff, ↓reduceIte, Int.reduceLT, Int.reduceEq, Int.reduceBNe, Int.reduceBEq, aeq, Int.reduceLE, Int.reduceNeg, Int.reduceMul, Int.reduceAdd, Int.reduceSub, Int.reduceToNat, Int.reducePow, eq_true h0, eq_false h1, e, tidy_bool']
  · have e : may r = false := may_false (by unfold May; omega)
    simp only [s99, Rect.cs, R1, R2, R3, R4, R5, R6, R7, R8, AV.flat, fillIn_nil, fillIn_cons, splice, AV.cells, AV.one, eqsOf, idx, SO.calls, List.reduceReplicate, Nat.reduceBEq, Nat.reduceLT, Nat.reduceAdd, Nat.reduceMul, Nat.reduceSub, Nat.reduceLeDiff, Nat.reduceEqDiff, ↓reduceIte, Int.reduceLT, Int.reduceEq, Int.reduceBNe, Int.reduceBEq, aeq, Int.reduceLE, Int.reduceNeg, Int.reduceMul, Int.reduceAdd, Int.reduceSub, Int.reduceToNat, Int.reducePow, eq_false h0, e, tidy_bool']
theorem c74 (r : Rect) (H : Heap) : call env 74 [.agg r.cs] H = some (.bool (may r), H) := by
  refine call_ends (fn := s74) rfl rfl (by simp [s74]) ?_
  by_cases h0 : r.x ≥ 0
  · skip
    by_cases h1 : r.y ≥ 0
    · skip
      by_cases h2 : r.w ≥ 1
      · skip
        by_cases h3 : r.h ≥ 1
        · skip
          by_cases h4 : r.x ≤ 1024
          · skip
            have w1 := wrap_i64 (x := 1024 - r.x) (by omega) (by omega)
            by_cases h5 : r.y ≤ 1024
            · skip
              have w2 := wrap_i64 (x := 1024 - r.y) (by omega) (by omega)
              by_cases h6 : r.w ≤ 1024 - r.x
              · skip
                by_cases h7 : r.h ≤ 1024 - r.y
                · skip
                  have e : may r = true := may_true (by unfold May; omega)
                  simp only [s74, Rect.cs, R1, R2, R3, R4, R5, R6, R7, R8, AV.flat, fillIn_nil, fillIn_cons, splice, AV.cells, AV.one, eqsOf, idx, SO.calls, List.reduceReplicate, Nat.reduceBEq, Nat.reduceLT, Nat.reduceAdd, Nat.reduceMul, Nat.reduceSub, Nat.reduceLeDiff, Nat.reduceEqDiff, ↓reduceIte, Int.reduceLT, Int.reduceEq, Int.reduceBNe, Int.reduceBEq, aeq, Int.reduceLE, Int.reduceNeg, Int.reduceMul, Int.reduceAdd, Int.reduceSub, Int.reduceToNat, Int.reducePow, eq_true h0, eq_true h1, eq_true h2, eq_true h3, eq_true h4, eq_true h5, eq_true h6, eq_true h7, w1, w2, e, tidy_bool']
                · have e : may r = false := may_false (by unfold May; omega)
                  simp only [s74, Rect.cs, R1, R2, R3, R4, R5, R6, R7, R8, AV.flat, fillIn_nil, fillIn_cons, splice, AV.cells, AV.one, eqsOf, idx, SO.calls, List.reduceReplicate, Nat.reduceBEq, Nat.reduceLT, Nat.reduceAdd, Nat.reduceMul, Nat.reduceSub, Nat.reduceLeDiff, Nat.reduceEqDiff, ↓reduceIte, Int.reduceLT, Int.reduceEq, Int.reduceBNe, Int.reduceBEq, aeq, Int.reduceLE, Int.reduceNeg, Int.reduceMul, Int.reduceAdd, Int.reduceSub, Int.reduceToNat, Int.reducePow, eq_true h0, eq_true h1, eq_true h2, eq_true h3, eq_true h4, eq_true h5, eq_true h6, eq_false h7, w1, w2, e, tidy_bool']
              · have e : may r = false := may_false (by unfold May; omega)
                simp only [s74, Rect.cs, R1, R2, R3, R4, R5, R6, R7, R8, AV.flat, fillIn_nil, fillIn_cons, splice, AV.cells, AV.one, eqsOf, idx, SO.calls, List.reduceReplicate, Nat.reduceBEq, Nat.reduceLT, Nat.reduceAdd, Nat.reduceMul, Nat.reduceSub, Nat.reduceLeDiff, Nat.reduceEqDiff, ↓reduceIte, Int.reduceLT, Int.reduceEq, Int.reduceBNe, Int.reduceBEq, aeq, Int.reduceLE, Int.reduceNeg, Int.reduceMul, Int.reduceAdd, Int.reduceSub, Int.reduceToNat, Int.reducePow, eq_true h0, eq_true h1, eq_true h2, eq_true h3, eq_true h4, eq_true h5, eq_false h6, w1, w2, e, tidy_bool']
            · have e : may r = false := may_false (by unfold May; omega)
              simp only [s74, Rect.cs, R1, R2, R3, R4, R5, R6, R7, R8, AV.flat, fillIn_nil, fillIn_cons, splice, AV.cells, AV.one, eqsOf, idx, SO.calls, List.reduceReplicate, Nat.reduceBEq, Nat.reduceLT, Nat.reduceAdd, Nat.reduceMul, Nat.reduceSub, Nat.reduceLeDiff, Nat.reduceEqDiff, ↓reduceIte, Int.reduceLT, Int.reduceEq, Int.reduceBNe, Int.reduceBEq, aeq, Int.reduceLE, Int.reduceNeg, Int.reduceMul, Int.reduceAdd, Int.reduceSub, Int.reduceToNat, Int.reducePow, eq_true h0, eq_true h1, eq_true h2, eq_true h3, eq_true h4, eq_false h5, w1, e, tidy_bool']
          · have e : may r = false := may_false (by unfold May; omega)
            simp only [s74, Rect.cs, R1, R2, R3, R4, R5, R6, R7, R8, AV.flat, fillIn_nil, fillIn_cons, splice, AV.cells, AV.one, eqsOf, idx, SO.calls, List.reduceReplicate, Nat.reduceBEq, Nat.reduceLT, Nat.reduceAdd, Nat.reduceMul, Nat.reduceSub, Nat.reduceLeDiff, Nat.reduceEqDiff, ↓reduceIte, Int.reduceLT, Int.reduceEq, Int.reduceBNe, Int.reduceBEq, aeq, Int.reduceLE, Int.reduceNeg, Int.reduceMul, Int.reduceAdd, Int.reduceSub, Int.reduceToNat, Int.reducePow, eq_true h0, eq_true h1, eq_true h2, eq_true h3, eq_false h4, e, tidy_bool']
        · have e : may r = false := may_false (by unfold May; omega)
          simp only [s74, Rect.cs, R1, R2, R3, R4, R5, R6, R7, R8, AV.flat, fillIn_nil, fillIn_cons, splice, AV.cells, AV.one, eqsOf, idx, SO.calls, List.reduceReplicate, Nat.reduceBEq, Nat.reduceLT, Nat.reduceAdd, Nat.reduceMul, Nat.reduceSub, Nat.reduceLeDiff, Nat.reduceEqDiff, ↓reduceIte, Int.reduceLT, Int.reduceEq, Int.reduceBNe, Int.reduceBEq, aeq, Int.reduceLE, Int.reduceNeg, Int.reduceMul, Int.reduceAdd, Int.reduceSub, Int.reduceToNat, Int.reducePow, eq_true h0, eq_true h1, eq_true h2, eq_false h3, e, tidy_bool']
      · have e : may r = false := may_false (by unfold May; omega)
        simp only [s74, Rect.cs, R1, R2, R3, R4, R5, R6, R7, R8, AV.flat, fillIn_nil, fillIn_cons, splice, AV.cells, AV.one, eqsOf, idx, SO.calls, List.reduceReplicate, Nat.reduceBEq, Nat.reduceLT, Nat.reduceAdd, Nat.reduceMul, Nat.reduceSub, Nat.reduceLeDiff, Nat.reduceEqDiff, ↓reduceIte, Int.reduceLT, Int.reduceEq, Int.reduceBNe, Int.reduceBEq, aeq, Int.reduceLE, Int.reduceNeg, Int.reduceMul, Int.reduceAdd, Int.reduceSub, Int.reduceToNat, Int.reducePow, eq_true h0, eq_true h1, eq_false h2, e, tidy_bool']
    · have e : may r = false := may_false (by unfold May; omega)
      simp only [s74, Rect.cs, R1, R2, R3, R4, R5, R6, R7, R8, AV.flat, fillIn_nil, fillIn_cons, splice, AV.cells, AV.one, eqsOf, idx, SO.calls, List.reduceReplicate, Nat.reduceBEq, Nat.reduceLT, Nat.reduceAdd, Nat.reduceMul, Nat.reduceSub, Nat.reduceLeDiff, Nat.reduceEqDiff, ↓reduceIte, Int.reduceLT, Int.reduceEq, Int.reduceBNe, Int.reduceBEq, aeq, Int.reduceLE, Int.reduceNeg, Int.reduceMul, Int.reduceAdd, Int.reduceSub, Int.reduceToNat, Int.reducePow, eq_true h0, eq_false h1, e, tidy_bool']
  · have e : may r = false := may_false (by unfold May; omega)
    simp only [s74, Rect.cs, R1, R2, R3, R4, R5, R6, R7, R8, AV.flat, fillIn_nil, fillIn_cons, splice, AV.cells, AV.one, eqsOf, idx, SO.calls, List.reduceReplicate, Nat.reduceBEq, Nat.reduceLT, Nat.reduceAdd, Nat.reduceMul, Nat.reduceSub, Nat.reduceLeDiff, Nat.reduceEqDiff, ↓reduceIte, Int.reduceLT, Int.reduceEq, Int.reduceBNe, Int.reduceBEq, aeq, Int.reduceLE, Int.reduceNeg, Int.reduceMul, Int.reduceAdd, Int.reduceSub, Int.reduceToNat, Int.reducePow, eq_false h0, e, tidy_bool']
theorem c100 (a b : Rect) (H : Heap) (ha : May a) (hb : May b) : call env 100 [.agg a.cs, .agg b.cs] H = some (.bool (has a b), H) := by
  refine call_ends (fn := s100) rfl rfl (by simp [s100]) ?_
  unfold May at ha hb
  have w1 := wrap_i64 (x := a.x + a.w) (by omega) (by omega)
  have w2 := wrap_i64 (x := b.x + b.w) (by omega) (by omega)
  have w3 := wrap_i64 (x := a.y + a.h) (by omega) (by omega)
  have w4 := wrap_i64 (x := b.y + b.h) (by omega) (by omega)
  by_cases h0 : a.x ≤ b.x
  · skip
    by_cases h1 : a.y ≤ b.y
    · skip
      by_cases h2 : a.x + a.w ≥ b.x + b.w
      · skip
        by_cases h3 : a.y + a.h ≥ b.y + b.h
        · skip
          have e : has a b = true := has_true (by unfold Has'; omega)
          simp only [s100, Rect.cs, R1, R2, R3, R4, R5, R6, R7, R8, AV.flat, fillIn_nil, fillIn_cons, splice, AV.cells, AV.one, eqsOf, idx, SO.calls, List.reduceReplicate, Nat.reduceBEq, Nat.reduceLT, Nat.reduceAdd, Nat.reduceMul, Nat.reduceSub, Nat.reduceLeDiff, Nat.reduceEqDiff, ↓reduceIte, Int.reduceLT, Int.reduceEq, Int.reduceBNe, Int.reduceBEq, aeq, Int.reduceLE, Int.reduceNeg, Int.reduceMul, Int.reduceAdd, Int.reduceSub, Int.reduceToNat, Int.reducePow, eq_true h0, eq_true h1, eq_true h2, eq_true h3, w1, w2, w3, w4, e, tidy_bool']
        · have e : has a b = false := has_false (by unfold Has'; omega)
          simp only [s100, Rect.cs, R1, R2, R3, R4, R5, R6, R7, R8, AV.flat, fillIn_nil, fillIn_cons, splice, AV.cells, AV.one, eqsOf, idx, SO.calls, List.reduceReplicate, Nat.reduceBEq, Nat.reduceLT, Nat.reduceAdd, Nat.reduceMul, Nat.reduceSub, Nat.reduceLeDiff, Nat.reduceEqDiff, ↓reduceIte, Int.reduceLT, Int.reduceEq, Int.reduceBNe, Int.reduceBEq, aeq, Int.reduceLE, Int.reduceNeg, Int.reduceMul, Int.reduceAdd, Int.reduceSub, Int.reduceToNat, Int.reducePow, eq_true h0, eq_true h1, eq_true h2, eq_false h3, w1, w2, w3, w4, e, tidy_bool']
      · have e : has a b = false := has_false (by unfold Has'; omega)
        simp only [s100, Rect.cs, R1, R2, R3, R4, R5, R6, R7, R8, AV.flat, fillIn_nil, fillIn_cons, splice, AV.cells, AV.one, eqsOf, idx, SO.calls, List.reduceReplicate, Nat.reduceBEq, Nat.reduceLT, Nat.reduceAdd, Nat.reduceMul, Nat.reduceSub, Nat.reduceLeDiff, Nat.reduceEqDiff, ↓reduceIte, Int.reduceLT, Int.reduceEq, Int.reduceBNe, Int.reduceBEq, aeq, Int.reduceLE, Int.reduceNeg, Int.reduceMul, Int.reduceAdd, Int.reduceSub, Int.reduceToNat, Int.reducePow, eq_true h0, eq_true h1, eq_false h2, w1, w2, w3, w4, e, tidy_bool']
    · have e : has a b = false := has_false (by unfold Has'; omega)
      simp only [s100, Rect.cs, R1, R2, R3, R4, R5, R6, R7, R8, AV.flat, fillIn_nil, fillIn_cons, splice, AV.cells, AV.one, eqsOf, idx, SO.calls, List.reduceReplicate, Nat.reduceBEq, Nat.reduceLT, Nat.reduceAdd, Nat.reduceMul, Nat.reduceSub, Nat.reduceLeDiff, Nat.reduceEqDiff, ↓reduceIte, Int.reduceLT, Int.reduceEq, Int.reduceBNe, Int.reduceBEq, aeq, Int.reduceLE, Int.reduceNeg, Int.reduceMul, Int.reduceAdd, Int.reduceSub, Int.reduceToNat, Int.reducePow, eq_true h0, eq_false h1, w1, w2, w3, w4, e, tidy_bool']
  · have e : has a b = false := has_false (by unfold Has'; omega)
    simp only [s100, Rect.cs, R1, R2, R3, R4, R5, R6, R7, R8, AV.flat, fillIn_nil, fillIn_cons, splice, AV.cells, AV.one, eqsOf, idx, SO.calls, List.reduceReplicate, Nat.reduceBEq, Nat.reduceLT, Nat.reduceAdd, Nat.reduceMul, Nat.reduceSub, Nat.reduceLeDiff, Nat.reduceEqDiff, ↓reduceIte, Int.reduceLT, Int.reduceEq, Int.reduceBNe, Int.reduceBEq, aeq, Int.reduceLE, Int.reduceNeg, Int.reduceMul, Int.reduceAdd, Int.reduceSub, Int.reduceToNat, Int.reducePow, eq_false h0, w1, w2, w3, w4, e, tidy_bool']
theorem c97 (a b : Rect) (H : Heap) (ha : May a) (hb : May b) : call env 97 [.agg a.cs, .agg b.cs] H = some (.bool (has a b), H) := by
  refine call_ends (fn := s97) rfl rfl (by simp [s97]) ?_
  unfold May at ha hb
  have w1 := wrap_i64 (x := a.x + a.w) (by omega) (by omega)
  have w2 := wrap_i64 (x := b.x + b.w) (by omega) (by omega)
  have w3 := wrap_i64 (x := a.y + a.h) (by omega) (by omega)
  have w4 := wrap_i64 (x := b.y + b.h) (by omega) (by omega)
  by_cases h0 : a.x ≤ b.x
  · skip
    by_cases h1 : a.y ≤ b.y
    · skip
      by_cases h2 : b.x + b.w ≤ a.x + a.w
      · skip
        by_cases h3 : b.y + b.h ≤ a.y + a.h
        · skip
          have e : has a b = true := has_true (by unfold Has'; omega)
          simp only [s97, Rect.cs, R1, R2, R3, R4, R5, R6, R7, R8, AV.flat, fillIn_nil, fillIn_cons, splice, AV.cells, AV.one, eqsOf, idx, SO.calls, List.reduceReplicate, Nat.reduceBEq, Nat.reduceLT, Nat.reduceAdd, Nat.reduceMul, Nat.reduceSub, Nat.reduceLeDiff, Nat.reduceEqDiff, ↓reduceIte, Int.reduceLT, Int.reduceEq, Int.reduceBNe, Int.reduceBEq, aeq, Int.reduceLE, Int.reduceNeg, Int.reduceMul, Int.reduceAdd, Int.reduceSub, Int.reduceToNat, Int.reducePow, eq_true h0, eq_true h1, eq_true h2, eq_true h3, w1, w2, w3, w4, e, tidy_bool']
        · have e : has a b = false := has_false (by unfold Has'; omega)
          simp only [s97, Rect.cs, R1, R2, R3, R4, R5, R6, R7, R8, AV.flat, fillIn_nil, fillIn_cons, splice, AV.cells, AV.one, eqsOf, idx, SO.calls, List.reduceReplicate, Nat.reduceBEq, Nat.reduceLT, Nat.reduceAdd, Nat.reduceMul, Nat.reduceSub, Nat.reduceLeDiff, Nat.reduceEqDiff, ↓reduceIte, Int.reduceLT, Int.reduceEq, Int.reduceBNe, Int.reduceBEq, aeq, Int.reduceLE, Int.reduceNeg, Int.reduceMul, Int.reduceAdd, Int.reduceSub, Int.reduceToNat, Int.reducePow, eq_true h0, eq_true h1, eq_true h2, eq_false h3, w1, w2, w3, w4, e, tidy_bool']
      · have e : has a b = false := has_false (by unfold Has'; omega)
        simp only [s97, Rect.cs, R1, R2, R3, R4, R5, R6, R7, R8, AV.flat, fillIn_nil, fillIn_cons, splice, AV.cells, AV.one, eqsOf, idx, SO.calls, List.reduceReplicate, Nat.reduceBEq, Nat.reduceLT, Nat.reduceAdd, Nat.reduceMul, Nat.reduceSub, Nat.reduceLeDiff, Nat.reduceEqDiff, ↓reduceIte, Int.reduceLT, Int.reduceEq, Int.reduceBNe, Int.reduceBEq, aeq, Int.reduceLE, Int.reduceNeg, Int.reduceMul, Int.reduceAdd, Int.reduceSub, Int.reduceToNat, Int.reducePow, eq_true h0, eq_true h1, eq_false h2, w1, w2, w3, w4, e, tidy_bool']
    · have e : has a b = false := has_false (by unfold Has'; omega)
      simp only [s97, Rect.cs, R1, R2, R3, R4, R5, R6, R7, R8, AV.flat, fillIn_nil, fillIn_cons, splice, AV.cells, AV.one, eqsOf, idx, SO.calls, List.reduceReplicate, Nat.reduceBEq, Nat.reduceLT, Nat.reduceAdd, Nat.reduceMul, Nat.reduceSub, Nat.reduceLeDiff, Nat.reduceEqDiff, ↓reduceIte, Int.reduceLT, Int.reduceEq, Int.reduceBNe, Int.reduceBEq, aeq, Int.reduceLE, Int.reduceNeg, Int.reduceMul, Int.reduceAdd, Int.reduceSub, Int.reduceToNat, Int.reducePow, eq_true h0, eq_false h1, w1, w2, w3, w4, e, tidy_bool']
  · have e : has a b = false := has_false (by unfold Has'; omega)
    simp only [s97, Rect.cs, R1, R2, R3, R4, R5, R6, R7, R8, AV.flat, fillIn_nil, fillIn_cons, splice, AV.cells, AV.one, eqsOf, idx, SO.calls, List.reduceReplicate, Nat.reduceBEq, Nat.reduceLT, Nat.reduceAdd, Nat.reduceMul, Nat.reduceSub, Nat.reduceLeDiff, Nat.reduceEqDiff, ↓reduceIte, Int.reduceLT, Int.reduceEq, Int.reduceBNe, Int.reduceBEq, aeq, Int.reduceLE, Int.reduceNeg, Int.reduceMul, Int.reduceAdd, Int.reduceSub, Int.reduceToNat, Int.reducePow, eq_false h0, w1, w2, w3, w4, e, tidy_bool']
theorem c101 (a b : Rect) (H : Heap) (ha : May a) (hb : May b) : call env 101 [.agg a.cs, .agg b.cs] H = some (.bool (meet a b), H) := by
  refine call_ends (fn := s101) rfl rfl (by simp [s101]) ?_
  unfold May at ha hb
  have w1 := wrap_i64 (x := a.x + a.w) (by omega) (by omega)
  have w2 := wrap_i64 (x := b.x + b.w) (by omega) (by omega)
  have w3 := wrap_i64 (x := a.y + a.h) (by omega) (by omega)
  have w4 := wrap_i64 (x := b.y + b.h) (by omega) (by omega)
  by_cases h0 : max a.x b.x < min (a.x + a.w) (b.x + b.w)
  · skip
    by_cases h1 : max a.y b.y < min (a.y + a.h) (b.y + b.h)
    · skip
      have e : meet a b = true := meet_true (by unfold Meet; omega)
      simp only [s101, Rect.cs, R1, R2, R3, R4, R5, R6, R7, R8, AV.flat, fillIn_nil, fillIn_cons, splice, AV.cells, AV.one, eqsOf, idx, SO.calls, List.reduceReplicate, Nat.reduceBEq, Nat.reduceLT, Nat.reduceAdd, Nat.reduceMul, Nat.reduceSub, Nat.reduceLeDiff, Nat.reduceEqDiff, ↓reduceIte, Int.reduceLT, Int.reduceEq, Int.reduceBNe, Int.reduceBEq, aeq, Int.reduceLE, Int.reduceNeg, Int.reduceMul, Int.reduceAdd, Int.reduceSub, Int.reduceToNat, Int.reducePow, eq_true h0, eq_true h1, w1, w2, w3, w4, e, tidy_bool']
    · have e : meet a b = false := meet_false (by unfold Meet; omega)
      simp only [s101, Rect.cs, R1, R2, R3, R4, R5, R6, R7, R8, AV.flat, fillIn_nil, fillIn_cons, splice, AV.cells, AV.one, eqsOf, idx, SO.calls, List.reduceReplicate, Nat.reduceBEq, Nat.reduceLT, Nat.reduceAdd, Nat.reduceMul, Nat.reduceSub, Nat.reduceLeDiff, Nat.reduceEqDiff, ↓reduceIte, Int.reduceLT, Int.reduceEq, Int.reduceBNe, Int.reduceBEq, aeq, Int.reduceLE, Int.reduceNeg, Int.reduceMul, Int.reduceAdd, Int.reduceSub, Int.reduceToNat, Int.reducePow, eq_true h0, eq_false h1, w1, w2, w3, w4, e, tidy_bool']
  · have e : meet a b = false := meet_false (by unfold Meet; omega)
    simp only [s101, Rect.cs, R1, R2, R3, R4, R5, R6, R7, R8, AV.flat, fillIn_nil, fillIn_cons, splice, AV.cells, AV.one, eqsOf, idx, SO.calls, List.reduceReplicate, Nat.reduceBEq, Nat.reduceLT, Nat.reduceAdd, Nat.reduceMul, Nat.reduceSub, Nat.reduceLeDiff, Nat.reduceEqDiff, ↓reduceIte, Int.reduceLT, Int.reduceEq, Int.reduceBNe, Int.reduceBEq, aeq, Int.reduceLE, Int.reduceNeg, Int.reduceMul, Int.reduceAdd, Int.reduceSub, Int.reduceToNat, Int.reducePow, eq_false h0, w1, w2, w3, w4, e, tidy_bool']
theorem c75 (a b : Rect) (H : Heap) (ha : May a) (hb : May b) : call env 75 [.agg a.cs, .agg b.cs] H = some (.bool (meet a b), H) := by
  refine call_ends (fn := s75) rfl rfl (by simp [s75]) ?_
  unfold May at ha hb
  have w1 := wrap_i64 (x := a.x + a.w) (by omega) (by omega)
  have w2 := wrap_i64 (x := b.x + b.w) (by omega) (by omega)
  have w3 := wrap_i64 (x := a.y + a.h) (by omega) (by omega)
  have w4 := wrap_i64 (x := b.y + b.h) (by omega) (by omega)
  by_cases h0 : a.x < b.x + b.w
  · skip
    by_cases h1 : b.x < a.x + a.w
    · skip
      by_cases h2 : a.y < b.y + b.h
      · skip
        by_cases h3 : b.y < a.y + a.h
        · skip
          have e : meet a b = true := meet_true (by unfold Meet; omega)
          simp only [s75, Rect.cs, R1, R2, R3, R4, R5, R6, R7, R8, AV.flat, fillIn_nil, fillIn_cons, splice, AV.cells, AV.one, eqsOf, idx, SO.calls, List.reduceReplicate, Nat.reduceBEq, Nat.reduceLT, Nat.reduceAdd, Nat.reduceMul, Nat.reduceSub, Nat.reduceLeDiff, Nat.reduceEqDiff, ↓reduceIte, Int.reduceLT, Int.reduceEq, Int.reduceBNe, Int.reduceBEq, aeq, Int.reduceLE, Int.reduceNeg, Int.reduceMul, Int.reduceAdd, Int.reduceSub, Int.reduceToNat, Int.reducePow, eq_true h0, eq_true h1, eq_true h2, eq_true h3, w1, w2, w3, w4, e, tidy_bool']
        · have e : meet a b = false := meet_false (by unfold Meet; omega)
          simp only [s75, Rect.cs, R1, R2, R3, R4, R5, R6, R7, R8, AV.flat, fillIn_nil, fillIn_cons, splice, AV.cells, AV.one, eqsOf, idx, SO.calls, List.reduceReplicate, Nat.reduceBEq, Nat.reduceLT, Nat.reduceAdd, Nat.reduceMul, Nat.reduceSub, Nat.reduceLeDiff, Nat.reduceEqDiff, ↓reduceIte, Int.reduceLT, Int.reduceEq, Int.reduceBNe, Int.reduceBEq, aeq, Int.reduceLE, Int.reduceNeg, Int.reduceMul, Int.reduceAdd, Int.reduceSub, Int.reduceToNat, Int.reducePow, eq_true h0, eq_true h1, eq_true h2, eq_false h3, w1, w2, w3, w4, e, tidy_bool']
      · have e : meet a b = false := meet_false (by unfold Meet; omega)
        simp only [s75, Rect.cs, R1, R2, R3, R4, R5, R6, R7, R8, AV.flat, fillIn_nil, fillIn_cons, splice, AV.cells, AV.one, eqsOf, idx, SO.calls, List.reduceReplicate, Nat.reduceBEq, Nat.reduceLT, Nat.reduceAdd, Nat.reduceMul, Nat.reduceSub, Nat.reduceLeDiff, Nat.reduceEqDiff, ↓reduceIte, Int.reduceLT, Int.reduceEq, Int.reduceBNe, Int.reduceBEq, aeq, Int.reduceLE, Int.reduceNeg, Int.reduceMul, Int.reduceAdd, Int.reduceSub, Int.reduceToNat, Int.reducePow, eq_true h0, eq_true h1, eq_false h2, w1, w2, w3, w4, e, tidy_bool']
    · have e : meet a b = false := meet_false (by unfold Meet; omega)
      simp only [s75, Rect.cs, R1, R2, R3, R4, R5, R6, R7, R8, AV.flat, fillIn_nil, fillIn_cons, splice, AV.cells, AV.one, eqsOf, idx, SO.calls, List.reduceReplicate, Nat.reduceBEq, Nat.reduceLT, Nat.reduceAdd, Nat.reduceMul, Nat.reduceSub, Nat.reduceLeDiff, Nat.reduceEqDiff, ↓reduceIte, Int.reduceLT, Int.reduceEq, Int.reduceBNe, Int.reduceBEq, aeq, Int.reduceLE, Int.reduceNeg, Int.reduceMul, Int.reduceAdd, Int.reduceSub, Int.reduceToNat, Int.reducePow, eq_true h0, eq_false h1, w1, w2, w3, w4, e, tidy_bool']
  · have e : meet a b = false := meet_false (by unfold Meet; omega)
    simp only [s75, Rect.cs, R1, R2, R3, R4, R5, R6, R7, R8, AV.flat, fillIn_nil, fillIn_cons, splice, AV.cells, AV.one, eqsOf, idx, SO.calls, List.reduceReplicate, Nat.reduceBEq, Nat.reduceLT, Nat.reduceAdd, Nat.reduceMul, Nat.reduceSub, Nat.reduceLeDiff, Nat.reduceEqDiff, ↓reduceIte, Int.reduceLT, Int.reduceEq, Int.reduceBNe, Int.reduceBEq, aeq, Int.reduceLE, Int.reduceNeg, Int.reduceMul, Int.reduceAdd, Int.reduceSub, Int.reduceToNat, Int.reducePow, eq_false h0, w1, w2, w3, w4, e, tidy_bool']
theorem c70 (a b : Rect) (H : Heap) : call env 70 [.agg a.cs, .agg b.cs] H = some (.bool (may a && may b && has a b), H) := by
  have e1 := fun H => c99 a H
  have e2 := fun H => c99 b H
  refine call_ends (fn := s70) rfl rfl (by simp [s70]) ?_
  by_cases ha : May a
  · by_cases hb : May b
    · have e3 := fun H => c100 a b H ha hb
      rw [may_true ha] at e1
      rw [may_true hb] at e2
      simp only [Rect.cs] at e1 e2 e3
      simp only [s70, Rect.cs, R1, R2, R3, R4, R5, R6, R7, R8, AV.flat, fillIn_nil, fillIn_cons, splice, AV.cells, AV.one, eqsOf, idx, SO.calls, List.reduceReplicate, Nat.reduceBEq, Nat.reduceLT, Nat.reduceAdd, Nat.reduceMul, Nat.reduceSub, Nat.reduceLeDiff, Nat.reduceEqDiff, ↓reduceIte, Int.reduceLT, Int.reduceEq, Int.reduceBNe, Int.reduceBEq, aeq, Int.reduceLE, Int.reduceNeg, Int.reduceMul, Int.reduceAdd, Int.reduceSub, Int.reduceToNat, Int.reducePow, e1, e2, e3, may_true ha, may_true hb, tidy_bool']
    · rw [may_true ha] at e1
      rw [may_false hb] at e2
      simp only [Rect.cs] at e1 e2
      simp only [s70, Rect.cs, R1, R2, R3, R4, R5, R6, R7, R8, AV.flat, fillIn_nil, fillIn_cons, splice, AV.cells, AV.one, eqsOf, idx, SO.calls, List.reduceReplicate, Nat.reduceBEq, Nat.reduceLT, Nat.reduceAdd, Nat.reduceMul, Nat.reduceSub, Nat.reduceLeDiff, Nat.reduceEqDiff, ↓reduceIte, Int.reduceLT, Int.reduceEq, Int.reduceBNe, Int.reduceBEq, aeq, Int.reduceLE, Int.reduceNeg, Int.reduceMul, Int.reduceAdd, Int.reduceSub, Int.reduceToNat, Int.reducePow, e1, e2, may_true ha, may_false hb, tidy_bool']
  · rw [may_false ha] at e1
    simp only [Rect.cs] at e1
    simp only [s70, Rect.cs, R1, R2, R3, R4, R5, R6, R7, R8, AV.flat, fillIn_nil, fillIn_cons, splice, AV.cells, AV.one, eqsOf, idx, SO.calls, List.reduceReplicate, Nat.reduceBEq, Nat.reduceLT, Nat.reduceAdd, Nat.reduceMul, Nat.reduceSub, Nat.reduceLeDiff, Nat.reduceEqDiff, ↓reduceIte, Int.reduceLT, Int.reduceEq, Int.reduceBNe, Int.reduceBEq, aeq, Int.reduceLE, Int.reduceNeg, Int.reduceMul, Int.reduceAdd, Int.reduceSub, Int.reduceToNat, Int.reducePow, e1, may_false ha, tidy_bool']
theorem c71 (a b : Rect) (H : Heap) : call env 71 [.agg a.cs, .agg b.cs] H = some (.bool (may a && may b && meet a b), H) := by
  have e1 := fun H => c99 a H
  have e2 := fun H => c99 b H
  refine call_ends (fn := s71) rfl rfl (by simp [s71]) ?_
  by_cases ha : May a
  · by_cases hb : May b
    · have e3 := fun H => c101 a b H ha hb
      rw [may_true ha] at e1
      rw [may_true hb] at e2
      simp only [Rect.cs] at e1 e2 e3
      simp only [s71, Rect.cs, R1, R2, R3, R4, R5, R6, R7, R8, AV.flat, fillIn_nil, fillIn_cons, splice, AV.cells, AV.one, eqsOf, idx, SO.calls, List.reduceReplicate, Nat.reduceBEq, Nat.reduceLT, Nat.reduceAdd, Nat.reduceMul, Nat.reduceSub, Nat.reduceLeDiff, Nat.reduceEqDiff, ↓reduceIte, Int.reduceLT, Int.reduceEq, Int.reduceBNe, Int.reduceBEq, aeq, Int.reduceLE, Int.reduceNeg, Int.reduceMul, Int.reduceAdd, Int.reduceSub, Int.reduceToNat, Int.reducePow, e1, e2, e3, may_true ha, may_true hb, tidy_bool']
    · rw [may_true ha] at e1
      rw [may_false hb] at e2
      simp only [Rect.cs] at e1 e2
      simp only [s71, Rect.cs, R1, R2, R3, R4, R5, R6, R7, R8, AV.flat, fillIn_nil, fillIn_cons, splice, AV.cells, AV.one, eqsOf, idx, SO.calls, List.reduceReplicate, Nat.reduceBEq, Nat.reduceLT, Nat.reduceAdd, Nat.reduceMul, Nat.reduceSub, Nat.reduceLeDiff, Nat.reduceEqDiff, ↓reduceIte, Int.reduceLT, Int.reduceEq, Int.reduceBNe, Int.reduceBEq, aeq, Int.reduceLE, Int.reduceNeg, Int.reduceMul, Int.reduceAdd, Int.reduceSub, Int.reduceToNat, Int.reducePow, e1, e2, may_true ha, may_false hb, tidy_bool']
  · rw [may_false ha] at e1
    simp only [Rect.cs] at e1
    simp only [s71, Rect.cs, R1, R2, R3, R4, R5, R6, R7, R8, AV.flat, fillIn_nil, fillIn_cons, splice, AV.cells, AV.one, eqsOf, idx, SO.calls, List.reduceReplicate, Nat.reduceBEq, Nat.reduceLT, Nat.reduceAdd, Nat.reduceMul, Nat.reduceSub, Nat.reduceLeDiff, Nat.reduceEqDiff, ↓reduceIte, Int.reduceLT, Int.reduceEq, Int.reduceBNe, Int.reduceBEq, aeq, Int.reduceLE, Int.reduceNeg, Int.reduceMul, Int.reduceAdd, Int.reduceSub, Int.reduceToNat, Int.reducePow, e1, may_false ha, tidy_bool']
end Go.Proofs.Ytkcbjeenoafbkaa
