/- Chapter 29: the same places; how much is used. -/
import Derived.Test.YtkcbjeenoafbkaaC29d
import Derived.Test.YtkcbjeenoafbkaaLeftX
set_option linter.unusedVariables false
set_option linter.unusedSimpArgs false
set_option maxRecDepth 100000
set_option maxHeartbeats 4000000
namespace Go.Proofs.Ytkcbjeenoafbkaa
open Go Go.Den
theorem c36 {H : Heap} {v w : AV} {l : List Plc} (hs : SlOf H 3 Plc.cs v l) (hw : SlOf H 3 Plc.cs w l) (hn : l.length ≤ 1000000) :
    call env 36 [v, w] H = some (.bool true, H) := by
  have e1 := hs.lenOf
  have e1' := hw.lenOf
  refine call_ends (fn := s36) rfl rfl (by simp [s36]) ?_
  simp only [s36, R1, R2, R3, R4, R5, R6, R7, R8, AV.flat, fillIn_nil, fillIn_cons, splice, AV.cells, AV.one, eqsOf, idx, SO.calls, List.reduceReplicate, Nat.reduceBEq, Nat.reduceLT, Nat.reduceAdd, Nat.reduceMul, Nat.reduceSub, Nat.reduceLeDiff, Nat.reduceEqDiff, ↓reduceIte, Int.reduceLT, Int.reduceEq, Int.reduceBNe, Int.reduceBEq, aeq, Int.reduceLE, Int.reduceNeg, Int.reduceMul, Int.reduceAdd, Int.reduceSub, Int.reduceToNat, Int.reducePow, e1, e1', bne_self_eq_false]
  refine ends_loop (fun k t H' => t.length = 26 ∧ H' = H ∧ t.getD 0 .undef = v ∧ t.getD 1 .undef = w ∧ ∃ i : Nat, i ≤ l.length ∧ k = l.length - i ∧ t.getD 5 .undef = .int .i64 (i : Int)) l.length ?_ ?_
  · simp only [R1, R2, R3, R4, R5, R6, R7, R8, AV.flat, fillIn_nil, fillIn_cons, splice, AV.cells, AV.one, eqsOf, idx, SO.calls, List.reduceReplicate, Nat.reduceBEq, Nat.reduceLT, Nat.reduceAdd, Nat.reduceMul, Nat.reduceSub, Nat.reduceLeDiff, Nat.reduceEqDiff, ↓reduceIte, Int.reduceLT, Int.reduceEq, Int.reduceBNe, Int.reduceBEq, aeq, Int.reduceLE, Int.reduceNeg, Int.reduceMul, Int.reduceAdd, Int.reduceSub, Int.reduceToNat, Int.reducePow]
    exact ⟨0, by omega, by omega, rfl⟩
  · rintro k t H' ⟨g1, rfl, g2, g3, i, hi, rfl, g5⟩
    rw [← tm_nil t]
    by_cases hc : i < l.length
    · have E := hs.elem0 hc
      have F := hw.elem0 hc
      have e6 : ((i : Int) < (l.length : Int)) = True := eq_true (by omega)
      have w1 : IntKind.i64.wrap ((i : Int) + 1) = ((i + 1 : Nat) : Int) := by rw [wrap_i64 (by omega) (by omega)]; rfl
      generalize l[i] = q at *
      simp only [Plc.cs] at E F
      simp only [R1, R2, R3, R4, R5, R6, R7, R8, AV.flat, fillIn_nil, fillIn_cons, splice, AV.cells, AV.one, eqsOf, idx, SO.calls, List.reduceReplicate, Nat.reduceBEq, Nat.reduceLT, Nat.reduceAdd, Nat.reduceMul, Nat.reduceSub, Nat.reduceLeDiff, Nat.reduceEqDiff, ↓reduceIte, Int.reduceLT, Int.reduceEq, Int.reduceBNe, Int.reduceBEq, aeq, Int.reduceLE, Int.reduceNeg, Int.reduceMul, Int.reduceAdd, Int.reduceSub, Int.reduceToNat, Int.reducePow, g1, g2, g3, g5, e1, E, F, e6, w1, aeq, aeqs]
      exact ⟨_, by omega, i + 1, by omega, rfl, rfl⟩
    · have e6 : ((i : Int) < (l.length : Int)) = False := eq_false (by omega)
      simp only [R1, R2, R3, R4, R5, R6, R7, R8, AV.flat, fillIn_nil, fillIn_cons, splice, AV.cells, AV.one, eqsOf, idx, SO.calls, List.reduceReplicate, Nat.reduceBEq, Nat.reduceLT, Nat.reduceAdd, Nat.reduceMul, Nat.reduceSub, Nat.reduceLeDiff, Nat.reduceEqDiff, ↓reduceIte, Int.reduceLT, Int.reduceEq, Int.reduceBNe, Int.reduceBEq, aeq, Int.reduceLE, Int.reduceNeg, Int.reduceMul, Int.reduceAdd, Int.reduceSub, Int.reduceToNat, Int.reducePow, g1, g2, g3, g5, e1, e6, tidy_bool]
def usedTo (l : List Sz) (pad : Int) : Nat → Int
  | 0 => 0
  | i + 1 => if rightP (szAt l i) ∧ (szAt l i).w > 0 then usedTo l pad i + ((szAt l i).w + pad) * ((szAt l i).h + pad) else usedTo l pad i
def usedP (l : List Sz) (pad : Int) : Int := if 0 ≤ pad ∧ pad ≤ 16 then usedTo l pad l.length else 0
theorem one_use {s : Sz} {pad : Int} (hp : 0 ≤ pad ∧ pad ≤ 16) (h : rightP s) (h0 : s.w > 0) : 0 ≤ (s.w + pad) * (s.h + pad) ∧ (s.w + pad) * (s.h + pad) ≤ 1081600 := by
  have hb : (1 ≤ s.w ∧ s.w ≤ 1024) ∧ 1 ≤ s.h ∧ s.h ≤ 1024 := by rcases h with h | h <;> omega
  have h1 : (s.w + pad) * (s.h + pad) ≤ 1040 * 1040 := Int.mul_le_mul (by omega) (by omega) (by omega) (by omega)
  exact ⟨Int.mul_nonneg (by omega) (by omega), by omega⟩
theorem used_le {l : List Sz} {pad : Int} (hp : 0 ≤ pad ∧ pad ≤ 16) : ∀ i : Nat, 0 ≤ usedTo l pad i ∧ usedTo l pad i ≤ (i : Int) * 1081600
  | 0 => by simp [usedTo]
  | i + 1 => by
    have ih := used_le (l := l) hp i
    rw [usedTo]
    split
    · rename_i h
      have := one_use hp h.1 h.2
      omega
    · omega
theorem c38 {H : Heap} {v : AV} {l : List Sz} (hs : SlOf H 2 Sz.cs v l) (hn : l.length ≤ 40) (pad : Int) : call env 38 [v, .int .i64 pad] H = some (.int .i64 (usedP l pad), H) := by
  have l1 := hs.lenOf
  have e0 := fun H => c69 pad 0 16 H
  refine call_ends (fn := s38) rfl rfl (by simp [s38]) ?_
  unfold usedP
  by_cases hp : 0 ≤ pad ∧ pad ≤ 16
  rotate_left
  · rw [if_neg hp]
    rw [decide_eq_false hp] at e0
    simp only [s38, R1, R2, R3, R4, R5, R6, R7, R8, AV.flat, fillIn_nil, fillIn_cons, splice, AV.cells, AV.one, eqsOf, idx, SO.calls, List.reduceReplicate, Nat.reduceBEq, Nat.reduceLT, Nat.reduceAdd, Nat.reduceMul, Nat.reduceSub, Nat.reduceLeDiff, Nat.reduceEqDiff, ↓reduceIte, Int.reduceLT, Int.reduceEq, Int.reduceBNe, Int.reduceBEq, aeq, Int.reduceLE, Int.reduceNeg, Int.reduceMul, Int.reduceAdd, Int.reduceSub, Int.reduceToNat, Int.reducePow, e0]
    try rw [tidy_int]
  rw [if_pos hp]
  rw [decide_eq_true hp] at e0
  simp only [s38, R1, R2, R3, R4, R5, R6, R7, R8, AV.flat, fillIn_nil, fillIn_cons, splice, AV.cells, AV.one, eqsOf, idx, SO.calls, List.reduceReplicate, Nat.reduceBEq, Nat.reduceLT, Nat.reduceAdd, Nat.reduceMul, Nat.reduceSub, Nat.reduceLeDiff, Nat.reduceEqDiff, ↓reduceIte, Int.reduceLT, Int.reduceEq, Int.reduceBNe, Int.reduceBEq, aeq, Int.reduceLE, Int.reduceNeg, Int.reduceMul, Int.reduceAdd, Int.reduceSub, Int.reduceToNat, Int.reducePow, e0, l1]
  refine ends_loop (fun k t H' => t.length = 37 ∧ (t.getD 1 .undef = .int .i64 pad ∧ t.getD 11 .undef = v ∧ t.getD 12 .undef = .int .i64 (l.length : Int)) ∧ ∃ (i : Nat) (X : Heap), i ≤ l.length ∧ k = l.length - i ∧ t.getD 13 .undef = .int .i64 (i : Int) ∧ t.getD 5 .undef = .int .i64 (usedTo l pad i) ∧ H' = H ++ X) l.length ?_ ?_
  · simp only [R1, R2, R3, R4, R5, R6, R7, R8, AV.flat, fillIn_nil, fillIn_cons, splice, AV.cells, AV.one, eqsOf, idx, SO.calls, List.reduceReplicate, Nat.reduceBEq, Nat.reduceLT, Nat.reduceAdd, Nat.reduceMul, Nat.reduceSub, Nat.reduceLeDiff, Nat.reduceEqDiff, ↓reduceIte, Int.reduceLT, Int.reduceEq, Int.reduceBNe, Int.reduceBEq, aeq, Int.reduceLE, Int.reduceNeg, Int.reduceMul, Int.reduceAdd, Int.reduceSub, Int.reduceToNat, Int.reducePow]
    exact ⟨0, [], by omega, by omega, rfl, rfl, by simp⟩
  rintro k t _ ⟨g1, ⟨g2, g3, g4⟩, i, X, hi, rfl, g5, g6, rfl⟩
  rw [← tm_nil t]
  by_cases hc : i < l.length
  · have a1 : ((i : Int) < (l.length : Int)) = True := eq_true (by omega)
    have w1 : IntKind.i64.wrap ((i : Int) + 1) = ((i + 1 : Nat) : Int) := by rw [wrap_i64 (by omega) (by omega)]; rfl
    have E := hs.elem hc
    have hsz : l[i] = szAt l i := by unfold szAt; simp [List.getD, hc]
    have hst : usedTo l pad (i + 1) = if rightP (szAt l i) ∧ (szAt l i).w > 0 then usedTo l pad i + ((szAt l i).w + pad) * ((szAt l i).h + pad) else usedTo l pad i := rfl
    have hle := used_le (l := l) hp i
    rw [hsz] at E
    generalize szAt l i = s at *
    have e1 := fun H => c72 s H
    simp only [Sz.cs] at E e1
    by_cases hr : rightP s
    rotate_left
    · rw [decide_eq_false hr] at e1
      rw [if_neg (fun h => hr h.1)] at hst
      simp only [R1, R2, R3, R4, R5, R6, R7, R8, AV.flat, fillIn_nil, fillIn_cons, splice, AV.cells, AV.one, eqsOf, idx, SO.calls, List.reduceReplicate, Nat.reduceBEq, Nat.reduceLT, Nat.reduceAdd, Nat.reduceMul, Nat.reduceSub, Nat.reduceLeDiff, Nat.reduceEqDiff, ↓reduceIte, Int.reduceLT, Int.reduceEq, Int.reduceBNe, Int.reduceBEq, aeq, Int.reduceLE, Int.reduceNeg, Int.reduceMul, Int.reduceAdd, Int.reduceSub, Int.reduceToNat, Int.reducePow, g1, g2, g3, g4, g5, g6, a1, w1, E, e1]
      exact ⟨_, by omega, i + 1, _, by omega, rfl, rfl, by rw [hst], rfl⟩
    rw [decide_eq_true hr] at e1
    by_cases h0 : s.w > 0
    rotate_left
    · rw [if_neg (fun h => h0 h.2)] at hst
      simp only [R1, R2, R3, R4, R5, R6, R7, R8, AV.flat, fillIn_nil, fillIn_cons, splice, AV.cells, AV.one, eqsOf, idx, SO.calls, List.reduceReplicate, Nat.reduceBEq, Nat.reduceLT, Nat.reduceAdd, Nat.reduceMul, Nat.reduceSub, Nat.reduceLeDiff, Nat.reduceEqDiff, ↓reduceIte, Int.reduceLT, Int.reduceEq, Int.reduceBNe, Int.reduceBEq, aeq, Int.reduceLE, Int.reduceNeg, Int.reduceMul, Int.reduceAdd, Int.reduceSub, Int.reduceToNat, Int.reducePow, g1, g2, g3, g4, g5, g6, a1, w1, E, e1, eq_false h0]
      exact ⟨_, by omega, i + 1, _, by omega, rfl, rfl, by rw [hst], rfl⟩
    rw [if_pos ⟨hr, h0⟩] at hst
    have ho := one_use hp hr h0
    have hb : (1 ≤ s.w ∧ s.w ≤ 1024) ∧ 1 ≤ s.h ∧ s.h ≤ 1024 := by rcases hr with h | h <;> omega
    have w2 := wrap_i64 (x := s.w + pad) (by omega) (by omega)
    have w3 := wrap_i64 (x := s.h + pad) (by omega) (by omega)
    generalize hA : (s.w + pad) * (s.h + pad) = A at *
    have w4 := wrap_i64 (x := A) (by omega) (by omega)
    have w5 := wrap_i64 (x := usedTo l pad i + A) (by omega) (by omega)
    simp only [R1, R2, R3, R4, R5, R6, R7, R8, AV.flat, fillIn_nil, fillIn_cons, splice, AV.cells, AV.one, eqsOf, idx, SO.calls, List.reduceReplicate, Nat.reduceBEq, Nat.reduceLT, Nat.reduceAdd, Nat.reduceMul, Nat.reduceSub, Nat.reduceLeDiff, Nat.reduceEqDiff, ↓reduceIte, Int.reduceLT, Int.reduceEq, Int.reduceBNe, Int.reduceBEq, aeq, Int.reduceLE, Int.reduceNeg, Int.reduceMul, Int.reduceAdd, Int.reduceSub, Int.reduceToNat, Int.reducePow, g1, g2, g3, g4, g5, g6, a1, w1, E, e1, eq_true h0, w2, w3, hA, w4, w5]
    exact ⟨_, by omega, i + 1, _, by omega, rfl, rfl, by rw [hst], rfl⟩
  have a1 : ((i : Int) < (l.length : Int)) = False := eq_false (by omega)
  obtain rfl : i = l.length := by omega
  simp only [R1, R2, R3, R4, R5, R6, R7, R8, AV.flat, fillIn_nil, fillIn_cons, splice, AV.cells, AV.one, eqsOf, idx, SO.calls, List.reduceReplicate, Nat.reduceBEq, Nat.reduceLT, Nat.reduceAdd, Nat.reduceMul, Nat.reduceSub, Nat.reduceLeDiff, Nat.reduceEqDiff, ↓reduceIte, Int.reduceLT, Int.reduceEq, Int.reduceBNe, Int.reduceBEq, aeq, Int.reduceLE, Int.reduceNeg, Int.reduceMul, Int.reduceAdd, Int.reduceSub, Int.reduceToNat, Int.reducePow, g1, g2, g3, g4, g5, g6, a1]
  first | rw [tidy_int'] | rw [tidy_int]
theorem c39 {H : Heap} {v : AV} {l : List Sz} (hs : SlOf H 2 Sz.cs v l) (hn : l.length ≤ 40) (pad : Int) : call env 39 [v, .int .i64 pad] H = some (.int .i64 (usedP l pad), H) := by
  have l1 := hs.lenOf
  refine call_ends (fn := s39) rfl rfl (by simp [s39]) ?_
  unfold usedP
  by_cases hp1 : pad < 0
  · rw [if_neg (by omega)]
    simp only [s39, R1, R2, R3, R4, R5, R6, R7, R8, AV.flat, fillIn_nil, fillIn_cons, splice, AV.cells, AV.one, eqsOf, idx, SO.calls, List.reduceReplicate, Nat.reduceBEq, Nat.reduceLT, Nat.reduceAdd, Nat.reduceMul, Nat.reduceSub, Nat.reduceLeDiff, Nat.reduceEqDiff, ↓reduceIte, Int.reduceLT, Int.reduceEq, Int.reduceBNe, Int.reduceBEq, aeq, Int.reduceLE, Int.reduceNeg, Int.reduceMul, Int.reduceAdd, Int.reduceSub, Int.reduceToNat, Int.reducePow, eq_true hp1]
    try rw [tidy_int]
  by_cases hp2 : pad > 16
  · rw [if_neg (by omega)]
    simp only [s39, R1, R2, R3, R4, R5, R6, R7, R8, AV.flat, fillIn_nil, fillIn_cons, splice, AV.cells, AV.one, eqsOf, idx, SO.calls, List.reduceReplicate, Nat.reduceBEq, Nat.reduceLT, Nat.reduceAdd, Nat.reduceMul, Nat.reduceSub, Nat.reduceLeDiff, Nat.reduceEqDiff, ↓reduceIte, Int.reduceLT, Int.reduceEq, Int.reduceBNe, Int.reduceBEq, aeq, Int.reduceLE, Int.reduceNeg, Int.reduceMul, Int.reduceAdd, Int.reduceSub, Int.reduceToNat, Int.reducePow, eq_false hp1, eq_true hp2]
    try rw [tidy_int]
  have hp : 0 ≤ pad ∧ pad ≤ 16 := by omega
  rw [if_pos hp]
  simp only [s39, R1, R2, R3, R4, R5, R6, R7, R8, AV.flat, fillIn_nil, fillIn_cons, splice, AV.cells, AV.one, eqsOf, idx, SO.calls, List.reduceReplicate, Nat.reduceBEq, Nat.reduceLT, Nat.reduceAdd, Nat.reduceMul, Nat.reduceSub, Nat.reduceLeDiff, Nat.reduceEqDiff, ↓reduceIte, Int.reduceLT, Int.reduceEq, Int.reduceBNe, Int.reduceBEq, aeq, Int.reduceLE, Int.reduceNeg, Int.reduceMul, Int.reduceAdd, Int.reduceSub, Int.reduceToNat, Int.reducePow, eq_false hp1, eq_false hp2]
  refine ends_loop (fun k t H' => t.length = 50 ∧ (t.getD 0 .undef = v ∧ t.getD 1 .undef = .int .i64 pad) ∧ ∃ (i : Nat), i ≤ l.length ∧ k = l.length - i ∧ t.getD 6 .undef = .int .i64 (i : Int) ∧ t.getD 5 .undef = .int .i64 (usedTo l pad i) ∧ H = H') l.length ?_ ?_
  · simp only [R1, R2, R3, R4, R5, R6, R7, R8, AV.flat, fillIn_nil, fillIn_cons, splice, AV.cells, AV.one, eqsOf, idx, SO.calls, List.reduceReplicate, Nat.reduceBEq, Nat.reduceLT, Nat.reduceAdd, Nat.reduceMul, Nat.reduceSub, Nat.reduceLeDiff, Nat.reduceEqDiff, ↓reduceIte, Int.reduceLT, Int.reduceEq, Int.reduceBNe, Int.reduceBEq, aeq, Int.reduceLE, Int.reduceNeg, Int.reduceMul, Int.reduceAdd, Int.reduceSub, Int.reduceToNat, Int.reducePow]
    exact ⟨0, by omega, by omega, rfl, rfl⟩
  rintro k t _ ⟨g1, ⟨g2, g3⟩, i, hi, rfl, g5, g6, rfl⟩
  rw [← tm_nil t]
  by_cases hc : i < l.length
  · have a1 : ((i : Int) < (l.length : Int)) = True := eq_true (by omega)
    have w1 : IntKind.i64.wrap ((i : Int) + 1) = ((i + 1 : Nat) : Int) := by rw [wrap_i64 (by omega) (by omega)]; rfl
    have E := hs.elem0 hc
    have hsz : l[i] = szAt l i := by unfold szAt; simp [List.getD, hc]
    have hst : usedTo l pad (i + 1) = if rightP (szAt l i) ∧ (szAt l i).w > 0 then usedTo l pad i + ((szAt l i).w + pad) * ((szAt l i).h + pad) else usedTo l pad i := rfl
    have hle := used_le (l := l) hp i
    rw [hsz] at E
    generalize szAt l i = s at *
    have e1 := fun H => c73 s H
    simp only [Sz.cs] at E e1
    by_cases hr : rightP s
    rotate_left
    · rw [decide_eq_false hr] at e1
      rw [if_neg (fun h => hr h.1)] at hst
      simp only [R1, R2, R3, R4, R5, R6, R7, R8, AV.flat, fillIn_nil, fillIn_cons, splice, AV.cells, AV.one, eqsOf, idx, SO.calls, List.reduceReplicate, Nat.reduceBEq, Nat.reduceLT, Nat.reduceAdd, Nat.reduceMul, Nat.reduceSub, Nat.reduceLeDiff, Nat.reduceEqDiff, ↓reduceIte, Int.reduceLT, Int.reduceEq, Int.reduceBNe, Int.reduceBEq, aeq, Int.reduceLE, Int.reduceNeg, Int.reduceMul, Int.reduceAdd, Int.reduceSub, Int.reduceToNat, Int.reducePow, g1, g2, g3, g5, g6, l1, a1, w1, E, e1]
      exact ⟨_, by omega, i + 1, by omega, rfl, rfl, by rw [hst]⟩
    rw [decide_eq_true hr] at e1
    by_cases h0 : s.w > 0
    rotate_left
    · rw [if_neg (fun h => h0 h.2)] at hst
      simp only [R1, R2, R3, R4, R5, R6, R7, R8, AV.flat, fillIn_nil, fillIn_cons, splice, AV.cells, AV.one, eqsOf, idx, SO.calls, List.reduceReplicate, Nat.reduceBEq, Nat.reduceLT, Nat.reduceAdd, Nat.reduceMul, Nat.reduceSub, Nat.reduceLeDiff, Nat.reduceEqDiff, ↓reduceIte, Int.reduceLT, Int.reduceEq, Int.reduceBNe, Int.reduceBEq, aeq, Int.reduceLE, Int.reduceNeg, Int.reduceMul, Int.reduceAdd, Int.reduceSub, Int.reduceToNat, Int.reducePow, g1, g2, g3, g5, g6, l1, a1, w1, E, e1, eq_false h0]
      exact ⟨_, by omega, i + 1, by omega, rfl, rfl, by rw [hst]⟩
    rw [if_pos ⟨hr, h0⟩] at hst
    have ho := one_use hp hr h0
    have hb : (1 ≤ s.w ∧ s.w ≤ 1024) ∧ 1 ≤ s.h ∧ s.h ≤ 1024 := by rcases hr with h | h <;> omega
    have w2 := wrap_i64 (x := s.w + pad) (by omega) (by omega)
    have w3 := wrap_i64 (x := s.h + pad) (by omega) (by omega)
    generalize hA : (s.w + pad) * (s.h + pad) = A at *
    have w4 := wrap_i64 (x := A) (by omega) (by omega)
    have w5 := wrap_i64 (x := usedTo l pad i + A) (by omega) (by omega)
    simp only [R1, R2, R3, R4, R5, R6, R7, R8, AV.flat, fillIn_nil, fillIn_cons, splice, AV.cells, AV.one, eqsOf, idx, SO.calls, List.reduceReplicate, Nat.reduceBEq, Nat.reduceLT, Nat.reduceAdd, Nat.reduceMul, Nat.reduceSub, Nat.reduceLeDiff, Nat.reduceEqDiff, ↓reduceIte, Int.reduceLT, Int.reduceEq, Int.reduceBNe, Int.reduceBEq, aeq, Int.reduceLE, Int.reduceNeg, Int.reduceMul, Int.reduceAdd, Int.reduceSub, Int.reduceToNat, Int.reducePow, g1, g2, g3, g5, g6, l1, a1, w1, E, e1, eq_true h0, w2, w3, hA, w4, w5]
    exact ⟨_, by omega, i + 1, by omega, rfl, rfl, by rw [hst]⟩
  have a1 : ((i : Int) < (l.length : Int)) = False := eq_false (by omega)
  obtain rfl : i = l.length := by omega
  simp only [R1, R2, R3, R4, R5, R6, R7, R8, AV.flat, fillIn_nil, fillIn_cons, splice, AV.cells, AV.one, eqsOf, idx, SO.calls, List.reduceReplicate, Nat.reduceBEq, Nat.reduceLT, Nat.reduceAdd, Nat.reduceMul, Nat.reduceSub, Nat.reduceLeDiff, Nat.reduceEqDiff, ↓reduceIte, Int.reduceLT, Int.reduceEq, Int.reduceBNe, Int.reduceBEq, aeq, Int.reduceLE, Int.reduceNeg, Int.reduceMul, Int.reduceAdd, Int.reduceSub, Int.reduceToNat, Int.reducePow, g1, g2, g3, g5, g6, l1, a1]
  try rw [tidy_int]
end Go.Proofs.Ytkcbjeenoafbkaa
