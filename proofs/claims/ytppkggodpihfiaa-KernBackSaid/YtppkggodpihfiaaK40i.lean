/- Chapter 40: which pairs may be. -/
import Derived.Test.YtppkggodpihfiaaK40h
set_option linter.unusedVariables false
set_option linter.unusedSimpArgs false
set_option maxRecDepth 100000
set_option maxHeartbeats 4000000
namespace Go.Proofs.Ytppkggodpihfiaa
open Go Go.Den
theorem c105 (x : Int) (H : Heap) : call env 105 [.int .i64 x] H = some (.bool false, H) := by
  have c1 : (x != x) = false := by simp
  refine call_ends (fn := s105) rfl rfl (by simp [s105]) ?_
  simp only [s105, R1, R2, R3, R4, R5, R6, R7, R8, AV.flat, fillIn_nil, fillIn_cons, splice, AV.cells, AV.one, eqsOf, idx, SO.calls, List.reduceReplicate, Nat.reduceBEq, Nat.reduceLT, Nat.reduceAdd, Nat.reduceMul, Nat.reduceSub, Nat.reduceLeDiff, Nat.reduceEqDiff, ↓reduceIte, Int.reduceLT, Int.reduceEq, Int.reduceBNe, Int.reduceBEq, aeq, Int.reduceLE, Int.reduceNeg, Int.reduceMul, Int.reduceAdd, Int.reduceSub, Int.reduceToNat, Int.reducePow, c1]
  try rw [tidy_bool]
def cmpI (a b : Int) : Int := if a < b then -1 else if a > b then 1 else 0
theorem c100 (a b : Int) (H : Heap) : call env 100 [.int .i64 a, .int .i64 b] H = some (.int .i64 (cmpI a b), H) := by
  have e1 := fun H => c105 a H
  have e2 := fun H => c105 b H
  unfold cmpI
  refine call_ends (fn := s100) rfl rfl (by simp [s100]) ?_
  by_cases h1 : a < b
  · rw [if_pos h1]
    simp only [s100, R1, R2, R3, R4, R5, R6, R7, R8, AV.flat, fillIn_nil, fillIn_cons, splice, AV.cells, AV.one, eqsOf, idx, SO.calls, List.reduceReplicate, Nat.reduceBEq, Nat.reduceLT, Nat.reduceAdd, Nat.reduceMul, Nat.reduceSub, Nat.reduceLeDiff, Nat.reduceEqDiff, ↓reduceIte, Int.reduceLT, Int.reduceEq, Int.reduceBNe, Int.reduceBEq, aeq, Int.reduceLE, Int.reduceNeg, Int.reduceMul, Int.reduceAdd, Int.reduceSub, Int.reduceToNat, Int.reducePow, e1, e2, eq_true h1]
    try rw [tidy_int]
  · rw [if_neg h1]
    by_cases h2 : a > b
    · rw [if_pos h2]
      simp only [s100, R1, R2, R3, R4, R5, R6, R7, R8, AV.flat, fillIn_nil, fillIn_cons, splice, AV.cells, AV.one, eqsOf, idx, SO.calls, List.reduceReplicate, Nat.reduceBEq, Nat.reduceLT, Nat.reduceAdd, Nat.reduceMul, Nat.reduceSub, Nat.reduceLeDiff, Nat.reduceEqDiff, ↓reduceIte, Int.reduceLT, Int.reduceEq, Int.reduceBNe, Int.reduceBEq, aeq, Int.reduceLE, Int.reduceNeg, Int.reduceMul, Int.reduceAdd, Int.reduceSub, Int.reduceToNat, Int.reducePow, e1, e2, eq_false h1, eq_true h2]
      try rw [tidy_int]
    · rw [if_neg h2]
      simp only [s100, R1, R2, R3, R4, R5, R6, R7, R8, AV.flat, fillIn_nil, fillIn_cons, splice, AV.cells, AV.one, eqsOf, idx, SO.calls, List.reduceReplicate, Nat.reduceBEq, Nat.reduceLT, Nat.reduceAdd, Nat.reduceMul, Nat.reduceSub, Nat.reduceLeDiff, Nat.reduceEqDiff, ↓reduceIte, Int.reduceLT, Int.reduceEq, Int.reduceBNe, Int.reduceBEq, aeq, Int.reduceLE, Int.reduceNeg, Int.reduceMul, Int.reduceAdd, Int.reduceSub, Int.reduceToNat, Int.reducePow, e1, e2, eq_false h1, eq_false h2]
      try rw [tidy_int]
def orI (l : List Int) : Int := (l.find? fun x => x != 0).getD 0
theorem c99 {H : Heap} {v : AV} {l : List Int} (hs : SlOf H 1 IntC v l) (hn : l.length ≤ 1000000) : call env 99 [v] H = some (.int .i64 (orI l), H) := by
  have l1 := hs.lenOf
  refine call_ends (fn := s99) rfl rfl (by simp [s99]) ?_
  simp only [s99, R1, R2, R3, R4, R5, R6, R7, R8, AV.flat, fillIn_nil, fillIn_cons, splice, AV.cells, AV.one, eqsOf, idx, SO.calls, List.reduceReplicate, Nat.reduceBEq, Nat.reduceLT, Nat.reduceAdd, Nat.reduceMul, Nat.reduceSub, Nat.reduceLeDiff, Nat.reduceEqDiff, ↓reduceIte, Int.reduceLT, Int.reduceEq, Int.reduceBNe, Int.reduceBEq, aeq, Int.reduceLE, Int.reduceNeg, Int.reduceMul, Int.reduceAdd, Int.reduceSub, Int.reduceToNat, Int.reducePow, l1]
  refine ends_loop (fun k t H' => t.length = 18 ∧ H = H' ∧ (t.getD 3 .undef = .int .i64 0 ∧ t.getD 6 .undef = v ∧ t.getD 7 .undef = .int .i64 (l.length : Int)) ∧ ∃ i : Nat, i ≤ l.length ∧ k = l.length - i ∧ t.getD 8 .undef = .int .i64 (i : Int) ∧ orI l = orI (l.drop i)) l.length ?_ ?_
  · simp only [R1, R2, R3, R4, R5, R6, R7, R8, AV.flat, fillIn_nil, fillIn_cons, splice, AV.cells, AV.one, eqsOf, idx, SO.calls, List.reduceReplicate, Nat.reduceBEq, Nat.reduceLT, Nat.reduceAdd, Nat.reduceMul, Nat.reduceSub, Nat.reduceLeDiff, Nat.reduceEqDiff, ↓reduceIte, Int.reduceLT, Int.reduceEq, Int.reduceBNe, Int.reduceBEq, aeq, Int.reduceLE, Int.reduceNeg, Int.reduceMul, Int.reduceAdd, Int.reduceSub, Int.reduceToNat, Int.reducePow]
    exact ⟨0, by omega, by omega, rfl, rfl⟩
  · rintro k t _ ⟨g1, rfl, ⟨g2, g3, g4⟩, i, hi, rfl, g5, g6⟩
    rw [← tm_nil t]
    by_cases hc : i < l.length
    · have a1 : ((i : Int) < (l.length : Int)) = True := eq_true (by omega)
      have w1 : IntKind.i64.wrap ((i : Int) + 1) = ((i + 1 : Nat) : Int) := by rw [wrap_i64 (by omega) (by omega)]; rfl
      have E := hs.elem0 hc
      rw [List.drop_eq_getElem_cons hc] at g6
      generalize l[i] = q at *
      simp only [IntC, Nat.mul_one] at E
      by_cases hq : q = 0
      · have c1 : (q != 0) = false := by rw [bne_eq_false_iff_eq]; exact hq
        simp only [R1, R2, R3, R4, R5, R6, R7, R8, AV.flat, fillIn_nil, fillIn_cons, splice, AV.cells, AV.one, eqsOf, idx, SO.calls, List.reduceReplicate, Nat.reduceBEq, Nat.reduceLT, Nat.reduceAdd, Nat.reduceMul, Nat.reduceSub, Nat.reduceLeDiff, Nat.reduceEqDiff, ↓reduceIte, Int.reduceLT, Int.reduceEq, Int.reduceBNe, Int.reduceBEq, aeq, Int.reduceLE, Int.reduceNeg, Int.reduceMul, Int.reduceAdd, Int.reduceSub, Int.reduceToNat, Int.reducePow, g1, g2, g3, g4, g5, a1, w1, E, c1]
        exact ⟨_, by omega, i + 1, by omega, rfl, rfl, by rw [g6]; unfold orI; rw [List.find?_cons_of_neg (by simp [hq])]⟩
      · have c1 : (q != 0) = true := by rw [bne_iff_ne]; exact hq
        have hr : orI l = q := by rw [g6]; unfold orI; rw [List.find?_cons_of_pos (by simp [hq])]; rfl
        rw [hr]
        simp only [R1, R2, R3, R4, R5, R6, R7, R8, AV.flat, fillIn_nil, fillIn_cons, splice, AV.cells, AV.one, eqsOf, idx, SO.calls, List.reduceReplicate, Nat.reduceBEq, Nat.reduceLT, Nat.reduceAdd, Nat.reduceMul, Nat.reduceSub, Nat.reduceLeDiff, Nat.reduceEqDiff, ↓reduceIte, Int.reduceLT, Int.reduceEq, Int.reduceBNe, Int.reduceBEq, aeq, Int.reduceLE, Int.reduceNeg, Int.reduceMul, Int.reduceAdd, Int.reduceSub, Int.reduceToNat, Int.reducePow, g1, g2, g3, g4, g5, a1, w1, E, c1]
        try rw [tidy_int]
    · have a1 : ((i : Int) < (l.length : Int)) = False := eq_false (by omega)
      obtain rfl : i = l.length := by omega
      rw [List.drop_length] at g6
      have hr : orI l = 0 := g6
      rw [hr]
      simp only [R1, R2, R3, R4, R5, R6, R7, R8, AV.flat, fillIn_nil, fillIn_cons, splice, AV.cells, AV.one, eqsOf, idx, SO.calls, List.reduceReplicate, Nat.reduceBEq, Nat.reduceLT, Nat.reduceAdd, Nat.reduceMul, Nat.reduceSub, Nat.reduceLeDiff, Nat.reduceEqDiff, ↓reduceIte, Int.reduceLT, Int.reduceEq, Int.reduceBNe, Int.reduceBEq, aeq, Int.reduceLE, Int.reduceNeg, Int.reduceMul, Int.reduceAdd, Int.reduceSub, Int.reduceToNat, Int.reducePow, g1, g2, g3, g4, g5, a1]
      try rw [tidy_int]
def lessK (a b : Kn) : Prop := a.l < b.l ∨ a.l = b.l ∧ a.r < b.r
instance (a b : Kn) : Decidable (lessK a b) := by unfold lessK; infer_instance
def cmpK (a b : Kn) : Int := orI [cmpI a.l b.l, cmpI a.r b.r]
theorem cmpK_less (a b : Kn) : cmpK a b < 0 ↔ lessK a b := by
  unfold cmpK orI lessK cmpI
  by_cases h1 : a.l < b.l
  · simp [h1]
  · by_cases h2 : a.l > b.l
    · simp [h1, h2]; omega
    · have h3 : a.l = b.l := by omega
      by_cases h4 : a.r < b.r
      · simp [h3, h4]
      · by_cases h5 : a.r > b.r
        · simp [h3, h4, h5]
        · simp [h3, h4, h5]
theorem c80 (a b : Kn) (H : Heap) : call env 80 [.agg a.cs, .agg b.cs] H = some (.int .i64 (cmpK a b), H) := by
  obtain ⟨a1, a2, a3⟩ := a
  obtain ⟨b1, b2, b3⟩ := b
  have e1 := fun H => c100 a1 b1 H
  have e2 := fun H => c100 a2 b2 H
  have e3 := fun X => c99 (@slrow (H ++ X) [cmpI a1 b1, cmpI a2 b2] (some 2)) (by simp)
  simp only [List.flatMap_cons, List.flatMap_nil, IntC, List.cons_append, List.nil_append, List.length_cons, List.length_nil, Nat.zero_add, Nat.reduceAdd, List.length_append, List.append_assoc] at e3
  have e3 := e3 [.cells [.int .i64 a1, .int .i64 a2, .int .i64 a3] 41 true, .cells [.int .i64 b1, .int .i64 b2, .int .i64 b3] 41 true]
  simp only [List.cons_append, List.nil_append, List.length_cons, List.length_nil, Nat.zero_add, Nat.reduceAdd] at e3
  unfold cmpK
  generalize orI [cmpI a1 b1, cmpI a2 b2] = z at *
  generalize cmpI a1 b1 = x at *
  generalize cmpI a2 b2 = y at *
  simp only [Kn.cs]
  refine call_ends (fn := s80) rfl rfl (by simp [s80]) ?_
  simp only [s80, R1, R2, R3, R4, R5, R6, R7, R8, AV.flat, fillIn_nil, fillIn_cons, splice, AV.cells, AV.one, eqsOf, idx, SO.calls, List.reduceReplicate, Nat.reduceBEq, Nat.reduceLT, Nat.reduceAdd, Nat.reduceMul, Nat.reduceSub, Nat.reduceLeDiff, Nat.reduceEqDiff, ↓reduceIte, Int.reduceLT, Int.reduceEq, Int.reduceBNe, Int.reduceBEq, aeq, Int.reduceLE, Int.reduceNeg, Int.reduceMul, Int.reduceAdd, Int.reduceSub, Int.reduceToNat, Int.reducePow, e1, e2, e3]
  try rw [tidy_int']
theorem c41 (a b : Kn) (H : Heap) : call env 41 [.agg a.cs, .agg b.cs] H = some (.bool (decide (lessK b a)), H) := by
  obtain ⟨a1, a2, a3⟩ := a
  obtain ⟨b1, b2, b3⟩ := b
  have hl : lessK ⟨b1, b2, b3⟩ ⟨a1, a2, a3⟩ ↔ (b1 < a1 ∨ b1 = a1 ∧ b2 < a2) := Iff.rfl
  simp only [Kn.cs]
  refine call_ends (fn := s41) rfl rfl (by simp [s41]) ?_
  by_cases h1 : a1 > b1
  · rw [decide_eq_true (hl.2 (Or.inl h1))]
    simp only [s41, R1, R2, R3, R4, R5, R6, R7, R8, AV.flat, fillIn_nil, fillIn_cons, splice, AV.cells, AV.one, eqsOf, idx, SO.calls, List.reduceReplicate, Nat.reduceBEq, Nat.reduceLT, Nat.reduceAdd, Nat.reduceMul, Nat.reduceSub, Nat.reduceLeDiff, Nat.reduceEqDiff, ↓reduceIte, Int.reduceLT, Int.reduceEq, Int.reduceBNe, Int.reduceBEq, aeq, Int.reduceLE, Int.reduceNeg, Int.reduceMul, Int.reduceAdd, Int.reduceSub, Int.reduceToNat, Int.reducePow, eq_true h1]
    try rw [tidy_bool']
  · by_cases h2 : a1 = b1
    · have c1 : (a1 == b1) = true := by rw [beq_iff_eq]; exact h2
      by_cases h3 : a2 > b2
      · rw [decide_eq_true (hl.2 (Or.inr ⟨h2.symm, h3⟩))]
        simp only [s41, R1, R2, R3, R4, R5, R6, R7, R8, AV.flat, fillIn_nil, fillIn_cons, splice, AV.cells, AV.one, eqsOf, idx, SO.calls, List.reduceReplicate, Nat.reduceBEq, Nat.reduceLT, Nat.reduceAdd, Nat.reduceMul, Nat.reduceSub, Nat.reduceLeDiff, Nat.reduceEqDiff, ↓reduceIte, Int.reduceLT, Int.reduceEq, Int.reduceBNe, Int.reduceBEq, aeq, Int.reduceLE, Int.reduceNeg, Int.reduceMul, Int.reduceAdd, Int.reduceSub, Int.reduceToNat, Int.reducePow, eq_false h1, c1, eq_true h3]
        try rw [tidy_bool']
      · rw [decide_eq_false (fun h => by rcases hl.1 h with h | h <;> omega)]
        simp only [s41, R1, R2, R3, R4, R5, R6, R7, R8, AV.flat, fillIn_nil, fillIn_cons, splice, AV.cells, AV.one, eqsOf, idx, SO.calls, List.reduceReplicate, Nat.reduceBEq, Nat.reduceLT, Nat.reduceAdd, Nat.reduceMul, Nat.reduceSub, Nat.reduceLeDiff, Nat.reduceEqDiff, ↓reduceIte, Int.reduceLT, Int.reduceEq, Int.reduceBNe, Int.reduceBEq, aeq, Int.reduceLE, Int.reduceNeg, Int.reduceMul, Int.reduceAdd, Int.reduceSub, Int.reduceToNat, Int.reducePow, eq_false h1, c1, eq_false h3]
        try rw [tidy_bool']
    · have c1 : (a1 == b1) = false := by rw [beq_eq_false_iff_ne]; exact h2
      rw [decide_eq_false (fun h => by rcases hl.1 h with h | h <;> omega)]
      simp only [s41, R1, R2, R3, R4, R5, R6, R7, R8, AV.flat, fillIn_nil, fillIn_cons, splice, AV.cells, AV.one, eqsOf, idx, SO.calls, List.reduceReplicate, Nat.reduceBEq, Nat.reduceLT, Nat.reduceAdd, Nat.reduceMul, Nat.reduceSub, Nat.reduceLeDiff, Nat.reduceEqDiff, ↓reduceIte, Int.reduceLT, Int.reduceEq, Int.reduceBNe, Int.reduceBEq, aeq, Int.reduceLE, Int.reduceNeg, Int.reduceMul, Int.reduceAdd, Int.reduceSub, Int.reduceToNat, Int.reducePow, eq_false h1, c1]
      try rw [tidy_bool']
def zk : Kn := ⟨0, 0, 0⟩
def risesP (l : List Kn) (i : Nat) : Prop := i = 0 ∨ lessK (l.getD (i - 1) zk) (l.getD i zk)
instance (l : List Kn) (i : Nat) : Decidable (risesP l i) := by unfold risesP; infer_instance
theorem getK {l : List Kn} {i : Nat} (h : i < l.length) : l.getD i zk = l[i] := by rw [List.getD, List.getElem?_eq_getElem h]; rfl
theorem c40 {H : Heap} {v : AV} {l : List Kn} {i : Nat} (hs : SlOf H 3 Kn.cs v l) (hi : i < l.length) (hn : l.length ≤ 1000000) : call env 40 [v, .int .i64 (i : Int)] H = some (.bool (decide (risesP l i)), H) := by
  refine call_ends (fn := s40) rfl rfl (by simp [s40]) ?_
  by_cases h0 : i = 0
  · subst h0
    rw [decide_eq_true (show risesP l 0 from Or.inl rfl)]
    simp only [s40, R1, R2, R3, R4, R5, R6, R7, R8, AV.flat, fillIn_nil, fillIn_cons, splice, AV.cells, AV.one, eqsOf, idx, SO.calls, List.reduceReplicate, Nat.reduceBEq, Nat.reduceLT, Nat.reduceAdd, Nat.reduceMul, Nat.reduceSub, Nat.reduceLeDiff, Nat.reduceEqDiff, ↓reduceIte, Int.reduceLT, Int.reduceEq, Int.reduceBNe, Int.reduceBEq, aeq, Int.reduceLE, Int.reduceNeg, Int.reduceMul, Int.reduceAdd, Int.reduceSub, Int.reduceToNat, Int.reducePow, Int.natCast_zero]
    try rw [tidy_bool]
  · obtain ⟨j, rfl⟩ : ∃ j, i = j + 1 := ⟨i - 1, by omega⟩
    have hj : j < l.length := by omega
    have c1 : (((j + 1 : Nat) : Int) == 0) = false := by rw [beq_eq_false_iff_ne]; omega
    have w1 : IntKind.i64.wrap (((j + 1 : Nat) : Int) - 1) = (j : Int) := by rw [wrap_i64 (by omega) (by omega)]; omega
    have E := hs.elem0 hi
    have F := hs.elem0 hj
    have hr : risesP l (j + 1) ↔ cmpK l[j] l[j + 1] < 0 := by
      rw [cmpK_less]; unfold risesP; rw [Nat.add_sub_cancel, getK hj, getK hi]; simp
    have e1 := fun H => c80 l[j] l[j + 1] H
    generalize l[j] = p at *
    generalize l[j + 1] = q at *
    obtain ⟨x0, y0, z0⟩ := p
    obtain ⟨x1, y1, z1⟩ := q
    simp only [Kn.cs] at E F e1
    by_cases hc : cmpK ⟨x0, y0, z0⟩ ⟨x1, y1, z1⟩ < 0
    · rw [decide_eq_true (hr.2 hc)]
      simp only [s40, R1, R2, R3, R4, R5, R6, R7, R8, AV.flat, fillIn_nil, fillIn_cons, splice, AV.cells, AV.one, eqsOf, idx, SO.calls, List.reduceReplicate, Nat.reduceBEq, Nat.reduceLT, Nat.reduceAdd, Nat.reduceMul, Nat.reduceSub, Nat.reduceLeDiff, Nat.reduceEqDiff, ↓reduceIte, Int.reduceLT, Int.reduceEq, Int.reduceBNe, Int.reduceBEq, aeq, Int.reduceLE, Int.reduceNeg, Int.reduceMul, Int.reduceAdd, Int.reduceSub, Int.reduceToNat, Int.reducePow, c1, w1, E, F, e1, eq_true hc]
      try rw [tidy_bool]
    · rw [decide_eq_false (fun h => hc (hr.1 h))]
      simp only [s40, R1, R2, R3, R4, R5, R6, R7, R8, AV.flat, fillIn_nil, fillIn_cons, splice, AV.cells, AV.one, eqsOf, idx, SO.calls, List.reduceReplicate, Nat.reduceBEq, Nat.reduceLT, Nat.reduceAdd, Nat.reduceMul, Nat.reduceSub, Nat.reduceLeDiff, Nat.reduceEqDiff, ↓reduceIte, Int.reduceLT, Int.reduceEq, Int.reduceBNe, Int.reduceBEq, aeq, Int.reduceLE, Int.reduceNeg, Int.reduceMul, Int.reduceAdd, Int.reduceSub, Int.reduceToNat, Int.reducePow, c1, w1, E, F, e1, eq_false hc]
      try rw [tidy_bool]
end Go.Proofs.Ytppkggodpihfiaa
