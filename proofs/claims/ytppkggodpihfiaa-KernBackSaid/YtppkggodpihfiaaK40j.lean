/- Chapter 40: May. -/
import Derived.Test.YtppkggodpihfiaaK40i
set_option linter.unusedVariables false
set_option linter.unusedSimpArgs false
set_option maxRecDepth 100000
set_option maxHeartbeats 4000000
namespace Go.Proofs.Ytppkggodpihfiaa
open Go Go.Den
def okAt (l : List Kn) (g : Int) (i : Nat) : Prop := (0 ≤ (l.getD i zk).l ∧ 0 ≤ (l.getD i zk).r) ∧ ((l.getD i zk).l < g ∧ (l.getD i zk).r < g) ∧ (-32768 ≤ (l.getD i zk).b ∧ (l.getD i zk).b ≤ 32767) ∧ risesP l i
def mayK (l : List Kn) (g : Int) : Prop := (1 ≤ g ∧ g ≤ 1024 ∧ l.length ≤ 4096) ∧ ∀ i, i < l.length → okAt l g i
open Classical in
noncomputable instance (l : List Kn) (g : Int) : Decidable (mayK l g) := inferInstance
theorem min_lt {a b c : Int} : (min a b < c) ↔ (a < c ∨ b < c) := by omega
theorem max_ge {a b c : Int} : (max a b ≥ c) ↔ (a ≥ c ∨ b ≥ c) := by omega
theorem c13 {H : Heap} {v : AV} {l : List Kn} (hs : SlOf H 3 Kn.cs v l) (hn : l.length ≤ 9223372036854775807) (g : Int) : call env 13 [v, .int .i64 g] H = some (.bool (decide (mayK l g)), H) := by
  have l1 := hs.lenOf
  refine call_ends (fn := s13) rfl rfl (by simp [s13]) ?_
  by_cases h1 : g < 1
  · rw [decide_eq_false (fun h : mayK l g => by have := h.1; omega)]
    simp only [s13, R1, R2, R3, R4, R5, R6, R7, R8, AV.flat, fillIn_nil, fillIn_cons, splice, AV.cells, AV.one, eqsOf, idx, SO.calls, List.reduceReplicate, Nat.reduceBEq, Nat.reduceLT, Nat.reduceAdd, Nat.reduceMul, Nat.reduceSub, Nat.reduceLeDiff, Nat.reduceEqDiff, ↓reduceIte, Int.reduceLT, Int.reduceEq, Int.reduceBNe, Int.reduceBEq, aeq, Int.reduceLE, Int.reduceNeg, Int.reduceMul, Int.reduceAdd, Int.reduceSub, Int.reduceToNat, Int.reducePow, eq_true h1]
    try rw [tidy_bool]
  by_cases h2 : g > 1024
  · rw [decide_eq_false (fun h : mayK l g => by have := h.1; omega)]
    simp only [s13, R1, R2, R3, R4, R5, R6, R7, R8, AV.flat, fillIn_nil, fillIn_cons, splice, AV.cells, AV.one, eqsOf, idx, SO.calls, List.reduceReplicate, Nat.reduceBEq, Nat.reduceLT, Nat.reduceAdd, Nat.reduceMul, Nat.reduceSub, Nat.reduceLeDiff, Nat.reduceEqDiff, ↓reduceIte, Int.reduceLT, Int.reduceEq, Int.reduceBNe, Int.reduceBEq, aeq, Int.reduceLE, Int.reduceNeg, Int.reduceMul, Int.reduceAdd, Int.reduceSub, Int.reduceToNat, Int.reducePow, eq_false h1, eq_true h2]
    try rw [tidy_bool]
  by_cases h3 : (l.length : Int) > 4096
  · rw [decide_eq_false (fun h : mayK l g => by have := h.1; omega)]
    simp only [s13, R1, R2, R3, R4, R5, R6, R7, R8, AV.flat, fillIn_nil, fillIn_cons, splice, AV.cells, AV.one, eqsOf, idx, SO.calls, List.reduceReplicate, Nat.reduceBEq, Nat.reduceLT, Nat.reduceAdd, Nat.reduceMul, Nat.reduceSub, Nat.reduceLeDiff, Nat.reduceEqDiff, ↓reduceIte, Int.reduceLT, Int.reduceEq, Int.reduceBNe, Int.reduceBEq, aeq, Int.reduceLE, Int.reduceNeg, Int.reduceMul, Int.reduceAdd, Int.reduceSub, Int.reduceToNat, Int.reducePow, eq_false h1, eq_false h2, l1, eq_true h3]
    try rw [tidy_bool]
  simp only [s13, R1, R2, R3, R4, R5, R6, R7, R8, AV.flat, fillIn_nil, fillIn_cons, splice, AV.cells, AV.one, eqsOf, idx, SO.calls, List.reduceReplicate, Nat.reduceBEq, Nat.reduceLT, Nat.reduceAdd, Nat.reduceMul, Nat.reduceSub, Nat.reduceLeDiff, Nat.reduceEqDiff, ↓reduceIte, Int.reduceLT, Int.reduceEq, Int.reduceBNe, Int.reduceBEq, aeq, Int.reduceLE, Int.reduceNeg, Int.reduceMul, Int.reduceAdd, Int.reduceSub, Int.reduceToNat, Int.reducePow, eq_false h1, eq_false h2, l1, eq_false h3]
  refine ends_loop (fun k t H' => t.length = 57 ∧ (∃ X, H' = H ++ X) ∧ (t.getD 0 .undef = v ∧ t.getD 1 .undef = .int .i64 g ∧ t.getD 18 .undef = v ∧ t.getD 19 .undef = .int .i64 (l.length : Int)) ∧ ∃ i : Nat, i ≤ l.length ∧ k = l.length - i ∧ t.getD 20 .undef = .int .i64 (i : Int) ∧ ∀ j, j < i → okAt l g j) l.length ?_ ?_
  · simp only [R1, R2, R3, R4, R5, R6, R7, R8, AV.flat, fillIn_nil, fillIn_cons, splice, AV.cells, AV.one, eqsOf, idx, SO.calls, List.reduceReplicate, Nat.reduceBEq, Nat.reduceLT, Nat.reduceAdd, Nat.reduceMul, Nat.reduceSub, Nat.reduceLeDiff, Nat.reduceEqDiff, ↓reduceIte, Int.reduceLT, Int.reduceEq, Int.reduceBNe, Int.reduceBEq, aeq, Int.reduceLE, Int.reduceNeg, Int.reduceMul, Int.reduceAdd, Int.reduceSub, Int.reduceToNat, Int.reducePow]
    exact ⟨⟨[], by simp⟩, 0, by omega, by omega, rfl, by simp⟩
  · rintro k t _ ⟨g1, ⟨X, rfl⟩, ⟨g2, g3, g4, g5⟩, i, hi, rfl, g6, g7⟩
    rw [← tm_nil t]
    by_cases hc : i < l.length
    · have a1 : ((i : Int) < (l.length : Int)) = True := eq_true (by omega)
      have w1 : IntKind.i64.wrap ((i : Int) + 1) = ((i + 1 : Nat) : Int) := by rw [wrap_i64 (by omega) (by omega)]; rfl
      have E := hs.elem hc
      have e1 := fun Y => c40 (hs.app Y) hc (by omega)
      have bad : ¬ okAt l g i → decide (mayK l g) = false := fun h => decide_eq_false fun hm => h (hm.2 i hc)
      have more : okAt l g i → ∀ j, j < i + 1 → okAt l g j := fun h j hj => by
        by_cases hji : j = i
        · subst hji; exact h
        · exact g7 j (by omega)
      have hok : okAt l g i ↔ (0 ≤ l[i].l ∧ 0 ≤ l[i].r) ∧ (l[i].l < g ∧ l[i].r < g) ∧ (-32768 ≤ l[i].b ∧ l[i].b ≤ 32767) ∧ risesP l i := by unfold okAt; rw [getK hc]
      generalize l[i] = q at *
      obtain ⟨x, y, z⟩ := q
      simp only [Kn.cs] at E
      simp only at hok
      by_cases d1 : min x y < 0
      · rw [bad (fun h => by have := hok.1 h; omega)]
        simp only [R1, R2, R3, R4, R5, R6, R7, R8, AV.flat, fillIn_nil, fillIn_cons, splice, AV.cells, AV.one, eqsOf, idx, SO.calls, List.reduceReplicate, Nat.reduceBEq, Nat.reduceLT, Nat.reduceAdd, Nat.reduceMul, Nat.reduceSub, Nat.reduceLeDiff, Nat.reduceEqDiff, ↓reduceIte, Int.reduceLT, Int.reduceEq, Int.reduceBNe, Int.reduceBEq, aeq, Int.reduceLE, Int.reduceNeg, Int.reduceMul, Int.reduceAdd, Int.reduceSub, Int.reduceToNat, Int.reducePow, g1, g2, g3, g4, g5, g6, a1, E, eq_true d1]
        try rw [tidy_bool']
      by_cases d2 : max x y ≥ g
      · rw [bad (fun h => by have := hok.1 h; omega)]
        simp only [R1, R2, R3, R4, R5, R6, R7, R8, AV.flat, fillIn_nil, fillIn_cons, splice, AV.cells, AV.one, eqsOf, idx, SO.calls, List.reduceReplicate, Nat.reduceBEq, Nat.reduceLT, Nat.reduceAdd, Nat.reduceMul, Nat.reduceSub, Nat.reduceLeDiff, Nat.reduceEqDiff, ↓reduceIte, Int.reduceLT, Int.reduceEq, Int.reduceBNe, Int.reduceBEq, aeq, Int.reduceLE, Int.reduceNeg, Int.reduceMul, Int.reduceAdd, Int.reduceSub, Int.reduceToNat, Int.reducePow, g1, g2, g3, g4, g5, g6, a1, E, eq_false d1, eq_true d2]
        try rw [tidy_bool']
      by_cases d3 : z < -32768
      · rw [bad (fun h => by have := hok.1 h; omega)]
        simp only [R1, R2, R3, R4, R5, R6, R7, R8, AV.flat, fillIn_nil, fillIn_cons, splice, AV.cells, AV.one, eqsOf, idx, SO.calls, List.reduceReplicate, Nat.reduceBEq, Nat.reduceLT, Nat.reduceAdd, Nat.reduceMul, Nat.reduceSub, Nat.reduceLeDiff, Nat.reduceEqDiff, ↓reduceIte, Int.reduceLT, Int.reduceEq, Int.reduceBNe, Int.reduceBEq, aeq, Int.reduceLE, Int.reduceNeg, Int.reduceMul, Int.reduceAdd, Int.reduceSub, Int.reduceToNat, Int.reducePow, g1, g2, g3, g4, g5, g6, a1, E, eq_false d1, eq_false d2, eq_true d3]
        try rw [tidy_bool']
      by_cases d4 : z > 32767
      · rw [bad (fun h => by have := hok.1 h; omega)]
        simp only [R1, R2, R3, R4, R5, R6, R7, R8, AV.flat, fillIn_nil, fillIn_cons, splice, AV.cells, AV.one, eqsOf, idx, SO.calls, List.reduceReplicate, Nat.reduceBEq, Nat.reduceLT, Nat.reduceAdd, Nat.reduceMul, Nat.reduceSub, Nat.reduceLeDiff, Nat.reduceEqDiff, ↓reduceIte, Int.reduceLT, Int.reduceEq, Int.reduceBNe, Int.reduceBEq, aeq, Int.reduceLE, Int.reduceNeg, Int.reduceMul, Int.reduceAdd, Int.reduceSub, Int.reduceToNat, Int.reducePow, g1, g2, g3, g4, g5, g6, a1, E, eq_false d1, eq_false d2, eq_false d3, eq_true d4]
        try rw [tidy_bool']
      by_cases d5 : risesP l i
      · have hm := more (hok.2 ⟨by omega, by omega, by omega, d5⟩)
        rw [decide_eq_true d5] at e1
        simp only [R1, R2, R3, R4, R5, R6, R7, R8, AV.flat, fillIn_nil, fillIn_cons, splice, AV.cells, AV.one, eqsOf, idx, SO.calls, List.reduceReplicate, Nat.reduceBEq, Nat.reduceLT, Nat.reduceAdd, Nat.reduceMul, Nat.reduceSub, Nat.reduceLeDiff, Nat.reduceEqDiff, ↓reduceIte, Int.reduceLT, Int.reduceEq, Int.reduceBNe, Int.reduceBEq, aeq, Int.reduceLE, Int.reduceNeg, Int.reduceMul, Int.reduceAdd, Int.reduceSub, Int.reduceToNat, Int.reducePow, g1, g2, g3, g4, g5, g6, a1, w1, E, eq_false d1, eq_false d2, eq_false d3, eq_false d4, e1]
        exact ⟨_, by omega, ⟨_, rfl⟩, i + 1, by omega, rfl, rfl, hm⟩
      · rw [bad (fun h => d5 (hok.1 h).2.2.2)]
        rw [decide_eq_false d5] at e1
        simp only [R1, R2, R3, R4, R5, R6, R7, R8, AV.flat, fillIn_nil, fillIn_cons, splice, AV.cells, AV.one, eqsOf, idx, SO.calls, List.reduceReplicate, Nat.reduceBEq, Nat.reduceLT, Nat.reduceAdd, Nat.reduceMul, Nat.reduceSub, Nat.reduceLeDiff, Nat.reduceEqDiff, ↓reduceIte, Int.reduceLT, Int.reduceEq, Int.reduceBNe, Int.reduceBEq, aeq, Int.reduceLE, Int.reduceNeg, Int.reduceMul, Int.reduceAdd, Int.reduceSub, Int.reduceToNat, Int.reducePow, g1, g2, g3, g4, g5, g6, a1, w1, E, eq_false d1, eq_false d2, eq_false d3, eq_false d4, e1]
        try rw [tidy_bool']
    · have a1 : ((i : Int) < (l.length : Int)) = False := eq_false (by omega)
      obtain rfl : i = l.length := by omega
      rw [decide_eq_true (show mayK l g from ⟨by omega, g7⟩)]
      simp only [R1, R2, R3, R4, R5, R6, R7, R8, AV.flat, fillIn_nil, fillIn_cons, splice, AV.cells, AV.one, eqsOf, idx, SO.calls, List.reduceReplicate, Nat.reduceBEq, Nat.reduceLT, Nat.reduceAdd, Nat.reduceMul, Nat.reduceSub, Nat.reduceLeDiff, Nat.reduceEqDiff, ↓reduceIte, Int.reduceLT, Int.reduceEq, Int.reduceBNe, Int.reduceBEq, aeq, Int.reduceLE, Int.reduceNeg, Int.reduceMul, Int.reduceAdd, Int.reduceSub, Int.reduceToNat, Int.reducePow, g1, g2, g3, g4, g5, g6, a1]
      try rw [tidy_bool']
theorem c14 {H : Heap} {v : AV} {l : List Kn} (hs : SlOf H 3 Kn.cs v l) (hn : l.length ≤ 9223372036854775807) (g : Int) : call env 14 [v, .int .i64 g] H = some (.bool (decide (mayK l g)), H) := by
  have l1 := hs.lenOf
  refine call_ends (fn := s14) rfl rfl (by simp [s14]) ?_
  by_cases h1 : g < 1
  · rw [decide_eq_false (fun h : mayK l g => by have := h.1; omega)]
    simp only [s14, R1, R2, R3, R4, R5, R6, R7, R8, AV.flat, fillIn_nil, fillIn_cons, splice, AV.cells, AV.one, eqsOf, idx, SO.calls, List.reduceReplicate, Nat.reduceBEq, Nat.reduceLT, Nat.reduceAdd, Nat.reduceMul, Nat.reduceSub, Nat.reduceLeDiff, Nat.reduceEqDiff, ↓reduceIte, Int.reduceLT, Int.reduceEq, Int.reduceBNe, Int.reduceBEq, aeq, Int.reduceLE, Int.reduceNeg, Int.reduceMul, Int.reduceAdd, Int.reduceSub, Int.reduceToNat, Int.reducePow, eq_true h1]
    try rw [tidy_bool]
  by_cases h2 : g > 1024
  · rw [decide_eq_false (fun h : mayK l g => by have := h.1; omega)]
    simp only [s14, R1, R2, R3, R4, R5, R6, R7, R8, AV.flat, fillIn_nil, fillIn_cons, splice, AV.cells, AV.one, eqsOf, idx, SO.calls, List.reduceReplicate, Nat.reduceBEq, Nat.reduceLT, Nat.reduceAdd, Nat.reduceMul, Nat.reduceSub, Nat.reduceLeDiff, Nat.reduceEqDiff, ↓reduceIte, Int.reduceLT, Int.reduceEq, Int.reduceBNe, Int.reduceBEq, aeq, Int.reduceLE, Int.reduceNeg, Int.reduceMul, Int.reduceAdd, Int.reduceSub, Int.reduceToNat, Int.reducePow, eq_false h1, eq_true h2]
    try rw [tidy_bool]
  by_cases h3 : (l.length : Int) > 4096
  · rw [decide_eq_false (fun h : mayK l g => by have := h.1; omega)]
    simp only [s14, R1, R2, R3, R4, R5, R6, R7, R8, AV.flat, fillIn_nil, fillIn_cons, splice, AV.cells, AV.one, eqsOf, idx, SO.calls, List.reduceReplicate, Nat.reduceBEq, Nat.reduceLT, Nat.reduceAdd, Nat.reduceMul, Nat.reduceSub, Nat.reduceLeDiff, Nat.reduceEqDiff, ↓reduceIte, Int.reduceLT, Int.reduceEq, Int.reduceBNe, Int.reduceBEq, aeq, Int.reduceLE, Int.reduceNeg, Int.reduceMul, Int.reduceAdd, Int.reduceSub, Int.reduceToNat, Int.reducePow, eq_false h1, eq_false h2, l1, eq_true h3]
    try rw [tidy_bool]
  simp only [s14, R1, R2, R3, R4, R5, R6, R7, R8, AV.flat, fillIn_nil, fillIn_cons, splice, AV.cells, AV.one, eqsOf, idx, SO.calls, List.reduceReplicate, Nat.reduceBEq, Nat.reduceLT, Nat.reduceAdd, Nat.reduceMul, Nat.reduceSub, Nat.reduceLeDiff, Nat.reduceEqDiff, ↓reduceIte, Int.reduceLT, Int.reduceEq, Int.reduceBNe, Int.reduceBEq, aeq, Int.reduceLE, Int.reduceNeg, Int.reduceMul, Int.reduceAdd, Int.reduceSub, Int.reduceToNat, Int.reducePow, eq_false h1, eq_false h2, l1, eq_false h3]
  refine ends_loop (fun k t H' => t.length = 72 ∧ (∃ X, H' = H ++ X) ∧ (t.getD 0 .undef = v ∧ t.getD 1 .undef = .int .i64 g) ∧ ∃ i : Nat, i ≤ l.length ∧ k = l.length - i ∧ t.getD 5 .undef = .int .i64 (i : Int) ∧ ∀ j, j < i → okAt l g j) l.length ?_ ?_
  · simp only [R1, R2, R3, R4, R5, R6, R7, R8, AV.flat, fillIn_nil, fillIn_cons, splice, AV.cells, AV.one, eqsOf, idx, SO.calls, List.reduceReplicate, Nat.reduceBEq, Nat.reduceLT, Nat.reduceAdd, Nat.reduceMul, Nat.reduceSub, Nat.reduceLeDiff, Nat.reduceEqDiff, ↓reduceIte, Int.reduceLT, Int.reduceEq, Int.reduceBNe, Int.reduceBEq, aeq, Int.reduceLE, Int.reduceNeg, Int.reduceMul, Int.reduceAdd, Int.reduceSub, Int.reduceToNat, Int.reducePow]
    exact ⟨⟨[], by simp⟩, 0, by omega, by omega, rfl, by simp⟩
  · rintro k t _ ⟨g1, ⟨X, rfl⟩, ⟨g2, g3⟩, i, hi, rfl, g6, g7⟩
    rw [← tm_nil t]
    by_cases hc : i < l.length
    · have a1 : ((i : Int) < (l.length : Int)) = True := eq_true (by omega)
      have w1 : IntKind.i64.wrap ((i : Int) + 1) = ((i + 1 : Nat) : Int) := by rw [wrap_i64 (by omega) (by omega)]; rfl
      have E := hs.elem hc
      have bad : ¬ okAt l g i → decide (mayK l g) = false := fun h => decide_eq_false fun hm => h (hm.2 i hc)
      have more : okAt l g i → ∀ j, j < i + 1 → okAt l g j := fun h j hj => by
        by_cases hji : j = i
        · subst hji; exact h
        · exact g7 j (by omega)
      have hok : okAt l g i ↔ (0 ≤ l[i].l ∧ 0 ≤ l[i].r) ∧ (l[i].l < g ∧ l[i].r < g) ∧ (-32768 ≤ l[i].b ∧ l[i].b ≤ 32767) ∧ risesP l i := by unfold okAt; rw [getK hc]
      have hq : l.getD i zk = l[i] := getK hc
      generalize l[i] = q at *
      obtain ⟨x, y, z⟩ := q
      simp only [Kn.cs] at E
      simp only at hok
      by_cases d1 : x < 0
      · rw [bad (fun h => by have := hok.1 h; omega)]
        simp only [R1, R2, R3, R4, R5, R6, R7, R8, AV.flat, fillIn_nil, fillIn_cons, splice, AV.cells, AV.one, eqsOf, idx, SO.calls, List.reduceReplicate, Nat.reduceBEq, Nat.reduceLT, Nat.reduceAdd, Nat.reduceMul, Nat.reduceSub, Nat.reduceLeDiff, Nat.reduceEqDiff, ↓reduceIte, Int.reduceLT, Int.reduceEq, Int.reduceBNe, Int.reduceBEq, aeq, Int.reduceLE, Int.reduceNeg, Int.reduceMul, Int.reduceAdd, Int.reduceSub, Int.reduceToNat, Int.reducePow, g1, g2, g3, g6, l1, a1, E, eq_true d1]
        try rw [tidy_bool']
      by_cases d2 : x ≥ g
      · rw [bad (fun h => by have := hok.1 h; omega)]
        simp only [R1, R2, R3, R4, R5, R6, R7, R8, AV.flat, fillIn_nil, fillIn_cons, splice, AV.cells, AV.one, eqsOf, idx, SO.calls, List.reduceReplicate, Nat.reduceBEq, Nat.reduceLT, Nat.reduceAdd, Nat.reduceMul, Nat.reduceSub, Nat.reduceLeDiff, Nat.reduceEqDiff, ↓reduceIte, Int.reduceLT, Int.reduceEq, Int.reduceBNe, Int.reduceBEq, aeq, Int.reduceLE, Int.reduceNeg, Int.reduceMul, Int.reduceAdd, Int.reduceSub, Int.reduceToNat, Int.reducePow, g1, g2, g3, g6, l1, a1, E, eq_false d1, eq_true d2]
        try rw [tidy_bool']
      by_cases d3 : y < 0
      · rw [bad (fun h => by have := hok.1 h; omega)]
        simp only [R1, R2, R3, R4, R5, R6, R7, R8, AV.flat, fillIn_nil, fillIn_cons, splice, AV.cells, AV.one, eqsOf, idx, SO.calls, List.reduceReplicate, Nat.reduceBEq, Nat.reduceLT, Nat.reduceAdd, Nat.reduceMul, Nat.reduceSub, Nat.reduceLeDiff, Nat.reduceEqDiff, ↓reduceIte, Int.reduceLT, Int.reduceEq, Int.reduceBNe, Int.reduceBEq, aeq, Int.reduceLE, Int.reduceNeg, Int.reduceMul, Int.reduceAdd, Int.reduceSub, Int.reduceToNat, Int.reducePow, g1, g2, g3, g6, l1, a1, E, eq_false d1, eq_false d2, eq_true d3]
        try rw [tidy_bool']
      by_cases d4 : y ≥ g
      · rw [bad (fun h => by have := hok.1 h; omega)]
        simp only [R1, R2, R3, R4, R5, R6, R7, R8, AV.flat, fillIn_nil, fillIn_cons, splice, AV.cells, AV.one, eqsOf, idx, SO.calls, List.reduceReplicate, Nat.reduceBEq, Nat.reduceLT, Nat.reduceAdd, Nat.reduceMul, Nat.reduceSub, Nat.reduceLeDiff, Nat.reduceEqDiff, ↓reduceIte, Int.reduceLT, Int.reduceEq, Int.reduceBNe, Int.reduceBEq, aeq, Int.reduceLE, Int.reduceNeg, Int.reduceMul, Int.reduceAdd, Int.reduceSub, Int.reduceToNat, Int.reducePow, g1, g2, g3, g6, l1, a1, E, eq_false d1, eq_false d2, eq_false d3, eq_true d4]
        try rw [tidy_bool']
      by_cases d5 : z < -32768
      · rw [bad (fun h => by have := hok.1 h; omega)]
        simp only [R1, R2, R3, R4, R5, R6, R7, R8, AV.flat, fillIn_nil, fillIn_cons, splice, AV.cells, AV.one, eqsOf, idx, SO.calls, List.reduceReplicate, Nat.reduceBEq, Nat.reduceLT, Nat.reduceAdd, Nat.reduceMul, Nat.reduceSub, Nat.reduceLeDiff, Nat.reduceEqDiff, ↓reduceIte, Int.reduceLT, Int.reduceEq, Int.reduceBNe, Int.reduceBEq, aeq, Int.reduceLE, Int.reduceNeg, Int.reduceMul, Int.reduceAdd, Int.reduceSub, Int.reduceToNat, Int.reducePow, g1, g2, g3, g6, l1, a1, E, eq_false d1, eq_false d2, eq_false d3, eq_false d4, eq_true d5]
        try rw [tidy_bool']
      by_cases d6 : z > 32767
      · rw [bad (fun h => by have := hok.1 h; omega)]
        simp only [R1, R2, R3, R4, R5, R6, R7, R8, AV.flat, fillIn_nil, fillIn_cons, splice, AV.cells, AV.one, eqsOf, idx, SO.calls, List.reduceReplicate, Nat.reduceBEq, Nat.reduceLT, Nat.reduceAdd, Nat.reduceMul, Nat.reduceSub, Nat.reduceLeDiff, Nat.reduceEqDiff, ↓reduceIte, Int.reduceLT, Int.reduceEq, Int.reduceBNe, Int.reduceBEq, aeq, Int.reduceLE, Int.reduceNeg, Int.reduceMul, Int.reduceAdd, Int.reduceSub, Int.reduceToNat, Int.reducePow, g1, g2, g3, g6, l1, a1, E, eq_false d1, eq_false d2, eq_false d3, eq_false d4, eq_false d5, eq_true d6]
        try rw [tidy_bool']
      by_cases h0 : i = 0
      · subst h0
        have hm := more (hok.2 ⟨by omega, by omega, by omega, Or.inl rfl⟩)
        have c0 : ((0 : Int) > 0) = False := eq_false (by omega)
        simp only [Int.natCast_zero, Nat.zero_mul, Nat.zero_add] at *
        simp only [R1, R2, R3, R4, R5, R6, R7, R8, AV.flat, fillIn_nil, fillIn_cons, splice, AV.cells, AV.one, eqsOf, idx, SO.calls, List.reduceReplicate, Nat.reduceBEq, Nat.reduceLT, Nat.reduceAdd, Nat.reduceMul, Nat.reduceSub, Nat.reduceLeDiff, Nat.reduceEqDiff, ↓reduceIte, Int.reduceLT, Int.reduceEq, Int.reduceBNe, Int.reduceBEq, aeq, Int.reduceLE, Int.reduceNeg, Int.reduceMul, Int.reduceAdd, Int.reduceSub, Int.reduceToNat, Int.reducePow, g1, g2, g3, g6, l1, a1, w1, E, eq_false d1, eq_false d2, eq_false d3, eq_false d4, eq_false d5, eq_false d6, c0]
        exact ⟨_, by omega, ⟨_, rfl⟩, 1, by omega, rfl, rfl, hm⟩
      obtain ⟨j, rfl⟩ : ∃ j, i = j + 1 := ⟨i - 1, by omega⟩
      have hj : j < l.length := by omega
      have c0 : (((j + 1 : Nat) : Int) > 0) = True := eq_true (by omega)
      have wj : IntKind.i64.wrap (((j + 1 : Nat) : Int) - 1) = (j : Int) := by rw [wrap_i64 (by omega) (by omega)]; omega
      have F := hs.elem hj
      have hr : risesP l (j + 1) ↔ lessK l[j] ⟨x, y, z⟩ := by unfold risesP; rw [Nat.add_sub_cancel, getK hj, hq]; simp
      have e1 := fun H => c41 ⟨x, y, z⟩ l[j] H
      generalize l[j] = p at *
      obtain ⟨x0, y0, z0⟩ := p
      simp only [Kn.cs] at F e1
      by_cases d7 : lessK ⟨x0, y0, z0⟩ ⟨x, y, z⟩
      · have hm := more (hok.2 ⟨by omega, by omega, by omega, hr.2 d7⟩)
        rw [decide_eq_true d7] at e1
        simp only [R1, R2, R3, R4, R5, R6, R7, R8, AV.flat, fillIn_nil, fillIn_cons, splice, AV.cells, AV.one, eqsOf, idx, SO.calls, List.reduceReplicate, Nat.reduceBEq, Nat.reduceLT, Nat.reduceAdd, Nat.reduceMul, Nat.reduceSub, Nat.reduceLeDiff, Nat.reduceEqDiff, ↓reduceIte, Int.reduceLT, Int.reduceEq, Int.reduceBNe, Int.reduceBEq, aeq, Int.reduceLE, Int.reduceNeg, Int.reduceMul, Int.reduceAdd, Int.reduceSub, Int.reduceToNat, Int.reducePow, g1, g2, g3, g6, l1, a1, w1, wj, E, F, eq_false d1, eq_false d2, eq_false d3, eq_false d4, eq_false d5, eq_false d6, c0, e1]
        exact ⟨_, by omega, ⟨_, rfl⟩, j + 1 + 1, by omega, rfl, rfl, hm⟩
      · rw [bad (fun h => d7 (hr.1 (hok.1 h).2.2.2))]
        rw [decide_eq_false d7] at e1
        simp only [R1, R2, R3, R4, R5, R6, R7, R8, AV.flat, fillIn_nil, fillIn_cons, splice, AV.cells, AV.one, eqsOf, idx, SO.calls, List.reduceReplicate, Nat.reduceBEq, Nat.reduceLT, Nat.reduceAdd, Nat.reduceMul, Nat.reduceSub, Nat.reduceLeDiff, Nat.reduceEqDiff, ↓reduceIte, Int.reduceLT, Int.reduceEq, Int.reduceBNe, Int.reduceBEq, aeq, Int.reduceLE, Int.reduceNeg, Int.reduceMul, Int.reduceAdd, Int.reduceSub, Int.reduceToNat, Int.reducePow, g1, g2, g3, g6, l1, a1, w1, wj, E, F, eq_false d1, eq_false d2, eq_false d3, eq_false d4, eq_false d5, eq_false d6, c0, e1]
        try rw [tidy_bool']
    · have a1 : ((i : Int) < (l.length : Int)) = False := eq_false (by omega)
      obtain rfl : i = l.length := by omega
      rw [decide_eq_true (show mayK l g from ⟨by omega, g7⟩)]
      simp only [R1, R2, R3, R4, R5, R6, R7, R8, AV.flat, fillIn_nil, fillIn_cons, splice, AV.cells, AV.one, eqsOf, idx, SO.calls, List.reduceReplicate, Nat.reduceBEq, Nat.reduceLT, Nat.reduceAdd, Nat.reduceMul, Nat.reduceSub, Nat.reduceLeDiff, Nat.reduceEqDiff, ↓reduceIte, Int.reduceLT, Int.reduceEq, Int.reduceBNe, Int.reduceBEq, aeq, Int.reduceLE, Int.reduceNeg, Int.reduceMul, Int.reduceAdd, Int.reduceSub, Int.reduceToNat, Int.reducePow, g1, g2, g3, g6, l1, a1]
      try rw [tidy_bool']
end Go.Proofs.Ytppkggodpihfiaa
