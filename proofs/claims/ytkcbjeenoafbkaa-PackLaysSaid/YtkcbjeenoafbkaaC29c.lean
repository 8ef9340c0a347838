/- Chapter 29: the small functions. -/
import Derived.Test.YtkcbjeenoafbkaaC29b
import Derived.Test.YtkcbjeenoafbkaaGrowY
set_option linter.unusedVariables false
set_option linter.unusedSimpArgs false
set_option maxRecDepth 100000
set_option maxHeartbeats 4000000
namespace Go.Proofs.Ytkcbjeenoafbkaa
open Go Go.Den
def Sz.cs (s : Sz) : List AV := [.int .i64 s.w, .int .i64 s.h]
theorem sz_cel : Cel 2 Sz.cs := ⟨fun _ => rfl, fun _ => rfl, fun _ => rfl, by decide⟩
def Plc.cs (p : Plc) : List AV := [.int .i64 p.pg, .int .i64 p.x, .int .i64 p.y]
theorem plc_cel : Cel 3 Plc.cs := ⟨fun _ => rfl, fun _ => rfl, fun _ => rfl, by decide⟩
theorem rect_cel : Cel 4 Rect.cs := ⟨fun _ => rfl, fun _ => rfl, fun _ => rfl, by decide⟩
def IntC (n : Int) : List AV := [.int .i64 n]
theorem int_cel : Cel 1 IntC := ⟨fun _ => rfl, fun _ => rfl, fun _ => rfl, by decide⟩
theorem c69 (n a b : Int) (H : Heap) : call env 69 [.int .i64 n, .int .i64 a, .int .i64 b] H = some (.bool (decide (a ≤ n ∧ n ≤ b)), H) := by
  refine call_ends (fn := s69) rfl rfl (by simp [s69]) ?_
  by_cases h1 : n ≥ a
  · by_cases h2 : n ≤ b
    · rw [decide_eq_true ⟨h1, h2⟩]
      simp only [s69, R1, R2, R3, R4, R5, R6, R7, R8, AV.flat, fillIn_nil, fillIn_cons, splice, AV.cells, AV.one, eqsOf, idx, SO.calls, List.reduceReplicate, Nat.reduceBEq, Nat.reduceLT, Nat.reduceAdd, Nat.reduceMul, Nat.reduceSub, Nat.reduceLeDiff, Nat.reduceEqDiff, ↓reduceIte, Int.reduceLT, Int.reduceEq, Int.reduceBNe, Int.reduceBEq, aeq, Int.reduceLE, Int.reduceNeg, Int.reduceMul, Int.reduceAdd, Int.reduceSub, Int.reduceToNat, Int.reducePow, eq_true h1, eq_true h2]
      try rw [tidy_bool]
    · rw [decide_eq_false (fun h => h2 h.2)]
      simp only [s69, R1, R2, R3, R4, R5, R6, R7, R8, AV.flat, fillIn_nil, fillIn_cons, splice, AV.cells, AV.one, eqsOf, idx, SO.calls, List.reduceReplicate, Nat.reduceBEq, Nat.reduceLT, Nat.reduceAdd, Nat.reduceMul, Nat.reduceSub, Nat.reduceLeDiff, Nat.reduceEqDiff, ↓reduceIte, Int.reduceLT, Int.reduceEq, Int.reduceBNe, Int.reduceBEq, aeq, Int.reduceLE, Int.reduceNeg, Int.reduceMul, Int.reduceAdd, Int.reduceSub, Int.reduceToNat, Int.reducePow, eq_true h1, eq_false h2]
      try rw [tidy_bool]
  · rw [decide_eq_false (fun h => h1 h.1)]
    simp only [s69, R1, R2, R3, R4, R5, R6, R7, R8, AV.flat, fillIn_nil, fillIn_cons, splice, AV.cells, AV.one, eqsOf, idx, SO.calls, List.reduceReplicate, Nat.reduceBEq, Nat.reduceLT, Nat.reduceAdd, Nat.reduceMul, Nat.reduceSub, Nat.reduceLeDiff, Nat.reduceEqDiff, ↓reduceIte, Int.reduceLT, Int.reduceEq, Int.reduceBNe, Int.reduceBEq, aeq, Int.reduceLE, Int.reduceNeg, Int.reduceMul, Int.reduceAdd, Int.reduceSub, Int.reduceToNat, Int.reducePow, eq_false h1]
    try rw [tidy_bool]
theorem rightP_iff (s : Sz) : rightP s ↔ (s.w = 0 ∧ s.h = 0) ∨ ((1 ≤ s.w ∧ s.w ≤ 1024) ∧ 1 ≤ s.h ∧ s.h ≤ 1024) := Iff.rfl
theorem zero_eq (a b : Int) : ((a == 0) && (b == 0)) = decide (a = 0 ∧ b = 0) := by
  by_cases h1 : a = 0 <;> by_cases h2 : b = 0 <;> simp [h1, h2]
theorem c72 (s : Sz) (H : Heap) : call env 72 [.agg s.cs] H = some (.bool (decide (rightP s)), H) := by
  have hr := rightP_iff s
  obtain ⟨w, h⟩ := s
  simp only at hr
  have e1 := fun H => c69 w 1 1024 H
  have e2 := fun H => c69 h 1 1024 H
  simp only [Sz.cs]
  refine call_ends (fn := s72) rfl rfl (by simp [s72]) ?_
  by_cases h0 : w = 0 ∧ h = 0
  · rw [decide_eq_true (hr.2 (Or.inl h0))]
    have z := zero_eq w h
    rw [decide_eq_true h0] at z
    simp only [s72, R1, R2, R3, R4, R5, R6, R7, R8, AV.flat, fillIn_nil, fillIn_cons, splice, AV.cells, AV.one, eqsOf, idx, SO.calls, List.reduceReplicate, Nat.reduceBEq, Nat.reduceLT, Nat.reduceAdd, Nat.reduceMul, Nat.reduceSub, Nat.reduceLeDiff, Nat.reduceEqDiff, ↓reduceIte, Int.reduceLT, Int.reduceEq, Int.reduceBNe, Int.reduceBEq, aeq, Int.reduceLE, Int.reduceNeg, Int.reduceMul, Int.reduceAdd, Int.reduceSub, Int.reduceToNat, Int.reducePow, aeqs, z]
    try rw [tidy_bool']
  · have z := zero_eq w h
    rw [decide_eq_false h0] at z
    by_cases h1 : 1 ≤ w ∧ w ≤ 1024
    · rw [decide_eq_true h1] at e1
      have hd : decide (rightP ⟨w, h⟩) = decide (1 ≤ h ∧ h ≤ 1024) := decide_eq_decide.2 (by rw [hr]; omega)
      rw [hd]
      simp only [s72, R1, R2, R3, R4, R5, R6, R7, R8, AV.flat, fillIn_nil, fillIn_cons, splice, AV.cells, AV.one, eqsOf, idx, SO.calls, List.reduceReplicate, Nat.reduceBEq, Nat.reduceLT, Nat.reduceAdd, Nat.reduceMul, Nat.reduceSub, Nat.reduceLeDiff, Nat.reduceEqDiff, ↓reduceIte, Int.reduceLT, Int.reduceEq, Int.reduceBNe, Int.reduceBEq, aeq, Int.reduceLE, Int.reduceNeg, Int.reduceMul, Int.reduceAdd, Int.reduceSub, Int.reduceToNat, Int.reducePow, aeqs, z, e1, e2]
      try rw [tidy_bool']
    · rw [decide_eq_false h1] at e1
      rw [decide_eq_false (fun hh => (hr.1 hh).elim h0 fun hh => h1 hh.1)]
      simp only [s72, R1, R2, R3, R4, R5, R6, R7, R8, AV.flat, fillIn_nil, fillIn_cons, splice, AV.cells, AV.one, eqsOf, idx, SO.calls, List.reduceReplicate, Nat.reduceBEq, Nat.reduceLT, Nat.reduceAdd, Nat.reduceMul, Nat.reduceSub, Nat.reduceLeDiff, Nat.reduceEqDiff, ↓reduceIte, Int.reduceLT, Int.reduceEq, Int.reduceBNe, Int.reduceBEq, aeq, Int.reduceLE, Int.reduceNeg, Int.reduceMul, Int.reduceAdd, Int.reduceSub, Int.reduceToNat, Int.reducePow, aeqs, z, e1]
      try rw [tidy_bool']
theorem c73 (s : Sz) (H : Heap) : call env 73 [.agg s.cs] H = some (.bool (decide (rightP s)), H) := by
  have hr := rightP_iff s
  obtain ⟨w, h⟩ := s
  simp only at hr
  simp only [Sz.cs]
  refine call_ends (fn := s73) rfl rfl (by simp [s73]) ?_
  have z := zero_eq w h
  by_cases h0 : w = 0 ∧ h = 0
  · rw [decide_eq_true (hr.2 (Or.inl h0))]
    rw [decide_eq_true h0] at z
    simp only [s73, R1, R2, R3, R4, R5, R6, R7, R8, AV.flat, fillIn_nil, fillIn_cons, splice, AV.cells, AV.one, eqsOf, idx, SO.calls, List.reduceReplicate, Nat.reduceBEq, Nat.reduceLT, Nat.reduceAdd, Nat.reduceMul, Nat.reduceSub, Nat.reduceLeDiff, Nat.reduceEqDiff, ↓reduceIte, Int.reduceLT, Int.reduceEq, Int.reduceBNe, Int.reduceBEq, aeq, Int.reduceLE, Int.reduceNeg, Int.reduceMul, Int.reduceAdd, Int.reduceSub, Int.reduceToNat, Int.reducePow, aeqs, z]
    try rw [tidy_bool']
  rw [decide_eq_false h0] at z
  by_cases h1 : w ≥ 1
  · by_cases h2 : w ≤ 1024
    · by_cases h3 : h ≥ 1
      · by_cases h4 : h ≤ 1024
        · rw [decide_eq_true (hr.2 (Or.inr ⟨⟨h1, h2⟩, h3, h4⟩))]
          simp only [s73, R1, R2, R3, R4, R5, R6, R7, R8, AV.flat, fillIn_nil, fillIn_cons, splice, AV.cells, AV.one, eqsOf, idx, SO.calls, List.reduceReplicate, Nat.reduceBEq, Nat.reduceLT, Nat.reduceAdd, Nat.reduceMul, Nat.reduceSub, Nat.reduceLeDiff, Nat.reduceEqDiff, ↓reduceIte, Int.reduceLT, Int.reduceEq, Int.reduceBNe, Int.reduceBEq, aeq, Int.reduceLE, Int.reduceNeg, Int.reduceMul, Int.reduceAdd, Int.reduceSub, Int.reduceToNat, Int.reducePow, aeqs, z, eq_true h1, eq_true h2, eq_true h3, eq_true h4]
          try rw [tidy_bool']
        · rw [decide_eq_false (fun hh => by have := hr.1 hh; omega)]
          simp only [s73, R1, R2, R3, R4, R5, R6, R7, R8, AV.flat, fillIn_nil, fillIn_cons, splice, AV.cells, AV.one, eqsOf, idx, SO.calls, List.reduceReplicate, Nat.reduceBEq, Nat.reduceLT, Nat.reduceAdd, Nat.reduceMul, Nat.reduceSub, Nat.reduceLeDiff, Nat.reduceEqDiff, ↓reduceIte, Int.reduceLT, Int.reduceEq, Int.reduceBNe, Int.reduceBEq, aeq, Int.reduceLE, Int.reduceNeg, Int.reduceMul, Int.reduceAdd, Int.reduceSub, Int.reduceToNat, Int.reducePow, aeqs, z, eq_true h1, eq_true h2, eq_true h3, eq_false h4]
          try rw [tidy_bool']
      · rw [decide_eq_false (fun hh => by have := hr.1 hh; omega)]
        simp only [s73, R1, R2, R3, R4, R5, R6, R7, R8, AV.flat, fillIn_nil, fillIn_cons, splice, AV.cells, AV.one, eqsOf, idx, SO.calls, List.reduceReplicate, Nat.reduceBEq, Nat.reduceLT, Nat.reduceAdd, Nat.reduceMul, Nat.reduceSub, Nat.reduceLeDiff, Nat.reduceEqDiff, ↓reduceIte, Int.reduceLT, Int.reduceEq, Int.reduceBNe, Int.reduceBEq, aeq, Int.reduceLE, Int.reduceNeg, Int.reduceMul, Int.reduceAdd, Int.reduceSub, Int.reduceToNat, Int.reducePow, aeqs, z, eq_true h1, eq_true h2, eq_false h3]
        try rw [tidy_bool']
    · rw [decide_eq_false (fun hh => by have := hr.1 hh; omega)]
      simp only [s73, R1, R2, R3, R4, R5, R6, R7, R8, AV.flat, fillIn_nil, fillIn_cons, splice, AV.cells, AV.one, eqsOf, idx, SO.calls, List.reduceReplicate, Nat.reduceBEq, Nat.reduceLT, Nat.reduceAdd, Nat.reduceMul, Nat.reduceSub, Nat.reduceLeDiff, Nat.reduceEqDiff, ↓reduceIte, Int.reduceLT, Int.reduceEq, Int.reduceBNe, Int.reduceBEq, aeq, Int.reduceLE, Int.reduceNeg, Int.reduceMul, Int.reduceAdd, Int.reduceSub, Int.reduceToNat, Int.reducePow, aeqs, z, eq_true h1, eq_false h2]
      try rw [tidy_bool']
  · rw [decide_eq_false (fun hh => by have := hr.1 hh; omega)]
    simp only [s73, R1, R2, R3, R4, R5, R6, R7, R8, AV.flat, fillIn_nil, fillIn_cons, splice, AV.cells, AV.one, eqsOf, idx, SO.calls, List.reduceReplicate, Nat.reduceBEq, Nat.reduceLT, Nat.reduceAdd, Nat.reduceMul, Nat.reduceSub, Nat.reduceLeDiff, Nat.reduceEqDiff, ↓reduceIte, Int.reduceLT, Int.reduceEq, Int.reduceBNe, Int.reduceBEq, aeq, Int.reduceLE, Int.reduceNeg, Int.reduceMul, Int.reduceAdd, Int.reduceSub, Int.reduceToNat, Int.reducePow, aeqs, z, eq_false h1]
    try rw [tidy_bool']
theorem more_one {α : Type} {P : α → Prop} {l : List α} {i : Nat} (hi : i < l.length) (h : ∀ k ∈ l.take i, P k) (h1 : P l[i]) : ∀ k ∈ l.take (i + 1), P k := by
  intro k hk
  rw [List.take_succ_eq_append_getElem hi] at hk
  rcases List.mem_append.1 hk with hk | hk
  · exact h k hk
  · simp only [List.mem_singleton] at hk; subst hk; exact h1
theorem c61 {H : Heap} {v : AV} {l : List Sz} (hs : SlOf H 2 Sz.cs v l) (hn : l.length ≤ 9223372036854775807) (pw ph pad : Int) :
    call env 61 [v, .agg [.int .i64 pw, .int .i64 ph], .int .i64 pad] H = some (.bool (decide (askedP l pw ph pad)), H) := by
  have l1 := hs.lenOf
  have e1 := fun H => c69 pw 1 1024 H
  have e2 := fun H => c69 ph 1 1024 H
  have e3 := fun H => c69 pad 0 16 H
  refine call_ends (fn := s61) rfl rfl (by simp [s61]) ?_
  by_cases h1 : 1 ≤ pw ∧ pw ≤ 1024
  rotate_left
  · rw [decide_eq_false h1] at e1
    rw [decide_eq_false (fun h : askedP l pw ph pad => h1 h.1.1)]
    simp only [s61, R1, R2, R3, R4, R5, R6, R7, R8, AV.flat, fillIn_nil, fillIn_cons, splice, AV.cells, AV.one, eqsOf, idx, SO.calls, List.reduceReplicate, Nat.reduceBEq, Nat.reduceLT, Nat.reduceAdd, Nat.reduceMul, Nat.reduceSub, Nat.reduceLeDiff, Nat.reduceEqDiff, ↓reduceIte, Int.reduceLT, Int.reduceEq, Int.reduceBNe, Int.reduceBEq, aeq, Int.reduceLE, Int.reduceNeg, Int.reduceMul, Int.reduceAdd, Int.reduceSub, Int.reduceToNat, Int.reducePow, e1]
    try rw [tidy_bool']
  rw [decide_eq_true h1] at e1
  by_cases h2 : 1 ≤ ph ∧ ph ≤ 1024
  rotate_left
  · rw [decide_eq_false h2] at e2
    rw [decide_eq_false (fun h : askedP l pw ph pad => h2 h.1.2.1)]
    simp only [s61, R1, R2, R3, R4, R5, R6, R7, R8, AV.flat, fillIn_nil, fillIn_cons, splice, AV.cells, AV.one, eqsOf, idx, SO.calls, List.reduceReplicate, Nat.reduceBEq, Nat.reduceLT, Nat.reduceAdd, Nat.reduceMul, Nat.reduceSub, Nat.reduceLeDiff, Nat.reduceEqDiff, ↓reduceIte, Int.reduceLT, Int.reduceEq, Int.reduceBNe, Int.reduceBEq, aeq, Int.reduceLE, Int.reduceNeg, Int.reduceMul, Int.reduceAdd, Int.reduceSub, Int.reduceToNat, Int.reducePow, e1, e2]
    try rw [tidy_bool']
  rw [decide_eq_true h2] at e2
  by_cases h3 : 0 ≤ pad ∧ pad ≤ 16
  rotate_left
  · rw [decide_eq_false h3] at e3
    rw [decide_eq_false (fun h : askedP l pw ph pad => h3 h.1.2.2.1)]
    simp only [s61, R1, R2, R3, R4, R5, R6, R7, R8, AV.flat, fillIn_nil, fillIn_cons, splice, AV.cells, AV.one, eqsOf, idx, SO.calls, List.reduceReplicate, Nat.reduceBEq, Nat.reduceLT, Nat.reduceAdd, Nat.reduceMul, Nat.reduceSub, Nat.reduceLeDiff, Nat.reduceEqDiff, ↓reduceIte, Int.reduceLT, Int.reduceEq, Int.reduceBNe, Int.reduceBEq, aeq, Int.reduceLE, Int.reduceNeg, Int.reduceMul, Int.reduceAdd, Int.reduceSub, Int.reduceToNat, Int.reducePow, e1, e2, e3]
    try rw [tidy_bool']
  rw [decide_eq_true h3] at e3
  by_cases h4 : l.length ≤ 1024
  rotate_left
  · have c4 : ((l.length : Int) > 1024) = True := eq_true (by omega)
    rw [decide_eq_false (fun h : askedP l pw ph pad => h4 h.1.2.2.2)]
    simp only [s61, R1, R2, R3, R4, R5, R6, R7, R8, AV.flat, fillIn_nil, fillIn_cons, splice, AV.cells, AV.one, eqsOf, idx, SO.calls, List.reduceReplicate, Nat.reduceBEq, Nat.reduceLT, Nat.reduceAdd, Nat.reduceMul, Nat.reduceSub, Nat.reduceLeDiff, Nat.reduceEqDiff, ↓reduceIte, Int.reduceLT, Int.reduceEq, Int.reduceBNe, Int.reduceBEq, aeq, Int.reduceLE, Int.reduceNeg, Int.reduceMul, Int.reduceAdd, Int.reduceSub, Int.reduceToNat, Int.reducePow, e1, e2, e3, l1, c4]
    try rw [tidy_bool']
  have c4 : ((l.length : Int) > 1024) = False := eq_false (by omega)
  simp only [s61, R1, R2, R3, R4, R5, R6, R7, R8, AV.flat, fillIn_nil, fillIn_cons, splice, AV.cells, AV.one, eqsOf, idx, SO.calls, List.reduceReplicate, Nat.reduceBEq, Nat.reduceLT, Nat.reduceAdd, Nat.reduceMul, Nat.reduceSub, Nat.reduceLeDiff, Nat.reduceEqDiff, ↓reduceIte, Int.reduceLT, Int.reduceEq, Int.reduceBNe, Int.reduceBEq, aeq, Int.reduceLE, Int.reduceNeg, Int.reduceMul, Int.reduceAdd, Int.reduceSub, Int.reduceToNat, Int.reducePow, e1, e2, e3, l1, c4]
  refine ends_loop (fun k t H' => t.length = 39 ∧ (∃ X, H' = H ++ X) ∧ (t.getD 29 .undef = v ∧ t.getD 30 .undef = .int .i64 (l.length : Int)) ∧ ∃ i : Nat, i ≤ l.length ∧ k = l.length - i ∧ t.getD 31 .undef = .int .i64 (i : Int) ∧ ∀ s ∈ l.take i, rightP s) l.length ?_ ?_
  · simp only [R1, R2, R3, R4, R5, R6, R7, R8, AV.flat, fillIn_nil, fillIn_cons, splice, AV.cells, AV.one, eqsOf, idx, SO.calls, List.reduceReplicate, Nat.reduceBEq, Nat.reduceLT, Nat.reduceAdd, Nat.reduceMul, Nat.reduceSub, Nat.reduceLeDiff, Nat.reduceEqDiff, ↓reduceIte, Int.reduceLT, Int.reduceEq, Int.reduceBNe, Int.reduceBEq, aeq, Int.reduceLE, Int.reduceNeg, Int.reduceMul, Int.reduceAdd, Int.reduceSub, Int.reduceToNat, Int.reducePow]
    exact ⟨⟨_, rfl⟩, 0, by omega, by omega, rfl, by simp⟩
  · rintro k t _ ⟨g1, ⟨X, rfl⟩, ⟨g2, g3⟩, i, hi, rfl, g5, g6⟩
    rw [← tm_nil t]
    by_cases hc : i < l.length
    · have a1 : ((i : Int) < (l.length : Int)) = True := eq_true (by omega)
      have w1 : IntKind.i64.wrap ((i : Int) + 1) = ((i + 1 : Nat) : Int) := by rw [wrap_i64 (by omega) (by omega)]; rfl
      have E := hs.elem hc
      have e5 := fun H => c72 l[i] H
      have hm := more_one (P := rightP) hc g6
      have hmem := List.getElem_mem hc
      generalize l[i] = q at *
      simp only [Sz.cs] at E e5
      by_cases hr : rightP q
      · rw [decide_eq_true hr] at e5
        simp only [R1, R2, R3, R4, R5, R6, R7, R8, AV.flat, fillIn_nil, fillIn_cons, splice, AV.cells, AV.one, eqsOf, idx, SO.calls, List.reduceReplicate, Nat.reduceBEq, Nat.reduceLT, Nat.reduceAdd, Nat.reduceMul, Nat.reduceSub, Nat.reduceLeDiff, Nat.reduceEqDiff, ↓reduceIte, Int.reduceLT, Int.reduceEq, Int.reduceBNe, Int.reduceBEq, aeq, Int.reduceLE, Int.reduceNeg, Int.reduceMul, Int.reduceAdd, Int.reduceSub, Int.reduceToNat, Int.reducePow, g1, g2, g3, g5, a1, w1, E, e5]
        exact ⟨_, by omega, ⟨_, rfl⟩, i + 1, by omega, rfl, rfl, hm hr⟩
      · rw [decide_eq_false hr] at e5
        rw [decide_eq_false (fun h : askedP l pw ph pad => hr (h.2 q hmem))]
        simp only [R1, R2, R3, R4, R5, R6, R7, R8, AV.flat, fillIn_nil, fillIn_cons, splice, AV.cells, AV.one, eqsOf, idx, SO.calls, List.reduceReplicate, Nat.reduceBEq, Nat.reduceLT, Nat.reduceAdd, Nat.reduceMul, Nat.reduceSub, Nat.reduceLeDiff, Nat.reduceEqDiff, ↓reduceIte, Int.reduceLT, Int.reduceEq, Int.reduceBNe, Int.reduceBEq, aeq, Int.reduceLE, Int.reduceNeg, Int.reduceMul, Int.reduceAdd, Int.reduceSub, Int.reduceToNat, Int.reducePow, g1, g2, g3, g5, a1, w1, E, e5]
        try rw [tidy_bool']
    · have a1 : ((i : Int) < (l.length : Int)) = False := eq_false (by omega)
      obtain rfl : i = l.length := by omega
      rw [List.take_length] at g6
      rw [decide_eq_true (show askedP l pw ph pad from ⟨⟨h1, h2, h3, h4⟩, g6⟩)]
      simp only [R1, R2, R3, R4, R5, R6, R7, R8, AV.flat, fillIn_nil, fillIn_cons, splice, AV.cells, AV.one, eqsOf, idx, SO.calls, List.reduceReplicate, Nat.reduceBEq, Nat.reduceLT, Nat.reduceAdd, Nat.reduceMul, Nat.reduceSub, Nat.reduceLeDiff, Nat.reduceEqDiff, ↓reduceIte, Int.reduceLT, Int.reduceEq, Int.reduceBNe, Int.reduceBEq, aeq, Int.reduceLE, Int.reduceNeg, Int.reduceMul, Int.reduceAdd, Int.reduceSub, Int.reduceToNat, Int.reducePow, g1, g2, g3, g5, a1]
      try rw [tidy_bool']
theorem c64 {H : Heap} {v : AV} {l : List Sz} (hs : SlOf H 2 Sz.cs v l) (hn : l.length ≤ 9223372036854775807) (pw ph pad : Int) :
    call env 64 [v, .agg [.int .i64 pw, .int .i64 ph], .int .i64 pad] H = some (.bool (decide (askedP l pw ph pad)), H) := by
  have l1 := hs.lenOf
  refine call_ends (fn := s64) rfl rfl (by simp [s64]) ?_
  by_cases h1 : pw < 1
  · rw [decide_eq_false (fun h : askedP l pw ph pad => by have := h.1.1; omega)]
    simp only [s64, R1, R2, R3, R4, R5, R6, R7, R8, AV.flat, fillIn_nil, fillIn_cons, splice, AV.cells, AV.one, eqsOf, idx, SO.calls, List.reduceReplicate, Nat.reduceBEq, Nat.reduceLT, Nat.reduceAdd, Nat.reduceMul, Nat.reduceSub, Nat.reduceLeDiff, Nat.reduceEqDiff, ↓reduceIte, Int.reduceLT, Int.reduceEq, Int.reduceBNe, Int.reduceBEq, aeq, Int.reduceLE, Int.reduceNeg, Int.reduceMul, Int.reduceAdd, Int.reduceSub, Int.reduceToNat, Int.reducePow, eq_true h1]
    try rw [tidy_bool']
  by_cases h2 : pw > 1024
  · rw [decide_eq_false (fun h : askedP l pw ph pad => by have := h.1.1; omega)]
    simp only [s64, R1, R2, R3, R4, R5, R6, R7, R8, AV.flat, fillIn_nil, fillIn_cons, splice, AV.cells, AV.one, eqsOf, idx, SO.calls, List.reduceReplicate, Nat.reduceBEq, Nat.reduceLT, Nat.reduceAdd, Nat.reduceMul, Nat.reduceSub, Nat.reduceLeDiff, Nat.reduceEqDiff, ↓reduceIte, Int.reduceLT, Int.reduceEq, Int.reduceBNe, Int.reduceBEq, aeq, Int.reduceLE, Int.reduceNeg, Int.reduceMul, Int.reduceAdd, Int.reduceSub, Int.reduceToNat, Int.reducePow, eq_false h1, eq_true h2]
    try rw [tidy_bool']
  by_cases h3 : ph < 1
  · rw [decide_eq_false (fun h : askedP l pw ph pad => by have := h.1.2.1; omega)]
    simp only [s64, R1, R2, R3, R4, R5, R6, R7, R8, AV.flat, fillIn_nil, fillIn_cons, splice, AV.cells, AV.one, eqsOf, idx, SO.calls, List.reduceReplicate, Nat.reduceBEq, Nat.reduceLT, Nat.reduceAdd, Nat.reduceMul, Nat.reduceSub, Nat.reduceLeDiff, Nat.reduceEqDiff, ↓reduceIte, Int.reduceLT, Int.reduceEq, Int.reduceBNe, Int.reduceBEq, aeq, Int.reduceLE, Int.reduceNeg, Int.reduceMul, Int.reduceAdd, Int.reduceSub, Int.reduceToNat, Int.reducePow, eq_false h1, eq_false h2, eq_true h3]
    try rw [tidy_bool']
  by_cases h4 : ph > 1024
  · rw [decide_eq_false (fun h : askedP l pw ph pad => by have := h.1.2.1; omega)]
    simp only [s64, R1, R2, R3, R4, R5, R6, R7, R8, AV.flat, fillIn_nil, fillIn_cons, splice, AV.cells, AV.one, eqsOf, idx, SO.calls, List.reduceReplicate, Nat.reduceBEq, Nat.reduceLT, Nat.reduceAdd, Nat.reduceMul, Nat.reduceSub, Nat.reduceLeDiff, Nat.reduceEqDiff, ↓reduceIte, Int.reduceLT, Int.reduceEq, Int.reduceBNe, Int.reduceBEq, aeq, Int.reduceLE, Int.reduceNeg, Int.reduceMul, Int.reduceAdd, Int.reduceSub, Int.reduceToNat, Int.reducePow, eq_false h1, eq_false h2, eq_false h3, eq_true h4]
    try rw [tidy_bool']
  by_cases h5 : pad < 0
  · rw [decide_eq_false (fun h : askedP l pw ph pad => by have := h.1.2.2.1; omega)]
    simp only [s64, R1, R2, R3, R4, R5, R6, R7, R8, AV.flat, fillIn_nil, fillIn_cons, splice, AV.cells, AV.one, eqsOf, idx, SO.calls, List.reduceReplicate, Nat.reduceBEq, Nat.reduceLT, Nat.reduceAdd, Nat.reduceMul, Nat.reduceSub, Nat.reduceLeDiff, Nat.reduceEqDiff, ↓reduceIte, Int.reduceLT, Int.reduceEq, Int.reduceBNe, Int.reduceBEq, aeq, Int.reduceLE, Int.reduceNeg, Int.reduceMul, Int.reduceAdd, Int.reduceSub, Int.reduceToNat, Int.reducePow, eq_false h1, eq_false h2, eq_false h3, eq_false h4, eq_true h5]
    try rw [tidy_bool']
  by_cases h6 : pad > 16
  · rw [decide_eq_false (fun h : askedP l pw ph pad => by have := h.1.2.2.1; omega)]
    simp only [s64, R1, R2, R3, R4, R5, R6, R7, R8, AV.flat, fillIn_nil, fillIn_cons, splice, AV.cells, AV.one, eqsOf, idx, SO.calls, List.reduceReplicate, Nat.reduceBEq, Nat.reduceLT, Nat.reduceAdd, Nat.reduceMul, Nat.reduceSub, Nat.reduceLeDiff, Nat.reduceEqDiff, ↓reduceIte, Int.reduceLT, Int.reduceEq, Int.reduceBNe, Int.reduceBEq, aeq, Int.reduceLE, Int.reduceNeg, Int.reduceMul, Int.reduceAdd, Int.reduceSub, Int.reduceToNat, Int.reducePow, eq_false h1, eq_false h2, eq_false h3, eq_false h4, eq_false h5, eq_true h6]
    try rw [tidy_bool']
  by_cases h7 : (l.length : Int) > 1024
  · rw [decide_eq_false (fun h : askedP l pw ph pad => by have := h.1.2.2.2; omega)]
    simp only [s64, R1, R2, R3, R4, R5, R6, R7, R8, AV.flat, fillIn_nil, fillIn_cons, splice, AV.cells, AV.one, eqsOf, idx, SO.calls, List.reduceReplicate, Nat.reduceBEq, Nat.reduceLT, Nat.reduceAdd, Nat.reduceMul, Nat.reduceSub, Nat.reduceLeDiff, Nat.reduceEqDiff, ↓reduceIte, Int.reduceLT, Int.reduceEq, Int.reduceBNe, Int.reduceBEq, aeq, Int.reduceLE, Int.reduceNeg, Int.reduceMul, Int.reduceAdd, Int.reduceSub, Int.reduceToNat, Int.reducePow, eq_false h1, eq_false h2, eq_false h3, eq_false h4, eq_false h5, eq_false h6, l1, eq_true h7]
    try rw [tidy_bool']
  simp only [s64, R1, R2, R3, R4, R5, R6, R7, R8, AV.flat, fillIn_nil, fillIn_cons, splice, AV.cells, AV.one, eqsOf, idx, SO.calls, List.reduceReplicate, Nat.reduceBEq, Nat.reduceLT, Nat.reduceAdd, Nat.reduceMul, Nat.reduceSub, Nat.reduceLeDiff, Nat.reduceEqDiff, ↓reduceIte, Int.reduceLT, Int.reduceEq, Int.reduceBNe, Int.reduceBEq, aeq, Int.reduceLE, Int.reduceNeg, Int.reduceMul, Int.reduceAdd, Int.reduceSub, Int.reduceToNat, Int.reducePow, eq_false h1, eq_false h2, eq_false h3, eq_false h4, eq_false h5, eq_false h6, l1, eq_false h7]
  refine ends_loop (fun k t H' => t.length = 51 ∧ (∃ X, H' = H ++ X) ∧ (t.getD 0 .undef = v) ∧ ∃ i : Nat, i ≤ l.length ∧ k = l.length - i ∧ t.getD 7 .undef = .int .i64 (i : Int) ∧ ∀ s ∈ l.take i, rightP s) l.length ?_ ?_
  · simp only [R1, R2, R3, R4, R5, R6, R7, R8, AV.flat, fillIn_nil, fillIn_cons, splice, AV.cells, AV.one, eqsOf, idx, SO.calls, List.reduceReplicate, Nat.reduceBEq, Nat.reduceLT, Nat.reduceAdd, Nat.reduceMul, Nat.reduceSub, Nat.reduceLeDiff, Nat.reduceEqDiff, ↓reduceIte, Int.reduceLT, Int.reduceEq, Int.reduceBNe, Int.reduceBEq, aeq, Int.reduceLE, Int.reduceNeg, Int.reduceMul, Int.reduceAdd, Int.reduceSub, Int.reduceToNat, Int.reducePow]
    exact ⟨⟨_, rfl⟩, 0, by omega, by omega, rfl, by simp⟩
  · rintro k t _ ⟨g1, ⟨X, rfl⟩, g2, i, hi, rfl, g5, g6⟩
    rw [← tm_nil t]
    by_cases hc : i < l.length
    · have a1 : ((i : Int) < (l.length : Int)) = True := eq_true (by omega)
      have w1 : IntKind.i64.wrap ((i : Int) + 1) = ((i + 1 : Nat) : Int) := by rw [wrap_i64 (by omega) (by omega)]; rfl
      have E := hs.elem hc
      have e5 := fun H => c73 l[i] H
      have hm := more_one (P := rightP) hc g6
      have hmem := List.getElem_mem hc
      generalize l[i] = q at *
      simp only [Sz.cs] at E e5
      by_cases hr : rightP q
      · rw [decide_eq_true hr] at e5
        simp only [R1, R2, R3, R4, R5, R6, R7, R8, AV.flat, fillIn_nil, fillIn_cons, splice, AV.cells, AV.one, eqsOf, idx, SO.calls, List.reduceReplicate, Nat.reduceBEq, Nat.reduceLT, Nat.reduceAdd, Nat.reduceMul, Nat.reduceSub, Nat.reduceLeDiff, Nat.reduceEqDiff, ↓reduceIte, Int.reduceLT, Int.reduceEq, Int.reduceBNe, Int.reduceBEq, aeq, Int.reduceLE, Int.reduceNeg, Int.reduceMul, Int.reduceAdd, Int.reduceSub, Int.reduceToNat, Int.reducePow, g1, g2, g5, l1, a1, w1, E, e5]
        exact ⟨_, by omega, ⟨_, rfl⟩, i + 1, by omega, rfl, rfl, hm hr⟩
      · rw [decide_eq_false hr] at e5
        rw [decide_eq_false (fun h : askedP l pw ph pad => hr (h.2 q hmem))]
        simp only [R1, R2, R3, R4, R5, R6, R7, R8, AV.flat, fillIn_nil, fillIn_cons, splice, AV.cells, AV.one, eqsOf, idx, SO.calls, List.reduceReplicate, Nat.reduceBEq, Nat.reduceLT, Nat.reduceAdd, Nat.reduceMul, Nat.reduceSub, Nat.reduceLeDiff, Nat.reduceEqDiff, ↓reduceIte, Int.reduceLT, Int.reduceEq, Int.reduceBNe, Int.reduceBEq, aeq, Int.reduceLE, Int.reduceNeg, Int.reduceMul, Int.reduceAdd, Int.reduceSub, Int.reduceToNat, Int.reducePow, g1, g2, g5, l1, a1, w1, E, e5]
        try rw [tidy_bool']
    · have a1 : ((i : Int) < (l.length : Int)) = False := eq_false (by omega)
      obtain rfl : i = l.length := by omega
      rw [List.take_length] at g6
      rw [decide_eq_true (show askedP l pw ph pad from ⟨⟨by omega, by omega, by omega, by omega⟩, g6⟩)]
      simp only [R1, R2, R3, R4, R5, R6, R7, R8, AV.flat, fillIn_nil, fillIn_cons, splice, AV.cells, AV.one, eqsOf, idx, SO.calls, List.reduceReplicate, Nat.reduceBEq, Nat.reduceLT, Nat.reduceAdd, Nat.reduceMul, Nat.reduceSub, Nat.reduceLeDiff, Nat.reduceEqDiff, ↓reduceIte, Int.reduceLT, Int.reduceEq, Int.reduceBNe, Int.reduceBEq, aeq, Int.reduceLE, Int.reduceNeg, Int.reduceMul, Int.reduceAdd, Int.reduceSub, Int.reduceToNat, Int.reducePow, g1, g2, g5, l1, a1]
      try rw [tidy_bool']
end Go.Proofs.Ytkcbjeenoafbkaa
