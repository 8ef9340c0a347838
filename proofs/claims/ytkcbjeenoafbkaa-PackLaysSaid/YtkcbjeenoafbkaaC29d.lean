/- Chapter 29: which piece is the best. -/
import Derived.Test.YtkcbjeenoafbkaaC29c
set_option linter.unusedVariables false
set_option linter.unusedSimpArgs false
set_option maxRecDepth 100000
set_option maxHeartbeats 4000000
namespace Go.Proofs.Ytkcbjeenoafbkaa
open Go Go.Den
theorem c62 (s : Sz) (pad : Int) (H : Heap) (h : (-2000000 ≤ s.w ∧ s.w ≤ 2000000) ∧ (-2000000 ≤ s.h ∧ s.h ≤ 2000000) ∧ -2000000 ≤ pad ∧ pad ≤ 2000000) : call env 62 [.agg s.cs, .int .i64 pad] H = some (.agg [.int .i64 (s.w + pad), .int .i64 (s.h + pad)], H) := by
  obtain ⟨x, y⟩ := s
  simp only at h
  have w1 := wrap_i64 (x := x + pad) (by omega) (by omega)
  have w2 := wrap_i64 (x := y + pad) (by omega) (by omega)
  simp only [Sz.cs]
  refine call_ends (fn := s62) rfl rfl (by simp [s62]) ?_
  simp only [s62, R1, R2, R3, R4, R5, R6, R7, R8, AV.flat, fillIn_nil, fillIn_cons, splice, AV.cells, AV.one, eqsOf, idx, SO.calls, List.reduceReplicate, Nat.reduceBEq, Nat.reduceLT, Nat.reduceAdd, Nat.reduceMul, Nat.reduceSub, Nat.reduceLeDiff, Nat.reduceEqDiff, ↓reduceIte, Int.reduceLT, Int.reduceEq, Int.reduceBNe, Int.reduceBEq, aeq, Int.reduceLE, Int.reduceNeg, Int.reduceMul, Int.reduceAdd, Int.reduceSub, Int.reduceToNat, Int.reducePow, w1, w2]
  try rw [tidy_agg' rfl]
theorem c68 (s : Sz) (pad : Int) (p : Plc) (H : Heap) (h : (-2000000 ≤ s.w ∧ s.w ≤ 2000000) ∧ (-2000000 ≤ s.h ∧ s.h ≤ 2000000) ∧ -2000000 ≤ pad ∧ pad ≤ 2000000) : call env 68 [.agg s.cs, .int .i64 pad, .agg p.cs] H = some (.agg (pieceP s pad p).cs, H) := by
  obtain ⟨x, y⟩ := s
  obtain ⟨a, b, c⟩ := p
  simp only at h
  have w1 := wrap_i64 (x := x + pad) (by omega) (by omega)
  have w2 := wrap_i64 (x := y + pad) (by omega) (by omega)
  simp only [Sz.cs, Plc.cs, Rect.cs, pieceP]
  refine call_ends (fn := s68) rfl rfl (by simp [s68]) ?_
  simp only [s68, R1, R2, R3, R4, R5, R6, R7, R8, AV.flat, fillIn_nil, fillIn_cons, splice, AV.cells, AV.one, eqsOf, idx, SO.calls, List.reduceReplicate, Nat.reduceBEq, Nat.reduceLT, Nat.reduceAdd, Nat.reduceMul, Nat.reduceSub, Nat.reduceLeDiff, Nat.reduceEqDiff, ↓reduceIte, Int.reduceLT, Int.reduceEq, Int.reduceBNe, Int.reduceBEq, aeq, Int.reduceLE, Int.reduceNeg, Int.reduceMul, Int.reduceAdd, Int.reduceSub, Int.reduceToNat, Int.reducePow, w1, w2]
  try rw [tidy_agg' rfl]
theorem c115 (r : Rect) (w h : Int) (H : Heap) : call env 115 [.agg r.cs, .agg [.int .i64 w, .int .i64 h]] H = some (.bool (fitR r w h), H) := by
  obtain ⟨a, b, c, d⟩ := r
  unfold fitR
  simp only [Rect.cs]
  refine call_ends (fn := s115) rfl rfl (by simp [s115]) ?_
  by_cases h1 : c ≥ w
  · by_cases h2 : d ≥ h
    · rw [decide_eq_true h1, decide_eq_true h2]
      simp only [s115, R1, R2, R3, R4, R5, R6, R7, R8, AV.flat, fillIn_nil, fillIn_cons, splice, AV.cells, AV.one, eqsOf, idx, SO.calls, List.reduceReplicate, Nat.reduceBEq, Nat.reduceLT, Nat.reduceAdd, Nat.reduceMul, Nat.reduceSub, Nat.reduceLeDiff, Nat.reduceEqDiff, ↓reduceIte, Int.reduceLT, Int.reduceEq, Int.reduceBNe, Int.reduceBEq, aeq, Int.reduceLE, Int.reduceNeg, Int.reduceMul, Int.reduceAdd, Int.reduceSub, Int.reduceToNat, Int.reducePow, eq_true h1, eq_true h2]
      try rw [tidy_bool']
    · rw [decide_eq_true h1, decide_eq_false h2]
      simp only [s115, R1, R2, R3, R4, R5, R6, R7, R8, AV.flat, fillIn_nil, fillIn_cons, splice, AV.cells, AV.one, eqsOf, idx, SO.calls, List.reduceReplicate, Nat.reduceBEq, Nat.reduceLT, Nat.reduceAdd, Nat.reduceMul, Nat.reduceSub, Nat.reduceLeDiff, Nat.reduceEqDiff, ↓reduceIte, Int.reduceLT, Int.reduceEq, Int.reduceBNe, Int.reduceBEq, aeq, Int.reduceLE, Int.reduceNeg, Int.reduceMul, Int.reduceAdd, Int.reduceSub, Int.reduceToNat, Int.reducePow, eq_true h1, eq_false h2]
      try rw [tidy_bool']
  · rw [decide_eq_false h1, Bool.false_and]
    simp only [s115, R1, R2, R3, R4, R5, R6, R7, R8, AV.flat, fillIn_nil, fillIn_cons, splice, AV.cells, AV.one, eqsOf, idx, SO.calls, List.reduceReplicate, Nat.reduceBEq, Nat.reduceLT, Nat.reduceAdd, Nat.reduceMul, Nat.reduceSub, Nat.reduceLeDiff, Nat.reduceEqDiff, ↓reduceIte, Int.reduceLT, Int.reduceEq, Int.reduceBNe, Int.reduceBEq, aeq, Int.reduceLE, Int.reduceNeg, Int.reduceMul, Int.reduceAdd, Int.reduceSub, Int.reduceToNat, Int.reducePow, eq_false h1]
    try rw [tidy_bool']
theorem c130 (x : Int) (H : Heap) : call env 130 [.int .i64 x] H = some (.bool false, H) := by
  have c1 : (x != x) = false := by simp
  refine call_ends (fn := s130) rfl rfl (by simp [s130]) ?_
  simp only [s130, R1, R2, R3, R4, R5, R6, R7, R8, AV.flat, fillIn_nil, fillIn_cons, splice, AV.cells, AV.one, eqsOf, idx, SO.calls, List.reduceReplicate, Nat.reduceBEq, Nat.reduceLT, Nat.reduceAdd, Nat.reduceMul, Nat.reduceSub, Nat.reduceLeDiff, Nat.reduceEqDiff, ↓reduceIte, Int.reduceLT, Int.reduceEq, Int.reduceBNe, Int.reduceBEq, aeq, Int.reduceLE, Int.reduceNeg, Int.reduceMul, Int.reduceAdd, Int.reduceSub, Int.reduceToNat, Int.reducePow, c1]
  try rw [tidy_bool]
def cmpI (a b : Int) : Int := if a < b then -1 else if a > b then 1 else 0
theorem c125 (a b : Int) (H : Heap) : call env 125 [.int .i64 a, .int .i64 b] H = some (.int .i64 (cmpI a b), H) := by
  have e1 := fun H => c130 a H
  have e2 := fun H => c130 b H
  unfold cmpI
  refine call_ends (fn := s125) rfl rfl (by simp [s125]) ?_
  by_cases h1 : a < b
  · rw [if_pos h1]
    simp only [s125, R1, R2, R3, R4, R5, R6, R7, R8, AV.flat, fillIn_nil, fillIn_cons, splice, AV.cells, AV.one, eqsOf, idx, SO.calls, List.reduceReplicate, Nat.reduceBEq, Nat.reduceLT, Nat.reduceAdd, Nat.reduceMul, Nat.reduceSub, Nat.reduceLeDiff, Nat.reduceEqDiff, ↓reduceIte, Int.reduceLT, Int.reduceEq, Int.reduceBNe, Int.reduceBEq, aeq, Int.reduceLE, Int.reduceNeg, Int.reduceMul, Int.reduceAdd, Int.reduceSub, Int.reduceToNat, Int.reducePow, e1, e2, eq_true h1]
    try rw [tidy_int]
  · rw [if_neg h1]
    by_cases h2 : a > b
    · rw [if_pos h2]
      simp only [s125, R1, R2, R3, R4, R5, R6, R7, R8, AV.flat, fillIn_nil, fillIn_cons, splice, AV.cells, AV.one, eqsOf, idx, SO.calls, List.reduceReplicate, Nat.reduceBEq, Nat.reduceLT, Nat.reduceAdd, Nat.reduceMul, Nat.reduceSub, Nat.reduceLeDiff, Nat.reduceEqDiff, ↓reduceIte, Int.reduceLT, Int.reduceEq, Int.reduceBNe, Int.reduceBEq, aeq, Int.reduceLE, Int.reduceNeg, Int.reduceMul, Int.reduceAdd, Int.reduceSub, Int.reduceToNat, Int.reducePow, e1, e2, eq_false h1, eq_true h2]
      try rw [tidy_int]
    · rw [if_neg h2]
      simp only [s125, R1, R2, R3, R4, R5, R6, R7, R8, AV.flat, fillIn_nil, fillIn_cons, splice, AV.cells, AV.one, eqsOf, idx, SO.calls, List.reduceReplicate, Nat.reduceBEq, Nat.reduceLT, Nat.reduceAdd, Nat.reduceMul, Nat.reduceSub, Nat.reduceLeDiff, Nat.reduceEqDiff, ↓reduceIte, Int.reduceLT, Int.reduceEq, Int.reduceBNe, Int.reduceBEq, aeq, Int.reduceLE, Int.reduceNeg, Int.reduceMul, Int.reduceAdd, Int.reduceSub, Int.reduceToNat, Int.reducePow, e1, e2, eq_false h1, eq_false h2]
      try rw [tidy_int]
def orI (l : List Int) : Int := (l.find? fun x => x != 0).getD 0
theorem c124 {H : Heap} {v : AV} {l : List Int} (hs : SlOf H 1 IntC v l) (hn : l.length ≤ 1000000) : call env 124 [v] H = some (.int .i64 (orI l), H) := by
  have l1 := hs.lenOf
  refine call_ends (fn := s124) rfl rfl (by simp [s124]) ?_
  simp only [s124, R1, R2, R3, R4, R5, R6, R7, R8, AV.flat, fillIn_nil, fillIn_cons, splice, AV.cells, AV.one, eqsOf, idx, SO.calls, List.reduceReplicate, Nat.reduceBEq, Nat.reduceLT, Nat.reduceAdd, Nat.reduceMul, Nat.reduceSub, Nat.reduceLeDiff, Nat.reduceEqDiff, ↓reduceIte, Int.reduceLT, Int.reduceEq, Int.reduceBNe, Int.reduceBEq, aeq, Int.reduceLE, Int.reduceNeg, Int.reduceMul, Int.reduceAdd, Int.reduceSub, Int.reduceToNat, Int.reducePow, l1]
  refine ends_loop (fun k t H' => t.length = 18 ∧ H = H' ∧ (t.getD 3 .undef = .int .i64 0 ∧ t.getD 6 .undef = v ∧ t.getD 7 .undef = .int .i64 (l.length : Int)) ∧ ∃ i : Nat, i ≤ l.length ∧ k = l.length - i ∧ t.getD 8 .undef = .int .i64 (i : Int) ∧ orI l = orI (l.drop i)) l.length ?_ ?_
  · simp only [R1, R2, R3, R4, R5, R6, R7, R8, AV.flat, fillIn_nil, fillIn_cons, splice, AV.cells, AV.one, eqsOf, idx, SO.calls, List.reduceReplicate, Nat.reduceBEq, Nat.reduceLT, Nat.reduceAdd, Nat.reduceMul, Nat.reduceSub, Nat.reduceLeDiff, Nat.reduceEqDiff, ↓reduceIte, Int.reduceLT, Int.reduceEq, Int.reduceBNe, Int.reduceBEq, aeq, Int.reduceLE, Int.reduceNeg, Int.reduceMul, Int.reduceAdd, Int.reduceSub, Int.reduceToNat, Int.reducePow]
    exact ⟨0, by omega, by omega, rfl, rfl⟩
  · rintro k t _ ⟨g1, rfl, ⟨g2, g3, g4⟩, i, hi, rfl, g5, g6⟩
    rw [← tm_nil t]
    by_cases hc : i < l.length
    · have a1 : ((i : Int) < (l.length : Int)) = True := eq_true (by omega)
      have w1 : IntKind.i64.wrap ((i : Int) + 1) = ((i + 1 : Nat) : Int) := by rw [wrap_i64 (by omega) (by omega)]; rfl
      have E := hs.elem0 hc
      rw [List.drop_eq_getElem_cons hc] at g6
      generalize l[i] = q at *
      simp only [IntC, Nat.mul_one] at E
      by_cases hq : q = 0
      · have c1 : (q != 0) = false := by rw [bne_eq_false_iff_eq]; exact hq
        simp only [R1, R2, R3, R4, R5, R6, R7, R8, AV.flat, fillIn_nil, fillIn_cons, splice, AV.cells, AV.one, eqsOf, idx, SO.calls, List.reduceReplicate, Nat.reduceBEq, Nat.reduceLT, Nat.reduceAdd, Nat.reduceMul, Nat.reduceSub, Nat.reduceLeDiff, Nat.reduceEqDiff, ↓reduceIte, Int.reduceLT, Int.reduceEq, Int.reduceBNe, Int.reduceBEq, aeq, Int.reduceLE, Int.reduceNeg, Int.reduceMul, Int.reduceAdd, Int.reduceSub, Int.reduceToNat, Int.reducePow, g1, g2, g3, g4, g5, a1, w1, E, c1]
        exact ⟨_, by omega, i + 1, by omega, rfl, rfl, by rw [g6]; unfold orI; rw [List.find?_cons_of_neg (by simp [hq])]⟩
      · have c1 : (q != 0) = true := by rw [bne_iff_ne]; exact hq
        have hr : orI l = q := by rw [g6]; unfold orI; rw [List.find?_cons_of_pos (by simp [hq])]; rfl
        rw [hr]
        simp only [R1, R2, R3, R4, R5, R6, R7, R8, AV.flat, fillIn_nil, fillIn_cons, splice, AV.cells, AV.one, eqsOf, idx, SO.calls, List.reduceReplicate, Nat.reduceBEq, Nat.reduceLT, Nat.reduceAdd, Nat.reduceMul, Nat.reduceSub, Nat.reduceLeDiff, Nat.reduceEqDiff, ↓reduceIte, Int.reduceLT, Int.reduceEq, Int.reduceBNe, Int.reduceBEq, aeq, Int.reduceLE, Int.reduceNeg, Int.reduceMul, Int.reduceAdd, Int.reduceSub, Int.reduceToNat, Int.reducePow, g1, g2, g3, g4, g5, a1, w1, E, c1]
        try rw [tidy_int]
    · have a1 : ((i : Int) < (l.length : Int)) = False := eq_false (by omega)
      obtain rfl : i = l.length := by omega
      rw [List.drop_length] at g6
      have hr : orI l = 0 := g6
      rw [hr]
      simp only [R1, R2, R3, R4, R5, R6, R7, R8, AV.flat, fillIn_nil, fillIn_cons, splice, AV.cells, AV.one, eqsOf, idx, SO.calls, List.reduceReplicate, Nat.reduceBEq, Nat.reduceLT, Nat.reduceAdd, Nat.reduceMul, Nat.reduceSub, Nat.reduceLeDiff, Nat.reduceEqDiff, ↓reduceIte, Int.reduceLT, Int.reduceEq, Int.reduceBNe, Int.reduceBEq, aeq, Int.reduceLE, Int.reduceNeg, Int.reduceMul, Int.reduceAdd, Int.reduceSub, Int.reduceToNat, Int.reducePow, g1, g2, g3, g4, g5, a1]
      try rw [tidy_int]
theorem slrow {H : Heap} {l : List Int} {cap : Option Nat} : SlOf (H ++ [.cells (l.flatMap IntC) 3 true]) 1 IntC (.sl H.length 0 l.length 1 cap) l := SlOf.row (fun a _ => int_cel.size a) (by decide)
/-- Rectangles whose numbers are small. -/
def SmallR (r : Rect) : Prop := (-2000000 ≤ r.x ∧ r.x ≤ 2000000) ∧ (-2000000 ≤ r.y ∧ r.y ≤ 2000000) ∧ (-2000000 ≤ r.w ∧ r.w ≤ 2000000) ∧ (-2000000 ≤ r.h ∧ r.h ≤ 2000000)
def cmpR (a b : Rect) (w h : Int) : Int := orI [cmpI (min (a.w - w) (a.h - h)) (min (b.w - w) (b.h - h)), cmpI (max (a.w - w) (a.h - h)) (max (b.w - w) (b.h - h)), cmpI a.y b.y, cmpI a.x b.x]
theorem cmpI_zero {a b : Int} : cmpI a b = 0 ↔ a = b := by unfold cmpI; split <;> (try split) <;> omega
theorem cmpI_neg {a b : Int} : cmpI a b < 0 ↔ a < b := by unfold cmpI; split <;> (try split) <;> omega
theorem orI_cons {x : Int} {l : List Int} : orI (x :: l) = if x = 0 then orI l else x := by
  unfold orI
  by_cases h : x = 0
  · rw [if_pos h, List.find?_cons_of_neg (by simp [h])]
  · rw [if_neg h, List.find?_cons_of_pos (by simp [h])]; rfl
theorem cmpR_bet (a b : Rect) (w h : Int) : (cmpR a b w h < 0) ↔ betR a b w h = true := by
  unfold cmpR betR
  generalize min (a.w - w) (a.h - h) = m1
  generalize min (b.w - w) (b.h - h) = m2
  generalize max (a.w - w) (a.h - h) = M1
  generalize max (b.w - w) (b.h - h) = M2
  by_cases h1 : m1 = m2
  · rw [orI_cons, if_pos (cmpI_zero.2 h1), if_neg (by simp [h1])]
    by_cases h2 : M1 = M2
    · rw [orI_cons, if_pos (cmpI_zero.2 h2), if_neg (by simp [h2])]
      by_cases h3 : a.y = b.y
      · rw [orI_cons, if_pos (cmpI_zero.2 h3), if_neg (by simp [h3])]
        by_cases h4 : a.x = b.x
        · rw [orI_cons, if_pos (cmpI_zero.2 h4)]
          simp [orI, h4]
        · rw [orI_cons, if_neg (fun h => h4 (cmpI_zero.1 h)), cmpI_neg]; simp
      · rw [orI_cons, if_neg (fun h => h3 (cmpI_zero.1 h)), if_pos h3, cmpI_neg]; simp
    · rw [orI_cons, if_neg (fun h => h2 (cmpI_zero.1 h)), if_pos h2, cmpI_neg]; simp
  · rw [orI_cons, if_neg (fun h => h1 (cmpI_zero.1 h)), if_pos h1, cmpI_neg]; simp
theorem c116 (a b : Rect) (w h : Int) (H : Heap) (ha : SmallR a) (hb : SmallR b) (hw : -2000000 ≤ w ∧ w ≤ 2000000) (hh : -2000000 ≤ h ∧ h ≤ 2000000) :
    call env 116 [.agg a.cs, .agg b.cs, .agg [.int .i64 w, .int .i64 h]] H = some (.int .i64 (cmpR a b w h), H) := by
  obtain ⟨a1, a2, a3, a4⟩ := a
  obtain ⟨b1, b2, b3, b4⟩ := b
  unfold SmallR at ha hb
  simp only at ha hb
  have w1 := wrap_i64 (x := a3 - w) (by omega) (by omega)
  have w2 := wrap_i64 (x := a4 - h) (by omega) (by omega)
  have w3 := wrap_i64 (x := b3 - w) (by omega) (by omega)
  have w4 := wrap_i64 (x := b4 - h) (by omega) (by omega)
  have e1 := fun H => c125 (min (a3 - w) (a4 - h)) (min (b3 - w) (b4 - h)) H
  have e2 := fun H => c125 (max (a3 - w) (a4 - h)) (max (b3 - w) (b4 - h)) H
  have e3 := fun H => c125 a2 b2 H
  have e4 := fun H => c125 a1 b1 H
  have e5 := fun X => c124 (@slrow (H ++ X) [cmpI (min (a3 - w) (a4 - h)) (min (b3 - w) (b4 - h)), cmpI (max (a3 - w) (a4 - h)) (max (b3 - w) (b4 - h)), cmpI a2 b2, cmpI a1 b1] (some 4)) (by simp)
  have e5 := e5 [.cells [.int .i64 a1, .int .i64 a2, .int .i64 a3, .int .i64 a4] 112 true, .cells [.int .i64 b1, .int .i64 b2, .int .i64 b3, .int .i64 b4] 112 true, .cells [.int .i64 w, .int .i64 h] 61 true,
    .cells [.int .i64 (a3 - w), .int .i64 (a4 - h)] 178 true, .cells [.int .i64 (b3 - w), .int .i64 (b4 - h)] 178 true]
  simp only [List.flatMap_cons, List.flatMap_nil, IntC, List.cons_append, List.nil_append, List.length_cons, List.length_nil, Nat.zero_add, Nat.reduceAdd, List.length_append, List.append_assoc] at e5
  unfold cmpR
  simp only
  generalize orI [cmpI (min (a3 - w) (a4 - h)) (min (b3 - w) (b4 - h)), cmpI (max (a3 - w) (a4 - h)) (max (b3 - w) (b4 - h)), cmpI a2 b2, cmpI a1 b1] = z at *
  simp only [Rect.cs]
  refine call_ends (fn := s116) rfl rfl (by simp [s116]) ?_
  simp only [s116, R1, R2, R3, R4, R5, R6, R7, R8, AV.flat, fillIn_nil, fillIn_cons, splice, AV.cells, AV.one, eqsOf, idx, SO.calls, List.reduceReplicate, Nat.reduceBEq, Nat.reduceLT, Nat.reduceAdd, Nat.reduceMul, Nat.reduceSub, Nat.reduceLeDiff, Nat.reduceEqDiff, ↓reduceIte, Int.reduceLT, Int.reduceEq, Int.reduceBNe, Int.reduceBEq, aeq, Int.reduceLE, Int.reduceNeg, Int.reduceMul, Int.reduceAdd, Int.reduceSub, Int.reduceToNat, Int.reducePow, w1, w2, w3, w4, e1, e2, e3, e4, e5]
  try rw [tidy_int']
end Go.Proofs.Ytkcbjeenoafbkaa
