/- Chapter 34: what may be asked. -/
import Derived.Test.YtbnnfmncipdlpaaDoorC34a
set_option linter.unusedVariables false
set_option linter.unusedSimpArgs false
set_option maxRecDepth 100000
set_option maxHeartbeats 8000000
namespace Go.Proofs.YtbnnfmncipdlpaaDoor
open Go Go.Den
def askE (a : Atl) (v : View) (l : List Pld) : Int := if MayA a ∧ MayV v then (if ∀ p ∈ l, OkD a p then (if l.length > 1024 then 6 else 0) else 1) else 1
theorem c55 {H : Heap} {a : Atl} {vg vp vs : AV} {vl : AV} {l : List Pld} (hs : AtlOf H a vg vp vs) (hp : a.pr.length ≤ 9223372036854775807) (hd : ∀ s ∈ a.pgs, s.length ≤ 1000000000) (v : View) (hl : SlOf H 3 Pld.cs vl l) (hn : l.length ≤ 9223372036854775807) :
    call env 55 [.agg (a.cs vg vp vs), .agg v.cs, vl] H = some (.int .i64 (askE a v l), H) := by
  have z1 := slof_cell hs.gl
  have z2 := slof_cell hs.pr
  have z3 := slof_cell hs.pgs
  have z4 := slof_cell hl
  simp only [AV.cells, AV.one] at z1 z2 z3 z4
  have l1 := hs.gl.lenOf
  have l2 := hl.lenOf
  have e1 := fun X => c69 (hs.app X) hp hd
  have e2 := fun H => c32 v H
  unfold askE
  refine call_ends (fn := s55) rfl rfl (by simp [s55]) ?_
  by_cases ha : MayA a
  rotate_left
  · rw [if_neg (fun h => ha h.1)]
    rw [decide_eq_false ha] at e1
    simp only [Atl.cs, View.cs] at e1 e2 ⊢
    simp only [s55, R1, R2, R3, R4, R5, R6, R7, R8, AV.flat, fillIn_nil, fillIn_cons, splice, AV.cells, AV.one, eqsOf, idx, SO.calls, List.reduceReplicate, Nat.reduceBEq, Nat.reduceLT, Nat.reduceAdd, Nat.reduceMul, Nat.reduceSub, Nat.reduceLeDiff, Nat.reduceEqDiff, ↓reduceIte, Int.reduceLT, Int.reduceEq, Int.reduceBNe, Int.reduceBEq, aeq, Int.reduceLE, Int.reduceNeg, Int.reduceMul, Int.reduceAdd, Int.reduceSub, Int.reduceToNat, Int.reducePow, z1, z2, z3, z4, e1]
    rw [tidy_int']
  rw [decide_eq_true ha] at e1
  by_cases hv : MayV v
  rotate_left
  · rw [if_neg (fun h => hv h.2)]
    rw [decide_eq_false hv] at e2
    simp only [Atl.cs, View.cs] at e1 e2 ⊢
    simp only [s55, R1, R2, R3, R4, R5, R6, R7, R8, AV.flat, fillIn_nil, fillIn_cons, splice, AV.cells, AV.one, eqsOf, idx, SO.calls, List.reduceReplicate, Nat.reduceBEq, Nat.reduceLT, Nat.reduceAdd, Nat.reduceMul, Nat.reduceSub, Nat.reduceLeDiff, Nat.reduceEqDiff, ↓reduceIte, Int.reduceLT, Int.reduceEq, Int.reduceBNe, Int.reduceBEq, aeq, Int.reduceLE, Int.reduceNeg, Int.reduceMul, Int.reduceAdd, Int.reduceSub, Int.reduceToNat, Int.reducePow, z1, z2, z3, z4, e1, e2]
    rw [tidy_int']
  rw [decide_eq_true hv] at e2
  rw [if_pos ⟨ha, hv⟩]
  have hgl : a.gl.length ≤ 1024 := by
    obtain ⟨_, _, _, _, _, _, _, _, _, _, _, _, _, _, _, hn⟩ := id ha.1
    exact hn
  have w0 := wrap_i64 (x := (a.gl.length : Int) - 1) (by omega) (by omega)
  simp only [Atl.cs, View.cs] at e1 e2 ⊢
  simp only [s55, R1, R2, R3, R4, R5, R6, R7, R8, AV.flat, fillIn_nil, fillIn_cons, splice, AV.cells, AV.one, eqsOf, idx, SO.calls, List.reduceReplicate, Nat.reduceBEq, Nat.reduceLT, Nat.reduceAdd, Nat.reduceMul, Nat.reduceSub, Nat.reduceLeDiff, Nat.reduceEqDiff, ↓reduceIte, Int.reduceLT, Int.reduceEq, Int.reduceBNe, Int.reduceBEq, aeq, Int.reduceLE, Int.reduceNeg, Int.reduceMul, Int.reduceAdd, Int.reduceSub, Int.reduceToNat, Int.reducePow, z1, z2, z3, z4, l2, e1, e2]
  refine ends_loop (fun k t H' => t.length = 47 ∧ (t.getD 2 .undef = vl ∧ t.getD 3 .undef = .ptr H.length 0 ∧ t.getD 17 .undef = vl ∧ t.getD 18 .undef = .int .i64 (l.length : Int)) ∧ ∃ (i : Nat) (Y : Heap), H' = H ++ (.cells (a.cs vg vp vs) 33 true :: Y) ∧ i ≤ l.length ∧ k = l.length - i ∧ t.getD 19 .undef = .int .i64 (i : Int) ∧ ∀ p ∈ l.take i, OkD a p) l.length ?_ ?_
  · simp only [R1, R2, R3, R4, R5, R6, R7, R8, AV.flat, fillIn_nil, fillIn_cons, splice, AV.cells, AV.one, eqsOf, idx, SO.calls, List.reduceReplicate, Nat.reduceBEq, Nat.reduceLT, Nat.reduceAdd, Nat.reduceMul, Nat.reduceSub, Nat.reduceLeDiff, Nat.reduceEqDiff, ↓reduceIte, Int.reduceLT, Int.reduceEq, Int.reduceBNe, Int.reduceBEq, aeq, Int.reduceLE, Int.reduceNeg, Int.reduceMul, Int.reduceAdd, Int.reduceSub, Int.reduceToNat, Int.reducePow]
    exact ⟨0, _, by simp only [Atl.cs]; rfl, by omega, by omega, rfl, by simp⟩
  rintro k t _ ⟨g1, ⟨g2, g3, g4, g5⟩, i, Y, rfl, hi, rfl, g6, g7⟩
  rw [← tm_nil t]
  by_cases hc : i < l.length
  · have a1 : ((i : Int) < (l.length : Int)) = True := eq_true (by omega)
    have w1 : IntKind.i64.wrap ((i : Int) + 1) = ((i + 1 : Nat) : Int) := by rw [wrap_i64 (by omega) (by omega)]; rfl
    have E := hl.elem hc
    have hmem := List.getElem_mem hc
    have g8 := fun h => all_suc (P := fun p => OkD a p) hc g7 h
    have hno : ¬ OkD a l[i] → ¬ ∀ p ∈ l, OkD a p := fun h hh => h (hh _ hmem)
    generalize l[i] = p at *
    obtain ⟨pg, px, py⟩ := p
    simp only [Pld.cs] at E
    have c1 := fun H => c59 pg 0 ((a.gl.length : Int) - 1) H
    have c2 := fun H => c59 px (-134217728) 134217728 H
    have c3 := fun H => c59 py (-134217728) 134217728 H
    by_cases b1 : 0 ≤ pg ∧ pg ≤ (a.gl.length : Int) - 1
    rotate_left
    · rw [if_neg (hno (fun h => b1 h.1))]
      rw [decide_eq_false b1] at c1
      simp only [Atl.cs, R1, R2, R3, R4, R5, R6, R7, R8, AV.flat, fillIn_nil, fillIn_cons, splice, AV.cells, AV.one, eqsOf, idx, SO.calls, List.reduceReplicate, Nat.reduceBEq, Nat.reduceLT, Nat.reduceAdd, Nat.reduceMul, Nat.reduceSub, Nat.reduceLeDiff, Nat.reduceEqDiff, ↓reduceIte, Int.reduceLT, Int.reduceEq, Int.reduceBNe, Int.reduceBEq, aeq, Int.reduceLE, Int.reduceNeg, Int.reduceMul, Int.reduceAdd, Int.reduceSub, Int.reduceToNat, Int.reducePow, z1, z2, z3, l1, g1, g2, g3, g4, g5, g6, a1, w0, w1, E, c1]
      rw [tidy_int']
    rw [decide_eq_true b1] at c1
    by_cases b2 : -134217728 ≤ px ∧ px ≤ 134217728
    rotate_left
    · rw [if_neg (hno (fun h => b2 h.2.1))]
      rw [decide_eq_false b2] at c2
      simp only [Atl.cs, R1, R2, R3, R4, R5, R6, R7, R8, AV.flat, fillIn_nil, fillIn_cons, splice, AV.cells, AV.one, eqsOf, idx, SO.calls, List.reduceReplicate, Nat.reduceBEq, Nat.reduceLT, Nat.reduceAdd, Nat.reduceMul, Nat.reduceSub, Nat.reduceLeDiff, Nat.reduceEqDiff, ↓reduceIte, Int.reduceLT, Int.reduceEq, Int.reduceBNe, Int.reduceBEq, aeq, Int.reduceLE, Int.reduceNeg, Int.reduceMul, Int.reduceAdd, Int.reduceSub, Int.reduceToNat, Int.reducePow, z1, z2, z3, l1, g1, g2, g3, g4, g5, g6, a1, w0, w1, E, c1, c2]
      rw [tidy_int']
    rw [decide_eq_true b2] at c2
    by_cases b3 : -134217728 ≤ py ∧ py ≤ 134217728
    rotate_left
    · rw [if_neg (hno (fun h => b3 h.2.2))]
      rw [decide_eq_false b3] at c3
      simp only [Atl.cs, R1, R2, R3, R4, R5, R6, R7, R8, AV.flat, fillIn_nil, fillIn_cons, splice, AV.cells, AV.one, eqsOf, idx, SO.calls, List.reduceReplicate, Nat.reduceBEq, Nat.reduceLT, Nat.reduceAdd, Nat.reduceMul, Nat.reduceSub, Nat.reduceLeDiff, Nat.reduceEqDiff, ↓reduceIte, Int.reduceLT, Int.reduceEq, Int.reduceBNe, Int.reduceBEq, aeq, Int.reduceLE, Int.reduceNeg, Int.reduceMul, Int.reduceAdd, Int.reduceSub, Int.reduceToNat, Int.reducePow, z1, z2, z3, l1, g1, g2, g3, g4, g5, g6, a1, w0, w1, E, c1, c2, c3]
      rw [tidy_int']
    rw [decide_eq_true b3] at c3
    simp only [Atl.cs, R1, R2, R3, R4, R5, R6, R7, R8, AV.flat, fillIn_nil, fillIn_cons, splice, AV.cells, AV.one, eqsOf, idx, SO.calls, List.reduceReplicate, Nat.reduceBEq, Nat.reduceLT, Nat.reduceAdd, Nat.reduceMul, Nat.reduceSub, Nat.reduceLeDiff, Nat.reduceEqDiff, ↓reduceIte, Int.reduceLT, Int.reduceEq, Int.reduceBNe, Int.reduceBEq, aeq, Int.reduceLE, Int.reduceNeg, Int.reduceMul, Int.reduceAdd, Int.reduceSub, Int.reduceToNat, Int.reducePow, z1, z2, z3, l1, g1, g2, g3, g4, g5, g6, a1, w0, w1, E, c1, c2, c3]
    exact ⟨_, by omega, i + 1, _, rfl, by omega, rfl, rfl, g8 ⟨b1, b2, b3⟩⟩
  · have a1 : ((i : Int) < (l.length : Int)) = False := eq_false (by omega)
    obtain rfl : i = l.length := by omega
    rw [List.take_length] at g7
    rw [if_pos g7]
    by_cases hz : l.length > 1024
    · have a2 : ((l.length : Int) > 1024) = True := eq_true (by omega)
      rw [if_pos hz]
      simp only [Atl.cs, R1, R2, R3, R4, R5, R6, R7, R8, AV.flat, fillIn_nil, fillIn_cons, splice, AV.cells, AV.one, eqsOf, idx, SO.calls, List.reduceReplicate, Nat.reduceBEq, Nat.reduceLT, Nat.reduceAdd, Nat.reduceMul, Nat.reduceSub, Nat.reduceLeDiff, Nat.reduceEqDiff, ↓reduceIte, Int.reduceLT, Int.reduceEq, Int.reduceBNe, Int.reduceBEq, aeq, Int.reduceLE, Int.reduceNeg, Int.reduceMul, Int.reduceAdd, Int.reduceSub, Int.reduceToNat, Int.reducePow, z1, z2, z3, l2, g1, g2, g3, g4, g5, g6, a1, a2]
      rw [tidy_int']
    · have a2 : ((l.length : Int) > 1024) = False := eq_false (by omega)
      rw [if_neg hz]
      simp only [Atl.cs, R1, R2, R3, R4, R5, R6, R7, R8, AV.flat, fillIn_nil, fillIn_cons, splice, AV.cells, AV.one, eqsOf, idx, SO.calls, List.reduceReplicate, Nat.reduceBEq, Nat.reduceLT, Nat.reduceAdd, Nat.reduceMul, Nat.reduceSub, Nat.reduceLeDiff, Nat.reduceEqDiff, ↓reduceIte, Int.reduceLT, Int.reduceEq, Int.reduceBNe, Int.reduceBEq, aeq, Int.reduceLE, Int.reduceNeg, Int.reduceMul, Int.reduceAdd, Int.reduceSub, Int.reduceToNat, Int.reducePow, z1, z2, z3, l2, g1, g2, g3, g4, g5, g6, a1, a2]
      rw [tidy_int']
theorem c28 {H : Heap} {a : Atl} {vg vp vs : AV} {vl : AV} {l : List Pld} (hs : AtlOf H a vg vp vs) (hp : a.pr.length ≤ 9223372036854775807) (hd : ∀ s ∈ a.pgs, s.length ≤ 1000000000) (v : View) (hl : SlOf H 3 Pld.cs vl l) (hn : l.length ≤ 9223372036854775807) :
    call env 28 [.agg (a.cs vg vp vs), .agg v.cs, vl] H = some (.int .i64 (askE a v l), H) := by
  have z1 := slof_cell hs.gl
  have z2 := slof_cell hs.pr
  have z3 := slof_cell hs.pgs
  have z4 := slof_cell hl
  simp only [AV.cells, AV.one] at z1 z2 z3 z4
  have l1 := hs.gl.lenOf
  have l2 := hl.lenOf
  have e1 := fun X => c24 (hs.app X) hp hd
  have e2 := fun H => c26 v H
  unfold askE
  refine call_ends (fn := s28) rfl rfl (by simp [s28]) ?_
  by_cases ha : MayA a
  rotate_left
  · rw [if_neg (fun h => ha h.1)]
    rw [decide_eq_false ha] at e1
    simp only [Atl.cs, View.cs] at e1 e2 ⊢
    simp only [s28, R1, R2, R3, R4, R5, R6, R7, R8, AV.flat, fillIn_nil, fillIn_cons, splice, AV.cells, AV.one, eqsOf, idx, SO.calls, List.reduceReplicate, Nat.reduceBEq, Nat.reduceLT, Nat.reduceAdd, Nat.reduceMul, Nat.reduceSub, Nat.reduceLeDiff, Nat.reduceEqDiff, ↓reduceIte, Int.reduceLT, Int.reduceEq, Int.reduceBNe, Int.reduceBEq, aeq, Int.reduceLE, Int.reduceNeg, Int.reduceMul, Int.reduceAdd, Int.reduceSub, Int.reduceToNat, Int.reducePow, z1, z2, z3, z4, e1]
    rw [tidy_int']
  rw [decide_eq_true ha] at e1
  by_cases hv : MayV v
  rotate_left
  · rw [if_neg (fun h => hv h.2)]
    rw [decide_eq_false hv] at e2
    simp only [Atl.cs, View.cs] at e1 e2 ⊢
    simp only [s28, R1, R2, R3, R4, R5, R6, R7, R8, AV.flat, fillIn_nil, fillIn_cons, splice, AV.cells, AV.one, eqsOf, idx, SO.calls, List.reduceReplicate, Nat.reduceBEq, Nat.reduceLT, Nat.reduceAdd, Nat.reduceMul, Nat.reduceSub, Nat.reduceLeDiff, Nat.reduceEqDiff, ↓reduceIte, Int.reduceLT, Int.reduceEq, Int.reduceBNe, Int.reduceBEq, aeq, Int.reduceLE, Int.reduceNeg, Int.reduceMul, Int.reduceAdd, Int.reduceSub, Int.reduceToNat, Int.reducePow, z1, z2, z3, z4, e1, e2]
    rw [tidy_int']
  rw [decide_eq_true hv] at e2
  rw [if_pos ⟨ha, hv⟩]
  have hgl : a.gl.length ≤ 1024 := by
    obtain ⟨_, _, _, _, _, _, _, _, _, _, _, _, _, _, _, hn⟩ := id ha.1
    exact hn
  have e3 := fun X p => c58 (hs.app X) (by omega) p
  simp only [Atl.cs, View.cs] at e1 e2 ⊢
  simp only [s28, R1, R2, R3, R4, R5, R6, R7, R8, AV.flat, fillIn_nil, fillIn_cons, splice, AV.cells, AV.one, eqsOf, idx, SO.calls, List.reduceReplicate, Nat.reduceBEq, Nat.reduceLT, Nat.reduceAdd, Nat.reduceMul, Nat.reduceSub, Nat.reduceLeDiff, Nat.reduceEqDiff, ↓reduceIte, Int.reduceLT, Int.reduceEq, Int.reduceBNe, Int.reduceBEq, aeq, Int.reduceLE, Int.reduceNeg, Int.reduceMul, Int.reduceAdd, Int.reduceSub, Int.reduceToNat, Int.reducePow, z1, z2, z3, z4, l2, e1, e2]
  refine ends_loop (fun k t H' => t.length = 32 ∧ H ++ [.cells (a.cs vg vp vs) 33 true, .cells v.cs 55 true] = H' ∧ (t.getD 2 .undef = vl ∧ t.getD 3 .undef = .ptr H.length 0) ∧ ∃ (i : Nat), i ≤ l.length ∧ k = l.length - i ∧ t.getD 7 .undef = .int .i64 (i : Int) ∧ ∀ p ∈ l.take i, OkD a p) l.length ?_ ?_
  · simp only [R1, R2, R3, R4, R5, R6, R7, R8, AV.flat, fillIn_nil, fillIn_cons, splice, AV.cells, AV.one, eqsOf, idx, SO.calls, List.reduceReplicate, Nat.reduceBEq, Nat.reduceLT, Nat.reduceAdd, Nat.reduceMul, Nat.reduceSub, Nat.reduceLeDiff, Nat.reduceEqDiff, ↓reduceIte, Int.reduceLT, Int.reduceEq, Int.reduceBNe, Int.reduceBEq, aeq, Int.reduceLE, Int.reduceNeg, Int.reduceMul, Int.reduceAdd, Int.reduceSub, Int.reduceToNat, Int.reducePow]
    exact ⟨rfl, 0, by omega, by omega, rfl, by simp⟩
  rintro k t _ ⟨g1, rfl, ⟨g2, g3⟩, i, hi, rfl, g6, g7⟩
  rw [← tm_nil t]
  by_cases hc : i < l.length
  · have a1 : ((i : Int) < (l.length : Int)) = True := eq_true (by omega)
    have w1 : IntKind.i64.wrap ((i : Int) + 1) = ((i + 1 : Nat) : Int) := by rw [wrap_i64 (by omega) (by omega)]; rfl
    have E := hl.elem hc
    have hmem := List.getElem_mem hc
    have g8 := fun h => all_suc (P := fun p => OkD a p) hc g7 h
    have hno : ¬ OkD a l[i] → ¬ ∀ p ∈ l, OkD a p := fun h hh => h (hh _ hmem)
    generalize l[i] = p at *
    have e4 := fun X => e3 X p
    by_cases b1 : OkD a p
    rotate_left
    · rw [if_neg (hno b1)]
      rw [decide_eq_false b1] at e4
      simp only [Atl.cs, View.cs, Pld.cs] at e4 E ⊢
      simp only [R1, R2, R3, R4, R5, R6, R7, R8, AV.flat, fillIn_nil, fillIn_cons, splice, AV.cells, AV.one, eqsOf, idx, SO.calls, List.reduceReplicate, Nat.reduceBEq, Nat.reduceLT, Nat.reduceAdd, Nat.reduceMul, Nat.reduceSub, Nat.reduceLeDiff, Nat.reduceEqDiff, ↓reduceIte, Int.reduceLT, Int.reduceEq, Int.reduceBNe, Int.reduceBEq, aeq, Int.reduceLE, Int.reduceNeg, Int.reduceMul, Int.reduceAdd, Int.reduceSub, Int.reduceToNat, Int.reducePow, z1, z2, z3, l2, g1, g2, g3, g6, a1, w1, E, e4, veil_un, shun_un]
      rw [tidy_int']
    rw [decide_eq_true b1] at e4
    simp only [Atl.cs, View.cs, Pld.cs] at e4 E ⊢
    simp only [R1, R2, R3, R4, R5, R6, R7, R8, AV.flat, fillIn_nil, fillIn_cons, splice, AV.cells, AV.one, eqsOf, idx, SO.calls, List.reduceReplicate, Nat.reduceBEq, Nat.reduceLT, Nat.reduceAdd, Nat.reduceMul, Nat.reduceSub, Nat.reduceLeDiff, Nat.reduceEqDiff, ↓reduceIte, Int.reduceLT, Int.reduceEq, Int.reduceBNe, Int.reduceBEq, aeq, Int.reduceLE, Int.reduceNeg, Int.reduceMul, Int.reduceAdd, Int.reduceSub, Int.reduceToNat, Int.reducePow, z1, z2, z3, l2, g1, g2, g3, g6, a1, w1, E, e4, veil_un, shun_un]
    exact ⟨_, by omega, i + 1, by omega, rfl, rfl, g8 b1⟩
  · have a1 : ((i : Int) < (l.length : Int)) = False := eq_false (by omega)
    obtain rfl : i = l.length := by omega
    rw [List.take_length] at g7
    rw [if_pos g7]
    by_cases hz : l.length > 1024
    · have a2 : ((l.length : Int) > 1024) = True := eq_true (by omega)
      rw [if_pos hz]
      simp only [Atl.cs, R1, R2, R3, R4, R5, R6, R7, R8, AV.flat, fillIn_nil, fillIn_cons, splice, AV.cells, AV.one, eqsOf, idx, SO.calls, List.reduceReplicate, Nat.reduceBEq, Nat.reduceLT, Nat.reduceAdd, Nat.reduceMul, Nat.reduceSub, Nat.reduceLeDiff, Nat.reduceEqDiff, ↓reduceIte, Int.reduceLT, Int.reduceEq, Int.reduceBNe, Int.reduceBEq, aeq, Int.reduceLE, Int.reduceNeg, Int.reduceMul, Int.reduceAdd, Int.reduceSub, Int.reduceToNat, Int.reducePow, z1, z2, z3, l2, g1, g2, g3, g6, a1, a2]
      rw [tidy_int']
    · have a2 : ((l.length : Int) > 1024) = False := eq_false (by omega)
      rw [if_neg hz]
      simp only [Atl.cs, R1, R2, R3, R4, R5, R6, R7, R8, AV.flat, fillIn_nil, fillIn_cons, splice, AV.cells, AV.one, eqsOf, idx, SO.calls, List.reduceReplicate, Nat.reduceBEq, Nat.reduceLT, Nat.reduceAdd, Nat.reduceMul, Nat.reduceSub, Nat.reduceLeDiff, Nat.reduceEqDiff, ↓reduceIte, Int.reduceLT, Int.reduceEq, Int.reduceBNe, Int.reduceBEq, aeq, Int.reduceLE, Int.reduceNeg, Int.reduceMul, Int.reduceAdd, Int.reduceSub, Int.reduceToNat, Int.reducePow, z1, z2, z3, l2, g1, g2, g3, g6, a1, a2]
      rw [tidy_int']
end Go.Proofs.YtbnnfmncipdlpaaDoor
