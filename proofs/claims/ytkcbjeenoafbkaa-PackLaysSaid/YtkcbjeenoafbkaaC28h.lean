/- Prune. -/
import Derived.Test.YtkcbjeenoafbkaaC28g
set_option linter.unusedVariables false
set_option linter.unusedSimpArgs false
set_option maxRecDepth 100000
set_option maxHeartbeats 1000000
namespace Go.Proofs.Ytkcbjeenoafbkaa
open Go Go.Den
def nth (l : List Rect) (i : Nat) : Rect := l.getD i ⟨0, 0, 0, 0⟩
theorem nth_eq {l : List Rect} {i : Nat} (h : i < l.length) : nth l i = l[i] := by simp [nth, List.getD, h]
def lower (l : List Rect) (i : Nat) : Bool := (l.take i).any fun b => has b (nth l i)
def upper (l : List Rect) (i : Nat) : Bool := (l.drop (i + 1)).any fun b => decide (b ≠ nth l i) && has b (nth l i)
def stay (l : List Rect) (i : Nat) : Bool := !lower l i && !upper l i
def pruneTo (l : List Rect) : Nat → List Rect
  | 0 => []
  | i + 1 => pruneTo l i ++ (if stay l i then [nth l i] else [])
def prune (l : List Rect) : List Rect := pruneTo l l.length
theorem pruneTo_len (l : List Rect) : ∀ i, (pruneTo l i).length ≤ i
  | 0 => Nat.le_refl _
  | i + 1 => by
    have := pruneTo_len l i
    simp only [pruneTo, List.length_append]
    split <;> simp <;> omega
theorem c93 {H : Heap} {v : AV} {l : List Rect} (hs : SlOf H 4 Rect.cs v l) (hn : l.length ≤ 100000000) :
    call env 93 [v] H = some ((newSl H 112 4 Rect.cs (prune (l.filter may))).1, H ++ (newSl H 112 4 Rect.cs (prune (l.filter may))).2) := by
  obtain ⟨w, X, e0, hw⟩ := c117 hs hn
  have hml : (l.filter may).length ≤ 100000000 := Nat.le_trans (List.length_filter_le _ _) hn
  have hmay : ∀ r ∈ l.filter may, May r := by
    intro r hr
    have := (List.mem_filter.1 hr).2
    exact of_decide_eq_true this
  generalize l.filter may = m at hw hml hmay
  have e1 := hw.lenOf
  refine call_ends (fn := s93) rfl rfl (by simp [s93]) ?_
  simp only [s93, R1, R2, R3, R4, R5, R6, R7, R8, AV.flat, fillIn_nil, fillIn_cons, splice, AV.cells, AV.one, eqsOf, idx, SO.calls, List.reduceReplicate, Nat.reduceBEq, Nat.reduceLT, Nat.reduceAdd, Nat.reduceMul, Nat.reduceSub, Nat.reduceLeDiff, Nat.reduceEqDiff, ↓reduceIte, Int.reduceLT, Int.reduceEq, Int.reduceBNe, Int.reduceBEq, aeq, Int.reduceLE, Int.reduceNeg, Int.reduceMul, Int.reduceAdd, Int.reduceSub, Int.reduceToNat, Int.reducePow, e0, e1]
  refine ends_loop (fun k t H' => t.length = 36 ∧ t.getD 0 .undef = w ∧ t.getD 8 .undef = w ∧ t.getD 9 .undef = .int .i64 (m.length : Int) ∧ ∃ i : Nat, i ≤ m.length ∧ k = m.length - i ∧ t.getD 10 .undef = .int .i64 (i : Int) ∧
    ∃ o Y, t.getD 3 .undef = o ∧ H' = H ++ (X ++ Y) ∧ Pushed H H X 112 4 Rect.cs .nils [] H Y o (pruneTo m i)) m.length ?_ ?_
  · simp only [R1, R2, R3, R4, R5, R6, R7, R8, AV.flat, fillIn_nil, fillIn_cons, splice, AV.cells, AV.one, eqsOf, idx, SO.calls, List.reduceReplicate, Nat.reduceBEq, Nat.reduceLT, Nat.reduceAdd, Nat.reduceMul, Nat.reduceSub, Nat.reduceLeDiff, Nat.reduceEqDiff, ↓reduceIte, Int.reduceLT, Int.reduceEq, Int.reduceBNe, Int.reduceBEq, aeq, Int.reduceLE, Int.reduceNeg, Int.reduceMul, Int.reduceAdd, Int.reduceSub, Int.reduceToNat, Int.reducePow]
    exact ⟨0, by omega, by omega, rfl, _, [], rfl, by simp, Pushed.start Acc.start⟩
  · rintro k t H' ⟨g1, g2, g3, g4, i, hi, rfl, g5, o, Y, g6, rfl, hacc⟩
    rw [← tm_nil t]
    by_cases hc : i < m.length
    · have hne : m ≠ [] := by intro h; rw [h] at hc; simp at hc
      have e6 : ((i : Int) < (m.length : Int)) = True := eq_true (by omega)
      have e7 := wrap_i64 (x := (i : Int) + 1) (by omega) (by omega)
      have e2 := fun H' => hw.addr hc .i64 H'
      have e3 := fun Z => hw.load hc Z
      have hnth := nth_eq hc
      have hma := hmay _ (List.getElem_mem hc)
      rw [← hnth] at e3 hma
      obtain ⟨v1, q1, h1⟩ := cut_hi hw (i := i) (by omega) hne
      obtain ⟨v2, q2, h2⟩ := cut_lo hw (i := i + 1) (by omega) hne
      have hrow : (H ++ (X ++ (Y ++ [.cells (nth m i).cs 112 true])))[H.length + (X.length + Y.length)]? = some (.cells (nth m i).cs 112 true) := by
        rw [List.getElem?_append_right (by omega), Nat.add_sub_cancel_left, List.getElem?_append_right (by omega), Nat.add_sub_cancel_left]; simp
      have s1 : SlOf (H ++ (X ++ (Y ++ [.cells (nth m i).cs 112 true]))) 4 Rect.cs v1 (m.take i) := by
        have := h1.app (Y ++ [.cells (nth m i).cs 112 true])
        simpa only [List.append_assoc] using this
      have s2 : SlOf (H ++ (X ++ (Y ++ [.cells (nth m i).cs 112 true]))) 4 Rect.cs v2 (m.drop (i + 1)) := by
        have := h2.app (Y ++ [.cells (nth m i).cs 112 true])
        simpa only [List.append_assoc] using this
      have t1 := c118 s1 (f := 119) (cap := [.ptr (H.length + (X.length + Y.length)) 0]) (q := fun b => has b (nth m i))
        (fun Z r hr => c119 r _ (hmay r (List.mem_of_mem_take hr)) hma (row_app28 hrow)) (by rw [List.length_take]; omega)
      have t2 := c118 s2 (f := 120) (cap := [.ptr (H.length + (X.length + Y.length)) 0]) (q := fun b => decide (b ≠ nth m i) && has b (nth m i))
        (fun Z r hr => c120 r _ (hmay r (List.mem_of_mem_drop hr)) hma (row_app28 hrow)) (by rw [List.length_drop]; omega)
      have t1' : call env 118 [v1, .fn 119 [.ptr (H.length + (X.length + Y.length)) 0]] (H ++ (X ++ (Y ++ [.cells (nth m i).cs 112 true]))) = some (.bool (lower m i), H ++ (X ++ (Y ++ [.cells (nth m i).cs 112 true]))) := t1
      have t2' : call env 118 [v2, .fn 120 [.ptr (H.length + (X.length + Y.length)) 0]] (H ++ (X ++ (Y ++ [.cells (nth m i).cs 112 true]))) = some (.bool (upper m i), H ++ (X ++ (Y ++ [.cells (nth m i).cs 112 true]))) := t2
      have hpl := pruneTo_len m i
      have q2' : ∀ H', slcOf 4 w (some (some (i + 1))) (some none) (some none) H' = some (v2, H') := q2
      have hst : pruneTo m (i + 1) = pruneTo m i ++ (if stay m i then [nth m i] else []) := rfl
      have bn : boundOf (.int .i64 ((i : Int) + 1)) = some (some (i + 1)) := by
        have := @bound_nat .i64 (i + 1)
        push_cast at this
        exact this
      cases hlow : lower m i
      · cases hup : upper m i
        · have hsy : stay m i = true := by unfold stay; rw [hlow, hup]; rfl
          rw [hsy, if_pos rfl] at hst
          rw [hlow] at t1'
          rw [hup] at t2'
          obtain ⟨v', K', Y', e9, ha'⟩ := ((hacc.junk [.cells (nth m i).cs 112 true]).junk [.cells (nth m i).cs 112 true]).push (n := [nth m i]) (x := .sl (H.length + (X.length + (Y.length + 1))) 0 1 4 (some 1)) (by simp) (rect_size _) (rect_one _) rfl
            (by
              simp only [newOf, acells, List.append_assoc]
              rw [aload_end, aload_end, aload_end]
              simp [aload, arow, Rect.cs]) (by simp; omega)
          obtain rfl := pushed_same ha'
          rw [← hst] at ha'
          generalize nth m i = r at e3 e9 t1' t2'
          simp only [Rect.cs, R1, R2, R3, R4, R5, R6, R7, R8, AV.flat, fillIn_nil, fillIn_cons, splice, AV.cells, AV.one, eqsOf, idx, SO.calls, List.reduceReplicate, Nat.reduceBEq, Nat.reduceLT, Nat.reduceAdd, Nat.reduceMul, Nat.reduceSub, Nat.reduceLeDiff, Nat.reduceEqDiff, ↓reduceIte, Int.reduceLT, Int.reduceEq, Int.reduceBNe, Int.reduceBEq, aeq, Int.reduceLE, Int.reduceNeg, Int.reduceMul, Int.reduceAdd, Int.reduceSub, Int.reduceToNat, Int.reducePow] at e3 e9 t1' t2'
          simp only [Rect.cs, R1, R2, R3, R4, R5, R6, R7, R8, AV.flat, fillIn_nil, fillIn_cons, splice, AV.cells, AV.one, eqsOf, idx, SO.calls, List.reduceReplicate, Nat.reduceBEq, Nat.reduceLT, Nat.reduceAdd, Nat.reduceMul, Nat.reduceSub, Nat.reduceLeDiff, Nat.reduceEqDiff, ↓reduceIte, Int.reduceLT, Int.reduceEq, Int.reduceBNe, Int.reduceBEq, aeq, Int.reduceLE, Int.reduceNeg, Int.reduceMul, Int.reduceAdd, Int.reduceSub, Int.reduceToNat, Int.reducePow, sop_mkfn, bn, g1, g2, g3, g4, g5, g6, e1, e2, e3, e6, e7, e9, q1, q2', t1', t2']
          exact ⟨_, by omega, i + 1, by omega, rfl, by simp, _, Y', rfl, rfl, ha'⟩
        · have hsy : stay m i = false := by unfold stay; rw [hlow, hup]; rfl
          rw [hsy] at hst
          simp only [Bool.false_eq_true, if_false, List.append_nil] at hst
          rw [hlow] at t1'
          rw [hup] at t2'
          have ha' := hacc.junk [.cells (nth m i).cs 112 true]
          rw [← hst] at ha'
          generalize nth m i = r at e3 t1' t2' ha'
          simp only [Rect.cs, R1, R2, R3, R4, R5, R6, R7, R8, AV.flat, fillIn_nil, fillIn_cons, splice, AV.cells, AV.one, eqsOf, idx, SO.calls, List.reduceReplicate, Nat.reduceBEq, Nat.reduceLT, Nat.reduceAdd, Nat.reduceMul, Nat.reduceSub, Nat.reduceLeDiff, Nat.reduceEqDiff, ↓reduceIte, Int.reduceLT, Int.reduceEq, Int.reduceBNe, Int.reduceBEq, aeq, Int.reduceLE, Int.reduceNeg, Int.reduceMul, Int.reduceAdd, Int.reduceSub, Int.reduceToNat, Int.reducePow] at e3 t1' t2'
          simp only [Rect.cs, R1, R2, R3, R4, R5, R6, R7, R8, AV.flat, fillIn_nil, fillIn_cons, splice, AV.cells, AV.one, eqsOf, idx, SO.calls, List.reduceReplicate, Nat.reduceBEq, Nat.reduceLT, Nat.reduceAdd, Nat.reduceMul, Nat.reduceSub, Nat.reduceLeDiff, Nat.reduceEqDiff, ↓reduceIte, Int.reduceLT, Int.reduceEq, Int.reduceBNe, Int.reduceBEq, aeq, Int.reduceLE, Int.reduceNeg, Int.reduceMul, Int.reduceAdd, Int.reduceSub, Int.reduceToNat, Int.reducePow, sop_mkfn, bn, g1, g2, g3, g4, g5, g6, e1, e2, e3, e6, e7, q1, q2', t1', t2']
          exact ⟨_, by omega, i + 1, by omega, rfl, by simp, _, _, rfl, rfl, ha'⟩
      · have hsy : stay m i = false := by unfold stay; rw [hlow]; rfl
        rw [hsy] at hst
        simp only [Bool.false_eq_true, if_false, List.append_nil] at hst
        rw [hlow] at t1'
        have ha' := hacc.junk [.cells (nth m i).cs 112 true]
        rw [← hst] at ha'
        generalize nth m i = r at e3 t1' t2' ha'
        simp only [Rect.cs, R1, R2, R3, R4, R5, R6, R7, R8, AV.flat, fillIn_nil, fillIn_cons, splice, AV.cells, AV.one, eqsOf, idx, SO.calls, List.reduceReplicate, Nat.reduceBEq, Nat.reduceLT, Nat.reduceAdd, Nat.reduceMul, Nat.reduceSub, Nat.reduceLeDiff, Nat.reduceEqDiff, ↓reduceIte, Int.reduceLT, Int.reduceEq, Int.reduceBNe, Int.reduceBEq, aeq, Int.reduceLE, Int.reduceNeg, Int.reduceMul, Int.reduceAdd, Int.reduceSub, Int.reduceToNat, Int.reducePow] at e3 t1' t2'
        simp only [Rect.cs, R1, R2, R3, R4, R5, R6, R7, R8, AV.flat, fillIn_nil, fillIn_cons, splice, AV.cells, AV.one, eqsOf, idx, SO.calls, List.reduceReplicate, Nat.reduceBEq, Nat.reduceLT, Nat.reduceAdd, Nat.reduceMul, Nat.reduceSub, Nat.reduceLeDiff, Nat.reduceEqDiff, ↓reduceIte, Int.reduceLT, Int.reduceEq, Int.reduceBNe, Int.reduceBEq, aeq, Int.reduceLE, Int.reduceNeg, Int.reduceMul, Int.reduceAdd, Int.reduceSub, Int.reduceToNat, Int.reducePow, sop_mkfn, bn, g1, g2, g3, g4, g5, g6, e1, e2, e3, e6, e7, q1, q2', t1', t2']
        exact ⟨_, by omega, i + 1, by omega, rfl, by simp, _, _, rfl, rfl, ha'⟩
    · have e6 : ((i : Int) < (m.length : Int)) = False := eq_false (by omega)
      have : i = m.length := by omega
      subst this
      simp only [R1, R2, R3, R4, R5, R6, R7, R8, AV.flat, fillIn_nil, fillIn_cons, splice, AV.cells, AV.one, eqsOf, idx, SO.calls, List.reduceReplicate, Nat.reduceBEq, Nat.reduceLT, Nat.reduceAdd, Nat.reduceMul, Nat.reduceSub, Nat.reduceLeDiff, Nat.reduceEqDiff, ↓reduceIte, Int.reduceLT, Int.reduceEq, Int.reduceBNe, Int.reduceBEq, aeq, Int.reduceLE, Int.reduceNeg, Int.reduceMul, Int.reduceAdd, Int.reduceSub, Int.reduceToNat, Int.reducePow, g1, g2, g3, g4, g5, g6, e1, e6]
      have hacc2 := pushed_acc hacc
      rw [hacc2.tidy (rect_flat _)]
      rfl
end Go.Proofs.Ytkcbjeenoafbkaa
