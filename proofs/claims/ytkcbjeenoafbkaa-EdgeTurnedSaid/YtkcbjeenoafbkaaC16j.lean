/- Chapter 16: Edges. -/
import Derived.Test.YtkcbjeenoafbkaaC16i
set_option linter.unusedVariables false
set_option linter.unusedSimpArgs false
set_option maxRecDepth 100000
set_option maxHeartbeats 2000000
namespace Go.Proofs.Ytkcbjeenoafbkaa
open Go Go.Den
def edgesTo (px : Int) (l : List (List Point)) (i : Nat) : List Edge := edgesFrom px 0 (l.take i)
theorem from_app (px : Int) : ∀ (x : List (List Point)) (c : List Point) (k : Nat), edgesFrom px k (x ++ [c]) = edgesFrom px k x ++ contourP px ((k + x.length : Nat) : Int) c
  | [], c, k => by simp [edgesFrom]
  | d :: x, c, k => by
    simp only [List.cons_append, edgesFrom, from_app px x c (k + 1), List.append_assoc, List.length_cons]
    rw [show k + 1 + x.length = k + (x.length + 1) by omega]
theorem edgesTo_suc {px : Int} {l : List (List Point)} {i : Nat} (h : i < l.length) : edgesTo px l (i + 1) = edgesTo px l i ++ contourP px (i : Int) l[i] := by
  unfold edgesTo
  rw [List.take_succ_eq_append_getElem h, from_app, List.length_take, Nat.min_eq_left (by omega), Nat.zero_add]
theorem from_len {px : Int} : ∀ (l : List (List Point)) (k : Nat), (edgesFrom px k l).length ≤ 2 * sumL l
  | [], k => by simp [edgesFrom]
  | c :: r, k => by
    have h1 := from_len (px := px) r (k + 1)
    have h2 := contour_len px (k : Int) c
    simp only [edgesFrom, List.length_append]
    have h3 : sumL (c :: r) = c.length + sumL r := by simp [sumL]
    omega
theorem edgesTo_len {px : Int} {l : List (List Point)} (i : Nat) : (edgesTo px l i).length ≤ 2 * sumL l := by
  have h1 := from_len (px := px) (l.take i) 0
  have h2 := sum_le l i
  unfold edgesTo; omega
/-- The edges of contours, or none of them. -/
def EdgesR (px : Int) (l : List (List Point)) : List Edge × Int := if MayG l ∧ 1 ≤ px ∧ px ≤ 128 then (edgesFrom px 0 l, 0) else ([], 1)
theorem push_new {α : Type} {H H' : Heap} {e : TypeId} {sz : Nat} {g : α → List AV} {v : AV} {l m : List α} (hg : Cel sz g) (h : Acc H H' e sz g v l) (hr : l.length + m.length ≤ 4294967296) :
    ∃ v' H'', aapp (H' ++ (newSl H' e sz g m).2) e sz v (newSl H' e sz g m).1 = some (v', H'') ∧ Acc H H'' e sz g v' (l ++ m) := by
  have hn := newSl_of (H := H') (e := e) (l := m) (fun a _ => hg.size a) hg.pos
  have hnew := slof_new hn []
  rw [List.append_nil] at hnew
  have hj := h.junk (newSl H' e sz g m).2
  by_cases hm : m = []
  · subst hm
    have hsw : v = .nils ∨ ∃ o off len sz' cap, v = .sl o off len sz' cap := by
      obtain ⟨Y, _, hy⟩ := h.heap
      rcases hy with ⟨_, h⟩ | ⟨_, o, h, _⟩
      · exact .inl h
      · exact .inr ⟨_, _, _, _, _, h⟩
    exact ⟨v, _, app_nop hn.len hnew hsw, by simpa using hj⟩
  · exact hj.push hm (fun a _ => hg.size a) (fun a _ => hg.one a) hn.len hnew hr
theorem c15 {H : Heap} {v : AV} {l : List (List Point)} (hs : LsOf H 3 Point.cs v l) (hn : l.length ≤ 1000000) (hd : ∀ c ∈ l, c.length ≤ 1000000) (px : Int) :
    call env 15 [v, .int .i64 px] H = some (.tup [(newSl H 80 8 Edge.cs (EdgesR px l).1).1, .int .i64 (EdgesR px l).2], H ++ (newSl H 80 8 Edge.cs (EdgesR px l).1).2) := by
  have e1 := hs.lenOf
  have e2 := c41 hs hn hd
  unfold EdgesR
  by_cases hm : MayG l
  · rw [decide_eq_true hm] at e2
    by_cases hp : 1 ≤ px ∧ px ≤ 128
    · obtain ⟨p1, p2⟩ := hp
      rw [if_pos ⟨hm, p1, p2⟩]
      have b1 : (px < 1) = False := eq_false (by omega)
      have b2 : (px > 128) = False := eq_false (by omega)
      refine call_ends (fn := s15) rfl rfl (by simp [s15]) ?_
      simp only [s15, R1, R2, R3, R4, R5, R6, R7, R8, AV.flat, fillIn_nil, fillIn_cons, splice, AV.cells, AV.one, eqsOf, idx, SO.calls, List.reduceReplicate, Nat.reduceBEq, Nat.reduceLT, Nat.reduceAdd, Nat.reduceMul, Nat.reduceSub, Nat.reduceLeDiff, Nat.reduceEqDiff, ↓reduceIte, Int.reduceLT, Int.reduceEq, Int.reduceBNe, Int.reduceBEq, aeq, Int.reduceLE, Int.reduceNeg, Int.reduceMul, Int.reduceAdd, Int.reduceSub, Int.reduceToNat, Int.reducePow, e1, e2, b1, b2]
      refine ends_loop (fun k t H' => t.length = 35 ∧ t.getD 1 .undef = .int .i64 px ∧ t.getD 20 .undef = v ∧ t.getD 21 .undef = .int .i64 (l.length : Int) ∧ ∃ (i : Nat) (w : AV), i ≤ l.length ∧ k = l.length - i ∧ t.getD 22 .undef = .int .i64 (i : Int) ∧ t.getD 6 .undef = w ∧ Acc H H' 80 8 Edge.cs w (edgesTo px l i)) l.length ?_ ?_
      · simp only [R1, R2, R3, R4, R5, R6, R7, R8, AV.flat, fillIn_nil, fillIn_cons, splice, AV.cells, AV.one, eqsOf, idx, SO.calls, List.reduceReplicate, Nat.reduceBEq, Nat.reduceLT, Nat.reduceAdd, Nat.reduceMul, Nat.reduceSub, Nat.reduceLeDiff, Nat.reduceEqDiff, ↓reduceIte, Int.reduceLT, Int.reduceEq, Int.reduceBNe, Int.reduceBEq, aeq, Int.reduceLE, Int.reduceNeg, Int.reduceMul, Int.reduceAdd, Int.reduceSub, Int.reduceToNat, Int.reducePow]
        exact ⟨0, .nils, by omega, by omega, rfl, rfl, Acc.start⟩
      · rintro k t H' ⟨g1, g2, g3, g4, i, w, hi, rfl, g5, g6, ha⟩
        rw [← tm_nil t]
        by_cases hc : i < l.length
        · have a1 : ((i : Int) < (l.length : Int)) = True := eq_true (by omega)
          have w1 : IntKind.i64.wrap ((i : Int) + 1) = ((i + 1 : Nat) : Int) := by rw [wrap_i64 (by omega) (by omega)]; rfl
          obtain ⟨X, rfl⟩ := ha.above
          obtain ⟨E1, u, E2, hw⟩ := hs.at hc
          have E3 := E2 X
          have hmc := hm.2.2 _ (List.getElem_mem hc)
          have hsl := sum_le l (i + 1)
          rw [sum_suc hc] at hsl
          have hs4 := hm.2.1
          have e3 := c42 (n := (i : Int)) (hw.app X) hmc.1 (by omega) hmc.2 p1 p2
          have hL := edgesTo_len (px := px) (l := l) i
          have hcl := contour_len px (i : Int) l[i]
          obtain ⟨v', H'', ap, ha'⟩ := push_new (m := contourP px (i : Int) l[i]) edge_cel ha (by omega)
          rw [← edgesTo_suc hc] at ha'
          generalize (newSl (H ++ X) 80 8 Edge.cs (contourP px (i : Int) l[i])).1 = nv at *
          generalize (newSl (H ++ X) 80 8 Edge.cs (contourP px (i : Int) l[i])).2 = nh at *
          simp only [List.append_assoc] at e3 ap
          simp only [R1, R2, R3, R4, R5, R6, R7, R8, AV.flat, fillIn_nil, fillIn_cons, splice, AV.cells, AV.one, eqsOf, idx, SO.calls, List.reduceReplicate, Nat.reduceBEq, Nat.reduceLT, Nat.reduceAdd, Nat.reduceMul, Nat.reduceSub, Nat.reduceLeDiff, Nat.reduceEqDiff, ↓reduceIte, Int.reduceLT, Int.reduceEq, Int.reduceBNe, Int.reduceBEq, aeq, Int.reduceLE, Int.reduceNeg, Int.reduceMul, Int.reduceAdd, Int.reduceSub, Int.reduceToNat, Int.reducePow, g1, g2, g3, g4, g5, g6, a1, w1, E1, E3, e3, ap]
          exact ⟨_, by omega, i + 1, _, by omega, rfl, rfl, rfl, ha'⟩
        · have a1 : ((i : Int) < (l.length : Int)) = False := eq_false (by omega)
          obtain rfl : i = l.length := by omega
          have hall : edgesTo px l l.length = edgesFrom px 0 l := by unfold edgesTo; rw [List.take_length]
          rw [hall] at ha
          have ti := ha.tidy2 (r := [.int .i64 0]) (fun a _ => rfl) rfl
          simp only [R1, R2, R3, R4, R5, R6, R7, R8, AV.flat, fillIn_nil, fillIn_cons, splice, AV.cells, AV.one, eqsOf, idx, SO.calls, List.reduceReplicate, Nat.reduceBEq, Nat.reduceLT, Nat.reduceAdd, Nat.reduceMul, Nat.reduceSub, Nat.reduceLeDiff, Nat.reduceEqDiff, ↓reduceIte, Int.reduceLT, Int.reduceEq, Int.reduceBNe, Int.reduceBEq, aeq, Int.reduceLE, Int.reduceNeg, Int.reduceMul, Int.reduceAdd, Int.reduceSub, Int.reduceToNat, Int.reducePow, g1, g2, g3, g4, g5, g6, a1, ti]
    · rw [if_neg (fun h => hp h.2)]
      simp only [newSl, if_true, List.append_nil]
      by_cases h1 : px < 1
      · have b1 : (px < 1) = True := eq_true h1
        refine call_ends (fn := s15) rfl rfl (by simp [s15]) ?_
        simp only [s15, R1, R2, R3, R4, R5, R6, R7, R8, AV.flat, fillIn_nil, fillIn_cons, splice, AV.cells, AV.one, eqsOf, idx, SO.calls, List.reduceReplicate, Nat.reduceBEq, Nat.reduceLT, Nat.reduceAdd, Nat.reduceMul, Nat.reduceSub, Nat.reduceLeDiff, Nat.reduceEqDiff, ↓reduceIte, Int.reduceLT, Int.reduceEq, Int.reduceBNe, Int.reduceBEq, aeq, Int.reduceLE, Int.reduceNeg, Int.reduceMul, Int.reduceAdd, Int.reduceSub, Int.reduceToNat, Int.reducePow, e1, e2, b1]
      · have b1 : (px < 1) = False := eq_false h1
        have b2 : (px > 128) = True := eq_true (by omega)
        refine call_ends (fn := s15) rfl rfl (by simp [s15]) ?_
        simp only [s15, R1, R2, R3, R4, R5, R6, R7, R8, AV.flat, fillIn_nil, fillIn_cons, splice, AV.cells, AV.one, eqsOf, idx, SO.calls, List.reduceReplicate, Nat.reduceBEq, Nat.reduceLT, Nat.reduceAdd, Nat.reduceMul, Nat.reduceSub, Nat.reduceLeDiff, Nat.reduceEqDiff, ↓reduceIte, Int.reduceLT, Int.reduceEq, Int.reduceBNe, Int.reduceBEq, aeq, Int.reduceLE, Int.reduceNeg, Int.reduceMul, Int.reduceAdd, Int.reduceSub, Int.reduceToNat, Int.reducePow, e1, e2, b1, b2]
  · rw [decide_eq_false hm] at e2
    rw [if_neg (fun h => hm h.1)]
    simp only [newSl, if_true, List.append_nil]
    refine call_ends (fn := s15) rfl rfl (by simp [s15]) ?_
    simp only [s15, R1, R2, R3, R4, R5, R6, R7, R8, AV.flat, fillIn_nil, fillIn_cons, splice, AV.cells, AV.one, eqsOf, idx, SO.calls, List.reduceReplicate, Nat.reduceBEq, Nat.reduceLT, Nat.reduceAdd, Nat.reduceMul, Nat.reduceSub, Nat.reduceLeDiff, Nat.reduceEqDiff, ↓reduceIte, Int.reduceLT, Int.reduceEq, Int.reduceBNe, Int.reduceBEq, aeq, Int.reduceLE, Int.reduceNeg, Int.reduceMul, Int.reduceAdd, Int.reduceSub, Int.reduceToNat, Int.reducePow, e1, e2]
end Go.Proofs.Ytkcbjeenoafbkaa
