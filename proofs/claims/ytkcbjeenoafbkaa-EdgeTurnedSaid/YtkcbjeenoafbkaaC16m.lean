/- Chapter 16: the reference's Edges; EdgeMakes, in the machine. -/
import Derived.Test.YtkcbjeenoafbkaaC16l
set_option linter.unusedVariables false
set_option linter.unusedSimpArgs false
set_option maxRecDepth 100000
set_option maxHeartbeats 2000000
namespace Go.Proofs.Ytkcbjeenoafbkaa
open Go Go.Den
theorem c16 {H : Heap} {v : AV} {l : List (List Point)} (hs : LsOf H 3 Point.cs v l) (hn : l.length ≤ 1000000) (hd : ∀ c ∈ l, c.length ≤ 1000000) (px : Int) :
    call env 16 [v, .int .i64 px] H = some (.tup [(newSl H 80 8 Edge.cs (EdgesR px l).1).1, .int .i64 (EdgesR px l).2], H ++ (newSl H 80 8 Edge.cs (EdgesR px l).1).2) := by
  have e1 := hs.lenOf
  have e2 := c24 hs hn hd
  unfold EdgesR
  by_cases hm : MayG l
  · rw [decide_eq_true hm] at e2
    by_cases hp : 1 ≤ px ∧ px ≤ 128
    · obtain ⟨p1, p2⟩ := hp
      rw [if_pos ⟨hm, p1, p2⟩]
      have b1 : (px < 1) = False := eq_false (by omega)
      have b2 : (px > 128) = False := eq_false (by omega)
      refine call_ends (fn := s16) rfl rfl (by simp [s16]) ?_
      simp only [s16, R1, R2, R3, R4, R5, R6, R7, R8, AV.flat, fillIn_nil, fillIn_cons, splice, AV.cells, AV.one, eqsOf, idx, SO.calls, List.reduceReplicate, Nat.reduceBEq, Nat.reduceLT, Nat.reduceAdd, Nat.reduceMul, Nat.reduceSub, Nat.reduceLeDiff, Nat.reduceEqDiff, ↓reduceIte, Int.reduceLT, Int.reduceEq, Int.reduceBNe, Int.reduceBEq, aeq, Int.reduceLE, Int.reduceNeg, Int.reduceMul, Int.reduceAdd, Int.reduceSub, Int.reduceToNat, Int.reducePow, e1, e2, b1, b2]
      refine ends_loop (fun k t H' => t.length = 35 ∧ t.getD 1 .undef = .int .i64 px ∧ t.getD 0 .undef = v ∧ ∃ (i : Nat) (w : AV), i ≤ l.length ∧ k = l.length - i ∧ t.getD 7 .undef = .int .i64 (i : Int) ∧ t.getD 6 .undef = w ∧ Acc H H' 80 8 Edge.cs w (edgesTo px l i)) l.length ?_ ?_
      · simp only [R1, R2, R3, R4, R5, R6, R7, R8, AV.flat, fillIn_nil, fillIn_cons, splice, AV.cells, AV.one, eqsOf, idx, SO.calls, List.reduceReplicate, Nat.reduceBEq, Nat.reduceLT, Nat.reduceAdd, Nat.reduceMul, Nat.reduceSub, Nat.reduceLeDiff, Nat.reduceEqDiff, ↓reduceIte, Int.reduceLT, Int.reduceEq, Int.reduceBNe, Int.reduceBEq, aeq, Int.reduceLE, Int.reduceNeg, Int.reduceMul, Int.reduceAdd, Int.reduceSub, Int.reduceToNat, Int.reducePow]
        exact ⟨0, .nils, by omega, by omega, rfl, rfl, Acc.start⟩
      · rintro k t H' ⟨g1, g2, g3, i, w, hi, rfl, g5, g6, ha⟩
        rw [← tm_nil t]
        by_cases hc : i < l.length
        · have a1 : ((i : Int) < (l.length : Int)) = True := eq_true (by omega)
          have w1 : IntKind.i64.wrap ((i : Int) + 1) = ((i + 1 : Nat) : Int) := by rw [wrap_i64 (by omega) (by omega)]; rfl
          obtain ⟨X, rfl⟩ := ha.above
          obtain ⟨E1, u, E2, hw⟩ := hs.at hc
          have E3 := E2 X
          have hmc := hm.2.2 _ (List.getElem_mem hc)
          have hsl := sum_le l (i + 1)
          rw [sum_suc hc] at hsl
          have hs4 := hm.2.1
          have e3 := c43 (n := (i : Int)) (hw.app X) hmc.1 (by omega) hmc.2 p1 p2
          have hL := edgesTo_len (px := px) (l := l) i
          have hcl := contour_len px (i : Int) l[i]
          obtain ⟨v', H'', ap, ha'⟩ := push_new (m := contourP px (i : Int) l[i]) edge_cel ha (by omega)
          rw [← edgesTo_suc hc] at ha'
          generalize (newSl (H ++ X) 80 8 Edge.cs (contourP px (i : Int) l[i])).1 = nv at *
          generalize (newSl (H ++ X) 80 8 Edge.cs (contourP px (i : Int) l[i])).2 = nh at *
          simp only [List.append_assoc] at e3 ap
          simp only [R1, R2, R3, R4, R5, R6, R7, R8, AV.flat, fillIn_nil, fillIn_cons, splice, AV.cells, AV.one, eqsOf, idx, SO.calls, List.reduceReplicate, Nat.reduceBEq, Nat.reduceLT, Nat.reduceAdd, Nat.reduceMul, Nat.reduceSub, Nat.reduceLeDiff, Nat.reduceEqDiff, ↓reduceIte, Int.reduceLT, Int.reduceEq, Int.reduceBNe, Int.reduceBEq, aeq, Int.reduceLE, Int.reduceNeg, Int.reduceMul, Int.reduceAdd, Int.reduceSub, Int.reduceToNat, Int.reducePow, g1, g2, g3, g5, g6, a1, w1, e1, E1, E3, e3, ap]
          exact ⟨_, by omega, i + 1, _, by omega, rfl, rfl, rfl, ha'⟩
        · have a1 : ((i : Int) < (l.length : Int)) = False := eq_false (by omega)
          obtain rfl : i = l.length := by omega
          have hall : edgesTo px l l.length = edgesFrom px 0 l := by unfold edgesTo; rw [List.take_length]
          rw [hall] at ha
          have ti := ha.tidy2 (r := [.int .i64 0]) (fun a _ => rfl) rfl
          simp only [R1, R2, R3, R4, R5, R6, R7, R8, AV.flat, fillIn_nil, fillIn_cons, splice, AV.cells, AV.one, eqsOf, idx, SO.calls, List.reduceReplicate, Nat.reduceBEq, Nat.reduceLT, Nat.reduceAdd, Nat.reduceMul, Nat.reduceSub, Nat.reduceLeDiff, Nat.reduceEqDiff, ↓reduceIte, Int.reduceLT, Int.reduceEq, Int.reduceBNe, Int.reduceBEq, aeq, Int.reduceLE, Int.reduceNeg, Int.reduceMul, Int.reduceAdd, Int.reduceSub, Int.reduceToNat, Int.reducePow, g1, g2, g3, g5, g6, a1, e1, ti]
    · rw [if_neg (fun h => hp h.2)]
      simp only [newSl, if_true, List.append_nil]
      by_cases h1 : px < 1
      · have b1 : (px < 1) = True := eq_true h1
        refine call_ends (fn := s16) rfl rfl (by simp [s16]) ?_
        simp only [s16, R1, R2, R3, R4, R5, R6, R7, R8, AV.flat, fillIn_nil, fillIn_cons, splice, AV.cells, AV.one, eqsOf, idx, SO.calls, List.reduceReplicate, Nat.reduceBEq, Nat.reduceLT, Nat.reduceAdd, Nat.reduceMul, Nat.reduceSub, Nat.reduceLeDiff, Nat.reduceEqDiff, ↓reduceIte, Int.reduceLT, Int.reduceEq, Int.reduceBNe, Int.reduceBEq, aeq, Int.reduceLE, Int.reduceNeg, Int.reduceMul, Int.reduceAdd, Int.reduceSub, Int.reduceToNat, Int.reducePow, e1, e2, b1]
      · have b1 : (px < 1) = False := eq_false h1
        have b2 : (px > 128) = True := eq_true (by omega)
        refine call_ends (fn := s16) rfl rfl (by simp [s16]) ?_
        simp only [s16, R1, R2, R3, R4, R5, R6, R7, R8, AV.flat, fillIn_nil, fillIn_cons, splice, AV.cells, AV.one, eqsOf, idx, SO.calls, List.reduceReplicate, Nat.reduceBEq, Nat.reduceLT, Nat.reduceAdd, Nat.reduceMul, Nat.reduceSub, Nat.reduceLeDiff, Nat.reduceEqDiff, ↓reduceIte, Int.reduceLT, Int.reduceEq, Int.reduceBNe, Int.reduceBEq, aeq, Int.reduceLE, Int.reduceNeg, Int.reduceMul, Int.reduceAdd, Int.reduceSub, Int.reduceToNat, Int.reducePow, e1, e2, b1, b2]
  · rw [decide_eq_false hm] at e2
    rw [if_neg (fun h => hm h.1)]
    simp only [newSl, if_true, List.append_nil]
    refine call_ends (fn := s16) rfl rfl (by simp [s16]) ?_
    simp only [s16, R1, R2, R3, R4, R5, R6, R7, R8, AV.flat, fillIn_nil, fillIn_cons, splice, AV.cells, AV.one, eqsOf, idx, SO.calls, List.reduceReplicate, Nat.reduceBEq, Nat.reduceLT, Nat.reduceAdd, Nat.reduceMul, Nat.reduceSub, Nat.reduceLeDiff, Nat.reduceEqDiff, ↓reduceIte, Int.reduceLT, Int.reduceEq, Int.reduceBNe, Int.reduceBEq, aeq, Int.reduceLE, Int.reduceNeg, Int.reduceMul, Int.reduceAdd, Int.reduceSub, Int.reduceToNat, Int.reducePow, e1, e2]
/-- Are two edges' cells the same? -/
theorem edge_aeq (a b : Edge) : aeqs [1, 0, 1, 1, 1, 1, 1, 1] a.cs b.cs = some (decide (a = b)) := by
  obtain ⟨n, q, ⟨ax, ay⟩, ⟨bx, by'⟩, ⟨cx, cy⟩⟩ := a
  obtain ⟨n2, q2, ⟨ax2, ay2⟩, ⟨bx2, by2⟩, ⟨cx2, cy2⟩⟩ := b
  simp only [Edge.cs, aeqs, if_true, Option.map_some, Option.some.injEq]
  rw [Bool.eq_iff_iff]
  simp [and_assoc]
theorem c17 {H : Heap} {v w : AV} {l m : List Edge} (hs : SlOf H 8 Edge.cs v l) (hw : SlOf H 8 Edge.cs w m) (hn : l.length ≤ 1000000) (hm : m.length ≤ 1000000) :
    call env 17 [v, w] H = some (.bool (decide (l = m)), H) := by
  have e1 := hs.lenOf
  have e2 := hw.lenOf
  by_cases hl : l.length = m.length
  · have b0 : ((l.length : Int) != (m.length : Int)) = false := by simp [hl]
    refine call_ends (fn := s17) rfl rfl (by simp [s17]) ?_
    simp only [s17, R1, R2, R3, R4, R5, R6, R7, R8, AV.flat, fillIn_nil, fillIn_cons, splice, AV.cells, AV.one, eqsOf, idx, SO.calls, List.reduceReplicate, Nat.reduceBEq, Nat.reduceLT, Nat.reduceAdd, Nat.reduceMul, Nat.reduceSub, Nat.reduceLeDiff, Nat.reduceEqDiff, ↓reduceIte, Int.reduceLT, Int.reduceEq, Int.reduceBNe, Int.reduceBEq, aeq, Int.reduceLE, Int.reduceNeg, Int.reduceMul, Int.reduceAdd, Int.reduceSub, Int.reduceToNat, Int.reducePow, e1, e2, b0]
    refine ends_loop (fun k t H' => t.length = 26 ∧ H = H' ∧ t.getD 0 .undef = v ∧ t.getD 1 .undef = w ∧ ∃ i : Nat, i ≤ l.length ∧ k = l.length - i ∧ t.getD 5 .undef = .int .i64 (i : Int) ∧ l.take i = m.take i) l.length ?_ ?_
    · simp only [R1, R2, R3, R4, R5, R6, R7, R8, AV.flat, fillIn_nil, fillIn_cons, splice, AV.cells, AV.one, eqsOf, idx, SO.calls, List.reduceReplicate, Nat.reduceBEq, Nat.reduceLT, Nat.reduceAdd, Nat.reduceMul, Nat.reduceSub, Nat.reduceLeDiff, Nat.reduceEqDiff, ↓reduceIte, Int.reduceLT, Int.reduceEq, Int.reduceBNe, Int.reduceBEq, aeq, Int.reduceLE, Int.reduceNeg, Int.reduceMul, Int.reduceAdd, Int.reduceSub, Int.reduceToNat, Int.reducePow]
      exact ⟨0, by omega, by omega, rfl, rfl⟩
    · rintro k t _ ⟨g1, rfl, g2, g3, i, hi, rfl, g5, g6⟩
      rw [← tm_nil t]
      by_cases hc : i < l.length
      · have a1 : ((i : Int) < (l.length : Int)) = True := eq_true (by omega)
        have v1 := wrap_i64 (x := (i : Int) + 1) (by omega) (by omega)
        have hc2 : i < m.length := by omega
        have E := hs.elem0 hc
        have F := hw.elem0 hc2
        have q1 := edge_aeq l[i] m[i]
        by_cases he : l[i] = m[i]
        · rw [decide_eq_true he] at q1
          have h2 : l.take (i + 1) = m.take (i + 1) := by rw [List.take_succ_eq_append_getElem hc, List.take_succ_eq_append_getElem hc2, g6, he]
          generalize l[i] = x at *
          generalize m[i] = y at *
          simp only [Edge.cs] at E F q1
          simp only [R1, R2, R3, R4, R5, R6, R7, R8, AV.flat, fillIn_nil, fillIn_cons, splice, AV.cells, AV.one, eqsOf, idx, SO.calls, List.reduceReplicate, Nat.reduceBEq, Nat.reduceLT, Nat.reduceAdd, Nat.reduceMul, Nat.reduceSub, Nat.reduceLeDiff, Nat.reduceEqDiff, ↓reduceIte, Int.reduceLT, Int.reduceEq, Int.reduceBNe, Int.reduceBEq, aeq, Int.reduceLE, Int.reduceNeg, Int.reduceMul, Int.reduceAdd, Int.reduceSub, Int.reduceToNat, Int.reducePow, g1, g2, g3, g5, e1, a1, v1, E, F, shun_un, veil_un, q1]
          exact ⟨_, by omega, i + 1, by omega, rfl, by simp, h2⟩
        · rw [decide_eq_false he] at q1
          have hno : decide (l = m) = false := decide_eq_false fun h => he (by subst h; rfl)
          rw [hno]
          generalize l[i] = x at *
          generalize m[i] = y at *
          simp only [Edge.cs] at E F q1
          simp only [R1, R2, R3, R4, R5, R6, R7, R8, AV.flat, fillIn_nil, fillIn_cons, splice, AV.cells, AV.one, eqsOf, idx, SO.calls, List.reduceReplicate, Nat.reduceBEq, Nat.reduceLT, Nat.reduceAdd, Nat.reduceMul, Nat.reduceSub, Nat.reduceLeDiff, Nat.reduceEqDiff, ↓reduceIte, Int.reduceLT, Int.reduceEq, Int.reduceBNe, Int.reduceBEq, aeq, Int.reduceLE, Int.reduceNeg, Int.reduceMul, Int.reduceAdd, Int.reduceSub, Int.reduceToNat, Int.reducePow, g1, g2, g3, g5, e1, a1, v1, E, F, shun_un, veil_un, q1, tidy_bool]
      · have a1 : ((i : Int) < (l.length : Int)) = False := eq_false (by omega)
        obtain rfl : i = l.length := by omega
        rw [List.take_length, hl, List.take_length] at g6
        rw [decide_eq_true g6]
        simp only [R1, R2, R3, R4, R5, R6, R7, R8, AV.flat, fillIn_nil, fillIn_cons, splice, AV.cells, AV.one, eqsOf, idx, SO.calls, List.reduceReplicate, Nat.reduceBEq, Nat.reduceLT, Nat.reduceAdd, Nat.reduceMul, Nat.reduceSub, Nat.reduceLeDiff, Nat.reduceEqDiff, ↓reduceIte, Int.reduceLT, Int.reduceEq, Int.reduceBNe, Int.reduceBEq, aeq, Int.reduceLE, Int.reduceNeg, Int.reduceMul, Int.reduceAdd, Int.reduceSub, Int.reduceToNat, Int.reducePow, g1, g2, g3, g5, e1, a1, tidy_bool]
  · have b0 : ((l.length : Int) != (m.length : Int)) = true := by rw [bne_iff_ne]; omega
    have hno : decide (l = m) = false := decide_eq_false fun h => hl (by rw [h])
    rw [hno]
    refine call_ends (fn := s17) rfl rfl (by simp [s17]) ?_
    simp only [s17, R1, R2, R3, R4, R5, R6, R7, R8, AV.flat, fillIn_nil, fillIn_cons, splice, AV.cells, AV.one, eqsOf, idx, SO.calls, List.reduceReplicate, Nat.reduceBEq, Nat.reduceLT, Nat.reduceAdd, Nat.reduceMul, Nat.reduceSub, Nat.reduceLeDiff, Nat.reduceEqDiff, ↓reduceIte, Int.reduceLT, Int.reduceEq, Int.reduceBNe, Int.reduceBEq, aeq, Int.reduceLE, Int.reduceNeg, Int.reduceMul, Int.reduceAdd, Int.reduceSub, Int.reduceToNat, Int.reducePow, e1, e2, b0, tidy_bool]
end Go.Proofs.Ytkcbjeenoafbkaa
