/- Chapter 29: pack.Lay. -/
import Derived.Test.YtkcbjeenoafbkaaC29l
set_option linter.unusedVariables false
set_option linter.unusedSimpArgs false
set_option maxRecDepth 100000
set_option maxHeartbeats 8000000
namespace Go.Proofs.Ytkcbjeenoafbkaa
open Go Go.Den
theorem c34 {H : Heap} {v : AV} {l : List Sz} (hs : SlOf H 2 Sz.cs v l) (hn : l.length ≤ 40) (pw ph pad : Int) :
    ∃ w Z, call env 34 [v, .agg [.int .i64 pw, .int .i64 ph], .int .i64 pad] H = some (.tup [w, .int .i64 (layR l pw ph pad).2.1, .int .i64 (layR l pw ph pad).2.2], H ++ Z) ∧ SlOf (H ++ Z) 3 Plc.cs w (layR l pw ph pad).1 := by
  suffices h : ∃ r, call env 34 [v, .agg [.int .i64 pw, .int .i64 ph], .int .i64 pad] H = some r ∧ ∃ w Z, r = (.tup [w, .int .i64 (layR l pw ph pad).2.1, .int .i64 (layR l pw ph pad).2.2], H ++ Z) ∧ SlOf (H ++ Z) 3 Plc.cs w (layR l pw ph pad).1 by
    obtain ⟨r, h1, w, Z, rfl, h2⟩ := h
    exact ⟨w, Z, h1, h2⟩
  have l1 := hs.lenOf
  have e0 := c61 (hs.app [.cells [.int .i64 pw, .int .i64 ph] 61 true]) (by omega) pw ph pad
  refine call_endsE (fn := s34) rfl rfl (by simp [s34]) fun W hW => ?_
  have fin : ∀ (a e : Int) Z, layR l pw ph pad = ([], a, e) → W (tidy H (.tup [.nils, .int .i64 a, .int .i64 e]) (H ++ Z)) := fun a e Z hl => by
    rw [tidy_still rfl]
    exact hW _ ⟨.nils, [], by rw [hl, List.append_nil], by rw [hl]; exact SlOf.nils (by decide)⟩
  by_cases hA : askedP l pw ph pad
  rotate_left
  · rw [decide_eq_false hA] at e0
    simp only [s34, R1, R2, R3, R4, R5, R6, R7, R8, AV.flat, fillIn_nil, fillIn_cons, splice, AV.cells, AV.one, eqsOf, idx, SO.calls, List.reduceReplicate, Nat.reduceBEq, Nat.reduceLT, Nat.reduceAdd, Nat.reduceMul, Nat.reduceSub, Nat.reduceLeDiff, Nat.reduceEqDiff, ↓reduceIte, Int.reduceLT, Int.reduceEq, Int.reduceBNe, Int.reduceBEq, aeq, Int.reduceLE, Int.reduceNeg, Int.reduceMul, Int.reduceAdd, Int.reduceSub, Int.reduceToNat, Int.reducePow, e0, leftE_ret, got_some]
    exact fin 0 1 _ (lay_no hA)
  rw [decide_eq_true hA] at e0
  obtain ⟨⟨p1, p2⟩, ⟨p3, p4⟩, ⟨p5, p6⟩, p7⟩ := hA.1
  simp only [s34, R1, R2, R3, R4, R5, R6, R7, R8, AV.flat, fillIn_nil, fillIn_cons, splice, AV.cells, AV.one, eqsOf, idx, SO.calls, List.reduceReplicate, Nat.reduceBEq, Nat.reduceLT, Nat.reduceAdd, Nat.reduceMul, Nat.reduceSub, Nat.reduceLeDiff, Nat.reduceEqDiff, ↓reduceIte, Int.reduceLT, Int.reduceEq, Int.reduceBNe, Int.reduceBEq, aeq, Int.reduceLE, Int.reduceNeg, Int.reduceMul, Int.reduceAdd, Int.reduceSub, Int.reduceToNat, Int.reducePow, e0, l1]
  refine ends_loop (fun k t H' => t.length = 90 ∧ (t.getD 0 .undef = v ∧ t.getD 2 .undef = .int .i64 pad ∧ t.getD 4 .undef = .ptr H.length 0 ∧ t.getD 23 .undef = v ∧ t.getD 24 .undef = .int .i64 (l.length : Int)) ∧
    ∃ (i : Nat) (X : Heap), i ≤ l.length ∧ k = l.length - i ∧ t.getD 25 .undef = .int .i64 (i : Int) ∧ H' = H ++ (.cells [.int .i64 pw, .int .i64 ph] 61 true :: X) ∧ ∀ j, j < i → bigP l pw ph pad j = false) l.length ?_ ?_
  · simp only [R1, R2, R3, R4, R5, R6, R7, R8, AV.flat, fillIn_nil, fillIn_cons, splice, AV.cells, AV.one, eqsOf, idx, SO.calls, List.reduceReplicate, Nat.reduceBEq, Nat.reduceLT, Nat.reduceAdd, Nat.reduceMul, Nat.reduceSub, Nat.reduceLeDiff, Nat.reduceEqDiff, ↓reduceIte, Int.reduceLT, Int.reduceEq, Int.reduceBNe, Int.reduceBEq, aeq, Int.reduceLE, Int.reduceNeg, Int.reduceMul, Int.reduceAdd, Int.reduceSub, Int.reduceToNat, Int.reducePow]
    exact ⟨0, [], by omega, by omega, rfl, rfl, fun j hj => by omega⟩
  rintro k t _ ⟨g1, ⟨g2, g3, g4, g5, g6⟩, i, X, hi, rfl, g7, rfl, hnb⟩
  rw [← tm_nil t]
  by_cases hc : i < l.length
  · have a1 : ((i : Int) < (l.length : Int)) = True := eq_true (by omega)
    have w1 : IntKind.i64.wrap ((i : Int) + 1) = ((i + 1 : Nat) : Int) := by rw [wrap_i64 (by omega) (by omega)]; rfl
    have E := hs.elem hc
    have hsz : l[i] = szAt l i := by unfold szAt; simp [List.getD, hc]
    have hr := hA.2 l[i] (List.getElem_mem hc)
    have hbd : bigP l pw ph pad i = (decide ((szAt l i).w > 0) && (decide ((szAt l i).w + pad > pw) || decide ((szAt l i).h + pad > ph))) := rfl
    have hst : bigP l pw ph pad i = true → ∀ Z, W (tidy H (.tup [.nils, .int .i64 (i : Int), .int .i64 11]) (H ++ Z)) := fun h Z => fin _ _ Z (lay_big hA (firstBig_at hc hnb h))
    have hgo : bigP l pw ph pad i = false → ∀ j, j < i + 1 → bigP l pw ph pad j = false := fun h j hj => by
      by_cases hji : j = i
      · subst hji; exact h
      · exact hnb j (by omega)
    rw [hsz] at E hr
    generalize szAt l i = s at *
    have hb : 0 ≤ s.w ∧ s.w ≤ 1024 ∧ 0 ≤ s.h ∧ s.h ≤ 1024 := by rcases hr with h | h <;> omega
    have e1 := fun H => c62 s pad H (by omega)
    simp only [Sz.cs] at E e1
    by_cases h0 : s.w > 0
    rotate_left
    · have hbf : bigP l pw ph pad i = false := by rw [hbd, decide_eq_false h0]; rfl
      simp only [R1, R2, R3, R4, R5, R6, R7, R8, AV.flat, fillIn_nil, fillIn_cons, splice, AV.cells, AV.one, eqsOf, idx, SO.calls, List.reduceReplicate, Nat.reduceBEq, Nat.reduceLT, Nat.reduceAdd, Nat.reduceMul, Nat.reduceSub, Nat.reduceLeDiff, Nat.reduceEqDiff, ↓reduceIte, Int.reduceLT, Int.reduceEq, Int.reduceBNe, Int.reduceBEq, aeq, Int.reduceLE, Int.reduceNeg, Int.reduceMul, Int.reduceAdd, Int.reduceSub, Int.reduceToNat, Int.reducePow, g1, g2, g3, g4, g5, g6, g7, a1, w1, E, e1, eq_false h0]
      exact ⟨_, by omega, i + 1, _, by omega, rfl, rfl, rfl, hgo hbf⟩
    by_cases h1 : s.w + pad > pw
    · have hbt : bigP l pw ph pad i = true := by rw [hbd, decide_eq_true h0, decide_eq_true h1]; rfl
      simp only [R1, R2, R3, R4, R5, R6, R7, R8, AV.flat, fillIn_nil, fillIn_cons, splice, AV.cells, AV.one, eqsOf, idx, SO.calls, List.reduceReplicate, Nat.reduceBEq, Nat.reduceLT, Nat.reduceAdd, Nat.reduceMul, Nat.reduceSub, Nat.reduceLeDiff, Nat.reduceEqDiff, ↓reduceIte, Int.reduceLT, Int.reduceEq, Int.reduceBNe, Int.reduceBEq, aeq, Int.reduceLE, Int.reduceNeg, Int.reduceMul, Int.reduceAdd, Int.reduceSub, Int.reduceToNat, Int.reducePow, g1, g2, g3, g4, g5, g6, g7, a1, w1, E, e1, eq_true h0, eq_true h1, leftE_ret, got_some]
      exact hst hbt _
    by_cases h2 : s.h + pad > ph
    · have hbt : bigP l pw ph pad i = true := by rw [hbd, decide_eq_true h0, decide_eq_false h1, decide_eq_true h2]; rfl
      simp only [R1, R2, R3, R4, R5, R6, R7, R8, AV.flat, fillIn_nil, fillIn_cons, splice, AV.cells, AV.one, eqsOf, idx, SO.calls, List.reduceReplicate, Nat.reduceBEq, Nat.reduceLT, Nat.reduceAdd, Nat.reduceMul, Nat.reduceSub, Nat.reduceLeDiff, Nat.reduceEqDiff, ↓reduceIte, Int.reduceLT, Int.reduceEq, Int.reduceBNe, Int.reduceBEq, aeq, Int.reduceLE, Int.reduceNeg, Int.reduceMul, Int.reduceAdd, Int.reduceSub, Int.reduceToNat, Int.reducePow, g1, g2, g3, g4, g5, g6, g7, a1, w1, E, e1, eq_true h0, eq_false h1, eq_true h2, leftE_ret, got_some]
      exact hst hbt _
    · have hbf : bigP l pw ph pad i = false := by rw [hbd, decide_eq_true h0, decide_eq_false h1, decide_eq_false h2]; rfl
      simp only [R1, R2, R3, R4, R5, R6, R7, R8, AV.flat, fillIn_nil, fillIn_cons, splice, AV.cells, AV.one, eqsOf, idx, SO.calls, List.reduceReplicate, Nat.reduceBEq, Nat.reduceLT, Nat.reduceAdd, Nat.reduceMul, Nat.reduceSub, Nat.reduceLeDiff, Nat.reduceEqDiff, ↓reduceIte, Int.reduceLT, Int.reduceEq, Int.reduceBNe, Int.reduceBEq, aeq, Int.reduceLE, Int.reduceNeg, Int.reduceMul, Int.reduceAdd, Int.reduceSub, Int.reduceToNat, Int.reducePow, g1, g2, g3, g4, g5, g6, g7, a1, w1, E, e1, eq_true h0, eq_false h1, eq_false h2]
      exact ⟨_, by omega, i + 1, _, by omega, rfl, rfl, rfl, hgo hbf⟩
  have a1 : ((i : Int) < (l.length : Int)) = False := eq_false (by omega)
  obtain rfl : i = l.length := by omega
  have hno := firstBig_no hnb
  have m3 := fun H => @mk3 l.length (by omega) H
  simp only [R1, R2, R3, R4, R5, R6, R7, R8, AV.flat, fillIn_nil, fillIn_cons, splice, AV.cells, AV.one, eqsOf, idx, SO.calls, List.reduceReplicate, Nat.reduceBEq, Nat.reduceLT, Nat.reduceAdd, Nat.reduceMul, Nat.reduceSub, Nat.reduceLeDiff, Nat.reduceEqDiff, ↓reduceIte, Int.reduceLT, Int.reduceEq, Int.reduceBNe, Int.reduceBEq, aeq, Int.reduceLE, Int.reduceNeg, Int.reduceMul, Int.reduceAdd, Int.reduceSub, Int.reduceToNat, Int.reducePow, g1, g2, g3, g4, g5, g6, g7, a1, l1, m3]
  refine ends_loop (fun k t H' => t.length = 90 ∧ (t.getD 2 .undef = .int .i64 pad ∧ t.getD 12 .undef = .ptr (H.length + (X.length + 1)) 0 ∧ t.getD 13 .undef = .sl (H.length + (X.length + 1 + 1)) 0 l.length 3 (some l.length) ∧ t.getD 58 .undef = v ∧ t.getD 59 .undef = .int .i64 (l.length : Int)) ∧
    ∃ (i : Nat) (Y : Heap) (ps : List (List Rect)) (out : List Plc), i ≤ l.length ∧ k = l.length - i ∧ t.getD 60 .undef = .int .i64 (i : Int) ∧ H' = H ++ (.cells [.int .i64 pw, .int .i64 ph] 61 true :: (X ++ Y)) ∧
      Y[1]? = some (AO.cells (outC out l.length) 76 true) ∧ PS (H ++ (.cells [.int .i64 pw, .int .i64 ph] 61 true :: (X ++ Y))) (H.length + (X.length + 1)) (H.length + (X.length + 1)) pw ph ps ∧ layTo l pw ph pad i = some (ps, out)) l.length ?_ ?_
  · simp only [R1, R2, R3, R4, R5, R6, R7, R8, AV.flat, fillIn_nil, fillIn_cons, splice, AV.cells, AV.one, eqsOf, idx, SO.calls, List.reduceReplicate, Nat.reduceBEq, Nat.reduceLT, Nat.reduceAdd, Nat.reduceMul, Nat.reduceSub, Nat.reduceLeDiff, Nat.reduceEqDiff, ↓reduceIte, Int.reduceLT, Int.reduceEq, Int.reduceBNe, Int.reduceBEq, aeq, Int.reduceLE, Int.reduceNeg, Int.reduceMul, Int.reduceAdd, Int.reduceSub, Int.reduceToNat, Int.reducePow, g1, g2, g3, g4, g5, g6, g7]
    refine ⟨0, _, [], [], by omega, by omega, rfl, rfl, rfl, ⟨Nat.le_refl _, .nils, ?_, .inl ⟨rfl, rfl⟩⟩, rfl⟩
    have := @mid_at H X [.cells [.int .i64 pw, .int .i64 ph, .nils] 106 true, .cells (outC [] l.length) 76 true] (.cells [.int .i64 pw, .int .i64 ph] 61 true) 0
    rw [Nat.add_zero] at this
    rw [this]; rfl
  clear g1 g2 g3 g4 g5 g6 g7 a1
  rintro k t _ ⟨g1, ⟨g2, g3, g4, g5, g6⟩, i, Y, ps, out, hi, rfl, g7, rfl, hY, hPS, hlay⟩
  rw [← tm_nil t]
  have hol := layTo_len hlay
  by_cases hc : i < l.length
  · have a1 : ((i : Int) < (l.length : Int)) = True := eq_true (by omega)
    have w1 : IntKind.i64.wrap ((i : Int) + 1) = ((i + 1 : Nat) : Int) := by rw [wrap_i64 (by omega) (by omega)]; rfl
    have E := hs.elem hc
    have hsz : l[i] = szAt l i := by unfold szAt; simp [List.getD, hc]
    have hr := hA.2 l[i] (List.getElem_mem hc)
    have hstep : layTo l pw ph pad (i + 1) = if (szAt l i).w = 0 then some (ps, out ++ [⟨0, 0, 0⟩]) else match layP ps pw ph ((szAt l i).w + pad) ((szAt l i).h + pad) with
        | none => none
        | some (k, r, ps') => some (ps', out ++ [⟨(k : Int), r.x, r.y⟩]) := by rw [layTo, hlay]; rfl
    have hbig := hnb i hc
    have hbd : bigP l pw ph pad i = (decide ((szAt l i).w > 0) && (decide ((szAt l i).w + pad > pw) || decide ((szAt l i).h + pad > ph))) := rfl
    rw [hbd] at hbig
    rw [hsz] at E hr
    generalize szAt l i = s at *
    have hb : 0 ≤ s.w ∧ s.w ≤ 1024 ∧ 0 ≤ s.h ∧ s.h ≤ 1024 := by rcases hr with h | h <;> omega
    have e1 := fun H => c62 s pad H (by omega)
    simp only [Sz.cs] at E e1
    by_cases h0 : s.w = 0
    · have c1 : (s.w == 0) = true := by rw [beq_iff_eq]; exact h0
      rw [if_pos h0] at hstep
      have hPS' := hPS.app [.cells [.int .i64 s.w, .int .i64 s.h] 61 true]
      simp only [List.append_assoc, List.cons_append] at hPS'
      simp only [R1, R2, R3, R4, R5, R6, R7, R8, AV.flat, fillIn_nil, fillIn_cons, splice, AV.cells, AV.one, eqsOf, idx, SO.calls, List.reduceReplicate, Nat.reduceBEq, Nat.reduceLT, Nat.reduceAdd, Nat.reduceMul, Nat.reduceSub, Nat.reduceLeDiff, Nat.reduceEqDiff, ↓reduceIte, Int.reduceLT, Int.reduceEq, Int.reduceBNe, Int.reduceBEq, aeq, Int.reduceLE, Int.reduceNeg, Int.reduceMul, Int.reduceAdd, Int.reduceSub, Int.reduceToNat, Int.reducePow, g1, g2, g3, g4, g5, g6, g7, a1, w1, E, c1]
      exact ⟨_, by omega, i + 1, _, ps, _, by omega, rfl, rfl, rfl, by rw [show (⟨0, 0, 0⟩ : Plc) = z3 from rfl, outC_skip (by omega)]; exact getElem?_keep hY, hPS', hstep⟩
    have c1 : (s.w == 0) = false := by rw [beq_eq_false_iff_ne]; exact h0
    rw [if_neg h0] at hstep
    have hs2 : (1 ≤ s.w ∧ s.w ≤ 1024) ∧ 1 ≤ s.h ∧ s.h ≤ 1024 := hr.resolve_left fun h => h0 h.1
    have hbig2 : s.w + pad ≤ pw ∧ s.h + pad ≤ ph := by
      simp only [Bool.and_eq_false_iff, Bool.or_eq_false_iff, decide_eq_false_iff_not] at hbig
      omega
    have inv := inv_all hA hnb (i := i) (by omega) hlay
    have hfew := fun k => few_pieces (by omega) hlay k
    obtain ⟨r, e2, hr2⟩ := c63 (hPS.app [.cells [.int .i64 s.w, .int .i64 s.h] 61 true]) (by simp) inv.few (fun k => ⟨by have := hfew k; omega, fun f hf => ((inv.free k f hf).1).1⟩) (w := s.w + pad) (h := s.h + pad) (by omega) (by omega)
    simp only [List.append_assoc, List.cons_append] at e2 hr2
    cases hlp : layP ps pw ph (s.w + pad) (s.h + pad) with
    | none =>
      rw [hlp] at hr2 hstep
      have hr2 : r = _ := hr2
      subst hr2
      have hR := lay_full hA hno (layTo_up hstep (show i + 1 ≤ l.length by omega))
      simp only [R1, R2, R3, R4, R5, R6, R7, R8, AV.flat, fillIn_nil, fillIn_cons, splice, AV.cells, AV.one, eqsOf, idx, SO.calls, List.reduceReplicate, Nat.reduceBEq, Nat.reduceLT, Nat.reduceAdd, Nat.reduceMul, Nat.reduceSub, Nat.reduceLeDiff, Nat.reduceEqDiff, ↓reduceIte, Int.reduceLT, Int.reduceEq, Int.reduceBNe, Int.reduceBEq, aeq, Int.reduceLE, Int.reduceNeg, Int.reduceMul, Int.reduceAdd, Int.reduceSub, Int.reduceToNat, Int.reducePow, g1, g2, g3, g4, g5, g6, g7, a1, w1, E, c1, e1, e2, leftE_ret, got_some]
      exact fin 0 10 _ hR
    | some q =>
      obtain ⟨kk, q, ps'⟩ := q
      rw [hlp] at hr2 hstep
      obtain ⟨K, rfl, hP2, hk⟩ := hr2
      have hk2 : KeepP (H.length + (X.length + 1)) ((H ++ (.cells [.int .i64 pw, .int .i64 ph] 61 true :: X)) ++ (Y ++ [.cells [.int .i64 s.w, .int .i64 s.h] 61 true])) K := by
        simpa only [List.append_assoc, List.cons_append] using hk
      obtain ⟨Y', rfl⟩ := hk2.pre (by simp)
      simp only [List.append_assoc, List.cons_append] at hk hP2 e2
      have hY' : Y'[1]? = some (AO.cells (outC out l.length) 76 true) := by
        rw [← @mid_at H X Y' (.cells [.int .i64 pw, .int .i64 ph] 61 true) 1]
        refine hk.2.2 _ _ _ _ (by decide) (by decide) ?_
        rw [mid_at]
        exact getElem?_keep hY
      have est : ∀ Z, astore (H ++ (.cells [.int .i64 pw, .int .i64 ph] 61 true :: (X ++ (Y' ++ Z)))) (.ptr (H.length + (X.length + 1 + 1)) (i * 3)) [.int .i64 (kk : Int), .int .i64 q.x, .int .i64 q.y] =
          some (H ++ (.cells [.int .i64 pw, .int .i64 ph] 61 true :: (X ++ (Y'.set 1 (AO.cells (outC (out ++ [⟨(kk : Int), q.x, q.y⟩]) l.length) 76 true) ++ Z)))) := fun Z => by
        have h1 : (H ++ (.cells [.int .i64 pw, .int .i64 ph] 61 true :: (X ++ (Y' ++ Z))))[H.length + (X.length + 1) + 1]? = some (AO.cells (outC out l.length) 76 true) := by
          rw [mid_at]; exact getElem?_keep hY'
        rw [show H.length + (X.length + 1 + 1) = H.length + (X.length + 1) + 1 by omega, astore_row h1, if_pos ⟨by rw [outC_len (by omega)]; simp; omega, rfl⟩, mid_set, List.set_append_left _ _ (get_lt hY')]
        have := outC_set (n := l.length) hol (by omega) ⟨(kk : Int), q.x, q.y⟩
        simp only [Plc.cs] at this
        rw [this]
      have hP3 : PS (H ++ (.cells [.int .i64 pw, .int .i64 ph] 61 true :: (X ++ (Y'.set 1 (AO.cells (outC (out ++ [⟨(kk : Int), q.x, q.y⟩]) l.length) 76 true) ++ [.cells [.int .i64 (kk : Int), .int .i64 q.x, .int .i64 q.y] 76 true])))) (H.length + (X.length + 1)) (H.length + (X.length + 1)) pw ph ps' := by
        have := (hP2.other (j := H.length + (X.length + 1) + 1) (r' := outC (out ++ [⟨(kk : Int), q.x, q.y⟩]) l.length) (by rw [mid_at]; exact hY') (by decide) (by decide) (by decide)).app [.cells [.int .i64 (kk : Int), .int .i64 q.x, .int .i64 q.y] 76 true]
        rw [mid_set] at this
        simpa only [List.append_assoc, List.cons_append] using this
      have hix : (0 ≤ (i : Int) ∧ (i : Int) < (l.length : Int)) = True := eq_true (by omega)
      simp only [R1, R2, R3, R4, R5, R6, R7, R8, AV.flat, fillIn_nil, fillIn_cons, splice, AV.cells, AV.one, eqsOf, idx, SO.calls, List.reduceReplicate, Nat.reduceBEq, Nat.reduceLT, Nat.reduceAdd, Nat.reduceMul, Nat.reduceSub, Nat.reduceLeDiff, Nat.reduceEqDiff, ↓reduceIte, Int.reduceLT, Int.reduceEq, Int.reduceBNe, Int.reduceBEq, aeq, Int.reduceLE, Int.reduceNeg, Int.reduceMul, Int.reduceAdd, Int.reduceSub, Int.reduceToNat, Int.reducePow, g1, g2, g3, g4, g5, g6, g7, a1, w1, E, c1, e1, e2, est, hix]
      exact ⟨_, by omega, i + 1, _, ps', _, by omega, rfl, rfl, rfl, by rw [List.getElem?_append_left (by rw [List.length_set]; exact get_lt hY'), List.getElem?_set_self (get_lt hY')], hP3, hstep⟩
  have a1 : ((i : Int) < (l.length : Int)) = False := eq_false (by omega)
  obtain rfl : i = l.length := by omega
  have hR := lay_ok hA hno hlay
  obtain ⟨_, vv, hrow, hPF⟩ := hPS
  have ldv : aload (H ++ (.cells [.int .i64 pw, .int .i64 ph] 61 true :: (X ++ Y))) 1 (.ptr (H.length + (X.length + 1)) 2) = some [vv] := by rw [aload_row hrow]; rfl
  have l2 := hPF.lenOf
  have ht := fun r hr => tidy_sl (H := H) (X := .cells [.int .i64 pw, .int .i64 ph] 61 true :: (X ++ Y)) (k := X.length + 1 + 1) (off := 0) (len := l.length) (sz := 3) (cap := some l.length) (l := outC out l.length) (e := 76) (w := true) (r := r) (by
    rw [show X.length + 1 + 1 = (X.length + 1) + 1 by omega, List.getElem?_cons_succ, List.getElem?_append_right (by omega), Nat.add_sub_cancel_left]; exact hY) (by
    unfold outC
    simp only [List.all_flatMap, List.all_eq_true]
    intro a _ x hx
    simp [Plc.cs] at hx
    rcases hx with rfl | rfl | rfl <;> rfl) (by rw [outC_len (by omega)]; omega) hr
  simp only [R1, R2, R3, R4, R5, R6, R7, R8, AV.flat, fillIn_nil, fillIn_cons, splice, AV.cells, AV.one, eqsOf, idx, SO.calls, List.reduceReplicate, Nat.reduceBEq, Nat.reduceLT, Nat.reduceAdd, Nat.reduceMul, Nat.reduceSub, Nat.reduceLeDiff, Nat.reduceEqDiff, ↓reduceIte, Int.reduceLT, Int.reduceEq, Int.reduceBNe, Int.reduceBEq, aeq, Int.reduceLE, Int.reduceNeg, Int.reduceMul, Int.reduceAdd, Int.reduceSub, Int.reduceToNat, Int.reducePow, g1, g2, g3, g4, g5, g6, g7, a1, ldv, l2, leftE_ret, got_some]
  rw [ht _ rfl]
  refine hW _ ⟨_, _, by rw [hR], ?_⟩
  rw [hR, List.drop_zero, List.take_of_length_le (by rw [outC_len (by omega)]; exact Nat.le_refl _), outC_full hol, ← hol]
  exact SlOf.row (plc_size out) (by decide)
end Go.Proofs.Ytkcbjeenoafbkaa
