/- Chapter 29: the reference's Lay, walked. -/
import Derived.Test.YtkcbjeenoafbkaaC29r
import Derived.Test.YtkcbjeenoafbkaaC28k
set_option linter.unusedVariables false
set_option linter.unusedSimpArgs false
set_option maxRecDepth 100000
set_option maxHeartbeats 8000000
namespace Go.Proofs.Ytkcbjeenoafbkaa
open Go Go.Den
theorem c35 {H : Heap} {v : AV} {l : List Sz} (hs : SlOf H 2 Sz.cs v l) (hn : l.length ≤ 40) (pw ph pad : Int) :
    ∃ w Z, call env 35 [v, .agg [.int .i64 pw, .int .i64 ph], .int .i64 pad] H = some (.tup [w, .int .i64 (layR l pw ph pad).2.1, .int .i64 (layR l pw ph pad).2.2], H ++ Z) ∧ SlOf (H ++ Z) 3 Plc.cs w (layR l pw ph pad).1 := by
  suffices h : ∃ r, call env 35 [v, .agg [.int .i64 pw, .int .i64 ph], .int .i64 pad] H = some r ∧ ∃ w Z, r = (.tup [w, .int .i64 (layR l pw ph pad).2.1, .int .i64 (layR l pw ph pad).2.2], H ++ Z) ∧ SlOf (H ++ Z) 3 Plc.cs w (layR l pw ph pad).1 by
    obtain ⟨r, h1, w, Z, rfl, h2⟩ := h
    exact ⟨w, Z, h1, h2⟩
  have l1 := hs.lenOf
  have e0 := c64 (hs.app [.cells [.int .i64 pw, .int .i64 ph] 61 true]) (by omega) pw ph pad
  refine call_endsE (fn := s35) rfl rfl (by simp [s35]) fun W hW => ?_
  have fin : ∀ (a e : Int) Z, layR l pw ph pad = ([], a, e) → W (tidy H (.tup [.nils, .int .i64 a, .int .i64 e]) (H ++ Z)) := fun a e Z hl => by
    rw [tidy_still rfl]
    exact hW _ ⟨.nils, [], by rw [hl, List.append_nil], by rw [hl]; exact SlOf.nils (by decide)⟩
  by_cases hA : askedP l pw ph pad
  rotate_left
  · rw [decide_eq_false hA] at e0
    simp only [s35, R1, R2, R3, R4, R5, R6, R7, R8, AV.flat, fillIn_nil, fillIn_cons, splice, AV.cells, AV.one, eqsOf, idx, SO.calls, List.reduceReplicate, Nat.reduceBEq, Nat.reduceLT, Nat.reduceAdd, Nat.reduceMul, Nat.reduceSub, Nat.reduceLeDiff, Nat.reduceEqDiff, ↓reduceIte, Int.reduceLT, Int.reduceEq, Int.reduceBNe, Int.reduceBEq, aeq, Int.reduceLE, Int.reduceNeg, Int.reduceMul, Int.reduceAdd, Int.reduceSub, Int.reduceToNat, Int.reducePow, e0, leftE_ret, got_some]
    exact fin 0 1 _ (lay_no hA)
  rw [decide_eq_true hA] at e0
  obtain ⟨⟨p1, p2⟩, ⟨p3, p4⟩, ⟨p5, p6⟩, p7⟩ := hA.1
  simp only [s35, R1, R2, R3, R4, R5, R6, R7, R8, AV.flat, fillIn_nil, fillIn_cons, splice, AV.cells, AV.one, eqsOf, idx, SO.calls, List.reduceReplicate, Nat.reduceBEq, Nat.reduceLT, Nat.reduceAdd, Nat.reduceMul, Nat.reduceSub, Nat.reduceLeDiff, Nat.reduceEqDiff, ↓reduceIte, Int.reduceLT, Int.reduceEq, Int.reduceBNe, Int.reduceBEq, aeq, Int.reduceLE, Int.reduceNeg, Int.reduceMul, Int.reduceAdd, Int.reduceSub, Int.reduceToNat, Int.reducePow, e0]
  refine ends_loop (fun k t H' => t.length = 161 ∧ (t.getD 0 .undef = v ∧ t.getD 2 .undef = .int .i64 pad ∧ t.getD 4 .undef = .ptr H.length 0) ∧
    ∃ (i : Nat), i ≤ l.length ∧ k = l.length - i ∧ t.getD 9 .undef = .int .i64 (i : Int) ∧ H' = H ++ [.cells [.int .i64 pw, .int .i64 ph] 61 true] ∧ ∀ j, j < i → bigP l pw ph pad j = false) l.length ?_ ?_
  · simp only [R1, R2, R3, R4, R5, R6, R7, R8, AV.flat, fillIn_nil, fillIn_cons, splice, AV.cells, AV.one, eqsOf, idx, SO.calls, List.reduceReplicate, Nat.reduceBEq, Nat.reduceLT, Nat.reduceAdd, Nat.reduceMul, Nat.reduceSub, Nat.reduceLeDiff, Nat.reduceEqDiff, ↓reduceIte, Int.reduceLT, Int.reduceEq, Int.reduceBNe, Int.reduceBEq, aeq, Int.reduceLE, Int.reduceNeg, Int.reduceMul, Int.reduceAdd, Int.reduceSub, Int.reduceToNat, Int.reducePow]
    exact ⟨0, by omega, by omega, rfl, fun j hj => by omega⟩
  rintro k t _ ⟨g1, ⟨g2, g3, g4⟩, i, hi, rfl, g7, rfl, hnb⟩
  rw [← tm_nil t]
  by_cases hc : i < l.length
  · have a1 : ((i : Int) < (l.length : Int)) = True := eq_true (by omega)
    have w1 : IntKind.i64.wrap ((i : Int) + 1) = ((i + 1 : Nat) : Int) := by rw [wrap_i64 (by omega) (by omega)]; rfl
    have E := hs.elem hc
    have hsz : l[i] = szAt l i := by unfold szAt; simp [List.getD, hc]
    have hr := hA.2 l[i] (List.getElem_mem hc)
    have hbd : bigP l pw ph pad i = (decide ((szAt l i).w > 0) && (decide ((szAt l i).w + pad > pw) || decide ((szAt l i).h + pad > ph))) := rfl
    have hst : bigP l pw ph pad i = true → ∀ Z, W (tidy H (.tup [.nils, .int .i64 (i : Int), .int .i64 11]) (H ++ Z)) := fun h Z => fin _ _ Z (lay_big hA (firstBig_at hc hnb h))
    have hgo : bigP l pw ph pad i = false → ∀ j, j < i + 1 → bigP l pw ph pad j = false := fun h j hj => by
      by_cases hji : j = i
      · subst hji; exact h
      · exact hnb j (by omega)
    rw [hsz] at E hr
    generalize szAt l i = s at *
    have hb : 0 ≤ s.w ∧ s.w ≤ 1024 ∧ 0 ≤ s.h ∧ s.h ≤ 1024 := by rcases hr with h | h <;> omega
    have w2 := wrap_i64 (x := s.w + pad) (by omega) (by omega)
    have w3 := wrap_i64 (x := s.h + pad) (by omega) (by omega)
    simp only [Sz.cs] at E
    by_cases h0 : s.w > 0
    rotate_left
    · have hbf : bigP l pw ph pad i = false := by rw [hbd, decide_eq_false h0]; rfl
      simp only [R1, R2, R3, R4, R5, R6, R7, R8, AV.flat, fillIn_nil, fillIn_cons, splice, AV.cells, AV.one, eqsOf, idx, SO.calls, List.reduceReplicate, Nat.reduceBEq, Nat.reduceLT, Nat.reduceAdd, Nat.reduceMul, Nat.reduceSub, Nat.reduceLeDiff, Nat.reduceEqDiff, ↓reduceIte, Int.reduceLT, Int.reduceEq, Int.reduceBNe, Int.reduceBEq, aeq, Int.reduceLE, Int.reduceNeg, Int.reduceMul, Int.reduceAdd, Int.reduceSub, Int.reduceToNat, Int.reducePow, g1, g2, g3, g4, g7, l1, a1, w1, w2, w3, E, eq_false h0]
      exact ⟨_, by omega, i + 1, by omega, rfl, rfl, hgo hbf⟩
    by_cases h1 : s.w + pad > pw
    · have hbt : bigP l pw ph pad i = true := by rw [hbd, decide_eq_true h0, decide_eq_true h1]; rfl
      simp only [R1, R2, R3, R4, R5, R6, R7, R8, AV.flat, fillIn_nil, fillIn_cons, splice, AV.cells, AV.one, eqsOf, idx, SO.calls, List.reduceReplicate, Nat.reduceBEq, Nat.reduceLT, Nat.reduceAdd, Nat.reduceMul, Nat.reduceSub, Nat.reduceLeDiff, Nat.reduceEqDiff, ↓reduceIte, Int.reduceLT, Int.reduceEq, Int.reduceBNe, Int.reduceBEq, aeq, Int.reduceLE, Int.reduceNeg, Int.reduceMul, Int.reduceAdd, Int.reduceSub, Int.reduceToNat, Int.reducePow, g1, g2, g3, g4, g7, l1, a1, w1, w2, w3, E, eq_true h0, eq_true h1, leftE_ret, got_some]
      exact hst hbt _
    by_cases h2 : s.h + pad > ph
    · have hbt : bigP l pw ph pad i = true := by rw [hbd, decide_eq_true h0, decide_eq_false h1, decide_eq_true h2]; rfl
      simp only [R1, R2, R3, R4, R5, R6, R7, R8, AV.flat, fillIn_nil, fillIn_cons, splice, AV.cells, AV.one, eqsOf, idx, SO.calls, List.reduceReplicate, Nat.reduceBEq, Nat.reduceLT, Nat.reduceAdd, Nat.reduceMul, Nat.reduceSub, Nat.reduceLeDiff, Nat.reduceEqDiff, ↓reduceIte, Int.reduceLT, Int.reduceEq, Int.reduceBNe, Int.reduceBEq, aeq, Int.reduceLE, Int.reduceNeg, Int.reduceMul, Int.reduceAdd, Int.reduceSub, Int.reduceToNat, Int.reducePow, g1, g2, g3, g4, g7, l1, a1, w1, w2, w3, E, eq_true h0, eq_false h1, eq_true h2, leftE_ret, got_some]
      exact hst hbt _
    · have hbf : bigP l pw ph pad i = false := by rw [hbd, decide_eq_true h0, decide_eq_false h1, decide_eq_false h2]; rfl
      simp only [R1, R2, R3, R4, R5, R6, R7, R8, AV.flat, fillIn_nil, fillIn_cons, splice, AV.cells, AV.one, eqsOf, idx, SO.calls, List.reduceReplicate, Nat.reduceBEq, Nat.reduceLT, Nat.reduceAdd, Nat.reduceMul, Nat.reduceSub, Nat.reduceLeDiff, Nat.reduceEqDiff, ↓reduceIte, Int.reduceLT, Int.reduceEq, Int.reduceBNe, Int.reduceBEq, aeq, Int.reduceLE, Int.reduceNeg, Int.reduceMul, Int.reduceAdd, Int.reduceSub, Int.reduceToNat, Int.reducePow, g1, g2, g3, g4, g7, l1, a1, w1, w2, w3, E, eq_true h0, eq_false h1, eq_false h2]
      exact ⟨_, by omega, i + 1, by omega, rfl, rfl, hgo hbf⟩
  have a1 : ((i : Int) < (l.length : Int)) = False := eq_false (by omega)
  obtain rfl : i = l.length := by omega
  have hno := firstBig_no hnb
  simp only [R1, R2, R3, R4, R5, R6, R7, R8, AV.flat, fillIn_nil, fillIn_cons, splice, AV.cells, AV.one, eqsOf, idx, SO.calls, List.reduceReplicate, Nat.reduceBEq, Nat.reduceLT, Nat.reduceAdd, Nat.reduceMul, Nat.reduceSub, Nat.reduceLeDiff, Nat.reduceEqDiff, ↓reduceIte, Int.reduceLT, Int.reduceEq, Int.reduceBNe, Int.reduceBEq, aeq, Int.reduceLE, Int.reduceNeg, Int.reduceMul, Int.reduceAdd, Int.reduceSub, Int.reduceToNat, Int.reducePow, g1, g2, g3, g4, g7, a1, l1]
  refine ends_loop (fun k t H' => t.length = 161 ∧ (t.getD 0 .undef = v ∧ t.getD 2 .undef = .int .i64 pad ∧ t.getD 4 .undef = .ptr H.length 0) ∧
    ∃ (i : Nat) (Y : Heap) (ps : List (List Rect)) (out : List Plc) (pv ov : AV), i ≤ l.length ∧ k = l.length - i ∧ (t.getD 12 .undef = .int .i64 (i : Int) ∧ t.getD 10 .undef = pv ∧ t.getD 11 .undef = ov) ∧ H' = H ++ (.cells [.int .i64 pw, .int .i64 ph] 61 true :: Y) ∧
      PF (H ++ (.cells [.int .i64 pw, .int .i64 ph] 61 true :: Y)) (H.length + 1) pv ps ∧ OutOk (H.length + 1) Y ov out ∧ layTo l pw ph pad i = some (ps, out)) l.length ?_ ?_
  · simp only [R1, R2, R3, R4, R5, R6, R7, R8, AV.flat, fillIn_nil, fillIn_cons, splice, AV.cells, AV.one, eqsOf, idx, SO.calls, List.reduceReplicate, Nat.reduceBEq, Nat.reduceLT, Nat.reduceAdd, Nat.reduceMul, Nat.reduceSub, Nat.reduceLeDiff, Nat.reduceEqDiff, ↓reduceIte, Int.reduceLT, Int.reduceEq, Int.reduceBNe, Int.reduceBEq, aeq, Int.reduceLE, Int.reduceNeg, Int.reduceMul, Int.reduceAdd, Int.reduceSub, Int.reduceToNat, Int.reducePow, g1, g2, g3, g4]
    exact ⟨0, [], [], [], .nils, .nils, by omega, by omega, ⟨rfl, rfl, rfl⟩, rfl, .inl ⟨rfl, rfl⟩, .inl ⟨rfl, rfl⟩, rfl⟩
  clear g1 g2 g3 g4 g7 a1
  rintro k t _ ⟨g1, ⟨g2, g3, g4⟩, i, Y, ps, out, pv, ov, hi, rfl, ⟨g5, g6, g7⟩, rfl, hPF, hO, hlay⟩
  rw [← tm_nil t]
  have hol := layTo_len hlay
  by_cases hc : i < l.length
  rotate_left
  · have a1 : ((i : Int) < (l.length : Int)) = False := eq_false (by omega)
    obtain rfl : i = l.length := by omega
    have hR := lay_ok hA hno hlay
    have l2 := hPF.lenOf
    simp only [R1, R2, R3, R4, R5, R6, R7, R8, AV.flat, fillIn_nil, fillIn_cons, splice, AV.cells, AV.one, eqsOf, idx, SO.calls, List.reduceReplicate, Nat.reduceBEq, Nat.reduceLT, Nat.reduceAdd, Nat.reduceMul, Nat.reduceSub, Nat.reduceLeDiff, Nat.reduceEqDiff, ↓reduceIte, Int.reduceLT, Int.reduceEq, Int.reduceBNe, Int.reduceBEq, aeq, Int.reduceLE, Int.reduceNeg, Int.reduceMul, Int.reduceAdd, Int.reduceSub, Int.reduceToNat, Int.reducePow, g1, g2, g3, g4, g5, g6, g7, l1, a1, l2, leftE_ret, got_some]
    rcases hO with ⟨rfl, rfl⟩ | ⟨h0, o, rfl, h2⟩
    · rw [tidy_still rfl]
      exact hW _ ⟨_, [], by rw [hR, List.append_nil], by rw [hR]; exact SlOf.nils (by decide)⟩
    · have ht := fun r hr => tidy_sl (H := H) (X := .cells [.int .i64 pw, .int .i64 ph] 61 true :: Y) (k := o + 1) (off := 0) (len := out.length) (sz := 3) (cap := none) (l := out.flatMap Plc.cs) (e := 76) (w := true) (r := r) h2 (by
        simp only [List.all_flatMap, List.all_eq_true]
        intro a _ x hx
        simp [Plc.cs] at hx
        rcases hx with rfl | rfl | rfl <;> rfl) (by rw [flat_len (plc_size _)]; omega) hr
      rw [show H.length + 1 + o = H.length + (o + 1) by omega, ht _ rfl]
      refine hW _ ⟨_, _, by rw [hR], ?_⟩
      rw [hR, List.drop_zero, List.take_of_length_le (by rw [flat_len (plc_size _)]; exact Nat.le_refl _)]
      exact SlOf.row (plc_size out) (by decide)
  have a1 : ((i : Int) < (l.length : Int)) = True := eq_true (by omega)
  have w1 : IntKind.i64.wrap ((i : Int) + 1) = ((i + 1 : Nat) : Int) := by rw [wrap_i64 (by omega) (by omega)]; rfl
  have E := hs.elem hc
  have hsz : l[i] = szAt l i := by unfold szAt; simp [List.getD, hc]
  have hr := hA.2 l[i] (List.getElem_mem hc)
  have hstep : layTo l pw ph pad (i + 1) = if (szAt l i).w = 0 then some (ps, out ++ [⟨0, 0, 0⟩]) else match layP ps pw ph ((szAt l i).w + pad) ((szAt l i).h + pad) with
      | none => none
      | some (k, r, ps') => some (ps', out ++ [⟨(k : Int), r.x, r.y⟩]) := by rw [layTo, hlay]; rfl
  have hbig := hnb i hc
  have hbd : bigP l pw ph pad i = (decide ((szAt l i).w > 0) && (decide ((szAt l i).w + pad > pw) || decide ((szAt l i).h + pad > ph))) := rfl
  rw [hbd] at hbig
  rw [hsz] at E hr
  generalize szAt l i = s at *
  have hb : 0 ≤ s.w ∧ s.w ≤ 1024 ∧ 0 ≤ s.h ∧ s.h ≤ 1024 := by rcases hr with h | h <;> omega
  have w2 := wrap_i64 (x := s.w + pad) (by omega) (by omega)
  have w3 := wrap_i64 (x := s.h + pad) (by omega) (by omega)
  simp only [Sz.cs] at E
  by_cases h0 : s.w = 0
  · have c1 : (s.w == 0) = true := by rw [beq_iff_eq]; exact h0
    rw [if_pos h0] at hstep
    obtain ⟨Y', y1, y2, y3, y4⟩ := hO.push (Z := []) (p := H.length + (Y.length + 1)) (a := .cells [.int .i64 pw, .int .i64 ph] 61 true) (by omega) ⟨0, 0, 0⟩ (by simp; omega)
    simp only [Plc.cs, List.nil_append] at y3
    simp only [List.nil_append] at y4
    have hPF' := pf_move (Z := [AO.cells (⟨0, 0, 0⟩ : Plc).cs 76 true, AO.cells ((out ++ [(⟨0, 0, 0⟩ : Plc)]).flatMap Plc.cs) 76 true]) hPF y2
    simp only [R1, R2, R3, R4, R5, R6, R7, R8, AV.flat, fillIn_nil, fillIn_cons, splice, AV.cells, AV.one, eqsOf, idx, SO.calls, List.reduceReplicate, Nat.reduceBEq, Nat.reduceLT, Nat.reduceAdd, Nat.reduceMul, Nat.reduceSub, Nat.reduceLeDiff, Nat.reduceEqDiff, ↓reduceIte, Int.reduceLT, Int.reduceEq, Int.reduceBNe, Int.reduceBEq, aeq, Int.reduceLE, Int.reduceNeg, Int.reduceMul, Int.reduceAdd, Int.reduceSub, Int.reduceToNat, Int.reducePow, g1, g2, g3, g4, g5, g6, g7, l1, a1, w1, E, c1, y3]
    exact ⟨_, by omega, i + 1, _, ps, _, _, _, by omega, rfl, ⟨rfl, rfl, rfl⟩, rfl, hPF', y4, hstep⟩
  have c1 : (s.w == 0) = false := by rw [beq_eq_false_iff_ne]; exact h0
  rw [if_neg h0] at hstep
  have hs2 : (1 ≤ s.w ∧ s.w ≤ 1024) ∧ 1 ≤ s.h ∧ s.h ≤ 1024 := hr.resolve_left fun h => h0 h.1
  have hbig2 : s.w + pad ≤ pw ∧ s.h + pad ≤ ph := by
    simp only [Bool.and_eq_false_iff, Bool.or_eq_false_iff, decide_eq_false_iff_not] at hbig
    omega
  have inv := inv_all hA hnb (i := i) (by omega) hlay
  have hfewp := inv.few
  have hfew := fun k => few_pieces (by omega) hlay k
  have hB : ∀ k, (ps.getD k []).length ≤ 3000000 ∧ ∀ r ∈ ps.getD k [], May r := fun k => ⟨by have := hfew k; omega, fun f hf => ((inv.free k f hf).1).1⟩
  have l2 := hPF.lenOf
  simp only [R1, R2, R3, R4, R5, R6, R7, R8, AV.flat, fillIn_nil, fillIn_cons, splice, AV.cells, AV.one, eqsOf, idx, SO.calls, List.reduceReplicate, Nat.reduceBEq, Nat.reduceLT, Nat.reduceAdd, Nat.reduceMul, Nat.reduceSub, Nat.reduceLeDiff, Nat.reduceEqDiff, ↓reduceIte, Int.reduceLT, Int.reduceEq, Int.reduceBNe, Int.reduceBEq, aeq, Int.reduceLE, Int.reduceNeg, Int.reduceMul, Int.reduceAdd, Int.reduceSub, Int.reduceToNat, Int.reducePow, g1, g2, g3, g4, g5, g6, g7, l1, a1, w1, w2, w3, E, c1]
  generalize hbw : s.w + pad = bw at *
  generalize hbh : s.h + pad = bh at *
  refine Ends.mono (P := fun x u H2 => x = .exit 4 ∧ u.length = 161 ∧ (u.getD 0 .undef = v ∧ u.getD 2 .undef = .int .i64 pad ∧ u.getD 4 .undef = .ptr H.length 0 ∧ u.getD 10 .undef = pv ∧ u.getD 11 .undef = ov ∧ u.getD 12 .undef = .int .i64 (i : Int) ∧ u.getD 13 .undef = .int .i64 bw ∧ u.getD 14 .undef = .int .i64 bh) ∧
    H2 = H ++ (.cells [.int .i64 pw, .int .i64 ph] 61 true :: Y) ∧ ∃ k : Nat, k ≤ ps.length ∧ u.getD 15 .undef = .int .i64 (k : Int) ∧ (∀ j, j < k → best (ps.getD j []) bw bh = none) ∧ (k < ps.length → (best (ps.getD k []) bw bh).isSome = true)) ?_ ?_
  · refine ends_loop (fun k2 u H2 => u.length = 161 ∧ (u.getD 0 .undef = v ∧ u.getD 2 .undef = .int .i64 pad ∧ u.getD 4 .undef = .ptr H.length 0 ∧ u.getD 10 .undef = pv ∧ u.getD 11 .undef = ov ∧ u.getD 12 .undef = .int .i64 (i : Int) ∧ u.getD 13 .undef = .int .i64 bw ∧ u.getD 14 .undef = .int .i64 bh) ∧
      H2 = H ++ (.cells [.int .i64 pw, .int .i64 ph] 61 true :: Y) ∧ ∃ k : Nat, k ≤ ps.length ∧ k2 = ps.length - k ∧ u.getD 15 .undef = .int .i64 (k : Int) ∧ (∀ j, j < k → best (ps.getD j []) bw bh = none)) ps.length ?_ ?_
    · simp only [R1, R2, R3, R4, R5, R6, R7, R8, AV.flat, fillIn_nil, fillIn_cons, splice, AV.cells, AV.one, eqsOf, idx, SO.calls, List.reduceReplicate, Nat.reduceBEq, Nat.reduceLT, Nat.reduceAdd, Nat.reduceMul, Nat.reduceSub, Nat.reduceLeDiff, Nat.reduceEqDiff, ↓reduceIte, Int.reduceLT, Int.reduceEq, Int.reduceBNe, Int.reduceBEq, aeq, Int.reduceLE, Int.reduceNeg, Int.reduceMul, Int.reduceAdd, Int.reduceSub, Int.reduceToNat, Int.reducePow, g1, g2, g3, g4, g5, g6, g7]
      exact ⟨0, by omega, by omega, rfl, fun j hj => by omega⟩
    rintro k2 u _ ⟨k1, ⟨k2, k3, k4, k5, k6, k7, k8, k9⟩, rfl, k, hk, rfl, k10, hnk⟩
    rw [← tm_nil u]
    by_cases hck : k < ps.length
    · have a2 : ((k : Int) < (ps.length : Int)) = True := eq_true (by omega)
      have w4 : IntKind.i64.wrap ((k : Int) + 1) = ((k + 1 : Nat) : Int) := by rw [wrap_i64 (by omega) (by omega)]; rfl
      obtain ⟨o, vs, w', ho, hv, h3, h4, hw', ia, lo, hin, h5⟩ := hPF.at hck
      have lo0 := lo []
      simp only [List.append_nil] at lo0
      have hall := hB k
      have e1 := c65 hin.sl (by omega) (fun r hr => may_small (hall.2 r hr)) (w := bw) (h := bh) (by omega) (by omega)
      cases hbk : best (ps.getD k []) bw bh with
      | none =>
        have c2 : bestI (ps.getD k []) bw bh = -1 := by unfold bestI; rw [hbk]
        rw [c2] at e1
        simp only [R1, R2, R3, R4, R5, R6, R7, R8, AV.flat, fillIn_nil, fillIn_cons, splice, AV.cells, AV.one, eqsOf, idx, SO.calls, List.reduceReplicate, Nat.reduceBEq, Nat.reduceLT, Nat.reduceAdd, Nat.reduceMul, Nat.reduceSub, Nat.reduceLeDiff, Nat.reduceEqDiff, ↓reduceIte, Int.reduceLT, Int.reduceEq, Int.reduceBNe, Int.reduceBEq, aeq, Int.reduceLE, Int.reduceNeg, Int.reduceMul, Int.reduceAdd, Int.reduceSub, Int.reduceToNat, Int.reducePow, k1, k2, k3, k4, k5, k6, k7, k8, k9, k10, l2, a2, w4, ia, lo0, e1]
        exact ⟨_, by omega, k + 1, by omega, rfl, rfl, fun j hj => by
          by_cases hjk : j = k
          · subst hjk; exact hbk
          · exact hnk j (by omega)⟩
      | some j =>
        have c2 : bestI (ps.getD k []) bw bh = (j : Int) := by unfold bestI; rw [hbk]
        have c3 : ((j : Int) < 0) = False := eq_false (by omega)
        rw [c2] at e1
        simp only [R1, R2, R3, R4, R5, R6, R7, R8, AV.flat, fillIn_nil, fillIn_cons, splice, AV.cells, AV.one, eqsOf, idx, SO.calls, List.reduceReplicate, Nat.reduceBEq, Nat.reduceLT, Nat.reduceAdd, Nat.reduceMul, Nat.reduceSub, Nat.reduceLeDiff, Nat.reduceEqDiff, ↓reduceIte, Int.reduceLT, Int.reduceEq, Int.reduceBNe, Int.reduceBEq, aeq, Int.reduceLE, Int.reduceNeg, Int.reduceMul, Int.reduceAdd, Int.reduceSub, Int.reduceToNat, Int.reducePow, k1, k2, k3, k4, k5, k6, k7, k8, k9, k10, l2, a2, w4, ia, lo0, e1, c3]
        exact ⟨k, by omega, rfl, hnk, fun _ => by rw [hbk]; rfl⟩
    · have a2 : ((k : Int) < (ps.length : Int)) = False := eq_false (by omega)
      simp only [R1, R2, R3, R4, R5, R6, R7, R8, AV.flat, fillIn_nil, fillIn_cons, splice, AV.cells, AV.one, eqsOf, idx, SO.calls, List.reduceReplicate, Nat.reduceBEq, Nat.reduceLT, Nat.reduceAdd, Nat.reduceMul, Nat.reduceSub, Nat.reduceLeDiff, Nat.reduceEqDiff, ↓reduceIte, Int.reduceLT, Int.reduceEq, Int.reduceBNe, Int.reduceBEq, aeq, Int.reduceLE, Int.reduceNeg, Int.reduceMul, Int.reduceAdd, Int.reduceSub, Int.reduceToNat, Int.reducePow, k1, k2, k3, k4, k5, k6, k7, k8, k9, k10, l2, a2]
      exact ⟨k, by omega, rfl, hnk, fun h => absurd h hck⟩
  rintro x u _ ⟨rfl, k1, ⟨k2, k3, k4, k5, k6, k7, k8, k9⟩, rfl, k, hk, k10, hnk, hsk⟩
  rw [blocked_exit, if_pos rfl, onward_normal]
  refine ends_mid (fun u H2 => u.length = 161 ∧ (u.getD 0 .undef = v ∧ u.getD 2 .undef = .int .i64 pad ∧ u.getD 4 .undef = .ptr H.length 0 ∧ u.getD 11 .undef = ov ∧ u.getD 12 .undef = .int .i64 (i : Int) ∧ u.getD 13 .undef = .int .i64 bw ∧ u.getD 14 .undef = .int .i64 bh ∧ u.getD 15 .undef = .int .i64 (k : Int)) ∧
    ∃ (Y2 : Heap) (pv2 : AV) (M : List (List Rect)), H2 = H ++ (.cells [.int .i64 pw, .int .i64 ph] 61 true :: Y2) ∧ u.getD 10 .undef = pv2 ∧ PF (H ++ (.cells [.int .i64 pw, .int .i64 ph] 61 true :: Y2)) (H.length + 1) pv2 M ∧ OutOk (H.length + 1) Y2 ov out ∧ CaseM ps M pw ph k ∧ (best (M.getD k []) bw bh).isSome = true) ?_ ?_
  · rw [← tm_nil u]
    by_cases hck : k < ps.length
    · have c2 : ((k : Int) == (ps.length : Int)) = false := by rw [beq_eq_false_iff_ne]; omega
      simp only [R1, R2, R3, R4, R5, R6, R7, R8, AV.flat, fillIn_nil, fillIn_cons, splice, AV.cells, AV.one, eqsOf, idx, SO.calls, List.reduceReplicate, Nat.reduceBEq, Nat.reduceLT, Nat.reduceAdd, Nat.reduceMul, Nat.reduceSub, Nat.reduceLeDiff, Nat.reduceEqDiff, ↓reduceIte, Int.reduceLT, Int.reduceEq, Int.reduceBNe, Int.reduceBEq, aeq, Int.reduceLE, Int.reduceNeg, Int.reduceMul, Int.reduceAdd, Int.reduceSub, Int.reduceToNat, Int.reducePow, k1, k2, k3, k4, k5, k6, k7, k8, k9, k10, l2, c2]
      exact ⟨Y, pv, ps, rfl, rfl, hPF, hO, .inl ⟨rfl, hck⟩, hsk hck⟩
    have hke : k = ps.length := by omega
    have c2 : ((k : Int) == (ps.length : Int)) = true := by rw [beq_iff_eq]; omega
    by_cases h16 : ps.length = 16
    · have c3 : ((k : Int) == 16) = true := by rw [beq_iff_eq]; omega
      have hlp : layP ps pw ph bw bh = none := by
        unfold layP
        rw [if_pos ⟨firstK_end (fun j hj => hnk j (by omega)), h16⟩]
      rw [hlp] at hstep
      have hR := lay_full hA hno (layTo_up hstep (show i + 1 ≤ l.length by omega))
      simp only [R1, R2, R3, R4, R5, R6, R7, R8, AV.flat, fillIn_nil, fillIn_cons, splice, AV.cells, AV.one, eqsOf, idx, SO.calls, List.reduceReplicate, Nat.reduceBEq, Nat.reduceLT, Nat.reduceAdd, Nat.reduceMul, Nat.reduceSub, Nat.reduceLeDiff, Nat.reduceEqDiff, ↓reduceIte, Int.reduceLT, Int.reduceEq, Int.reduceBNe, Int.reduceBEq, aeq, Int.reduceLE, Int.reduceNeg, Int.reduceMul, Int.reduceAdd, Int.reduceSub, Int.reduceToNat, Int.reducePow, k1, k2, k3, k4, k5, k6, k7, k8, k9, k10, l2, c2, c3, leftE_ret, got_some]
      exact fin 0 10 _ hR
    · have c3 : ((k : Int) == 16) = false := by rw [beq_eq_false_iff_ne]; omega
      have hx : InOk ((H ++ (.cells [.int .i64 pw, .int .i64 ph] 61 true :: Y)) ++ ([AO.cells [.int .i64 0, .int .i64 0, .int .i64 pw, .int .i64 ph] 112 true] ++ [AO.cells [.sl (H.length + (Y.length + 1)) 0 1 4 (some 1)] 110 true])) (H.length + 1) (.sl (H.length + (Y.length + 1)) 0 1 4 (some 1)) [⟨0, 0, pw, ph⟩] := by
        refine .inr ⟨by simp, _, some 1, by omega, rfl, ?_⟩
        rw [List.getElem?_append_right (by simp)]
        simp [Rect.cs]
      obtain ⟨G', vs, y1, y2, y3, y4, y5⟩ := hPF.grow inv.few hx rfl (q := H.length + (Y.length + 1 + 1)) (by simp; omega) (by simp)
      obtain ⟨Y3, rfl⟩ := (show KeepP (H.length + 1) ((H ++ [.cells [.int .i64 pw, .int .i64 ph] 61 true]) ++ Y) G' by simpa only [List.append_assoc, List.cons_append, List.nil_append] using y2).pre (by simp)
      simp only [List.append_assoc, List.cons_append, List.nil_append] at y1 y2 y4 y5
      have hY3 : Y3.length = Y.length := by simpa using y1
      have hO3 : OutOk (H.length + 1) (Y3 ++ [AO.cells [.int .i64 0, .int .i64 0, .int .i64 pw, .int .i64 ph] 112 true, AO.cells [.sl (H.length + (Y.length + 1)) 0 1 4 (some 1)] 110 true, AO.cells vs 110 true]) ov out := hO.keep fun j r hj => by
        refine getElem?_keep ?_
        rw [← at_one (H := H) (a := .cells [.int .i64 pw, .int .i64 ph] 61 true)]
        refine y2.2.2 _ _ _ _ (by decide) (by decide) ?_
        rw [at_one]; exact hj
      simp only [R1, R2, R3, R4, R5, R6, R7, R8, AV.flat, fillIn_nil, fillIn_cons, splice, AV.cells, AV.one, eqsOf, idx, SO.calls, List.reduceReplicate, Nat.reduceBEq, Nat.reduceLT, Nat.reduceAdd, Nat.reduceMul, Nat.reduceSub, Nat.reduceLeDiff, Nat.reduceEqDiff, ↓reduceIte, Int.reduceLT, Int.reduceEq, Int.reduceBNe, Int.reduceBEq, aeq, Int.reduceLE, Int.reduceNeg, Int.reduceMul, Int.reduceAdd, Int.reduceSub, Int.reduceToNat, Int.reducePow, k1, k2, k3, k4, k5, k6, k7, k8, k9, k10, l2, c2, c3, y4]
      exact ⟨_, _, _, rfl, rfl, y5, hO3, .inr ⟨hke, h16, rfl⟩, by rw [hke, List.getD, List.getElem?_append_right (Nat.le_refl _), Nat.sub_self]; simp only [List.getElem?_cons_zero, Option.getD_some]; rw [best_whole hbig2.1 hbig2.2]; rfl⟩
  clear k1 k2 k3 k4 k5 k6 k7 k8 k9 k10 g1 g2 g3 g4 g5 g6 g7 hO hPF l2
  rintro u _ ⟨k1, ⟨k2, k3, k4, k5, k6, k7, k8, k9⟩, Y2, pv2, M, rfl, k10, hPF, hO, hcase, hsome⟩
  rw [← tm_nil u]
  have hkM := hcase.lt
  have hall := hcase.all hB ⟨⟨by omega, by omega⟩, by omega, by omega⟩
  obtain ⟨j, hbj⟩ := Option.isSome_iff_exists.1 hsome
  have hlays := hcase.lays hnk hbj
  obtain ⟨hj, hfit⟩ := bestAt_lt hbj
  rw [hlays] at hstep
  simp only at hstep
  obtain ⟨o, vs, w', ho, hv, h3, h4, hw', ia, lo, hin, h5⟩ := hPF.at hkM
  have lo0 := lo []
  simp only [List.append_nil] at lo0
  have e1 := c65 hin.sl (by omega) (fun r hr => may_small (hall.2 r hr)) (w := bw) (h := bh) (by omega) (by omega)
  have c2 : bestI (M.getD k []) bw bh = (j : Int) := by unfold bestI; rw [hbj]
  rw [c2] at e1
  have G := hin.sl.elem0 hj
  rw [← nth_eq hj] at G
  generalize nth (M.getD k []) j = q at *
  obtain ⟨Y3, y1, y2, y3, y4⟩ := hO.push (Z := [AO.cells q.cs 112 true]) (p := H.length + (Y2.length + 1 + 1)) (a := .cells [.int .i64 pw, .int .i64 ph] 61 true) (by omega) ⟨(k : Int), q.x, q.y⟩ (by simp; omega)
  have hPF3 := pf_move (Z := [AO.cells q.cs 112 true] ++ [AO.cells (⟨(k : Int), q.x, q.y⟩ : Plc).cs 76 true, AO.cells ((out ++ [(⟨(k : Int), q.x, q.y⟩ : Plc)]).flatMap Plc.cs) 76 true]) hPF y2
  generalize hout : (out ++ [(⟨(k : Int), q.x, q.y⟩ : Plc)]) = out2 at *
  obtain ⟨o', vs3, w3', ho3, hv3, h33, h43, hw3, ia3, lo3, hin3, h53⟩ := hPF3.at hkM
  obtain rfl : o' = o := by rw [hv] at hv3; injection hv3 with hv3; exact hv3.symm
  have lo30 := lo3 []
  simp only [List.append_nil] at lo30
  obtain ⟨c, X3, ec, hcc⟩ := c67 ⟨q.x, q.y, bw, bh⟩ hin3.sl (by omega)
  have hcl : (cutAll ((M.getD k []).filter may) ⟨q.x, q.y, bw, bh⟩).length ≤ 100000000 := by
    have hf := List.length_filter_le may (M.getD k [])
    unfold cutAll
    split
    · have := cutTo_len ⟨q.x, q.y, bw, bh⟩ ((M.getD k []).filter may)
      omega
    · omega
  have ep := c66 hcc hcl
  have hcut : prune ((cutAll ((M.getD k []).filter may) ⟨q.x, q.y, bw, bh⟩).filter may) = cutP (M.getD k []) ⟨q.x, q.y, bw, bh⟩ := rfl
  rw [hcut] at ep
  generalize cutP (M.getD k []) ⟨q.x, q.y, bw, bh⟩ = l2 at *
  generalize hK3 : H ++ (AO.cells [.int .i64 pw, .int .i64 ph] 61 true :: (Y3 ++ ([AO.cells q.cs 112 true] ++ [AO.cells (⟨(k : Int), q.x, q.y⟩ : Plc).cs 76 true, AO.cells (out2.flatMap Plc.cs) 76 true]))) = K3 at *
  obtain ⟨n1, n2, n3⟩ := newSl_in (K := K3 ++ X3) (n0 := H.length + 1) (l := l2) (by rw [← hK3]; simp) []
  generalize newSl (K3 ++ X3) 112 4 Rect.cs l2 = S at *
  obtain ⟨w2', Yn⟩ := S
  simp only [List.append_nil, List.append_assoc] at n1 n2 n3 ep
  have ecs := one_cells n2
  simp only [AV.cells] at ecs
  have est := store_at (i := k) h33 (by omega) n2 (X3 ++ Yn)
  have hset : PF (K3.set o' (AO.cells (vs3.set k w2') 110 true) ++ (X3 ++ Yn)) (H.length + 1) pv2 (M.set k l2) := by
    rw [← List.set_append_left _ _ (get_lt h33)]
    exact PF.set hv ho3 (getElem?_keep h33) h43 (fun j hj => (h53 j hj).keep fun _ _ hq => getElem?_keep hq) hkM n1
  obtain ⟨o2, rfl⟩ : ∃ o2, o' = H.length + 1 + o2 := ⟨o' - (H.length + 1), by omega⟩
  subst hK3
  rw [at_one] at h33
  rw [set_one] at hset est
  have hO4 : OutOk (H.length + 1) ((Y3 ++ ([AO.cells q.cs 112 true] ++ [AO.cells (⟨(k : Int), q.x, q.y⟩ : Plc).cs 76 true, AO.cells (out2.flatMap Plc.cs) 76 true])).set o2 (AO.cells (vs3.set k w2') 110 true) ++ (X3 ++ Yn)) (.sl (H.length + (Y2.length + 1 + 1) + 1) 0 (out.length + 1) 3 none) out2 := y4.keep fun j r hj => by
    refine getElem?_keep ?_
    rw [List.getElem?_set_ne]
    · exact hj
    · rintro rfl
      rw [h33] at hj
      injection hj with hj
      injection hj with _ hj
      exact absurd hj (by decide)
  have hL4 : ((Y3 ++ ([AO.cells q.cs 112 true] ++ [AO.cells (⟨(k : Int), q.x, q.y⟩ : Plc).cs 76 true, AO.cells (out2.flatMap Plc.cs) 76 true])).set o2 (AO.cells (vs3.set k w2') 110 true)).length = Y3.length + 3 := by simp
  generalize (Y3 ++ ([AO.cells q.cs 112 true] ++ [AO.cells (⟨(k : Int), q.x, q.y⟩ : Plc).cs 76 true, AO.cells (out2.flatMap Plc.cs) 76 true])).set o2 (AO.cells (vs3.set k w2') 110 true) = Y4 at *
  simp only [Rect.cs, Plc.cs, List.append_assoc, List.cons_append, List.nil_append] at G y3 ec ep est hset lo30
  have el : ∀ n off Z, aload (Y3 ++ Z) n (.ptr Y2.length off) = aload Z n (.ptr 0 off) := fun n off Z => by rw [← y1]; exact aload_end0
  have le1 : (H.length + (Y3.length + 3 + 1) ≤ H.length + (Y3.length + (X3.length + 1 + 1 + 1) + 1)) = True := eq_true (by omega)
  have le2 : (H.length + (Y3.length + (X3.length + 1 + 1 + 1) + 1) ≤ H.length + (Y3.length + (X3.length + Yn.length + 1 + 1 + 1) + 1)) = True := eq_true (by omega)
  have le3 : (H.length + (Y3.length + (X3.length + Yn.length + 1 + 1 + 1) + 1) ≤ H.length + (Y4.length + (X3.length + Yn.length) + 1)) = True := eq_true (by omega)
  simp only [R1, R2, R3, R4, R5, R6, R7, R8, AV.flat, fillIn_nil, fillIn_cons, splice, AV.cells, AV.one, eqsOf, idx, SO.calls, List.reduceReplicate, Nat.reduceBEq, Nat.reduceLT, Nat.reduceAdd, Nat.reduceMul, Nat.reduceSub, Nat.reduceLeDiff, Nat.reduceEqDiff, ↓reduceIte, Int.reduceLT, Int.reduceEq, Int.reduceBNe, Int.reduceBEq, aeq, Int.reduceLE, Int.reduceNeg, Int.reduceMul, Int.reduceAdd, Int.reduceSub, Int.reduceToNat, Int.reducePow, k1, k2, k3, k4, k5, k6, k7, k8, k9, k10, ia, lo0, e1, G, y3, lo30, ec, ep, ecs, est, w1, el, le1, le2, le3, veil_un, shun_un]
  exact ⟨_, by omega, i + 1, _, M.set k l2, out2, pv2, _, by omega, rfl, ⟨rfl, rfl, rfl⟩, rfl, hset, hO4, hstep⟩
end Go.Proofs.Ytkcbjeenoafbkaa
