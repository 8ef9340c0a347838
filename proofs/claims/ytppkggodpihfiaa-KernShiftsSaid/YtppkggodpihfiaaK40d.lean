/- Chapter 40: kern.Shift: what it comes to. -/
import Derived.Test.YtppkggodpihfiaaK40c
set_option linter.unusedVariables false
set_option linter.unusedSimpArgs false
set_option maxRecDepth 100000
set_option maxHeartbeats 4000000
namespace Go.Proofs.Ytppkggodpihfiaa
open Go Go.Den
theorem getD_at {p : List Pc} {i : Nat} (h : i < p.length) : p.getD i ⟨0, 0, 0⟩ = p[i] := by rw [List.getD, List.getElem?_eq_getElem h]; rfl
theorem row_at (H Y : Heap) (x : AO) : (H ++ (Y ++ [x]))[H.length + Y.length]? = some x := by
  rw [List.getElem?_append_right (by omega), Nat.add_sub_cancel_left, List.getElem?_append_right (by omega), Nat.sub_self]; rfl
theorem row_set (H Y : Heap) (x y : AO) : (H ++ (Y ++ [x])).set (H.length + Y.length) y = H ++ (Y ++ [y]) := by
  rw [List.set_append_right _ _ (by omega), Nat.add_sub_cancel_left, List.set_append_right _ _ (by omega), Nat.sub_self]; rfl
theorem c21 {H : Heap} {v w : AV} {l : List Kn} {p : List Pc} (hs : SlOf H 3 Kn.cs v l) (hp : SlOf H 3 Pc.cs w p) (hn : l.length ≤ 1000) (hm : p.length ≤ 60)
    (hb : ∀ k ∈ l, -1099511627776 ≤ k.b ∧ k.b ≤ 1099511627776) (hx : ∀ q ∈ p, -1099511627776 ≤ q.x ∧ q.x ≤ 1099511627776) :
    ∃ r, call env 21 [v, w] H = some r ∧ ∃ X, r.2 = H ++ X ∧ SlOf (H ++ X) 3 Pc.cs r.1 (shiftP l p) := by
  have l1 := hs.lenOf
  refine call_endsE (fn := s21) rfl rfl (by simp [s21]) fun W hW => ?_
  simp only [s21, R1, R2, R3, R4, R5, R6, R7, R8, AV.flat, fillIn_nil, fillIn_cons, splice, AV.cells, AV.one, eqsOf, idx, SO.calls, List.reduceReplicate, Nat.reduceBEq, Nat.reduceLT, Nat.reduceAdd, Nat.reduceMul, Nat.reduceSub, Nat.reduceLeDiff, Nat.reduceEqDiff, ↓reduceIte, Int.reduceLT, Int.reduceEq, Int.reduceBNe, Int.reduceBEq, aeq, Int.reduceLE, Int.reduceNeg, Int.reduceMul, Int.reduceAdd, Int.reduceSub, Int.reduceToNat, Int.reducePow, l1, mkmap_new]
  refine ends_loop (fun k t H' => t.length = 91 ∧ (t.getD 0 .undef = v ∧ t.getD 1 .undef = w ∧ t.getD 5 .undef = .mp H.length ∧ t.getD 14 .undef = v ∧ t.getD 15 .undef = .int .i64 (l.length : Int)) ∧
    ∃ i : Nat, i ≤ l.length ∧ k = l.length - i ∧ t.getD 16 .undef = .int .i64 (i : Int) ∧ ∃ ks vs X, H' = H ++ (.mp ks vs :: X) ∧ KM ks vs (l.take i)) l.length ?_ ?_
  · simp only [R1, R2, R3, R4, R5, R6, R7, R8, AV.flat, fillIn_nil, fillIn_cons, splice, AV.cells, AV.one, eqsOf, idx, SO.calls, List.reduceReplicate, Nat.reduceBEq, Nat.reduceLT, Nat.reduceAdd, Nat.reduceMul, Nat.reduceSub, Nat.reduceLeDiff, Nat.reduceEqDiff, ↓reduceIte, Int.reduceLT, Int.reduceEq, Int.reduceBNe, Int.reduceBEq, aeq, Int.reduceLE, Int.reduceNeg, Int.reduceMul, Int.reduceAdd, Int.reduceSub, Int.reduceToNat, Int.reducePow]
    exact ⟨0, by omega, by omega, rfl, [], [], [], rfl, KM.nil⟩
  · rintro k t _ ⟨g1, ⟨g2, g3, g4, g5, g6⟩, i, hi, rfl, g7, ks, vs, X, rfl, hK⟩
    rw [← tm_nil t]
    by_cases hc : i < l.length
    · have a1 : ((i : Int) < (l.length : Int)) = True := eq_true (by omega)
      have w1 : IntKind.i64.wrap ((i : Int) + 1) = ((i + 1 : Nat) : Int) := by rw [wrap_i64 (by omega) (by omega)]; rfl
      have E := hs.elem hc
      have hT : l.take (i + 1) = l.take i ++ [l[i]] := List.take_succ_eq_append_getElem hc
      have hr : ∀ x : AO, (H ++ (.mp ks vs :: (X ++ [x])))[H.length]? = some (.mp ks vs) := fun x => by rw [List.getElem?_append_right (Nat.le_refl _), Nat.sub_self]; rfl
      generalize l[i] = q at *
      have L := fun x => (km_look hK (hr x) q.l q.r).2
      by_cases hf : ((l.take i).find? (isK q.l q.r)).isSome = true
      · have hK2 := km_same hK q hf
        rw [← hT] at hK2
        rw [hf] at L
        obtain ⟨x, y, z⟩ := q
        simp only [Kn.cs] at E L
        simp only [R1, R2, R3, R4, R5, R6, R7, R8, AV.flat, fillIn_nil, fillIn_cons, splice, AV.cells, AV.one, eqsOf, idx, SO.calls, List.reduceReplicate, Nat.reduceBEq, Nat.reduceLT, Nat.reduceAdd, Nat.reduceMul, Nat.reduceSub, Nat.reduceLeDiff, Nat.reduceEqDiff, ↓reduceIte, Int.reduceLT, Int.reduceEq, Int.reduceBNe, Int.reduceBEq, aeq, Int.reduceLE, Int.reduceNeg, Int.reduceMul, Int.reduceAdd, Int.reduceSub, Int.reduceToNat, Int.reducePow, g1, g2, g3, g4, g5, g6, g7, l1, a1, w1, E, L]
        exact ⟨_, by omega, i + 1, by omega, rfl, rfl, _, _, _, rfl, hK2⟩
      · have hf2 : (l.take i).find? (isK q.l q.r) = none := by simpa using hf
        obtain ⟨hK2, hM⟩ := km_more hK q hf2
        rw [← hT] at hK2
        simp only [hf2, Option.isSome_none] at L
        obtain ⟨x, y, z⟩ := q
        simp only [Kn.cs] at E L hM

        simp only [R1, R2, R3, R4, R5, R6, R7, R8, AV.flat, fillIn_nil, fillIn_cons, splice, AV.cells, AV.one, eqsOf, idx, SO.calls, List.reduceReplicate, Nat.reduceBEq, Nat.reduceLT, Nat.reduceAdd, Nat.reduceMul, Nat.reduceSub, Nat.reduceLeDiff, Nat.reduceEqDiff, ↓reduceIte, Int.reduceLT, Int.reduceEq, Int.reduceBNe, Int.reduceBEq, aeq, Int.reduceLE, Int.reduceNeg, Int.reduceMul, Int.reduceAdd, Int.reduceSub, Int.reduceToNat, Int.reducePow, g1, g2, g3, g4, g5, g6, g7, l1, a1, w1, E, L, hM]
        exact ⟨_, by omega, i + 1, by omega, rfl, rfl, _, _, _, rfl, hK2⟩
    · have a1 : ((i : Int) < (l.length : Int)) = False := eq_false (by omega)
      obtain rfl : i = l.length := by omega
      rw [List.take_length] at hK
      rcases clone_pc (hp.app (.mp ks vs :: X)) (by omega) with ⟨rfl, rfl, e1⟩ | ⟨c, e1⟩
      · simp only [R1, R2, R3, R4, R5, R6, R7, R8, AV.flat, fillIn_nil, fillIn_cons, splice, AV.cells, AV.one, eqsOf, idx, SO.calls, List.reduceReplicate, Nat.reduceBEq, Nat.reduceLT, Nat.reduceAdd, Nat.reduceMul, Nat.reduceSub, Nat.reduceLeDiff, Nat.reduceEqDiff, ↓reduceIte, Int.reduceLT, Int.reduceEq, Int.reduceBNe, Int.reduceBEq, aeq, Int.reduceLE, Int.reduceNeg, Int.reduceMul, Int.reduceAdd, Int.reduceSub, Int.reduceToNat, Int.reducePow, g1, g2, g3, g4, g5, g6, g7, l1, a1, e1]
        refine ends_loop (fun k t H' => t.length = 91 ∧ H' = H ++ (.mp ks vs :: X) ∧ (t.getD 10 .undef = .nils ∧ t.getD 44 .undef = .int .i64 0 ∧ t.getD 45 .undef = .int .i64 0) ∧ k = 0) 0 ?_ ?_
        · simp only [R1, R2, R3, R4, R5, R6, R7, R8, AV.flat, fillIn_nil, fillIn_cons, splice, AV.cells, AV.one, eqsOf, idx, SO.calls, List.reduceReplicate, Nat.reduceBEq, Nat.reduceLT, Nat.reduceAdd, Nat.reduceMul, Nat.reduceSub, Nat.reduceLeDiff, Nat.reduceEqDiff, ↓reduceIte, Int.reduceLT, Int.reduceEq, Int.reduceBNe, Int.reduceBEq, aeq, Int.reduceLE, Int.reduceNeg, Int.reduceMul, Int.reduceAdd, Int.reduceSub, Int.reduceToNat, Int.reducePow, g1]
          try exact ⟨rfl, rfl, rfl⟩
        · rintro k t _ ⟨g1, rfl, ⟨g2, g3, g4⟩, rfl⟩
          rw [← tm_nil t]
          simp only [R1, R2, R3, R4, R5, R6, R7, R8, AV.flat, fillIn_nil, fillIn_cons, splice, AV.cells, AV.one, eqsOf, idx, SO.calls, List.reduceReplicate, Nat.reduceBEq, Nat.reduceLT, Nat.reduceAdd, Nat.reduceMul, Nat.reduceSub, Nat.reduceLeDiff, Nat.reduceEqDiff, ↓reduceIte, Int.reduceLT, Int.reduceEq, Int.reduceBNe, Int.reduceBEq, aeq, Int.reduceLE, Int.reduceNeg, Int.reduceMul, Int.reduceAdd, Int.reduceSub, Int.reduceToNat, Int.reducePow, g1, g2, g3, g4, leftE_ret, got_some]
          refine hW _ ⟨[], ?_, ?_⟩
          · rw [tidy_flat (v := .nils) rfl]; simp
          · rw [tidy_flat (v := .nils) rfl]; exact SlOf.nils (by decide)
      · have l2 := hp.lenOf
        have hYl : (H ++ (AO.mp ks vs :: X)).length = H.length + (X.length + 1) := by simp
        simp only [hYl, List.append_assoc, List.cons_append] at e1
        simp only [R1, R2, R3, R4, R5, R6, R7, R8, AV.flat, fillIn_nil, fillIn_cons, splice, AV.cells, AV.one, eqsOf, idx, SO.calls, List.reduceReplicate, Nat.reduceBEq, Nat.reduceLT, Nat.reduceAdd, Nat.reduceMul, Nat.reduceSub, Nat.reduceLeDiff, Nat.reduceEqDiff, ↓reduceIte, Int.reduceLT, Int.reduceEq, Int.reduceBNe, Int.reduceBEq, aeq, Int.reduceLE, Int.reduceNeg, Int.reduceMul, Int.reduceAdd, Int.reduceSub, Int.reduceToNat, Int.reducePow, g1, g2, g3, g4, g5, g6, g7, l1, a1, e1]
        refine ends_loop (fun k t H' => t.length = 91 ∧ (t.getD 0 .undef = v ∧ t.getD 1 .undef = w ∧ t.getD 5 .undef = .mp H.length ∧ t.getD 10 .undef = .sl (H.length + (X.length + 1)) 0 p.length 3 c ∧ t.getD 43 .undef = .sl (H.length + (X.length + 1)) 0 p.length 3 c ∧ t.getD 44 .undef = .int .i64 (p.length : Int)) ∧
          ∃ i : Nat, i ≤ p.length ∧ k = p.length - i ∧ t.getD 45 .undef = .int .i64 (i : Int) ∧ t.getD 11 .undef = .int .i64 (mvP l p (i - 1)) ∧ H' = H ++ (.mp ks vs :: (X ++ [.cells ((mixP l p i).flatMap Pc.cs) 43 true]))) p.length ?_ ?_
        · simp only [R1, R2, R3, R4, R5, R6, R7, R8, AV.flat, fillIn_nil, fillIn_cons, splice, AV.cells, AV.one, eqsOf, idx, SO.calls, List.reduceReplicate, Nat.reduceBEq, Nat.reduceLT, Nat.reduceAdd, Nat.reduceMul, Nat.reduceSub, Nat.reduceLeDiff, Nat.reduceEqDiff, ↓reduceIte, Int.reduceLT, Int.reduceEq, Int.reduceBNe, Int.reduceBEq, aeq, Int.reduceLE, Int.reduceNeg, Int.reduceMul, Int.reduceAdd, Int.reduceSub, Int.reduceToNat, Int.reducePow, g1, g2, g3, g4]
          exact ⟨0, by omega, by omega, rfl, rfl, by simp [mixP]⟩
        · rintro k t _ ⟨g1, ⟨g2, g3, g4, g5, g6, g7⟩, i, hi, rfl, g8, g9, rfl⟩
          rw [← tm_nil t]
          by_cases hc : i < p.length
          · have a2 : ((i : Int) < (p.length : Int)) = True := eq_true (by omega)
            have w1 : IntKind.i64.wrap ((i : Int) + 1) = ((i + 1 : Nat) : Int) := by rw [wrap_i64 (by omega) (by omega)]; rfl
            obtain ⟨m1, m2, m3⟩ := mix_at (l := l) hc
            have bx := hx _ (List.getElem_mem hc)
            have bm := mvP_le (by decide) hb p i
            have wx : IntKind.i64.wrap (p[i].x + mvP l p i) = p[i].x + mvP l p i := wrap_i64 (by omega) (by omega)
            have hrow := row_at H (.mp ks vs :: X) (.cells ((mixP l p i).flatMap Pc.cs) 43 true)
            have hld : aload (H ++ (.mp ks vs :: (X ++ [.cells ((mixP l p i).flatMap Pc.cs) 43 true]))) 1 (.ptr (H.length + (X.length + 1)) (i * 3 + 1)) = some [.int .i64 p[i].x] := by
              have := aload_row (n := 1) (off := i * 3 + 1) hrow
              rw [if_pos (by rw [m1]; omega), m2] at this
              simpa using this
            have hst : astore (H ++ (.mp ks vs :: (X ++ [.cells ((mixP l p i).flatMap Pc.cs) 43 true]))) (.ptr (H.length + (X.length + 1)) (i * 3 + 1)) [.int .i64 (p[i].x + mvP l p i)] = some (H ++ (.mp ks vs :: (X ++ [.cells ((mixP l p (i + 1)).flatMap Pc.cs) 43 true]))) := by
              have := astore_row (off := i * 3 + 1) (c := [.int .i64 (p[i].x + mvP l p i)]) hrow
              rw [if_pos ⟨by rw [m1]; simp; omega, rfl⟩, row_set] at this
              have hsp : splice ((mixP l p i).flatMap Pc.cs) (i * 3 + 1) [.int .i64 (p[i].x + mvP l p i)] = (mixP l p (i + 1)).flatMap Pc.cs := by rw [← m3]; simp [splice]
              rw [hsp] at this
              simpa using this
            have hia : ∀ k H', iaddrOf 3 (.sl (H.length + (X.length + 1)) 0 p.length 3 c) (.int k (i : Int)) H' = some (.ptr (H.length + (X.length + 1)) (i * 3), H') := fun k H' => by simp [iaddrOf, aint, hc]
            have hfa : ∀ H', faddrOf 1 (.ptr (H.length + (X.length + 1)) (i * 3)) H' = some (.ptr (H.length + (X.length + 1)) (i * 3 + 1), H') := fun H' => by simp [faddrOf]
            by_cases h0 : i = 0
            · subst h0
              have b0 : ((0 : Int) < 0) = False := eq_false (by omega)
              simp only [mvP] at wx hst
              simp only [Int.natCast_zero, Nat.zero_mul, Nat.zero_add] at *
              simp only [R1, R2, R3, R4, R5, R6, R7, R8, AV.flat, fillIn_nil, fillIn_cons, splice, AV.cells, AV.one, eqsOf, idx, SO.calls, List.reduceReplicate, Nat.reduceBEq, Nat.reduceLT, Nat.reduceAdd, Nat.reduceMul, Nat.reduceSub, Nat.reduceLeDiff, Nat.reduceEqDiff, ↓reduceIte, Int.reduceLT, Int.reduceEq, Int.reduceBNe, Int.reduceBEq, aeq, Int.reduceLE, Int.reduceNeg, Int.reduceMul, Int.reduceAdd, Int.reduceSub, Int.reduceToNat, Int.reducePow, g1, g2, g3, g4, g5, g6, g7, g8, g9, a2, w1, b0, hld, hst, hia, hfa, wx]
              exact ⟨_, by omega, 1, by omega, rfl, rfl, rfl, rfl⟩
            · obtain ⟨j, rfl⟩ : ∃ j, i = j + 1 := ⟨i - 1, by omega⟩
              have hj : j < p.length := by omega
              have b0 : (((j + 1 : Nat) : Int) > 0) = True := eq_true (by omega)
              have wj : IntKind.i64.wrap (((j + 1 : Nat) : Int) - 1) = (j : Int) := by rw [wrap_i64 (by omega) (by omega)]; omega
              have E := hp.elem hc
              have F := hp.elem hj
              have hmv : mvP l p (j + 1) = if p[j].y = p[j + 1].y then mvP l p j + byP l p[j].g p[j + 1].g else 0 := by rw [mvP, getD_at hj, getD_at hc]
              have bj := mvP_le (by decide) hb p j
              have bb := byP_le (by decide) hb p[j].g p[j + 1].g
              have hr : (H ++ (.mp ks vs :: (X ++ [.cells ((mixP l p (j + 1)).flatMap Pc.cs) 43 true])))[H.length]? = some (.mp ks vs) := by rw [List.getElem?_append_right (Nat.le_refl _), Nat.sub_self]; rfl
              have L := (km_look hK hr p[j].g p[j + 1].g).1
              have wm : IntKind.i64.wrap (mvP l p j + byP l p[j].g p[j + 1].g) = mvP l p j + byP l p[j].g p[j + 1].g := wrap_i64 (by omega) (by omega)
              simp only [Nat.add_sub_cancel] at g9
              generalize (mixP l p (j + 1)).flatMap Pc.cs = R at *
              generalize hR : (mixP l p (j + 1 + 1)).flatMap Pc.cs = R' at *
              generalize hM1 : mvP l p (j + 1) = M1 at *
              generalize mvP l p j = M0 at *
              generalize p[j] = q0 at *
              generalize p[j + 1] = q1 at *
              obtain ⟨x0, y0, z0⟩ := q0
              obtain ⟨x1, y1, z1⟩ := q1
              simp only [Pc.cs] at *
              by_cases hy : z0 = z1
              · have c1 : (z0 == z1) = true := by rw [beq_iff_eq]; exact hy
                rw [if_pos hy] at hmv
                subst hmv
                simp only [R1, R2, R3, R4, R5, R6, R7, R8, AV.flat, fillIn_nil, fillIn_cons, splice, AV.cells, AV.one, eqsOf, idx, SO.calls, List.reduceReplicate, Nat.reduceBEq, Nat.reduceLT, Nat.reduceAdd, Nat.reduceMul, Nat.reduceSub, Nat.reduceLeDiff, Nat.reduceEqDiff, ↓reduceIte, Int.reduceLT, Int.reduceEq, Int.reduceBNe, Int.reduceBEq, aeq, Int.reduceLE, Int.reduceNeg, Int.reduceMul, Int.reduceAdd, Int.reduceSub, Int.reduceToNat, Int.reducePow, g1, g2, g3, g4, g5, g6, g7, g8, g9, a2, w1, b0, wj, E, F, c1, L, wm, hld, hst, hia, hfa, wx]
                exact ⟨_, by omega, j + 1 + 1, by omega, rfl, rfl, by rw [Nat.add_sub_cancel, hM1], by rw [hR]⟩
              · have c1 : (z0 == z1) = false := by rw [beq_eq_false_iff_ne]; exact hy
                rw [if_neg hy] at hmv
                subst hmv
                simp only [R1, R2, R3, R4, R5, R6, R7, R8, AV.flat, fillIn_nil, fillIn_cons, splice, AV.cells, AV.one, eqsOf, idx, SO.calls, List.reduceReplicate, Nat.reduceBEq, Nat.reduceLT, Nat.reduceAdd, Nat.reduceMul, Nat.reduceSub, Nat.reduceLeDiff, Nat.reduceEqDiff, ↓reduceIte, Int.reduceLT, Int.reduceEq, Int.reduceBNe, Int.reduceBEq, aeq, Int.reduceLE, Int.reduceNeg, Int.reduceMul, Int.reduceAdd, Int.reduceSub, Int.reduceToNat, Int.reducePow, g1, g2, g3, g4, g5, g6, g7, g8, g9, a2, w1, b0, wj, E, F, c1, hld, hst, hia, hfa, wx]
                exact ⟨_, by omega, j + 1 + 1, by omega, rfl, rfl, by rw [Nat.add_sub_cancel, hM1], by rw [hR]⟩
          · have a2 : ((i : Int) < (p.length : Int)) = False := eq_false (by omega)
            obtain rfl : i = p.length := by omega
            have hmix : mixP l p p.length = shiftP l p := by unfold mixP; rw [List.drop_length, List.append_nil, ← shiftP_len l p, List.take_length]
            have fl : ((shiftP l p).flatMap Pc.cs).all AV.flat = true := by
              simp only [List.all_flatMap, List.all_eq_true]
              exact fun a _ => by simpa using pc_cel.flat a
            have hfl : ((shiftP l p).flatMap Pc.cs).length = p.length * 3 := by rw [flat_len fun a _ => pc_cel.size a, shiftP_len]
            have ti := @tidy_sl1 H (.mp ks vs :: (X ++ [.cells ((shiftP l p).flatMap Pc.cs) 43 true])) (X.length + 1) 0 p.length 3 c ((shiftP l p).flatMap Pc.cs) 43 true (by simp) fl (by omega) (by decide)
            rw [List.drop_zero, List.take_of_length_le (by omega)] at ti
            rw [hmix]
            have hr := SlOf.row (H := H) (e := 43) (w := true) (cap := c) (g := Pc.cs) (sz := 3) (l := shiftP l p) (fun a _ => pc_cel.size a) (by decide)
            rw [shiftP_len] at hr
            generalize (shiftP l p).flatMap Pc.cs = R at *
            simp only [R1, R2, R3, R4, R5, R6, R7, R8, AV.flat, fillIn_nil, fillIn_cons, splice, AV.cells, AV.one, eqsOf, idx, SO.calls, List.reduceReplicate, Nat.reduceBEq, Nat.reduceLT, Nat.reduceAdd, Nat.reduceMul, Nat.reduceSub, Nat.reduceLeDiff, Nat.reduceEqDiff, ↓reduceIte, Int.reduceLT, Int.reduceEq, Int.reduceBNe, Int.reduceBEq, aeq, Int.reduceLE, Int.reduceNeg, Int.reduceMul, Int.reduceAdd, Int.reduceSub, Int.reduceToNat, Int.reducePow, g1, g2, g3, g4, g5, g6, g7, g8, g9, a2, leftE_ret, got_some]
            rw [ti]
            exact hW _ ⟨_, rfl, hr⟩
end Go.Proofs.Ytppkggodpihfiaa
