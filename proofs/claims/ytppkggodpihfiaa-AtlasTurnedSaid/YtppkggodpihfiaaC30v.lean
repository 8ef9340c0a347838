/- Chapter 30: atlas.Encode: the walk. -/
import Derived.Test.YtppkggodpihfiaaC30u
set_option linter.unusedVariables false
set_option linter.unusedSimpArgs false
set_option maxRecDepth 100000
set_option maxHeartbeats 4000000
namespace Go.Proofs.Ytppkggodpihfiaa
open Go Go.Den
theorem c25 {H : Heap} {a : Atl} {vg vp vs : AV} (hs : AtlOf H a vg vp vs) (hp : a.pr.length ≤ 9223372036854775807) (hd : ∀ s ∈ a.pgs, s.length ≤ 1000000000) (hT : MayA a → a.pgs.flatten.length ≤ 700000) :
    call env 25 [.agg (a.cs vg vp vs)] H = some (.tup [.str (mkS (if MayA a then encP a else [])), .int .i64 (if MayA a then 0 else 1)], H) := by
  have z1 := slof_cell hs.gl
  have z2 := slof_cell hs.pr
  have z3 := slof_cell hs.pgs
  simp only [AV.cells, AV.one] at z1 z2 z3
  have eM := fun X => c26 (hs.app X) hp hd
  by_cases hm : MayA a
  case neg =>
    rw [if_neg hm, if_neg hm]
    rw [decide_eq_false hm] at eM
    simp only [Atl.cs] at eM ⊢
    refine call_ends (fn := s25) rfl rfl (by simp [s25]) ?_
    simp only [s25, R1, R2, R3, R4, R5, R6, R7, R8, AV.flat, fillIn_nil, fillIn_cons, splice, AV.cells, AV.one, eqsOf, idx, SO.calls, List.reduceReplicate, Nat.reduceBEq, Nat.reduceLT, Nat.reduceAdd, Nat.reduceMul, Nat.reduceSub, Nat.reduceLeDiff, Nat.reduceEqDiff, ↓reduceIte, Int.reduceLT, Int.reduceEq, Int.reduceBNe, Int.reduceBEq, aeq, Int.reduceLE, Int.reduceNeg, Int.reduceMul, Int.reduceAdd, Int.reduceSub, Int.reduceToNat, Int.reducePow, eM, z1, z2, z3]
    rw [tidy_tup' rfl]
  rw [if_pos hm, if_pos hm]
  rw [decide_eq_true hm] at eM
  have hT := hT hm
  obtain ⟨hN, hpl, hel, hpr⟩ := id hm
  obtain ⟨_, _, _, _, _, _, _, _, _, n1, n2, n3, n4, n5, n6, n7⟩ := hN
  have hrl : a.pr.length ≤ 4096 := by
    unfold mayP at hpr
    simp only [Bool.and_eq_true, decide_eq_true_eq] at hpr
    exact hpr.1.2.2
  have l1 := hs.gl.lenOf
  have l2 := hs.pr.lenOf
  have l3 := hs.pgs.lenOf
  obtain ⟨box, hbox⟩ : ∃ box, box = AO.cells (a.cs vg vp vs) 53 true := ⟨_, rfl⟩
  obtain ⟨V1, e1, hB1, hk1⟩ := wr_str (Bl.fresh (e := 110) (H ++ [box]) rfl) (s := magicL) (by decide) (by decide)
  obtain ⟨V2, e2, hB2, hk2⟩ := wr_short hB1 [a.em, a.px, a.rg, a.up, a.down, a.gap, a.w, a.h, (a.pgs.length : Int), (a.gl.length : Int)] (by simp only [List.length_append, List.length_cons, List.length_nil, magicL]; omega) (Nat.succ_pos _)
  obtain ⟨V3, e3, hB3, hk3⟩ := wr_long hB2 [(a.pr.length : Int)] (by simp only [List.length_append, shB_len, List.length_cons, List.length_nil, magicL]; omega) (Nat.succ_pos _)
  rw [hbox] at e1 e2 e3
  simp only [Atl.cs, IntC, magicL, List.flatMap_cons, List.flatMap_nil, List.cons_append, List.nil_append, List.append_nil, List.length_cons, List.length_nil, Nat.zero_add, Nat.reduceAdd] at e1 e2 e3
  have hB3' : Bl 110 (H ++ [box]) V3 (hdB a) := by
    rw [List.nil_append, List.append_assoc] at hB3; exact hB3
  clear hB1 hB2 hB3
  simp only [Atl.cs] at eM ⊢
  refine call_ends (fn := s25) rfl rfl (by simp [s25]) ?_
  simp only [s25, R1, R2, R3, R4, R5, R6, R7, R8, AV.flat, fillIn_nil, fillIn_cons, splice, AV.cells, AV.one, eqsOf, idx, SO.calls, List.reduceReplicate, Nat.reduceBEq, Nat.reduceLT, Nat.reduceAdd, Nat.reduceMul, Nat.reduceSub, Nat.reduceLeDiff, Nat.reduceEqDiff, ↓reduceIte, Int.reduceLT, Int.reduceEq, Int.reduceBNe, Int.reduceBEq, aeq, Int.reduceLE, Int.reduceNeg, Int.reduceMul, Int.reduceAdd, Int.reduceSub, Int.reduceToNat, Int.reducePow, eM, z1, z2, z3, e1, e2, e3, l1, l2, l3]
  refine ends_loop (fun k t H' => t.length = 138 ∧ (t.getD 1 .undef = .ptr H.length 0 ∧ t.getD 4 .undef = .ptr (H.length + 1) 0 ∧ t.getD 54 .undef = vg ∧ t.getD 55 .undef = .int .i64 (a.gl.length : Int)) ∧ ∃ (i : Nat) (R : Heap), i ≤ a.gl.length ∧ k = a.gl.length - i ∧ t.getD 56 .undef = .int .i64 (i : Int) ∧
    H ++ (box :: R) = H' ∧ Bl 110 (H ++ [box]) R (hdB a ++ (a.gl.take i).flatMap entB)) a.gl.length ?_ ?_
  · simp only [R1, R2, R3, R4, R5, R6, R7, R8, AV.flat, fillIn_nil, fillIn_cons, splice, AV.cells, AV.one, eqsOf, idx, SO.calls, List.reduceReplicate, Nat.reduceBEq, Nat.reduceLT, Nat.reduceAdd, Nat.reduceMul, Nat.reduceSub, Nat.reduceLeDiff, Nat.reduceEqDiff, ↓reduceIte, Int.reduceLT, Int.reduceEq, Int.reduceBNe, Int.reduceBEq, aeq, Int.reduceLE, Int.reduceNeg, Int.reduceMul, Int.reduceAdd, Int.reduceSub, Int.reduceToNat, Int.reducePow]
    exact ⟨0, V3, by omega, by omega, rfl, by rw [hbox]; rfl, by simpa using hB3'⟩
  · rintro k t _ ⟨g1, ⟨g2, g3, g4, g5⟩, i, R, hi, rfl, g6, rfl, hB⟩
    rw [← tm_nil t]
    by_cases hc : i < a.gl.length
    · have a1 : ((i : Int) < (a.gl.length : Int)) = True := eq_true (by omega)
      have w1 : IntKind.i64.wrap ((i : Int) + 1) = ((i + 1 : Nat) : Int) := by rw [wrap_i64 (by omega) (by omega)]; rfl
      have E := hs.gl.elem hc
      have hx := flat_take (f := entB) hc
      have hlen : (hdB a ++ (a.gl.take i).flatMap entB).length = 30 + 20 * i := by
        rw [List.length_append, hdB_len, ents_len, List.length_take]; omega
      generalize a.gl[i] = e at *
      have hB0 := hB.app [.cells (Ent.cs e) 107 true]
      obtain ⟨Q1, f1, hQ1, hk1⟩ := wr_short hB0 [e.wd] (by rw [hlen]; simp only [List.length_cons, List.length_nil]; omega) (Nat.succ_pos _)
      obtain ⟨Q2, f2, hQ2, hk2⟩ := wr_long hQ1 [e.c.x, e.c.y] (by rw [List.length_append, hlen, shB_len]; simp only [List.length_cons, List.length_nil]; omega) (Nat.succ_pos _)
      obtain ⟨Q3, f3, hQ3, hk3⟩ := wr_short hQ2 [e.c.w, e.c.h, e.pg, e.x, e.y] (by rw [List.length_append, List.length_append, hlen, shB_len, loB_len]; simp only [List.length_cons, List.length_nil]; omega) (Nat.succ_pos _)
      have r1 : Q1[R.length]? = some (.cells (Ent.cs e) 107 true) := hk1.2 _ _ _ _ (by decide) (by decide) (by simp)
      have r2 : Q2[R.length]? = some (.cells (Ent.cs e) 107 true) := hk2.2 _ _ _ _ (by decide) (by decide) r1
      have hQ4 : Bl 110 (H ++ [box]) Q3 (hdB a ++ (a.gl.take (i + 1)).flatMap entB) := by
        rw [hx, show entB e = shB [e.wd] ++ (loB [e.c.x, e.c.y] ++ shB [e.c.w, e.c.h, e.pg, e.x, e.y]) from rfl]; simpa only [List.append_assoc] using hQ3
      clear hQ1 hQ2 hQ3
      have y1 := fun n off => aload_row (n := n) (off := off) r1
      have y2 := fun n off => aload_row (n := n) (off := off) r2
      obtain ⟨wd, ⟨cx, cy, cw, ch⟩, pg, ex, ey⟩ := e
      simp only [Ent.cs] at E y1 y2
      simp only [Ent.cs, IntC, List.flatMap_cons, List.flatMap_nil, List.cons_append, List.nil_append, List.append_nil, List.append_assoc, List.length_append, List.length_cons, List.length_nil, Nat.zero_add, Nat.reduceAdd] at f1 f2 f3
      simp only [R1, R2, R3, R4, R5, R6, R7, R8, AV.flat, fillIn_nil, fillIn_cons, splice, AV.cells, AV.one, eqsOf, idx, SO.calls, List.reduceReplicate, Nat.reduceBEq, Nat.reduceLT, Nat.reduceAdd, Nat.reduceMul, Nat.reduceSub, Nat.reduceLeDiff, Nat.reduceEqDiff, ↓reduceIte, Int.reduceLT, Int.reduceEq, Int.reduceBNe, Int.reduceBEq, aeq, Int.reduceLE, Int.reduceNeg, Int.reduceMul, Int.reduceAdd, Int.reduceSub, Int.reduceToNat, Int.reducePow, g1, g2, g3, g4, g5, g6, a1, w1, E, f1, f2, f3, y1, y2]
      exact ⟨_, by omega, i + 1, Q3, by omega, rfl, rfl, rfl, hQ4⟩
    · have a1 : ((i : Int) < (a.gl.length : Int)) = False := eq_false (by omega)
      obtain rfl : i = a.gl.length := by omega
      rw [List.take_length] at hB
      simp only [R1, R2, R3, R4, R5, R6, R7, R8, AV.flat, fillIn_nil, fillIn_cons, splice, AV.cells, AV.one, eqsOf, idx, SO.calls, List.reduceReplicate, Nat.reduceBEq, Nat.reduceLT, Nat.reduceAdd, Nat.reduceMul, Nat.reduceSub, Nat.reduceLeDiff, Nat.reduceEqDiff, ↓reduceIte, Int.reduceLT, Int.reduceEq, Int.reduceBNe, Int.reduceBEq, aeq, Int.reduceLE, Int.reduceNeg, Int.reduceMul, Int.reduceAdd, Int.reduceSub, Int.reduceToNat, Int.reducePow, g1, g2, g3, g4, g5, g6, a1]
      rw [hbox]
      simp only [R1, R2, R3, R4, R5, R6, R7, R8, AV.flat, fillIn_nil, fillIn_cons, splice, AV.cells, AV.one, eqsOf, idx, SO.calls, List.reduceReplicate, Nat.reduceBEq, Nat.reduceLT, Nat.reduceAdd, Nat.reduceMul, Nat.reduceSub, Nat.reduceLeDiff, Nat.reduceEqDiff, ↓reduceIte, Int.reduceLT, Int.reduceEq, Int.reduceBNe, Int.reduceBEq, aeq, Int.reduceLE, Int.reduceNeg, Int.reduceMul, Int.reduceAdd, Int.reduceSub, Int.reduceToNat, Int.reducePow, Atl.cs, l2, g1]
      refine ends_loop (fun k t H' => t.length = 138 ∧ (t.getD 1 .undef = .ptr H.length 0 ∧ t.getD 4 .undef = .ptr (H.length + 1) 0 ∧ t.getD 94 .undef = vp ∧ t.getD 95 .undef = .int .i64 (a.pr.length : Int)) ∧ ∃ (i : Nat) (R : Heap), i ≤ a.pr.length ∧ k = a.pr.length - i ∧ t.getD 96 .undef = .int .i64 (i : Int) ∧
        H ++ (box :: R) = H' ∧ Bl 110 (H ++ [box]) R (hdB a ++ (a.gl.flatMap entB ++ (a.pr.take i).flatMap prB))) a.pr.length ?_ ?_
      · simp only [R1, R2, R3, R4, R5, R6, R7, R8, AV.flat, fillIn_nil, fillIn_cons, splice, AV.cells, AV.one, eqsOf, idx, SO.calls, List.reduceReplicate, Nat.reduceBEq, Nat.reduceLT, Nat.reduceAdd, Nat.reduceMul, Nat.reduceSub, Nat.reduceLeDiff, Nat.reduceEqDiff, ↓reduceIte, Int.reduceLT, Int.reduceEq, Int.reduceBNe, Int.reduceBEq, aeq, Int.reduceLE, Int.reduceNeg, Int.reduceMul, Int.reduceAdd, Int.reduceSub, Int.reduceToNat, Int.reducePow, g1, g2, g3]
        exact ⟨0, R, by omega, by omega, rfl, by rw [hbox]; rfl, by simpa using hB⟩
      · clear hB
        rintro k t _ ⟨g1, ⟨g2, g3, g4, g5⟩, i, R, hi, rfl, g6, rfl, hB⟩
        rw [← tm_nil t]
        by_cases hc : i < a.pr.length
        · have a1 : ((i : Int) < (a.pr.length : Int)) = True := eq_true (by omega)
          have w1 : IntKind.i64.wrap ((i : Int) + 1) = ((i + 1 : Nat) : Int) := by rw [wrap_i64 (by omega) (by omega)]; rfl
          have E := hs.pr.elem hc
          have hx := flat_take (f := prB) hc
          have hlen : (hdB a ++ (a.gl.flatMap entB ++ (a.pr.take i).flatMap prB)).length = 30 + 20 * a.gl.length + 6 * i := by
            rw [List.length_append, List.length_append, hdB_len, ents_len, prs_len, List.length_take]; omega
          generalize a.pr[i] = e at *
          have hB0 := hB.app [.cells (Pr.cs e) 113 true]
          obtain ⟨Q1, f1, hQ1, hk1⟩ := wr_long hB0 [e.code] (by rw [hlen]; simp only [List.length_cons, List.length_nil]; omega) (Nat.succ_pos _)
          obtain ⟨Q2, f2, hQ2, hk2⟩ := wr_short hQ1 [e.glyph] (by rw [List.length_append, hlen, loB_len]; simp only [List.length_cons, List.length_nil]; omega) (Nat.succ_pos _)
          have r1 : Q1[R.length]? = some (.cells (Pr.cs e) 113 true) := hk1.2 _ _ _ _ (by decide) (by decide) (by simp)
          have hQ4 : Bl 110 (H ++ [box]) Q2 (hdB a ++ (a.gl.flatMap entB ++ (a.pr.take (i + 1)).flatMap prB)) := by
            rw [hx, show prB e = loB [e.code] ++ shB [e.glyph] from rfl]; simpa only [List.append_assoc] using hQ2
          clear hQ1 hQ2
          have y1 := fun n off => aload_row (n := n) (off := off) r1
          obtain ⟨pc, pg⟩ := e
          simp only [Pr.cs] at E y1
          simp only [Pr.cs, IntC, List.flatMap_cons, List.flatMap_nil, List.cons_append, List.nil_append, List.append_nil, List.append_assoc, List.length_append, List.length_cons, List.length_nil, Nat.zero_add, Nat.reduceAdd] at f1 f2
          simp only [R1, R2, R3, R4, R5, R6, R7, R8, AV.flat, fillIn_nil, fillIn_cons, splice, AV.cells, AV.one, eqsOf, idx, SO.calls, List.reduceReplicate, Nat.reduceBEq, Nat.reduceLT, Nat.reduceAdd, Nat.reduceMul, Nat.reduceSub, Nat.reduceLeDiff, Nat.reduceEqDiff, ↓reduceIte, Int.reduceLT, Int.reduceEq, Int.reduceBNe, Int.reduceBEq, aeq, Int.reduceLE, Int.reduceNeg, Int.reduceMul, Int.reduceAdd, Int.reduceSub, Int.reduceToNat, Int.reducePow, g1, g2, g3, g4, g5, g6, a1, w1, E, f1, f2, y1]
          exact ⟨_, by omega, i + 1, Q2, by omega, rfl, rfl, rfl, hQ4⟩
        · have a1 : ((i : Int) < (a.pr.length : Int)) = False := eq_false (by omega)
          obtain rfl : i = a.pr.length := by omega
          rw [List.take_length] at hB
          simp only [R1, R2, R3, R4, R5, R6, R7, R8, AV.flat, fillIn_nil, fillIn_cons, splice, AV.cells, AV.one, eqsOf, idx, SO.calls, List.reduceReplicate, Nat.reduceBEq, Nat.reduceLT, Nat.reduceAdd, Nat.reduceMul, Nat.reduceSub, Nat.reduceLeDiff, Nat.reduceEqDiff, ↓reduceIte, Int.reduceLT, Int.reduceEq, Int.reduceBNe, Int.reduceBEq, aeq, Int.reduceLE, Int.reduceNeg, Int.reduceMul, Int.reduceAdd, Int.reduceSub, Int.reduceToNat, Int.reducePow, g1, g2, g3, g4, g5, g6, a1]
          rw [hbox]
          simp only [R1, R2, R3, R4, R5, R6, R7, R8, AV.flat, fillIn_nil, fillIn_cons, splice, AV.cells, AV.one, eqsOf, idx, SO.calls, List.reduceReplicate, Nat.reduceBEq, Nat.reduceLT, Nat.reduceAdd, Nat.reduceMul, Nat.reduceSub, Nat.reduceLeDiff, Nat.reduceEqDiff, ↓reduceIte, Int.reduceLT, Int.reduceEq, Int.reduceBNe, Int.reduceBEq, aeq, Int.reduceLE, Int.reduceNeg, Int.reduceMul, Int.reduceAdd, Int.reduceSub, Int.reduceToNat, Int.reducePow, Atl.cs, l3, g1]
          refine ends_loop (fun k t H' => t.length = 138 ∧ (t.getD 4 .undef = .ptr (H.length + 1) 0 ∧ t.getD 112 .undef = vs ∧ t.getD 113 .undef = .int .i64 (a.pgs.length : Int)) ∧ ∃ (i : Nat) (R : Heap), i ≤ a.pgs.length ∧ k = a.pgs.length - i ∧ t.getD 114 .undef = .int .i64 (i : Int) ∧
            H ++ (box :: R) = H' ∧ Bl 110 (H ++ [box]) R (hdB a ++ (a.gl.flatMap entB ++ (a.pr.flatMap prB ++ (a.pgs.take i).flatten)))) a.pgs.length ?_ ?_
          · simp only [R1, R2, R3, R4, R5, R6, R7, R8, AV.flat, fillIn_nil, fillIn_cons, splice, AV.cells, AV.one, eqsOf, idx, SO.calls, List.reduceReplicate, Nat.reduceBEq, Nat.reduceLT, Nat.reduceAdd, Nat.reduceMul, Nat.reduceSub, Nat.reduceLeDiff, Nat.reduceEqDiff, ↓reduceIte, Int.reduceLT, Int.reduceEq, Int.reduceBNe, Int.reduceBEq, aeq, Int.reduceLE, Int.reduceNeg, Int.reduceMul, Int.reduceAdd, Int.reduceSub, Int.reduceToNat, Int.reducePow, g1, g2, g3]
            exact ⟨0, R, by omega, by omega, rfl, by rw [hbox]; rfl, by simpa using hB⟩
          · clear hB
            rintro k t _ ⟨g1, ⟨g3, g4, g5⟩, i, R, hi, rfl, g6, rfl, hB⟩
            rw [← tm_nil t]
            by_cases hc : i < a.pgs.length
            · have a1 : ((i : Int) < (a.pgs.length : Int)) = True := eq_true (by omega)
              have w1 : IntKind.i64.wrap ((i : Int) + 1) = ((i + 1 : Nat) : Int) := by rw [wrap_i64 (by omega) (by omega)]; rfl
              have E := hs.pgs.elem hc
              have hx := join_take hc
              have hle := join_le a.pgs (i + 1)
              have hne : a.pgs[i] ≠ [] := fun h => by
                have := hpl _ (List.getElem_mem hc)
                rw [h] at this
                have h1 : 0 < 4 * a.w * a.h := Int.mul_pos (by omega) (by omega)
                simp only [List.length_nil] at this
                omega
              rw [hx, List.length_append] at hle
              have hlen : (hdB a ++ (a.gl.flatMap entB ++ (a.pr.flatMap prB ++ (a.pgs.take i).flatten))).length = 30 + 20 * a.gl.length + 6 * a.pr.length + (a.pgs.take i).flatten.length := by
                simp only [List.length_append, hdB_len, ents_len, prs_len]; omega
              generalize a.pgs[i] = s at *
              obtain ⟨Q1, f1, hQ1, hk1⟩ := wr_str hB hne (by rw [hlen]; omega)
              have hQ4 : Bl 110 (H ++ [box]) Q1 (hdB a ++ (a.gl.flatMap entB ++ (a.pr.flatMap prB ++ (a.pgs.take (i + 1)).flatten))) := by
                rw [hx]; simpa only [List.append_assoc] using hQ1
              clear hQ1
              simp only [StrC, Nat.mul_one] at E
              simp only [R1, R2, R3, R4, R5, R6, R7, R8, AV.flat, fillIn_nil, fillIn_cons, splice, AV.cells, AV.one, eqsOf, idx, SO.calls, List.reduceReplicate, Nat.reduceBEq, Nat.reduceLT, Nat.reduceAdd, Nat.reduceMul, Nat.reduceSub, Nat.reduceLeDiff, Nat.reduceEqDiff, ↓reduceIte, Int.reduceLT, Int.reduceEq, Int.reduceBNe, Int.reduceBEq, aeq, Int.reduceLE, Int.reduceNeg, Int.reduceMul, Int.reduceAdd, Int.reduceSub, Int.reduceToNat, Int.reducePow, g1, g3, g4, g5, g6, a1, w1, E, f1]
              exact ⟨_, by omega, i + 1, Q1, by omega, rfl, rfl, rfl, hQ4⟩
            · have a1 : ((i : Int) < (a.pgs.length : Int)) = False := eq_false (by omega)
              obtain rfl : i = a.pgs.length := by omega
              rw [List.take_length] at hB
              have hB : Bl 110 (H ++ [box]) R (encP0 a) := hB
              have hlen : (encP0 a).length = 30 + 20 * a.gl.length + 6 * a.pr.length + a.pgs.flatten.length := by
                unfold encP0; simp only [List.length_append, hdB_len, ents_len, prs_len]; omega
              obtain ⟨Q1, f1, hQ1, hk1⟩ := wr_got hB (by omega)
              have f2 := fun H => c55 (mkS (encP0 a)) H (by rw [mkS_size]; omega)
              have hcr : (Crc.crc (mkS (encP0 a)).data.toList ^^^ 4294967295#32).toNat = crcN (encP0 a) := rfl
              rw [hcr] at f2
              have f3 := fun H => c54 (crcN (encP0 a)) H (crcN_lt _)
              obtain ⟨Q2, f4, hQ2, hk2⟩ := wr_str hQ1 (s := putB (crcN (encP0 a)) 4) (put_some _ _) (by rw [putB_len]; omega)
              obtain ⟨Q3, f5, hQ3, hk3⟩ := wr_got hQ2 (by rw [List.length_append, putB_len]; omega)
              have q1 : (H.length + (R.length + 1) ≤ H.length + (Q1.length + 1)) = True := eq_true (by have := hk1.1; omega)
              have q2 : (H.length + (Q1.length + 1) ≤ H.length + (Q2.length + 1)) = True := eq_true (by have := hk2.1; omega)
              simp only [R1, R2, R3, R4, R5, R6, R7, R8, AV.flat, fillIn_nil, fillIn_cons, splice, AV.cells, AV.one, eqsOf, idx, SO.calls, List.reduceReplicate, Nat.reduceBEq, Nat.reduceLT, Nat.reduceAdd, Nat.reduceMul, Nat.reduceSub, Nat.reduceLeDiff, Nat.reduceEqDiff, ↓reduceIte, Int.reduceLT, Int.reduceEq, Int.reduceBNe, Int.reduceBEq, aeq, Int.reduceLE, Int.reduceNeg, Int.reduceMul, Int.reduceAdd, Int.reduceSub, Int.reduceToNat, Int.reducePow, g1, g3, g4, g5, g6, a1, f1, f2, f3, f4, f5, q1, q2, shun_un, veil_un]
              rw [tidy_tup' rfl]
              rfl
end Go.Proofs.Ytppkggodpihfiaa
