/- Chapter 30: the reference's Encode. -/
import Derived.Test.YtppkggodpihfiaaC30e
import Derived.Test.YtppkggodpihfiaaC30v
import Derived.Test.YtppkggodpihfiaaC30w
set_option linter.unusedVariables false
set_option linter.unusedSimpArgs false
set_option maxRecDepth 100000
set_option maxHeartbeats 4000000
namespace Go.Proofs.Ytppkggodpihfiaa
open Go Go.Den
theorem p_two (n : Int) (H : Heap) : call env 67 [.int .i64 n, .int .i64 2] H = some (.str (mkS (putB (u16N n) 2)), H) := by
  have w1 := u16N_wrap n
  have w2 : IntKind.u32.wrap ((u16N n : Nat) : Int) = ((u16N n : Nat) : Int) := wrap_u32 (by omega) (by have := u16N_lt n; omega)
  have e1 := fun H => c68 (u16N n) 2 H (by have := u16N_lt n; omega) (by decide)
  simp only [Int.cast_ofNat_Int] at e1
  refine call_ends (fn := s67) rfl rfl (by simp [s67]) ?_
  simp only [s67, R1, R2, R3, R4, R5, R6, R7, R8, AV.flat, fillIn_nil, fillIn_cons, splice, AV.cells, AV.one, eqsOf, idx, SO.calls, List.reduceReplicate, Nat.reduceBEq, Nat.reduceLT, Nat.reduceAdd, Nat.reduceMul, Nat.reduceSub, Nat.reduceLeDiff, Nat.reduceEqDiff, ↓reduceIte, Int.reduceLT, Int.reduceEq, Int.reduceBNe, Int.reduceBEq, aeq, Int.reduceLE, Int.reduceNeg, Int.reduceMul, Int.reduceAdd, Int.reduceSub, Int.reduceToNat, Int.reducePow, w1, w2, e1, tidy_str0]
theorem p_four (n : Int) (H : Heap) : call env 67 [.int .i64 n, .int .i64 4] H = some (.str (mkS (putB (u32N n) 4)), H) := by
  have w1 := u32N_wrap n
  have e1 := fun H => c68 (u32N n) 4 H (u32N_lt n) (by decide)
  simp only [Int.cast_ofNat_Int] at e1
  refine call_ends (fn := s67) rfl rfl (by simp [s67]) ?_
  simp only [s67, R1, R2, R3, R4, R5, R6, R7, R8, AV.flat, fillIn_nil, fillIn_cons, splice, AV.cells, AV.one, eqsOf, idx, SO.calls, List.reduceReplicate, Nat.reduceBEq, Nat.reduceLT, Nat.reduceAdd, Nat.reduceMul, Nat.reduceSub, Nat.reduceLeDiff, Nat.reduceEqDiff, ↓reduceIte, Int.reduceLT, Int.reduceEq, Int.reduceBNe, Int.reduceBEq, aeq, Int.reduceLE, Int.reduceNeg, Int.reduceMul, Int.reduceAdd, Int.reduceSub, Int.reduceToNat, Int.reducePow, w1, e1, tidy_str0]
theorem c29 {H : Heap} {a : Atl} {vg vp vs : AV} (hs : AtlOf H a vg vp vs) (hm : MayA a) (hT : a.pgs.flatten.length ≤ 700000) :
    call env 29 [.agg (a.cs vg vp vs)] H = some (.str (mkS (encP a)), H) := by
  have z1 := slof_cell hs.gl
  have z2 := slof_cell hs.pr
  have z3 := slof_cell hs.pgs
  simp only [AV.cells, AV.one] at z1 z2 z3
  obtain ⟨hN, hpl, hel, hpr⟩ := id hm
  obtain ⟨_, _, _, _, _, _, _, _, _, n1, n2, n3, n4, n5, n6, n7⟩ := hN
  have hrl : a.pr.length ≤ 4096 := by
    unfold mayP at hpr
    simp only [Bool.and_eq_true, decide_eq_true_eq] at hpr
    exact hpr.1.2.2
  have l1 := hs.gl.lenOf
  have l2 := hs.pr.lenOf
  have l3 := hs.pgs.lenOf
  have lm : magicL.length = 6 := rfl
  have p1 : ∀ H, call env 67 [.int .i64 1, .int .i64 2] H = some (.str (mkS [0, 1]), H) := fun H => p_two 1 H
  have c00 : ∀ H, binOf .add (.str (mkS [80, 79, 67, 72])) (.str (mkS [0, 1])) H = some (.str (mkS magicL), H) := fun H => bin_adds (by decide)
  have c0 := fun H => @bin_adds H (magicL) (putB (u16N a.em) 2) (by simp only [List.length_append, putB_len, lm]; omega)
  have c1 := fun H => @bin_adds H (magicL ++ (putB (u16N a.em) 2)) (putB (u16N a.px) 2) (by simp only [List.length_append, putB_len, lm]; omega)
  have c2 := fun H => @bin_adds H (magicL ++ (putB (u16N a.em) 2 ++ (putB (u16N a.px) 2))) (putB (u16N a.rg) 2) (by simp only [List.length_append, putB_len, lm]; omega)
  have c3 := fun H => @bin_adds H (magicL ++ (putB (u16N a.em) 2 ++ (putB (u16N a.px) 2 ++ (putB (u16N a.rg) 2)))) (putB (u16N a.up) 2) (by simp only [List.length_append, putB_len, lm]; omega)
  have c4 := fun H => @bin_adds H (magicL ++ (putB (u16N a.em) 2 ++ (putB (u16N a.px) 2 ++ (putB (u16N a.rg) 2 ++ (putB (u16N a.up) 2))))) (putB (u16N a.down) 2) (by simp only [List.length_append, putB_len, lm]; omega)
  have c5 := fun H => @bin_adds H (magicL ++ (putB (u16N a.em) 2 ++ (putB (u16N a.px) 2 ++ (putB (u16N a.rg) 2 ++ (putB (u16N a.up) 2 ++ (putB (u16N a.down) 2)))))) (putB (u16N a.gap) 2) (by simp only [List.length_append, putB_len, lm]; omega)
  have c6 := fun H => @bin_adds H (magicL ++ (putB (u16N a.em) 2 ++ (putB (u16N a.px) 2 ++ (putB (u16N a.rg) 2 ++ (putB (u16N a.up) 2 ++ (putB (u16N a.down) 2 ++ (putB (u16N a.gap) 2))))))) (putB (u16N a.w) 2) (by simp only [List.length_append, putB_len, lm]; omega)
  have c7 := fun H => @bin_adds H (magicL ++ (putB (u16N a.em) 2 ++ (putB (u16N a.px) 2 ++ (putB (u16N a.rg) 2 ++ (putB (u16N a.up) 2 ++ (putB (u16N a.down) 2 ++ (putB (u16N a.gap) 2 ++ (putB (u16N a.w) 2)))))))) (putB (u16N a.h) 2) (by simp only [List.length_append, putB_len, lm]; omega)
  have c8 := fun H => @bin_adds H (magicL ++ (putB (u16N a.em) 2 ++ (putB (u16N a.px) 2 ++ (putB (u16N a.rg) 2 ++ (putB (u16N a.up) 2 ++ (putB (u16N a.down) 2 ++ (putB (u16N a.gap) 2 ++ (putB (u16N a.w) 2 ++ (putB (u16N a.h) 2))))))))) (putB (u16N (a.pgs.length : Int)) 2) (by simp only [List.length_append, putB_len, lm]; omega)
  have c9 := fun H => @bin_adds H (magicL ++ (putB (u16N a.em) 2 ++ (putB (u16N a.px) 2 ++ (putB (u16N a.rg) 2 ++ (putB (u16N a.up) 2 ++ (putB (u16N a.down) 2 ++ (putB (u16N a.gap) 2 ++ (putB (u16N a.w) 2 ++ (putB (u16N a.h) 2 ++ (putB (u16N (a.pgs.length : Int)) 2)))))))))) (putB (u16N (a.gl.length : Int)) 2) (by simp only [List.length_append, putB_len, lm]; omega)
  have c10 := fun H => @bin_adds H (magicL ++ (putB (u16N a.em) 2 ++ (putB (u16N a.px) 2 ++ (putB (u16N a.rg) 2 ++ (putB (u16N a.up) 2 ++ (putB (u16N a.down) 2 ++ (putB (u16N a.gap) 2 ++ (putB (u16N a.w) 2 ++ (putB (u16N a.h) 2 ++ (putB (u16N (a.pgs.length : Int)) 2 ++ (putB (u16N (a.gl.length : Int)) 2))))))))))) (putB (u32N (a.pr.length : Int)) 4) (by simp only [List.length_append, putB_len, lm]; omega)
  simp only [List.append_assoc] at c1 c2 c3 c4 c5 c6 c7 c8 c9 c10
  have hhd : hdB a = magicL ++ (putB (u16N a.em) 2 ++ (putB (u16N a.px) 2 ++ (putB (u16N a.rg) 2 ++ (putB (u16N a.up) 2 ++ (putB (u16N a.down) 2 ++ (putB (u16N a.gap) 2 ++ (putB (u16N a.w) 2 ++ (putB (u16N a.h) 2 ++ (putB (u16N (a.pgs.length : Int)) 2 ++ (putB (u16N (a.gl.length : Int)) 2 ++ (putB (u32N (a.pr.length : Int)) 4))))))))))) := by
    unfold hdB
    simp only [shB_cons, loB_cons, shB_nil, loB_nil, List.append_nil, List.append_assoc]
  have hhl := hdB_len a
  simp only [Atl.cs]
  refine call_ends (fn := s29) rfl rfl (by simp [s29]) ?_
  simp only [s29, R1, R2, R3, R4, R5, R6, R7, R8, AV.flat, fillIn_nil, fillIn_cons, splice, AV.cells, AV.one, eqsOf, idx, SO.calls, List.reduceReplicate, Nat.reduceBEq, Nat.reduceLT, Nat.reduceAdd, Nat.reduceMul, Nat.reduceSub, Nat.reduceLeDiff, Nat.reduceEqDiff, ↓reduceIte, Int.reduceLT, Int.reduceEq, Int.reduceBNe, Int.reduceBEq, aeq, Int.reduceLE, Int.reduceNeg, Int.reduceMul, Int.reduceAdd, Int.reduceSub, Int.reduceToNat, Int.reducePow, z1, z2, z3, l1, l2, l3, p1, p_two, p_four, c00, c0, c1, c2, c3, c4, c5, c6, c7, c8, c9, c10, shun_un, veil_un]
  simp only [← hhd]
  clear c0 c1 c2 c3 c4 c5 c6 c7 c8 c9 c10
  refine ends_loop (fun k t H' => t.length = 154 ∧ t.getD 1 .undef = .ptr H.length 0 ∧ ∃ (i : Nat) (X : Heap), i ≤ a.gl.length ∧ k = a.gl.length - i ∧ t.getD 4 .undef = .int .i64 (i : Int) ∧ H ++ (.cells (a.cs vg vp vs) 53 true :: X) = H' ∧ t.getD 3 .undef = .str (mkS (hdB a ++ (a.gl.take i).flatMap entB))) a.gl.length ?_ ?_
  · simp only [R1, R2, R3, R4, R5, R6, R7, R8, AV.flat, fillIn_nil, fillIn_cons, splice, AV.cells, AV.one, eqsOf, idx, SO.calls, List.reduceReplicate, Nat.reduceBEq, Nat.reduceLT, Nat.reduceAdd, Nat.reduceMul, Nat.reduceSub, Nat.reduceLeDiff, Nat.reduceEqDiff, ↓reduceIte, Int.reduceLT, Int.reduceEq, Int.reduceBNe, Int.reduceBEq, aeq, Int.reduceLE, Int.reduceNeg, Int.reduceMul, Int.reduceAdd, Int.reduceSub, Int.reduceToNat, Int.reducePow]
    exact ⟨0, [], by omega, by omega, rfl, rfl, by simp⟩
  · rintro k t _ ⟨g1, g2, i, X, hi, rfl, g3, rfl, g4⟩
    rw [← tm_nil t]
    by_cases hc : i < a.gl.length
    · have a1 : ((i : Int) < (a.gl.length : Int)) = True := eq_true (by omega)
      have w1 : IntKind.i64.wrap ((i : Int) + 1) = ((i + 1 : Nat) : Int) := by rw [wrap_i64 (by omega) (by omega)]; rfl
      have E := hs.gl.elem hc
      have hx := flat_take (f := entB) hc
      have hlen : (hdB a ++ (a.gl.take i).flatMap entB).length = 30 + 20 * i := by
        rw [List.length_append, hdB_len, ents_len, List.length_take]; omega
      generalize a.gl[i] = e at *
      have hx2 : hdB a ++ (a.gl.take (i + 1)).flatMap entB = (hdB a ++ (a.gl.take i).flatMap entB) ++ entB e := by rw [hx, List.append_assoc]
      generalize hdB a ++ (a.gl.take i).flatMap entB = A at *
      obtain ⟨wd, ⟨cx, cy, cw, ch⟩, pg, ex, ey⟩ := e
      have c0 := fun H => @bin_adds H (A) (putB (u16N wd) 2) (by simp only [List.length_append, putB_len, hlen]; omega)
      have c1 := fun H => @bin_adds H (A ++ (putB (u16N wd) 2)) (putB (u32N cx) 4) (by simp only [List.length_append, putB_len, hlen]; omega)
      have c2 := fun H => @bin_adds H (A ++ (putB (u16N wd) 2 ++ (putB (u32N cx) 4))) (putB (u32N cy) 4) (by simp only [List.length_append, putB_len, hlen]; omega)
      have c3 := fun H => @bin_adds H (A ++ (putB (u16N wd) 2 ++ (putB (u32N cx) 4 ++ (putB (u32N cy) 4)))) (putB (u16N cw) 2) (by simp only [List.length_append, putB_len, hlen]; omega)
      have c4 := fun H => @bin_adds H (A ++ (putB (u16N wd) 2 ++ (putB (u32N cx) 4 ++ (putB (u32N cy) 4 ++ (putB (u16N cw) 2))))) (putB (u16N ch) 2) (by simp only [List.length_append, putB_len, hlen]; omega)
      have c5 := fun H => @bin_adds H (A ++ (putB (u16N wd) 2 ++ (putB (u32N cx) 4 ++ (putB (u32N cy) 4 ++ (putB (u16N cw) 2 ++ (putB (u16N ch) 2)))))) (putB (u16N pg) 2) (by simp only [List.length_append, putB_len, hlen]; omega)
      have c6 := fun H => @bin_adds H (A ++ (putB (u16N wd) 2 ++ (putB (u32N cx) 4 ++ (putB (u32N cy) 4 ++ (putB (u16N cw) 2 ++ (putB (u16N ch) 2 ++ (putB (u16N pg) 2))))))) (putB (u16N ex) 2) (by simp only [List.length_append, putB_len, hlen]; omega)
      have c7 := fun H => @bin_adds H (A ++ (putB (u16N wd) 2 ++ (putB (u32N cx) 4 ++ (putB (u32N cy) 4 ++ (putB (u16N cw) 2 ++ (putB (u16N ch) 2 ++ (putB (u16N pg) 2 ++ (putB (u16N ex) 2)))))))) (putB (u16N ey) 2) (by simp only [List.length_append, putB_len, hlen]; omega)
      simp only [List.append_assoc] at c1 c2 c3 c4 c5 c6 c7
      have hen : entB ⟨wd, ⟨cx, cy, cw, ch⟩, pg, ex, ey⟩ = putB (u16N wd) 2 ++ (putB (u32N cx) 4 ++ (putB (u32N cy) 4 ++ (putB (u16N cw) 2 ++ (putB (u16N ch) 2 ++ (putB (u16N pg) 2 ++ (putB (u16N ex) 2 ++ (putB (u16N ey) 2))))))) := by
        unfold entB
        simp only [shB_cons, loB_cons, shB_nil, loB_nil, List.append_nil, List.append_assoc]
      simp only [Ent.cs] at E
      simp only [R1, R2, R3, R4, R5, R6, R7, R8, AV.flat, fillIn_nil, fillIn_cons, splice, AV.cells, AV.one, eqsOf, idx, SO.calls, List.reduceReplicate, Nat.reduceBEq, Nat.reduceLT, Nat.reduceAdd, Nat.reduceMul, Nat.reduceSub, Nat.reduceLeDiff, Nat.reduceEqDiff, ↓reduceIte, Int.reduceLT, Int.reduceEq, Int.reduceBNe, Int.reduceBEq, aeq, Int.reduceLE, Int.reduceNeg, Int.reduceMul, Int.reduceAdd, Int.reduceSub, Int.reduceToNat, Int.reducePow, Atl.cs, g1, g2, g3, g4, a1, w1, l1, E, p_two, p_four, c0, c1, c2, c3, c4, c5, c6, c7, shun_un, veil_un]
      exact ⟨_, by omega, i + 1, _, by omega, rfl, rfl, rfl, by rw [hx2, hen]⟩
    · have a1 : ((i : Int) < (a.gl.length : Int)) = False := eq_false (by omega)
      obtain rfl : i = a.gl.length := by omega
      rw [List.take_length] at g4
      simp only [R1, R2, R3, R4, R5, R6, R7, R8, AV.flat, fillIn_nil, fillIn_cons, splice, AV.cells, AV.one, eqsOf, idx, SO.calls, List.reduceReplicate, Nat.reduceBEq, Nat.reduceLT, Nat.reduceAdd, Nat.reduceMul, Nat.reduceSub, Nat.reduceLeDiff, Nat.reduceEqDiff, ↓reduceIte, Int.reduceLT, Int.reduceEq, Int.reduceBNe, Int.reduceBEq, aeq, Int.reduceLE, Int.reduceNeg, Int.reduceMul, Int.reduceAdd, Int.reduceSub, Int.reduceToNat, Int.reducePow, Atl.cs, g1, g2, g3, g4, a1, l1]
      refine ends_loop (fun k t H' => t.length = 154 ∧ t.getD 1 .undef = .ptr H.length 0 ∧ ∃ (i : Nat), i ≤ a.pr.length ∧ k = a.pr.length - i ∧ t.getD 6 .undef = .int .i64 (i : Int) ∧ H ++ (.cells (a.cs vg vp vs) 53 true :: X) = H' ∧ t.getD 3 .undef = .str (mkS (hdB a ++ (a.gl.flatMap entB ++ (a.pr.take i).flatMap prB)))) a.pr.length ?_ ?_
      · simp only [R1, R2, R3, R4, R5, R6, R7, R8, AV.flat, fillIn_nil, fillIn_cons, splice, AV.cells, AV.one, eqsOf, idx, SO.calls, List.reduceReplicate, Nat.reduceBEq, Nat.reduceLT, Nat.reduceAdd, Nat.reduceMul, Nat.reduceSub, Nat.reduceLeDiff, Nat.reduceEqDiff, ↓reduceIte, Int.reduceLT, Int.reduceEq, Int.reduceBNe, Int.reduceBEq, aeq, Int.reduceLE, Int.reduceNeg, Int.reduceMul, Int.reduceAdd, Int.reduceSub, Int.reduceToNat, Int.reducePow, g1, g2, g4]
        exact ⟨0, by omega, by omega, rfl, rfl, by simp⟩
      · clear g1 g2 g3 g4
        rintro k t _ ⟨g1, g2, i, hi, rfl, g3, rfl, g4⟩
        rw [← tm_nil t]
        by_cases hc : i < a.pr.length
        · have a1 : ((i : Int) < (a.pr.length : Int)) = True := eq_true (by omega)
          have w1 : IntKind.i64.wrap ((i : Int) + 1) = ((i + 1 : Nat) : Int) := by rw [wrap_i64 (by omega) (by omega)]; rfl
          have E := hs.pr.elem hc
          have hx := flat_take (f := prB) hc
          have hlen : (hdB a ++ (a.gl.flatMap entB ++ (a.pr.take i).flatMap prB)).length = 30 + 20 * a.gl.length + 6 * i := by
            rw [List.length_append, List.length_append, hdB_len, ents_len, prs_len, List.length_take]; omega
          generalize a.pr[i] = e at *
          have hx2 : hdB a ++ (a.gl.flatMap entB ++ (a.pr.take (i + 1)).flatMap prB) = (hdB a ++ (a.gl.flatMap entB ++ (a.pr.take i).flatMap prB)) ++ prB e := by rw [hx]; simp only [List.append_assoc]
          generalize hdB a ++ (a.gl.flatMap entB ++ (a.pr.take i).flatMap prB) = A at *
          obtain ⟨pc, pg⟩ := e
          have c0 := fun H => @bin_adds H (A) (putB (u32N pc) 4) (by simp only [List.length_append, putB_len, hlen]; omega)
          have c1 := fun H => @bin_adds H (A ++ (putB (u32N pc) 4)) (putB (u16N pg) 2) (by simp only [List.length_append, putB_len, hlen]; omega)
          simp only [List.append_assoc] at c1
          have hen : prB ⟨pc, pg⟩ = putB (u32N pc) 4 ++ putB (u16N pg) 2 := by
            unfold prB
            simp only [shB_cons, loB_cons, shB_nil, loB_nil, List.append_nil, List.append_assoc]
          simp only [Pr.cs] at E
          simp only [R1, R2, R3, R4, R5, R6, R7, R8, AV.flat, fillIn_nil, fillIn_cons, splice, AV.cells, AV.one, eqsOf, idx, SO.calls, List.reduceReplicate, Nat.reduceBEq, Nat.reduceLT, Nat.reduceAdd, Nat.reduceMul, Nat.reduceSub, Nat.reduceLeDiff, Nat.reduceEqDiff, ↓reduceIte, Int.reduceLT, Int.reduceEq, Int.reduceBNe, Int.reduceBEq, aeq, Int.reduceLE, Int.reduceNeg, Int.reduceMul, Int.reduceAdd, Int.reduceSub, Int.reduceToNat, Int.reducePow, Atl.cs, g1, g2, g3, g4, a1, w1, l2, E, p_two, p_four, c0, c1, shun_un, veil_un]
          exact ⟨_, by omega, i + 1, by omega, rfl, rfl, by rw [hx2, hen]⟩
        · have a1 : ((i : Int) < (a.pr.length : Int)) = False := eq_false (by omega)
          obtain rfl : i = a.pr.length := by omega
          rw [List.take_length] at g4
          simp only [R1, R2, R3, R4, R5, R6, R7, R8, AV.flat, fillIn_nil, fillIn_cons, splice, AV.cells, AV.one, eqsOf, idx, SO.calls, List.reduceReplicate, Nat.reduceBEq, Nat.reduceLT, Nat.reduceAdd, Nat.reduceMul, Nat.reduceSub, Nat.reduceLeDiff, Nat.reduceEqDiff, ↓reduceIte, Int.reduceLT, Int.reduceEq, Int.reduceBNe, Int.reduceBEq, aeq, Int.reduceLE, Int.reduceNeg, Int.reduceMul, Int.reduceAdd, Int.reduceSub, Int.reduceToNat, Int.reducePow, Atl.cs, g1, g2, g3, g4, a1, l2]
          refine ends_loop (fun k t H' => t.length = 154 ∧ t.getD 1 .undef = .ptr H.length 0 ∧ ∃ (i : Nat), i ≤ a.pgs.length ∧ k = a.pgs.length - i ∧ t.getD 7 .undef = .int .i64 (i : Int) ∧ H ++ (.cells (a.cs vg vp vs) 53 true :: X) = H' ∧ t.getD 3 .undef = .str (mkS (hdB a ++ (a.gl.flatMap entB ++ (a.pr.flatMap prB ++ (a.pgs.take i).flatten))))) a.pgs.length ?_ ?_
          · simp only [R1, R2, R3, R4, R5, R6, R7, R8, AV.flat, fillIn_nil, fillIn_cons, splice, AV.cells, AV.one, eqsOf, idx, SO.calls, List.reduceReplicate, Nat.reduceBEq, Nat.reduceLT, Nat.reduceAdd, Nat.reduceMul, Nat.reduceSub, Nat.reduceLeDiff, Nat.reduceEqDiff, ↓reduceIte, Int.reduceLT, Int.reduceEq, Int.reduceBNe, Int.reduceBEq, aeq, Int.reduceLE, Int.reduceNeg, Int.reduceMul, Int.reduceAdd, Int.reduceSub, Int.reduceToNat, Int.reducePow, g1, g2, g4]
            exact ⟨0, by omega, by omega, rfl, rfl, by simp⟩
          · clear g1 g2 g3 g4
            rintro k t _ ⟨g1, g2, i, hi, rfl, g3, rfl, g4⟩
            rw [← tm_nil t]
            by_cases hc : i < a.pgs.length
            · have a1 : ((i : Int) < (a.pgs.length : Int)) = True := eq_true (by omega)
              have w1 : IntKind.i64.wrap ((i : Int) + 1) = ((i + 1 : Nat) : Int) := by rw [wrap_i64 (by omega) (by omega)]; rfl
              have E := hs.pgs.elem hc
              have hx := join_take hc
              have hle := join_le a.pgs (i + 1)
              rw [hx, List.length_append] at hle
              have hlen : (hdB a ++ (a.gl.flatMap entB ++ (a.pr.flatMap prB ++ (a.pgs.take i).flatten))).length = 30 + 20 * a.gl.length + 6 * a.pr.length + (a.pgs.take i).flatten.length := by
                simp only [List.length_append, hdB_len, ents_len, prs_len]; omega
              generalize a.pgs[i] = s at *
              have hx2 : hdB a ++ (a.gl.flatMap entB ++ (a.pr.flatMap prB ++ (a.pgs.take (i + 1)).flatten)) = (hdB a ++ (a.gl.flatMap entB ++ (a.pr.flatMap prB ++ (a.pgs.take i).flatten))) ++ s := by rw [hx]; simp only [List.append_assoc]
              generalize hdB a ++ (a.gl.flatMap entB ++ (a.pr.flatMap prB ++ (a.pgs.take i).flatten)) = A at *
              have c0 := fun H => @bin_adds H A s (by omega)
              simp only [StrC, Nat.mul_one] at E
              simp only [R1, R2, R3, R4, R5, R6, R7, R8, AV.flat, fillIn_nil, fillIn_cons, splice, AV.cells, AV.one, eqsOf, idx, SO.calls, List.reduceReplicate, Nat.reduceBEq, Nat.reduceLT, Nat.reduceAdd, Nat.reduceMul, Nat.reduceSub, Nat.reduceLeDiff, Nat.reduceEqDiff, ↓reduceIte, Int.reduceLT, Int.reduceEq, Int.reduceBNe, Int.reduceBEq, aeq, Int.reduceLE, Int.reduceNeg, Int.reduceMul, Int.reduceAdd, Int.reduceSub, Int.reduceToNat, Int.reducePow, Atl.cs, g1, g2, g3, g4, a1, w1, l3, E, c0]
              exact ⟨_, by omega, i + 1, by omega, rfl, rfl, by rw [hx2]⟩
            · have a1 : ((i : Int) < (a.pgs.length : Int)) = False := eq_false (by omega)
              obtain rfl : i = a.pgs.length := by omega
              rw [List.take_length] at g4
              have g4 : t.getD 3 .undef = .str (mkS (encP0 a)) := g4
              have hlen : (encP0 a).length = 30 + 20 * a.gl.length + 6 * a.pr.length + a.pgs.flatten.length := by
                unfold encP0; simp only [List.length_append, hdB_len, ents_len, prs_len]; omega
              have f2 := fun H => c69 (mkS (encP0 a)) H (by rw [mkS_size]; omega)
              have hcr : (Crc.crc (mkS (encP0 a)).data.toList ^^^ 4294967295#32).toNat = crcN (encP0 a) := rfl
              rw [hcr] at f2
              have f3 := fun H => c68 (crcN (encP0 a)) 4 H (crcN_lt _) (by decide)
              simp only [Int.cast_ofNat_Int] at f3
              have c0 := fun H => @bin_adds H (encP0 a) (putB (crcN (encP0 a)) 4) (by rw [putB_len]; omega)
              simp only [R1, R2, R3, R4, R5, R6, R7, R8, AV.flat, fillIn_nil, fillIn_cons, splice, AV.cells, AV.one, eqsOf, idx, SO.calls, List.reduceReplicate, Nat.reduceBEq, Nat.reduceLT, Nat.reduceAdd, Nat.reduceMul, Nat.reduceSub, Nat.reduceLeDiff, Nat.reduceEqDiff, ↓reduceIte, Int.reduceLT, Int.reduceEq, Int.reduceBNe, Int.reduceBEq, aeq, Int.reduceLE, Int.reduceNeg, Int.reduceMul, Int.reduceAdd, Int.reduceSub, Int.reduceToNat, Int.reducePow, Atl.cs, g1, g2, g3, g4, a1, l3, f2, f3, c0]
              rw [tidy_str]
              rfl
end Go.Proofs.Ytppkggodpihfiaa
