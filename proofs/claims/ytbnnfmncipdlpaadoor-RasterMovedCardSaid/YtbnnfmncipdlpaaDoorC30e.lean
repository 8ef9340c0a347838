/- Chapter 30: the reference's May. -/
import Derived.Test.YtbnnfmncipdlpaaDoorC30d
set_option linter.unusedVariables false
set_option linter.unusedSimpArgs false
set_option maxRecDepth 100000
set_option maxHeartbeats 2000000
namespace Go.Proofs.YtbnnfmncipdlpaaDoor
open Go Go.Den
theorem no_num {H : Heap} {a : Atl} {vg vp vs : AV} (hs : AtlOf H a vg vp vs) (hn : ¬ NumOk a) : call env 24 [.agg (a.cs vg vp vs)] H = some (.bool false, H) := by
  have z1 := slof_cell hs.gl
  have z2 := slof_cell hs.pr
  have z3 := slof_cell hs.pgs
  simp only [AV.cells, AV.one] at z1 z2 z3
  have l1 := hs.gl.lenOf
  have l3 := hs.pgs.lenOf
  obtain ⟨em, px, rg, up, down, gap, w, h, gl, pr, pgs⟩ := a
  simp only [Atl.cs] at *
  have hgen : ∀ n m : Nat, gl.length = n → pgs.length = m → call env 24 [.agg [.int .i64 em, .int .i64 px, .int .i64 rg, .int .i64 up, .int .i64 down, .int .i64 gap, .int .i64 w, .int .i64 h, vg, vp, vs]] H = some (.bool false, H) := by
    intro n m hn1 hm1
    have hno : ¬ ((16 ≤ em ∧ em ≤ 16384) ∧ (1 ≤ px ∧ px ≤ 128) ∧ (1 ≤ rg ∧ rg ≤ 16) ∧ Short up ∧ Short down ∧ Short gap ∧ (1 ≤ w ∧ w ≤ 1024) ∧ (1 ≤ h ∧ h ≤ 1024) ∧ ¬ ((m : Int) > 16) ∧ (1 ≤ (n : Int) ∧ (n : Int) ≤ 1024)) := by
      rintro ⟨⟨h1, h2⟩, ⟨h3, h4⟩, ⟨h5, h6⟩, h7, h8, h9, ⟨h10, h11⟩, ⟨h12, h13⟩, h14, h15, h16⟩
      refine hn ?_
      unfold NumOk
      exact ⟨h1, h2, h3, h4, h5, h6, h7, h8, h9, h10, h11, h12, h13, by simp only; omega, by simp only; omega, by simp only; omega⟩
    rw [hn1] at l1
    rw [hm1] at l3
    clear hn hn1 hm1 hs
    refine call_ends (fn := s24) rfl rfl (by simp [s24]) ?_
    have hh : True := trivial
    have hk : True := trivial
    have hj : True := trivial
    simp only [s24]
    repeat' (first
      | simp only [R1, R2, R3, R4, R5, R6, R7, R8, AV.flat, fillIn_nil, fillIn_cons, splice, AV.cells, AV.one, eqsOf, idx, SO.calls, List.reduceReplicate, Nat.reduceBEq, Nat.reduceLT, Nat.reduceAdd, Nat.reduceMul, Nat.reduceSub, Nat.reduceLeDiff, Nat.reduceEqDiff, ↓reduceIte, Int.reduceLT, Int.reduceEq, Int.reduceBNe, Int.reduceBEq, aeq, Int.reduceLE, Int.reduceNeg, Int.reduceMul, Int.reduceAdd, Int.reduceSub, Int.reduceToNat, Int.reducePow, hh, hk, hj, tidy_bool', c49, c50, z1, z2, z3, l1, l3]
      | simp (disch := omega) only [wrap_i64]
      | (simp only [gets_guard, gets_guardd, endsIf_any]; split <;> rename_i hk <;> (try simp only [Bool.not_eq_true] at hk) <;> (have hh := hk) <;> (have hj := hk) <;> (try simp only [Bool.not_eq_true', Bool.not_eq_false'] at hj) <;> (try simp only [decide_eq_true_eq, Bool.not_eq_true, decide_eq_false_iff_not, Bool.not_eq_true', Bool.not_eq_false', Bool.and_eq_true, Bool.or_eq_true, beq_iff_eq, bne_iff_ne, ne_eq] at hh)))
    all_goals (exfalso; grind)
  exact hgen _ _ rfl rfl
theorem c24 {H : Heap} {a : Atl} {vg vp vs : AV} (hs : AtlOf H a vg vp vs) (hp : a.pr.length ≤ 9223372036854775807) (hd : ∀ s ∈ a.pgs, s.length ≤ 1000000000) : call env 24 [.agg (a.cs vg vp vs)] H = some (.bool (decide (MayA a)), H) := by
  by_cases hn : NumOk a
  case neg =>
    rw [decide_eq_false (fun h : MayA a => hn h.1)]
    exact no_num hs hn
  have z1 := slof_cell hs.gl
  have z2 := slof_cell hs.pr
  have z3 := slof_cell hs.pgs
  simp only [AV.cells, AV.one] at z1 z2 z3
  have l1 := hs.gl.lenOf
  have l3 := hs.pgs.lenOf
  obtain ⟨m1, m2, m3, m4, m5, m6, m7, m8, m9, n1, n2, n3, n4, n5, n6, n7⟩ := id hn
  have i1 := fun H => c49 a.em 16 16384 H
  have i2 := fun H => c49 a.px 1 128 H
  have i3 := fun H => c49 a.rg 1 16 H
  have i4 := fun H => c50 a.up H
  have i5 := fun H => c50 a.down H
  have i6 := fun H => c50 a.gap H
  have i7 := fun H => c49 a.w 1 1024 H
  have i8 := fun H => c49 a.h 1 1024 H
  have i9 := fun H => c49 (a.gl.length : Int) 1 1024 H
  rw [decide_eq_true ⟨m1, m2⟩] at i1
  rw [decide_eq_true ⟨m3, m4⟩] at i2
  rw [decide_eq_true ⟨m5, m6⟩] at i3
  rw [decide_eq_true m7] at i4
  rw [decide_eq_true m8] at i5
  rw [decide_eq_true m9] at i6
  rw [decide_eq_true ⟨n1, n2⟩] at i7
  rw [decide_eq_true ⟨n3, n4⟩] at i8
  rw [decide_eq_true (by omega)] at i9
  have b0 : ((a.pgs.length : Int) > 16) = False := eq_false (by omega)
  have w4 : IntKind.i64.wrap (4 * a.w) = 4 * a.w := wrap_i64 (by omega) (by omega)
  have hwh : 0 ≤ 4 * a.w * a.h ∧ 4 * a.w * a.h ≤ 4 * 1024 * 1024 := by
    have h1 : a.w * a.h ≤ 1024 * 1024 := Int.mul_le_mul n2 n4 (by omega) (by omega)
    have h2 : 0 ≤ a.w * a.h := Int.mul_nonneg (by omega) (by omega)
    rw [Int.mul_assoc]; omega
  have w5 : IntKind.i64.wrap (4 * a.w * a.h) = 4 * a.w * a.h := wrap_i64 (by omega) (by omega)
  simp only [Atl.cs]
  refine call_ends (fn := s24) rfl rfl (by simp [s24]) ?_
  simp only [s24, R1, R2, R3, R4, R5, R6, R7, R8, AV.flat, fillIn_nil, fillIn_cons, splice, AV.cells, AV.one, eqsOf, idx, SO.calls, List.reduceReplicate, Nat.reduceBEq, Nat.reduceLT, Nat.reduceAdd, Nat.reduceMul, Nat.reduceSub, Nat.reduceLeDiff, Nat.reduceEqDiff, ↓reduceIte, Int.reduceLT, Int.reduceEq, Int.reduceBNe, Int.reduceBEq, aeq, Int.reduceLE, Int.reduceNeg, Int.reduceMul, Int.reduceAdd, Int.reduceSub, Int.reduceToNat, Int.reducePow, z1, z2, z3, l1, l3, i1, i2, i3, i4, i5, i6, i7, i8, i9, b0]
  refine ends_loop (fun k t H' => t.length = 113 ∧ (H ++ [.cells (a.cs vg vp vs) 33 true]) = H' ∧ t.getD 1 .undef = .ptr H.length 0 ∧ ∃ i : Nat, i ≤ a.pgs.length ∧ k = a.pgs.length - i ∧ t.getD 3 .undef = .int .i64 (i : Int) ∧ ∀ s ∈ a.pgs.take i, (s.length : Int) = 4 * a.w * a.h) a.pgs.length ?_ ?_
  · simp only [R1, R2, R3, R4, R5, R6, R7, R8, AV.flat, fillIn_nil, fillIn_cons, splice, AV.cells, AV.one, eqsOf, idx, SO.calls, List.reduceReplicate, Nat.reduceBEq, Nat.reduceLT, Nat.reduceAdd, Nat.reduceMul, Nat.reduceSub, Nat.reduceLeDiff, Nat.reduceEqDiff, ↓reduceIte, Int.reduceLT, Int.reduceEq, Int.reduceBNe, Int.reduceBEq, aeq, Int.reduceLE, Int.reduceNeg, Int.reduceMul, Int.reduceAdd, Int.reduceSub, Int.reduceToNat, Int.reducePow]
    exact ⟨rfl, 0, by omega, by omega, rfl, by simp⟩
  · rintro k t _ ⟨g1, rfl, g2, i, hi, rfl, g5, g6⟩
    rw [← tm_nil t]
    by_cases hc : i < a.pgs.length
    · have a1 : ((i : Int) < (a.pgs.length : Int)) = True := eq_true (by omega)
      have w1 : IntKind.i64.wrap ((i : Int) + 1) = ((i + 1 : Nat) : Int) := by rw [wrap_i64 (by omega) (by omega)]; rfl
      have E := hs.pgs.elem hc
      have hmem := List.getElem_mem hc
      have g7 := fun h => all_suc (P := fun s => (s.length : Int) = 4 * a.w * a.h) hc g6 h
      have hno : ¬ (a.pgs[i].length : Int) = 4 * a.w * a.h → decide (MayA a) = false := fun h => decide_eq_false fun hh => h (hh.2.1 _ hmem)
      generalize a.pgs[i] = s at *
      simp only [StrC, Nat.mul_one] at E
      by_cases he : (s.length : Int) = 4 * a.w * a.h
      · have b1 : ((s.length : Int) != 4 * a.w * a.h) = false := by simp [he]
        simp only [Atl.cs, R1, R2, R3, R4, R5, R6, R7, R8, AV.flat, fillIn_nil, fillIn_cons, splice, AV.cells, AV.one, eqsOf, idx, SO.calls, List.reduceReplicate, Nat.reduceBEq, Nat.reduceLT, Nat.reduceAdd, Nat.reduceMul, Nat.reduceSub, Nat.reduceLeDiff, Nat.reduceEqDiff, ↓reduceIte, Int.reduceLT, Int.reduceEq, Int.reduceBNe, Int.reduceBEq, aeq, Int.reduceLE, Int.reduceNeg, Int.reduceMul, Int.reduceAdd, Int.reduceSub, Int.reduceToNat, Int.reducePow, g1, g2, g5, a1, w1, w4, w5, E, b1, l3, z1, z2, z3, shun_un, veil_un]
        exact ⟨_, by omega, i + 1, by omega, rfl, rfl, g7 he⟩
      · have b1 : ((s.length : Int) != 4 * a.w * a.h) = true := by simp [he]
        rw [hno he]
        simp only [Atl.cs, R1, R2, R3, R4, R5, R6, R7, R8, AV.flat, fillIn_nil, fillIn_cons, splice, AV.cells, AV.one, eqsOf, idx, SO.calls, List.reduceReplicate, Nat.reduceBEq, Nat.reduceLT, Nat.reduceAdd, Nat.reduceMul, Nat.reduceSub, Nat.reduceLeDiff, Nat.reduceEqDiff, ↓reduceIte, Int.reduceLT, Int.reduceEq, Int.reduceBNe, Int.reduceBEq, aeq, Int.reduceLE, Int.reduceNeg, Int.reduceMul, Int.reduceAdd, Int.reduceSub, Int.reduceToNat, Int.reducePow, g1, g2, g5, a1, w4, w5, E, b1, l3, z1, z2, z3, shun_un, veil_un]
        rw [tidy_bool']
    · have a1 : ((i : Int) < (a.pgs.length : Int)) = False := eq_false (by omega)
      obtain rfl : i = a.pgs.length := by omega
      rw [List.take_length] at g6
      simp only [Atl.cs, R1, R2, R3, R4, R5, R6, R7, R8, AV.flat, fillIn_nil, fillIn_cons, splice, AV.cells, AV.one, eqsOf, idx, SO.calls, List.reduceReplicate, Nat.reduceBEq, Nat.reduceLT, Nat.reduceAdd, Nat.reduceMul, Nat.reduceSub, Nat.reduceLeDiff, Nat.reduceEqDiff, ↓reduceIte, Int.reduceLT, Int.reduceEq, Int.reduceBNe, Int.reduceBEq, aeq, Int.reduceLE, Int.reduceNeg, Int.reduceMul, Int.reduceAdd, Int.reduceSub, Int.reduceToNat, Int.reducePow, g1, g2, g5, a1, l1, l3, z1, z2, z3]
      refine ends_loop (fun k t H' => t.length = 113 ∧ (H ++ [.cells (a.cs vg vp vs) 33 true]) = H' ∧ t.getD 1 .undef = .ptr H.length 0 ∧ ∃ i : Nat, i ≤ a.gl.length ∧ k = a.gl.length - i ∧ t.getD 4 .undef = .int .i64 (i : Int) ∧ ∀ e ∈ a.gl.take i, OkE a.w a.h (a.pgs.length : Int) e) a.gl.length ?_ ?_
      · simp only [R1, R2, R3, R4, R5, R6, R7, R8, AV.flat, fillIn_nil, fillIn_cons, splice, AV.cells, AV.one, eqsOf, idx, SO.calls, List.reduceReplicate, Nat.reduceBEq, Nat.reduceLT, Nat.reduceAdd, Nat.reduceMul, Nat.reduceSub, Nat.reduceLeDiff, Nat.reduceEqDiff, ↓reduceIte, Int.reduceLT, Int.reduceEq, Int.reduceBNe, Int.reduceBEq, aeq, Int.reduceLE, Int.reduceNeg, Int.reduceMul, Int.reduceAdd, Int.reduceSub, Int.reduceToNat, Int.reducePow, g1, g2]
        exact ⟨rfl, 0, by omega, by omega, rfl, by simp⟩
      · rintro k t _ ⟨g1, rfl, g2, i, hi, rfl, g5, g7⟩
        rw [← tm_nil t]
        by_cases hc : i < a.gl.length
        · have a1 : ((i : Int) < (a.gl.length : Int)) = True := eq_true (by omega)
          have w1 : IntKind.i64.wrap ((i : Int) + 1) = ((i + 1 : Nat) : Int) := by rw [wrap_i64 (by omega) (by omega)]; rfl
          have E := hs.gl.elem hc
          have hmem := List.getElem_mem hc
          have g8 := fun h => all_suc (P := fun e => OkE a.w a.h (a.pgs.length : Int) e) hc g7 h
          have hno : ¬ OkE a.w a.h (a.pgs.length : Int) a.gl[i] → decide (MayA a) = false := fun h => decide_eq_false fun hh => h (hh.2.2.1 _ hmem)
          have eE := fun H => c51 a.gl[i] a.w a.h (a.pgs.length : Int) (by omega) (by omega) (by omega) H
          generalize a.gl[i] = e at *
          simp only [Ent.cs] at E eE
          by_cases he : OkE a.w a.h (a.pgs.length : Int) e
          · rw [decide_eq_true he] at eE
            simp only [Atl.cs, R1, R2, R3, R4, R5, R6, R7, R8, AV.flat, fillIn_nil, fillIn_cons, splice, AV.cells, AV.one, eqsOf, idx, SO.calls, List.reduceReplicate, Nat.reduceBEq, Nat.reduceLT, Nat.reduceAdd, Nat.reduceMul, Nat.reduceSub, Nat.reduceLeDiff, Nat.reduceEqDiff, ↓reduceIte, Int.reduceLT, Int.reduceEq, Int.reduceBNe, Int.reduceBEq, aeq, Int.reduceLE, Int.reduceNeg, Int.reduceMul, Int.reduceAdd, Int.reduceSub, Int.reduceToNat, Int.reducePow, g1, g2, g5, a1, w1, E, eE, l1, l3, z1, z2, z3, shun_un, veil_un]
            exact ⟨_, by omega, i + 1, by omega, rfl, rfl, g8 he⟩
          · rw [decide_eq_false he] at eE
            rw [hno he]
            simp only [Atl.cs, R1, R2, R3, R4, R5, R6, R7, R8, AV.flat, fillIn_nil, fillIn_cons, splice, AV.cells, AV.one, eqsOf, idx, SO.calls, List.reduceReplicate, Nat.reduceBEq, Nat.reduceLT, Nat.reduceAdd, Nat.reduceMul, Nat.reduceSub, Nat.reduceLeDiff, Nat.reduceEqDiff, ↓reduceIte, Int.reduceLT, Int.reduceEq, Int.reduceBNe, Int.reduceBEq, aeq, Int.reduceLE, Int.reduceNeg, Int.reduceMul, Int.reduceAdd, Int.reduceSub, Int.reduceToNat, Int.reducePow, g1, g2, g5, a1, E, eE, l1, l3, z1, z2, z3, shun_un, veil_un]
            rw [tidy_bool']
        · have a1 : ((i : Int) < (a.gl.length : Int)) = False := eq_false (by omega)
          obtain rfl : i = a.gl.length := by omega
          rw [List.take_length] at g7
          have eC := c52 (hs.pr.app [.cells (a.cs vg vp vs) 33 true]) hp (a.gl.length : Int)
          have hyes : mayP a.pr (a.gl.length : Int) = decide (MayA a) := by
            cases hm : mayP a.pr (a.gl.length : Int)
            · exact (decide_eq_false fun hh => by rw [hh.2.2.2] at hm; cases hm).symm
            · exact (decide_eq_true ⟨hn, g6, g7, hm⟩).symm
          rw [hyes] at eC
          simp only [Atl.cs] at eC ⊢
          simp only [R1, R2, R3, R4, R5, R6, R7, R8, AV.flat, fillIn_nil, fillIn_cons, splice, AV.cells, AV.one, eqsOf, idx, SO.calls, List.reduceReplicate, Nat.reduceBEq, Nat.reduceLT, Nat.reduceAdd, Nat.reduceMul, Nat.reduceSub, Nat.reduceLeDiff, Nat.reduceEqDiff, ↓reduceIte, Int.reduceLT, Int.reduceEq, Int.reduceBNe, Int.reduceBEq, aeq, Int.reduceLE, Int.reduceNeg, Int.reduceMul, Int.reduceAdd, Int.reduceSub, Int.reduceToNat, Int.reducePow, g1, g2, g5, a1, l1, eC, z1, z2, z3]
          rw [tidy_bool']
end Go.Proofs.YtbnnfmncipdlpaaDoor
