/- Chapter 30: May. -/
import Derived.Test.YtbnnfmncipdlpaaDoorC30c
set_option linter.unusedVariables false
set_option linter.unusedSimpArgs false
set_option maxRecDepth 100000
set_option maxHeartbeats 2000000
namespace Go.Proofs.YtbnnfmncipdlpaaDoor
open Go Go.Den
theorem all_suc {α : Type} {P : α → Prop} {l : List α} {i : Nat} (hi : i < l.length) (h : ∀ x ∈ l.take i, P x) (hx : P l[i]) : ∀ x ∈ l.take (i + 1), P x := fun x hm => by
  rw [List.take_succ_eq_append_getElem hi] at hm
  rcases List.mem_append.1 hm with hm | hm
  · exact h x hm
  · simp only [List.mem_singleton] at hm; subst hm; exact hx
theorem c69 {H : Heap} {a : Atl} {vg vp vs : AV} (hs : AtlOf H a vg vp vs) (hp : a.pr.length ≤ 9223372036854775807) (hd : ∀ s ∈ a.pgs, s.length ≤ 1000000000) : call env 69 [.agg (a.cs vg vp vs)] H = some (.bool (decide (MayA a)), H) := by
  have e1 := fun X => c93 (hs.app X)
  have z1 := slof_cell hs.gl
  have z2 := slof_cell hs.pr
  have z3 := slof_cell hs.pgs
  simp only [AV.cells, AV.one] at z1 z2 z3
  have l1 := hs.gl.lenOf
  have l3 := hs.pgs.lenOf
  by_cases hn : NumOk a
  case neg =>
    have hno : decide (MayA a) = false := decide_eq_false fun h => hn h.1
    rw [hno]
    rw [decide_eq_false hn] at e1
    simp only [Atl.cs] at e1 ⊢
    refine call_ends (fn := s69) rfl rfl (by simp [s69]) ?_
    simp only [s69, R1, R2, R3, R4, R5, R6, R7, R8, AV.flat, fillIn_nil, fillIn_cons, splice, AV.cells, AV.one, eqsOf, idx, SO.calls, List.reduceReplicate, Nat.reduceBEq, Nat.reduceLT, Nat.reduceAdd, Nat.reduceMul, Nat.reduceSub, Nat.reduceLeDiff, Nat.reduceEqDiff, ↓reduceIte, Int.reduceLT, Int.reduceEq, Int.reduceBNe, Int.reduceBEq, aeq, Int.reduceLE, Int.reduceNeg, Int.reduceMul, Int.reduceAdd, Int.reduceSub, Int.reduceToNat, Int.reducePow, e1, z1, z2, z3]
    rw [tidy_bool']
  rw [decide_eq_true hn] at e1
  obtain ⟨_, _, _, _, _, _, _, _, _, n1, n2, n3, n4, n5, n6, n7⟩ := id hn
  have w4 : IntKind.i64.wrap (4 * a.w) = 4 * a.w := wrap_i64 (by omega) (by omega)
  have hwh : 0 ≤ 4 * a.w * a.h ∧ 4 * a.w * a.h ≤ 4 * 1024 * 1024 := by
    have h1 : a.w * a.h ≤ 1024 * 1024 := Int.mul_le_mul n2 n4 (by omega) (by omega)
    have h2 : 0 ≤ a.w * a.h := Int.mul_nonneg (by omega) (by omega)
    rw [Int.mul_assoc]; omega
  have w5 : IntKind.i64.wrap (4 * a.w * a.h) = 4 * a.w * a.h := wrap_i64 (by omega) (by omega)
  have box : ∀ X, AtlOf (H ++ (.cells (a.cs vg vp vs) 33 true :: X)) a vg vp vs := fun X => hs.app _
  simp only [Atl.cs] at e1 ⊢
  refine call_ends (fn := s69) rfl rfl (by simp [s69]) ?_
  simp only [s69, R1, R2, R3, R4, R5, R6, R7, R8, AV.flat, fillIn_nil, fillIn_cons, splice, AV.cells, AV.one, eqsOf, idx, SO.calls, List.reduceReplicate, Nat.reduceBEq, Nat.reduceLT, Nat.reduceAdd, Nat.reduceMul, Nat.reduceSub, Nat.reduceLeDiff, Nat.reduceEqDiff, ↓reduceIte, Int.reduceLT, Int.reduceEq, Int.reduceBNe, Int.reduceBEq, aeq, Int.reduceLE, Int.reduceNeg, Int.reduceMul, Int.reduceAdd, Int.reduceSub, Int.reduceToNat, Int.reducePow, e1, z1, z2, z3, l1, l3]
  refine ends_loop (fun k t H' => t.length = 51 ∧ (H ++ [.cells (a.cs vg vp vs) 33 true]) = H' ∧ (t.getD 1 .undef = .ptr H.length 0 ∧ t.getD 11 .undef = vs ∧ t.getD 12 .undef = .int .i64 (a.pgs.length : Int)) ∧ ∃ i : Nat, i ≤ a.pgs.length ∧ k = a.pgs.length - i ∧ t.getD 13 .undef = .int .i64 (i : Int) ∧ ∀ s ∈ a.pgs.take i, (s.length : Int) = 4 * a.w * a.h) a.pgs.length ?_ ?_
  · simp only [R1, R2, R3, R4, R5, R6, R7, R8, AV.flat, fillIn_nil, fillIn_cons, splice, AV.cells, AV.one, eqsOf, idx, SO.calls, List.reduceReplicate, Nat.reduceBEq, Nat.reduceLT, Nat.reduceAdd, Nat.reduceMul, Nat.reduceSub, Nat.reduceLeDiff, Nat.reduceEqDiff, ↓reduceIte, Int.reduceLT, Int.reduceEq, Int.reduceBNe, Int.reduceBEq, aeq, Int.reduceLE, Int.reduceNeg, Int.reduceMul, Int.reduceAdd, Int.reduceSub, Int.reduceToNat, Int.reducePow]
    exact ⟨rfl, 0, by omega, by omega, rfl, by simp⟩
  · rintro k t _ ⟨g1, rfl, ⟨g2, g3, g4⟩, i, hi, rfl, g5, g6⟩
    rw [← tm_nil t]
    by_cases hc : i < a.pgs.length
    · have a1 : ((i : Int) < (a.pgs.length : Int)) = True := eq_true (by omega)
      have w1 : IntKind.i64.wrap ((i : Int) + 1) = ((i + 1 : Nat) : Int) := by rw [wrap_i64 (by omega) (by omega)]; rfl
      have E := hs.pgs.elem hc
      have hmem := List.getElem_mem hc
      have g7 := fun h => all_suc (P := fun s => (s.length : Int) = 4 * a.w * a.h) hc g6 h
      have hno : ¬ (a.pgs[i].length : Int) = 4 * a.w * a.h → decide (MayA a) = false := fun h => decide_eq_false fun hh => h (hh.2.1 _ hmem)
      generalize a.pgs[i] = s at *
      simp only [StrC, Nat.mul_one] at E
      by_cases he : (s.length : Int) = 4 * a.w * a.h
      · have b1 : ((s.length : Int) != 4 * a.w * a.h) = false := by simp [he]
        simp only [Atl.cs, R1, R2, R3, R4, R5, R6, R7, R8, AV.flat, fillIn_nil, fillIn_cons, splice, AV.cells, AV.one, eqsOf, idx, SO.calls, List.reduceReplicate, Nat.reduceBEq, Nat.reduceLT, Nat.reduceAdd, Nat.reduceMul, Nat.reduceSub, Nat.reduceLeDiff, Nat.reduceEqDiff, ↓reduceIte, Int.reduceLT, Int.reduceEq, Int.reduceBNe, Int.reduceBEq, aeq, Int.reduceLE, Int.reduceNeg, Int.reduceMul, Int.reduceAdd, Int.reduceSub, Int.reduceToNat, Int.reducePow, g1, g2, g3, g4, g5, a1, w1, w4, w5, E, b1]
        exact ⟨_, by omega, i + 1, by omega, rfl, rfl, g7 he⟩
      · have b1 : ((s.length : Int) != 4 * a.w * a.h) = true := by simp [he]
        rw [hno he]
        simp only [Atl.cs, R1, R2, R3, R4, R5, R6, R7, R8, AV.flat, fillIn_nil, fillIn_cons, splice, AV.cells, AV.one, eqsOf, idx, SO.calls, List.reduceReplicate, Nat.reduceBEq, Nat.reduceLT, Nat.reduceAdd, Nat.reduceMul, Nat.reduceSub, Nat.reduceLeDiff, Nat.reduceEqDiff, ↓reduceIte, Int.reduceLT, Int.reduceEq, Int.reduceBNe, Int.reduceBEq, aeq, Int.reduceLE, Int.reduceNeg, Int.reduceMul, Int.reduceAdd, Int.reduceSub, Int.reduceToNat, Int.reducePow, g1, g2, g3, g4, g5, a1, w4, w5, E, b1]
        rw [tidy_bool']
    · have a1 : ((i : Int) < (a.pgs.length : Int)) = False := eq_false (by omega)
      obtain rfl : i = a.pgs.length := by omega
      rw [List.take_length] at g6
      simp only [Atl.cs, R1, R2, R3, R4, R5, R6, R7, R8, AV.flat, fillIn_nil, fillIn_cons, splice, AV.cells, AV.one, eqsOf, idx, SO.calls, List.reduceReplicate, Nat.reduceBEq, Nat.reduceLT, Nat.reduceAdd, Nat.reduceMul, Nat.reduceSub, Nat.reduceLeDiff, Nat.reduceEqDiff, ↓reduceIte, Int.reduceLT, Int.reduceEq, Int.reduceBNe, Int.reduceBEq, aeq, Int.reduceLE, Int.reduceNeg, Int.reduceMul, Int.reduceAdd, Int.reduceSub, Int.reduceToNat, Int.reducePow, g1, g2, g3, g4, g5, a1, l1]
      refine ends_loop (fun k t H' => t.length = 51 ∧ (∃ X, H ++ (.cells (a.cs vg vp vs) 33 true :: X) = H') ∧ (t.getD 1 .undef = .ptr H.length 0 ∧ t.getD 30 .undef = vg ∧ t.getD 31 .undef = .int .i64 (a.gl.length : Int)) ∧ ∃ i : Nat, i ≤ a.gl.length ∧ k = a.gl.length - i ∧ t.getD 32 .undef = .int .i64 (i : Int) ∧ ∀ e ∈ a.gl.take i, OkE a.w a.h (a.pgs.length : Int) e) a.gl.length ?_ ?_
      · simp only [R1, R2, R3, R4, R5, R6, R7, R8, AV.flat, fillIn_nil, fillIn_cons, splice, AV.cells, AV.one, eqsOf, idx, SO.calls, List.reduceReplicate, Nat.reduceBEq, Nat.reduceLT, Nat.reduceAdd, Nat.reduceMul, Nat.reduceSub, Nat.reduceLeDiff, Nat.reduceEqDiff, ↓reduceIte, Int.reduceLT, Int.reduceEq, Int.reduceBNe, Int.reduceBEq, aeq, Int.reduceLE, Int.reduceNeg, Int.reduceMul, Int.reduceAdd, Int.reduceSub, Int.reduceToNat, Int.reducePow, g1, g2]
        exact ⟨⟨[], rfl⟩, 0, by omega, by omega, rfl, by simp⟩
      · rintro k t _ ⟨g1, ⟨X, rfl⟩, ⟨g2, g3, g4⟩, i, hi, rfl, g5, g7⟩
        rw [← tm_nil t]
        by_cases hc : i < a.gl.length
        · have a1 : ((i : Int) < (a.gl.length : Int)) = True := eq_true (by omega)
          have w1 : IntKind.i64.wrap ((i : Int) + 1) = ((i + 1 : Nat) : Int) := by rw [wrap_i64 (by omega) (by omega)]; rfl
          have E := hs.gl.elem hc
          have hmem := List.getElem_mem hc
          have g8 := fun h => all_suc (P := fun e => OkE a.w a.h (a.pgs.length : Int) e) hc g7 h
          have hno : ¬ OkE a.w a.h (a.pgs.length : Int) a.gl[i] → decide (MayA a) = false := fun h => decide_eq_false fun hh => h (hh.2.2.1 _ hmem)
          have eE := fun H => c94 a.gl[i] a.w a.h (a.pgs.length : Int) (by omega) (by omega) (by omega) H
          generalize a.gl[i] = e at *
          simp only [Ent.cs] at E eE
          by_cases he : OkE a.w a.h (a.pgs.length : Int) e
          · rw [decide_eq_true he] at eE
            simp only [Atl.cs, R1, R2, R3, R4, R5, R6, R7, R8, AV.flat, fillIn_nil, fillIn_cons, splice, AV.cells, AV.one, eqsOf, idx, SO.calls, List.reduceReplicate, Nat.reduceBEq, Nat.reduceLT, Nat.reduceAdd, Nat.reduceMul, Nat.reduceSub, Nat.reduceLeDiff, Nat.reduceEqDiff, ↓reduceIte, Int.reduceLT, Int.reduceEq, Int.reduceBNe, Int.reduceBEq, aeq, Int.reduceLE, Int.reduceNeg, Int.reduceMul, Int.reduceAdd, Int.reduceSub, Int.reduceToNat, Int.reducePow, g1, g2, g3, g4, g5, a1, w1, E, eE, l3]
            exact ⟨_, by omega, ⟨_, rfl⟩, i + 1, by omega, rfl, rfl, g8 he⟩
          · rw [decide_eq_false he] at eE
            rw [hno he]
            simp only [Atl.cs, R1, R2, R3, R4, R5, R6, R7, R8, AV.flat, fillIn_nil, fillIn_cons, splice, AV.cells, AV.one, eqsOf, idx, SO.calls, List.reduceReplicate, Nat.reduceBEq, Nat.reduceLT, Nat.reduceAdd, Nat.reduceMul, Nat.reduceSub, Nat.reduceLeDiff, Nat.reduceEqDiff, ↓reduceIte, Int.reduceLT, Int.reduceEq, Int.reduceBNe, Int.reduceBEq, aeq, Int.reduceLE, Int.reduceNeg, Int.reduceMul, Int.reduceAdd, Int.reduceSub, Int.reduceToNat, Int.reducePow, g1, g2, g3, g4, g5, a1, E, eE, l3]
            rw [tidy_bool']
        · have a1 : ((i : Int) < (a.gl.length : Int)) = False := eq_false (by omega)
          obtain rfl : i = a.gl.length := by omega
          rw [List.take_length] at g7
          have eC := c95 (hs.pr.app (.cells (a.cs vg vp vs) 33 true :: X)) hp (a.gl.length : Int)
          have hyes : mayP a.pr (a.gl.length : Int) = decide (MayA a) := by
            cases hm : mayP a.pr (a.gl.length : Int)
            · exact (decide_eq_false fun hh => by rw [hh.2.2.2] at hm; cases hm).symm
            · exact (decide_eq_true ⟨hn, g6, g7, hm⟩).symm
          rw [hyes] at eC
          simp only [Atl.cs] at eC ⊢
          simp only [R1, R2, R3, R4, R5, R6, R7, R8, AV.flat, fillIn_nil, fillIn_cons, splice, AV.cells, AV.one, eqsOf, idx, SO.calls, List.reduceReplicate, Nat.reduceBEq, Nat.reduceLT, Nat.reduceAdd, Nat.reduceMul, Nat.reduceSub, Nat.reduceLeDiff, Nat.reduceEqDiff, ↓reduceIte, Int.reduceLT, Int.reduceEq, Int.reduceBNe, Int.reduceBEq, aeq, Int.reduceLE, Int.reduceNeg, Int.reduceMul, Int.reduceAdd, Int.reduceSub, Int.reduceToNat, Int.reducePow, g1, g2, g3, g4, g5, a1, l1, eC]
          rw [tidy_bool']
end Go.Proofs.YtbnnfmncipdlpaaDoor
