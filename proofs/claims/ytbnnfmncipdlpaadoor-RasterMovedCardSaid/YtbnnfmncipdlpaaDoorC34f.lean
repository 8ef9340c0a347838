/- Chapter 34: the law of pixels. -/
import Derived.Test.YtbnnfmncipdlpaaDoorC34e
import Derived.Test.YtbnnfmncipdlpaaDoorC30i
set_option linter.unusedVariables false
set_option linter.unusedSimpArgs false
set_option maxRecDepth 100000
set_option maxHeartbeats 8000000
namespace Go.Proofs.YtbnnfmncipdlpaaDoor
open Go Go.Den
theorem pix_ok (a : Atl) (v : View) (p : Pld) (i j : Int) : 0 ≤ pixI a v p i j ∧ pixI a v p i j ≤ 255 := by
  unfold pixI covG
  split
  · exact cov_ok _ _ _ _
  · omega
theorem c10 {a : Atl} {vg vp vs : AV} (hs : AtlOf [] a vg vp vs) (hl : a.pgs.length ≤ 9223372036854775807) (v : View) (n0 n1 n2 n3 n4 : Int) : ∃ H', call env 10 [.agg (a.cs vg vp vs), .agg v.cs, .agg [.int .i64 n0, .int .i64 n1, .int .i64 n2, .int .i64 n3, .int .i64 n4]] [] = some (.bool true, H') := by
  have z1 := slof_cell hs.gl
  have z2 := slof_cell hs.pr
  have z3 := slof_cell hs.pgs
  simp only [AV.cells, AV.one] at z1 z2 z3
  have hsX := fun X => hs.app X
  simp only [List.nil_append] at hsX
  refine ⟨[], ?_⟩
  refine call_ends (fn := s10) rfl rfl (by simp [s10]) ?_
  have eF := fun X => c15 (hsX X) hl
  by_cases hf : FewA a
  rotate_left
  · rw [decide_eq_false hf] at eF
    simp only [Atl.cs, View.cs] at eF ⊢
    simp only [s10, R1, R2, R3, R4, R5, R6, R7, R8, AV.flat, fillIn_nil, fillIn_cons, splice, AV.cells, AV.one, eqsOf, idx, SO.calls, List.reduceReplicate, Nat.reduceBEq, Nat.reduceLT, Nat.reduceAdd, Nat.reduceMul, Nat.reduceSub, Nat.reduceLeDiff, Nat.reduceEqDiff, ↓reduceIte, Int.reduceLT, Int.reduceEq, Int.reduceBNe, Int.reduceBEq, aeq, Int.reduceLE, Int.reduceNeg, Int.reduceMul, Int.reduceAdd, Int.reduceSub, Int.reduceToNat, Int.reducePow, w25, z1, z2, z3, eF]
  rw [decide_eq_true hf] at eF
  have hp : a.pr.length ≤ 9223372036854775807 := by have := hf.2.2.1; omega
  have hl2 : a.pgs.length ≤ 1000000 := by have := hf.2.2.2; omega
  have hd : ∀ s ∈ a.pgs, s.length ≤ 1000000000 := fun s h => by have := hf.1 s h; omega
  have e1 := fun X => c30 (v := v) (hsX X) hp hd ⟨n0, n1, n2⟩ n3 n4
  have e2 := fun X => c31 (v := v) (hsX X) hp hd ⟨n0, n1, n2⟩ n3 n4
  have e3 := fun H => c32 v H
  have e4 := fun H => c26 v H
  have c0 : ∀ b : Bool, (b == b) = true := fun b => by simp
  generalize decide (MayV v) = mv at *
  have e5 := fun X => c28 (hsX (X ++ [.cells [.int .i64 n0, .int .i64 n1, .int .i64 n2] 52 true])) hp hd v (slone (H := X) (p := ⟨n0, n1, n2⟩) (cap := some 1)) (by simp)
  have e5 := e5 [.cells (a.cs vg vp vs) 33 true, .cells v.cs 55 true, .cells [.int .i64 n0, .int .i64 n1, .int .i64 n2, .int .i64 n3, .int .i64 n4] 63 true, .cells [.int .i64 n0, .int .i64 n1, .int .i64 n2] 52 true]
  have pb := pix_ok a v ⟨n0, n1, n2⟩ n3 n4
  have w1 := wrap_i64 (x := pixI a v ⟨n0, n1, n2⟩ n3 n4) (by omega) (by omega)
  have ci : ∀ z : Int, (z == z) = true := fun z => by simp
  by_cases hk : askE a v [⟨n0, n1, n2⟩] = 0
  rotate_left
  · have hno : ¬ PtOk a v ⟨n0, n1, n2⟩ n3 n4 := fun h => hk h.1
    simp only [if_neg hno] at e1 e2
    have c1 : (askE a v [⟨n0, n1, n2⟩] != 0) = true := by rw [bne_iff_ne]; exact hk
    generalize askE a v [⟨n0, n1, n2⟩] = q at *
    simp only [Atl.cs, View.cs, Pld.cs, List.cons_append, List.nil_append, List.length_cons, List.length_nil, Nat.zero_add, Nat.reduceAdd] at eF e1 e2 e3 e4 e5 ⊢
    simp only [s10, R1, R2, R3, R4, R5, R6, R7, R8, AV.flat, fillIn_nil, fillIn_cons, splice, AV.cells, AV.one, eqsOf, idx, SO.calls, List.reduceReplicate, Nat.reduceBEq, Nat.reduceLT, Nat.reduceAdd, Nat.reduceMul, Nat.reduceSub, Nat.reduceLeDiff, Nat.reduceEqDiff, ↓reduceIte, Int.reduceLT, Int.reduceEq, Int.reduceBNe, Int.reduceBEq, aeq, Int.reduceLE, Int.reduceNeg, Int.reduceMul, Int.reduceAdd, Int.reduceSub, Int.reduceToNat, Int.reducePow, w25, z1, z2, z3, eF, e1, e2, e3, e4, e5, c0, c1, ci, veil_un, shun_un]
  have c1 : (askE a v [⟨n0, n1, n2⟩] != 0) = false := by rw [bne_eq_false_iff_eq]; exact hk
  obtain ⟨ha, hv, hp1⟩ := ask_ok hk
  have hpo := hp1 ⟨n0, n1, n2⟩ (by simp)
  by_cases hi : InV v n3 n4
  rotate_left
  · have hno : ¬ PtOk a v ⟨n0, n1, n2⟩ n3 n4 := fun h => hi h.2
    simp only [if_neg hno] at e1 e2
    generalize askE a v [⟨n0, n1, n2⟩] = q at *
    unfold InV at hi
    simp only [Atl.cs, View.cs, Pld.cs, List.cons_append, List.nil_append, List.length_cons, List.length_nil, Nat.zero_add, Nat.reduceAdd] at eF e1 e2 e3 e4 e5 ⊢
    by_cases h1 : n3 < 0
    · simp only [s10, R1, R2, R3, R4, R5, R6, R7, R8, AV.flat, fillIn_nil, fillIn_cons, splice, AV.cells, AV.one, eqsOf, idx, SO.calls, List.reduceReplicate, Nat.reduceBEq, Nat.reduceLT, Nat.reduceAdd, Nat.reduceMul, Nat.reduceSub, Nat.reduceLeDiff, Nat.reduceEqDiff, ↓reduceIte, Int.reduceLT, Int.reduceEq, Int.reduceBNe, Int.reduceBEq, aeq, Int.reduceLE, Int.reduceNeg, Int.reduceMul, Int.reduceAdd, Int.reduceSub, Int.reduceToNat, Int.reducePow, w25, z1, z2, z3, eF, e1, e2, e3, e4, e5, c0, c1, ci, eq_true h1, veil_un, shun_un]
    by_cases h2 : n3 ≥ v.w
    · simp only [s10, R1, R2, R3, R4, R5, R6, R7, R8, AV.flat, fillIn_nil, fillIn_cons, splice, AV.cells, AV.one, eqsOf, idx, SO.calls, List.reduceReplicate, Nat.reduceBEq, Nat.reduceLT, Nat.reduceAdd, Nat.reduceMul, Nat.reduceSub, Nat.reduceLeDiff, Nat.reduceEqDiff, ↓reduceIte, Int.reduceLT, Int.reduceEq, Int.reduceBNe, Int.reduceBEq, aeq, Int.reduceLE, Int.reduceNeg, Int.reduceMul, Int.reduceAdd, Int.reduceSub, Int.reduceToNat, Int.reducePow, w25, z1, z2, z3, eF, e1, e2, e3, e4, e5, c0, c1, ci, eq_false h1, eq_true h2, veil_un, shun_un]
    by_cases h3 : n4 < 0
    · simp only [s10, R1, R2, R3, R4, R5, R6, R7, R8, AV.flat, fillIn_nil, fillIn_cons, splice, AV.cells, AV.one, eqsOf, idx, SO.calls, List.reduceReplicate, Nat.reduceBEq, Nat.reduceLT, Nat.reduceAdd, Nat.reduceMul, Nat.reduceSub, Nat.reduceLeDiff, Nat.reduceEqDiff, ↓reduceIte, Int.reduceLT, Int.reduceEq, Int.reduceBNe, Int.reduceBEq, aeq, Int.reduceLE, Int.reduceNeg, Int.reduceMul, Int.reduceAdd, Int.reduceSub, Int.reduceToNat, Int.reducePow, w25, z1, z2, z3, eF, e1, e2, e3, e4, e5, c0, c1, ci, eq_false h1, eq_false h2, eq_true h3, veil_un, shun_un]
    by_cases h4 : n4 ≥ v.h
    · simp only [s10, R1, R2, R3, R4, R5, R6, R7, R8, AV.flat, fillIn_nil, fillIn_cons, splice, AV.cells, AV.one, eqsOf, idx, SO.calls, List.reduceReplicate, Nat.reduceBEq, Nat.reduceLT, Nat.reduceAdd, Nat.reduceMul, Nat.reduceSub, Nat.reduceLeDiff, Nat.reduceEqDiff, ↓reduceIte, Int.reduceLT, Int.reduceEq, Int.reduceBNe, Int.reduceBEq, aeq, Int.reduceLE, Int.reduceNeg, Int.reduceMul, Int.reduceAdd, Int.reduceSub, Int.reduceToNat, Int.reducePow, w25, z1, z2, z3, eF, e1, e2, e3, e4, e5, c0, c1, ci, eq_false h1, eq_false h2, eq_false h3, eq_true h4, veil_un, shun_un]
    exact absurd ⟨⟨by omega, by omega⟩, by omega, by omega⟩ hi
  have hyes : PtOk a v ⟨n0, n1, n2⟩ n3 n4 := ⟨hk, hi⟩
  simp only [if_pos hyes] at e1 e2
  have e6 := fun X => c33 (hsX X) ha hv hpo hi
  have e7 := fun X => c34 (hsX X) hp hl2 hd ha hv hpo hi
  unfold InV at hi
  have h1 : ¬ n3 < 0 := by omega
  have h2 : ¬ n3 ≥ v.w := by omega
  have h3 : ¬ n4 < 0 := by omega
  have h4 : ¬ n4 ≥ v.h := by omega
  generalize pixI a v ⟨n0, n1, n2⟩ n3 n4 = c at *
  generalize (axX a v ⟨n0, n1, n2⟩).at n3 = x at *
  generalize (axY a v ⟨n0, n1, n2⟩).at n4 = y at *
  generalize askE a v [⟨n0, n1, n2⟩] = q at *
  simp only [Atl.cs, View.cs, Pld.cs, List.cons_append, List.nil_append, List.length_cons, List.length_nil, Nat.zero_add, Nat.reduceAdd] at eF e1 e2 e3 e4 e5 e6 e7 ⊢
  simp only [s10, R1, R2, R3, R4, R5, R6, R7, R8, AV.flat, fillIn_nil, fillIn_cons, splice, AV.cells, AV.one, eqsOf, idx, SO.calls, List.reduceReplicate, Nat.reduceBEq, Nat.reduceLT, Nat.reduceAdd, Nat.reduceMul, Nat.reduceSub, Nat.reduceLeDiff, Nat.reduceEqDiff, ↓reduceIte, Int.reduceLT, Int.reduceEq, Int.reduceBNe, Int.reduceBEq, aeq, Int.reduceLE, Int.reduceNeg, Int.reduceMul, Int.reduceAdd, Int.reduceSub, Int.reduceToNat, Int.reducePow, w25, z1, z2, z3, eF, e1, e2, e3, e4, e5, e6, e7, w1, c0, c1, ci, eq_false h1, eq_false h2, eq_false h3, eq_false h4, veil_un, shun_un]
end Go.Proofs.YtbnnfmncipdlpaaDoor
