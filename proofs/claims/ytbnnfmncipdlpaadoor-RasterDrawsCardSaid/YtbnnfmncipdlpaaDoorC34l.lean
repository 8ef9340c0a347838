/- Chapter 34: the law of pictures. -/
import Derived.Test.YtbnnfmncipdlpaaDoorC34k
set_option linter.unusedVariables false
set_option linter.unusedSimpArgs false
set_option maxRecDepth 100000
set_option maxHeartbeats 8000000
namespace Go.Proofs.YtbnnfmncipdlpaaDoor
open Go Go.Den
theorem c7 {a : Atl} {vg vp vs vl : AV} {l : List Pld} (hs : AtlOf [] a vg vp vs) (hl : a.pgs.length ≤ 9223372036854775807) (v : View) (hsl : SlOf [] 3 Pld.cs vl l) (hn : l.length ≤ 9223372036854775807) : ∃ H', call env 7 [.agg (a.cs vg vp vs), .agg v.cs, vl] [] = some (.bool true, H') := by
  have z1 := slof_cell hs.gl
  have z2 := slof_cell hs.pr
  have z3 := slof_cell hs.pgs
  have z4 := slof_cell hsl
  simp only [AV.cells, AV.one] at z1 z2 z3 z4
  have hsX := fun X => hs.app X
  have hlX := fun X => hsl.app X
  have l2 := hsl.lenOf
  simp only [List.nil_append] at hsX hlX
  refine ⟨[], ?_⟩
  refine call_ends (fn := s7) rfl rfl (by simp [s7]) ?_
  have eF := fun X => c15 (hsX X) hl
  by_cases hf : FewA a
  rotate_left
  · rw [decide_eq_false hf] at eF
    simp only [Atl.cs, View.cs] at eF ⊢
    simp only [s7, R1, R2, R3, R4, R5, R6, R7, R8, AV.flat, fillIn_nil, fillIn_cons, splice, AV.cells, AV.one, eqsOf, idx, SO.calls, List.reduceReplicate, Nat.reduceBEq, Nat.reduceLT, Nat.reduceAdd, Nat.reduceMul, Nat.reduceSub, Nat.reduceLeDiff, Nat.reduceEqDiff, ↓reduceIte, Int.reduceLT, Int.reduceEq, Int.reduceBNe, Int.reduceBEq, aeq, Int.reduceLE, Int.reduceNeg, Int.reduceMul, Int.reduceAdd, Int.reduceSub, Int.reduceToNat, Int.reducePow, w25, z1, z2, z3, z4, eF]
  rw [decide_eq_true hf] at eF
  have hp : a.pr.length ≤ 9223372036854775807 := by have := hf.2.2.1; omega
  have hl2 : a.pgs.length ≤ 1000000 := by have := hf.2.2.2; omega
  have hd : ∀ s ∈ a.pgs, s.length ≤ 1000000000 := fun s h => by have := hf.1 s h; omega
  by_cases h10 : l.length ≤ 10
  rotate_left
  · have b1 : ((l.length : Int) > 10) = True := eq_true (by omega)
    simp only [Atl.cs, View.cs] at eF ⊢
    simp only [s7, R1, R2, R3, R4, R5, R6, R7, R8, AV.flat, fillIn_nil, fillIn_cons, splice, AV.cells, AV.one, eqsOf, idx, SO.calls, List.reduceReplicate, Nat.reduceBEq, Nat.reduceLT, Nat.reduceAdd, Nat.reduceMul, Nat.reduceSub, Nat.reduceLeDiff, Nat.reduceEqDiff, ↓reduceIte, Int.reduceLT, Int.reduceEq, Int.reduceBNe, Int.reduceBEq, aeq, Int.reduceLE, Int.reduceNeg, Int.reduceMul, Int.reduceAdd, Int.reduceSub, Int.reduceToNat, Int.reducePow, w25, z1, z2, z3, z4, eF, l2, b1]
  have b1 : ((l.length : Int) > 10) = False := eq_false (by omega)
  have e1 := fun H => c26 v H
  have e2 := fun X => c27 (v := v) (hsX X) hp hd (hlX X) hn
  have e3 := fun X => c28 (hsX X) hp hd v (hlX X) hn
  have e4 := fun (h : askE a v l = 0) X => c29 (hsX X) hp hl2 hd (hlX X) hn h
  have c0 : ∀ z : Int, (z != z) = false := fun z => by simp
  by_cases hv : MayV v
  rotate_left
  · have hk : askE a v l ≠ 0 := fun h => hv (ask_ok h).2.1
    rw [if_neg hk] at e2
    rw [decide_eq_false hv] at e1
    have c1 : (askE a v l != 0) = true := by rw [bne_iff_ne]; exact hk
    generalize askE a v l = q at *
    simp only [Atl.cs, View.cs] at eF e1 e2 e3 ⊢
    simp only [s7, R1, R2, R3, R4, R5, R6, R7, R8, AV.flat, fillIn_nil, fillIn_cons, splice, AV.cells, AV.one, eqsOf, idx, SO.calls, List.reduceReplicate, Nat.reduceBEq, Nat.reduceLT, Nat.reduceAdd, Nat.reduceMul, Nat.reduceSub, Nat.reduceLeDiff, Nat.reduceEqDiff, ↓reduceIte, Int.reduceLT, Int.reduceEq, Int.reduceBNe, Int.reduceBEq, aeq, Int.reduceLE, Int.reduceNeg, Int.reduceMul, Int.reduceAdd, Int.reduceSub, Int.reduceToNat, Int.reducePow, w25, z1, z2, z3, z4, eF, l2, b1, e1, e2, e3, c0, c1]
  rw [decide_eq_true hv] at e1
  obtain ⟨v1, v2, _⟩ := id hv
  have hwh := prod_in (a := v.w) (b := v.h) (A := 1024) (B := 1024) (by omega) (by omega)
  have w1 := wrap_i64 (x := v.w * v.h) (by omega) (by omega)
  by_cases h2 : v.w * v.h > 200
  · simp only [Atl.cs, View.cs] at eF e1 ⊢
    simp only [s7, R1, R2, R3, R4, R5, R6, R7, R8, AV.flat, fillIn_nil, fillIn_cons, splice, AV.cells, AV.one, eqsOf, idx, SO.calls, List.reduceReplicate, Nat.reduceBEq, Nat.reduceLT, Nat.reduceAdd, Nat.reduceMul, Nat.reduceSub, Nat.reduceLeDiff, Nat.reduceEqDiff, ↓reduceIte, Int.reduceLT, Int.reduceEq, Int.reduceBNe, Int.reduceBEq, aeq, Int.reduceLE, Int.reduceNeg, Int.reduceMul, Int.reduceAdd, Int.reduceSub, Int.reduceToNat, Int.reducePow, w25, z1, z2, z3, z4, eF, l2, b1, e1, w1, eq_true h2]
  by_cases hk : askE a v l = 0
  · rw [if_pos hk, hk] at e2
    rw [hk] at e3
    have e4 := e4 hk
    simp only [Atl.cs, View.cs] at eF e1 e2 e3 e4 ⊢
    simp only [s7, R1, R2, R3, R4, R5, R6, R7, R8, AV.flat, fillIn_nil, fillIn_cons, splice, AV.cells, AV.one, eqsOf, idx, SO.calls, List.reduceReplicate, Nat.reduceBEq, Nat.reduceLT, Nat.reduceAdd, Nat.reduceMul, Nat.reduceSub, Nat.reduceLeDiff, Nat.reduceEqDiff, ↓reduceIte, Int.reduceLT, Int.reduceEq, Int.reduceBNe, Int.reduceBEq, aeq, Int.reduceLE, Int.reduceNeg, Int.reduceMul, Int.reduceAdd, Int.reduceSub, Int.reduceToNat, Int.reducePow, w25, z1, z2, z3, z4, eF, l2, b1, e1, e2, e3, e4, w1, eq_false h2]
  · rw [if_neg hk] at e2
    have c1 : (askE a v l != 0) = true := by rw [bne_iff_ne]; exact hk
    generalize askE a v l = q at *
    simp only [Atl.cs, View.cs] at eF e1 e2 e3 ⊢
    simp only [s7, R1, R2, R3, R4, R5, R6, R7, R8, AV.flat, fillIn_nil, fillIn_cons, splice, AV.cells, AV.one, eqsOf, idx, SO.calls, List.reduceReplicate, Nat.reduceBEq, Nat.reduceLT, Nat.reduceAdd, Nat.reduceMul, Nat.reduceSub, Nat.reduceLeDiff, Nat.reduceEqDiff, ↓reduceIte, Int.reduceLT, Int.reduceEq, Int.reduceBNe, Int.reduceBEq, aeq, Int.reduceLE, Int.reduceNeg, Int.reduceMul, Int.reduceAdd, Int.reduceSub, Int.reduceToNat, Int.reducePow, w25, z1, z2, z3, z4, eF, l2, b1, e1, e2, e3, w1, eq_false h2, c0, c1]
end Go.Proofs.YtbnnfmncipdlpaaDoor
