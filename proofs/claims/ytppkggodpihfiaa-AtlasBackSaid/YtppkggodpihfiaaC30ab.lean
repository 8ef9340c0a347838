/- Chapter 30: the law AtlasBack. -/
import Derived.Test.YtppkggodpihfiaaC30f
import Derived.Test.YtppkggodpihfiaaC30s
import Derived.Test.YtppkggodpihfiaaC30v
import Derived.Test.YtppkggodpihfiaaC30y
import Derived.Test.YtppkggodpihfiaaC30z
set_option linter.unusedVariables false
set_option linter.unusedSimpArgs false
set_option maxRecDepth 100000
set_option maxHeartbeats 4000000
namespace Go.Proofs.Ytppkggodpihfiaa
open Go Go.Den
theorem few_pages {a : Atl} (h : FewA a) : a.pgs.flatten.length ≤ 8000 := by
  obtain ⟨h1, _, _, h4⟩ := h
  have gen : ∀ l : List (List UInt8), (∀ s ∈ l, s.length ≤ 2000) → l.flatten.length ≤ 2000 * l.length := by
    intro l hl
    induction l with
    | nil => simp
    | cons s l ih =>
      have := ih fun s hs => hl s (by simp [hs])
      have := hl s (by simp)
      rw [List.flatten_cons, List.length_append, List.length_cons]; omega
  have := gen _ h1
  omega
theorem c6 {a : Atl} {vg vp vs : AV} (hs : AtlOf [] a vg vp vs) (hl : a.pgs.length ≤ 9223372036854775807) : ∃ H', call env 6 [.agg (a.cs vg vp vs)] [] = some (.bool true, H') := by
  have z1 := slof_cell hs.gl
  have z2 := slof_cell hs.pr
  have z3 := slof_cell hs.pgs
  simp only [AV.cells, AV.one] at z1 z2 z3
  have hsX : ∀ X : Heap, AtlOf X a vg vp vs := fun X => by simpa using hs.app X
  have eF := fun X => c24 (hsX X) hl
  by_cases hf : FewA a
  case neg =>
    rw [decide_eq_false hf] at eF
    simp only [Atl.cs] at eF ⊢
    refine ⟨[], ?_⟩
    refine call_ends (fn := s6) rfl rfl (by simp [s6]) ?_
    simp only [s6, R1, R2, R3, R4, R5, R6, R7, R8, AV.flat, fillIn_nil, fillIn_cons, splice, AV.cells, AV.one, eqsOf, idx, SO.calls, List.reduceReplicate, Nat.reduceBEq, Nat.reduceLT, Nat.reduceAdd, Nat.reduceMul, Nat.reduceSub, Nat.reduceLeDiff, Nat.reduceEqDiff, ↓reduceIte, Int.reduceLT, Int.reduceEq, Int.reduceBNe, Int.reduceBEq, aeq, Int.reduceLE, Int.reduceNeg, Int.reduceMul, Int.reduceAdd, Int.reduceSub, Int.reduceToNat, Int.reducePow, w23, eF, z1, z2, z3]
    try rw [tidy_law]
  rw [decide_eq_true hf] at eF
  have hT := few_pages hf
  have k1 : a.gl.length ≤ 10 := hf.2.1
  have k2 : a.pr.length ≤ 20 := hf.2.2.1
  have k3 : a.pgs.length ≤ 4 := hf.2.2.2
  have hd : ∀ s ∈ a.pgs, s.length ≤ 1000000000 := fun s h => by have := hf.1 s h; omega
  have eE := fun X => c25 (hsX X) (by omega) hd (fun _ => by omega)
  have eM := fun X => c26 (hsX X) (by omega) hd
  have eR := fun X => c27 (hsX X) (by omega) hd
  by_cases hm : MayA a
  case neg =>
    rw [decide_eq_false hm] at eM eR
    rw [if_neg hm, if_neg hm] at eE
    have hb : (([] : List UInt8) == []) = true := rfl
    simp only [Atl.cs] at eF eE eM eR ⊢
    refine ⟨[], ?_⟩
    refine call_ends (fn := s6) rfl rfl (by simp [s6]) ?_
    simp only [s6, R1, R2, R3, R4, R5, R6, R7, R8, AV.flat, fillIn_nil, fillIn_cons, splice, AV.cells, AV.one, eqsOf, idx, SO.calls, List.reduceReplicate, Nat.reduceBEq, Nat.reduceLT, Nat.reduceAdd, Nat.reduceMul, Nat.reduceSub, Nat.reduceLeDiff, Nat.reduceEqDiff, ↓reduceIte, Int.reduceLT, Int.reduceEq, Int.reduceBNe, Int.reduceBEq, aeq, Int.reduceLE, Int.reduceNeg, Int.reduceMul, Int.reduceAdd, Int.reduceSub, Int.reduceToNat, Int.reducePow, w23, eF, eE, eM, eR, z1, z2, z3, hb, shun_un, veil_un]
    try rw [tidy_law]
  rw [decide_eq_true hm] at eM eR
  rw [if_pos hm, if_pos hm] at eE
  obtain ⟨d1, d2⟩ := dec_enc hm
  have d3 : decA (encP a) = a := by rw [show decA (encP a) = fullA (encP a) from if_pos d1, d2]
  have hlen := encP_len a
  obtain ⟨r, e1, wg, wp, ws, X, rfl, A2⟩ := c28 (encP a) [.cells (a.cs vg vp vs) 53 true] (by omega)
  rw [d3] at e1 A2
  rw [d1] at e1
  have y1 := slof_cell A2.gl
  have y2 := slof_cell A2.pr
  have y3 := slof_cell A2.pgs
  simp only [AV.cells, AV.one] at y1 y2 y3
  have e2 := fun X => c29 (hsX X) hm (by omega)
  have e3 := c30 (hsX ([.cells (a.cs vg vp vs) 53 true] ++ X ++ [.cells (a.cs wg wp ws) 53 true])) (A2.app [.cells (a.cs wg wp ws) 53 true]) (by omega) (by omega) (by omega)
  have hb : (encP a == encP a) = true := by simp
  simp only [Atl.cs, List.cons_append, List.nil_append] at eF eE eM eR e1 e2 e3 ⊢
  refine ⟨[], ?_⟩
  refine call_ends (fn := s6) rfl rfl (by simp [s6]) ?_
  simp only [s6, R1, R2, R3, R4, R5, R6, R7, R8, AV.flat, fillIn_nil, fillIn_cons, splice, AV.cells, AV.one, eqsOf, idx, SO.calls, List.reduceReplicate, Nat.reduceBEq, Nat.reduceLT, Nat.reduceAdd, Nat.reduceMul, Nat.reduceSub, Nat.reduceLeDiff, Nat.reduceEqDiff, ↓reduceIte, Int.reduceLT, Int.reduceEq, Int.reduceBNe, Int.reduceBEq, aeq, Int.reduceLE, Int.reduceNeg, Int.reduceMul, Int.reduceAdd, Int.reduceSub, Int.reduceToNat, Int.reducePow, w23, eF, eE, eM, eR, e1, e2, e3, z1, z2, z3, y1, y2, y3, hb, shun_un, veil_un]
  try rw [tidy_law]
end Go.Proofs.Ytppkggodpihfiaa
