/- Chapter 30: the same atlases. -/
import Derived.Test.YtppkggodpihfiaaC30c
set_option linter.unusedVariables false
set_option linter.unusedSimpArgs false
set_option maxRecDepth 100000
set_option maxHeartbeats 4000000
namespace Go.Proofs.Ytppkggodpihfiaa
open Go Go.Den
theorem ne_self (n : Int) : (n != n) = false := by simp
theorem nel_self (l : List UInt8) : (l != l) = false := by simp
theorem c70 {H : Heap} {v w : AV} {l : List Pr} (h1 : SlOf H 2 Pr.cs v l) (h2 : SlOf H 2 Pr.cs w l) (hn : l.length ≤ 9223372036854775807) : call env 70 [v, w] H = some (.bool true, H) := by
  have l1 := h1.lenOf
  have l2 := h2.lenOf
  refine call_ends (fn := s70) rfl rfl (by simp [s70]) ?_
  simp only [s70, R1, R2, R3, R4, R5, R6, R7, R8, AV.flat, fillIn_nil, fillIn_cons, splice, AV.cells, AV.one, eqsOf, idx, SO.calls, List.reduceReplicate, Nat.reduceBEq, Nat.reduceLT, Nat.reduceAdd, Nat.reduceMul, Nat.reduceSub, Nat.reduceLeDiff, Nat.reduceEqDiff, ↓reduceIte, Int.reduceLT, Int.reduceEq, Int.reduceBNe, Int.reduceBEq, aeq, Int.reduceLE, Int.reduceNeg, Int.reduceMul, Int.reduceAdd, Int.reduceSub, Int.reduceToNat, Int.reducePow, l1, l2, ne_self]
  refine ends_loop (fun k t H' => t.length = 26 ∧ H = H' ∧ (t.getD 0 .undef = v ∧ t.getD 1 .undef = w) ∧ ∃ i : Nat, i ≤ l.length ∧ k = l.length - i ∧ t.getD 5 .undef = .int .i64 (i : Int)) l.length ?_ ?_
  · simp only [R1, R2, R3, R4, R5, R6, R7, R8, AV.flat, fillIn_nil, fillIn_cons, splice, AV.cells, AV.one, eqsOf, idx, SO.calls, List.reduceReplicate, Nat.reduceBEq, Nat.reduceLT, Nat.reduceAdd, Nat.reduceMul, Nat.reduceSub, Nat.reduceLeDiff, Nat.reduceEqDiff, ↓reduceIte, Int.reduceLT, Int.reduceEq, Int.reduceBNe, Int.reduceBEq, aeq, Int.reduceLE, Int.reduceNeg, Int.reduceMul, Int.reduceAdd, Int.reduceSub, Int.reduceToNat, Int.reducePow]
    exact ⟨0, by omega, by omega, rfl⟩
  · rintro k t _ ⟨g1, rfl, ⟨g2, g3⟩, i, hi, rfl, g4⟩
    rw [← tm_nil t]
    by_cases hc : i < l.length
    · have a1 : ((i : Int) < (l.length : Int)) = True := eq_true (by omega)
      have w1 : IntKind.i64.wrap ((i : Int) + 1) = ((i + 1 : Nat) : Int) := by rw [wrap_i64 (by omega) (by omega)]; rfl
      have E := h1.elem0 hc
      have F := h2.elem0 hc
      generalize l[i] = q at *
      obtain ⟨x, y⟩ := q
      simp only [Pr.cs] at E F
      simp only [R1, R2, R3, R4, R5, R6, R7, R8, AV.flat, fillIn_nil, fillIn_cons, splice, AV.cells, AV.one, eqsOf, idx, SO.calls, List.reduceReplicate, Nat.reduceBEq, Nat.reduceLT, Nat.reduceAdd, Nat.reduceMul, Nat.reduceSub, Nat.reduceLeDiff, Nat.reduceEqDiff, ↓reduceIte, Int.reduceLT, Int.reduceEq, Int.reduceBNe, Int.reduceBEq, aeq, Int.reduceLE, Int.reduceNeg, Int.reduceMul, Int.reduceAdd, Int.reduceSub, Int.reduceToNat, Int.reducePow, g1, g2, g3, g4, l1, a1, w1, E, F, aeqs, ne_self]
      exact ⟨_, by omega, i + 1, by omega, rfl, rfl⟩
    · have a1 : ((i : Int) < (l.length : Int)) = False := eq_false (by omega)
      simp only [R1, R2, R3, R4, R5, R6, R7, R8, AV.flat, fillIn_nil, fillIn_cons, splice, AV.cells, AV.one, eqsOf, idx, SO.calls, List.reduceReplicate, Nat.reduceBEq, Nat.reduceLT, Nat.reduceAdd, Nat.reduceMul, Nat.reduceSub, Nat.reduceLeDiff, Nat.reduceEqDiff, ↓reduceIte, Int.reduceLT, Int.reduceEq, Int.reduceBNe, Int.reduceBEq, aeq, Int.reduceLE, Int.reduceNeg, Int.reduceMul, Int.reduceAdd, Int.reduceSub, Int.reduceToNat, Int.reducePow, g1, g2, g3, g4, l1, a1]
      try rw [tidy_bool]
theorem c30 {H : Heap} {a : Atl} {vg vp vs wg wp ws : AV} (h1 : AtlOf H a vg vp vs) (h2 : AtlOf H a wg wp ws) (n1 : a.gl.length ≤ 9223372036854775807) (n2 : a.pr.length ≤ 9223372036854775807) (n3 : a.pgs.length ≤ 9223372036854775807) :
    call env 30 [.agg (a.cs vg vp vs), .agg (a.cs wg wp ws)] H = some (.bool true, H) := by
  have z1 := slof_cell h1.gl
  have z2 := slof_cell h1.pr
  have z3 := slof_cell h1.pgs
  have y1 := slof_cell h2.gl
  have y2 := slof_cell h2.pr
  have y3 := slof_cell h2.pgs
  simp only [AV.cells, AV.one] at z1 z2 z3 y1 y2 y3
  have l1 := h1.gl.lenOf
  have l3 := h1.pgs.lenOf
  have m1 := h2.gl.lenOf
  have m3 := h2.pgs.lenOf
  have eP := fun X => c70 (h1.pr.app X) (h2.pr.app X) n2
  simp only [Atl.cs]
  refine call_ends (fn := s30) rfl rfl (by simp [s30]) ?_
  simp only [s30, R1, R2, R3, R4, R5, R6, R7, R8, AV.flat, fillIn_nil, fillIn_cons, splice, AV.cells, AV.one, eqsOf, idx, SO.calls, List.reduceReplicate, Nat.reduceBEq, Nat.reduceLT, Nat.reduceAdd, Nat.reduceMul, Nat.reduceSub, Nat.reduceLeDiff, Nat.reduceEqDiff, ↓reduceIte, Int.reduceLT, Int.reduceEq, Int.reduceBNe, Int.reduceBEq, aeq, Int.reduceLE, Int.reduceNeg, Int.reduceMul, Int.reduceAdd, Int.reduceSub, Int.reduceToNat, Int.reducePow, z1, z2, z3, y1, y2, y3, l1, l3, m1, m3, ne_self, aeqs, eP]
  refine ends_loop (fun k t H' => t.length = 116 ∧ (H ++ [.cells (a.cs vg vp vs) 53 true, .cells (a.cs wg wp ws) 53 true]) = H' ∧ (t.getD 2 .undef = .ptr H.length 0 ∧ t.getD 3 .undef = .ptr (H.length + 1) 0) ∧ ∃ i : Nat, i ≤ a.gl.length ∧ k = a.gl.length - i ∧ t.getD 5 .undef = .int .i64 (i : Int)) a.gl.length ?_ ?_
  · simp only [R1, R2, R3, R4, R5, R6, R7, R8, AV.flat, fillIn_nil, fillIn_cons, splice, AV.cells, AV.one, eqsOf, idx, SO.calls, List.reduceReplicate, Nat.reduceBEq, Nat.reduceLT, Nat.reduceAdd, Nat.reduceMul, Nat.reduceSub, Nat.reduceLeDiff, Nat.reduceEqDiff, ↓reduceIte, Int.reduceLT, Int.reduceEq, Int.reduceBNe, Int.reduceBEq, aeq, Int.reduceLE, Int.reduceNeg, Int.reduceMul, Int.reduceAdd, Int.reduceSub, Int.reduceToNat, Int.reducePow, Atl.cs]
    exact ⟨0, by omega, by omega, rfl⟩
  · rintro k t _ ⟨g1, rfl, ⟨g2, g3⟩, i, hi, rfl, g4⟩
    rw [← tm_nil t]
    by_cases hc : i < a.gl.length
    · have a1 : ((i : Int) < (a.gl.length : Int)) = True := eq_true (by omega)
      have w1 : IntKind.i64.wrap ((i : Int) + 1) = ((i + 1 : Nat) : Int) := by rw [wrap_i64 (by omega) (by omega)]; rfl
      have E := h1.gl.elem hc
      have F := h2.gl.elem hc
      generalize a.gl[i] = e at *
      simp only [Ent.cs] at E F
      simp only [Atl.cs, R1, R2, R3, R4, R5, R6, R7, R8, AV.flat, fillIn_nil, fillIn_cons, splice, AV.cells, AV.one, eqsOf, idx, SO.calls, List.reduceReplicate, Nat.reduceBEq, Nat.reduceLT, Nat.reduceAdd, Nat.reduceMul, Nat.reduceSub, Nat.reduceLeDiff, Nat.reduceEqDiff, ↓reduceIte, Int.reduceLT, Int.reduceEq, Int.reduceBNe, Int.reduceBEq, aeq, Int.reduceLE, Int.reduceNeg, Int.reduceMul, Int.reduceAdd, Int.reduceSub, Int.reduceToNat, Int.reducePow, g1, g2, g3, g4, l1, a1, w1, E, F, aeqs]
      exact ⟨_, by omega, i + 1, by omega, rfl, rfl⟩
    · have a1 : ((i : Int) < (a.gl.length : Int)) = False := eq_false (by omega)
      simp only [Atl.cs, R1, R2, R3, R4, R5, R6, R7, R8, AV.flat, fillIn_nil, fillIn_cons, splice, AV.cells, AV.one, eqsOf, idx, SO.calls, List.reduceReplicate, Nat.reduceBEq, Nat.reduceLT, Nat.reduceAdd, Nat.reduceMul, Nat.reduceSub, Nat.reduceLeDiff, Nat.reduceEqDiff, ↓reduceIte, Int.reduceLT, Int.reduceEq, Int.reduceBNe, Int.reduceBEq, aeq, Int.reduceLE, Int.reduceNeg, Int.reduceMul, Int.reduceAdd, Int.reduceSub, Int.reduceToNat, Int.reducePow, g1, g2, g3, g4, l1, a1]
      refine ends_loop (fun k t H' => t.length = 116 ∧ (H ++ [.cells (a.cs vg vp vs) 53 true, .cells (a.cs wg wp ws) 53 true]) = H' ∧ (t.getD 2 .undef = .ptr H.length 0 ∧ t.getD 3 .undef = .ptr (H.length + 1) 0) ∧ ∃ i : Nat, i ≤ a.pgs.length ∧ k = a.pgs.length - i ∧ t.getD 6 .undef = .int .i64 (i : Int)) a.pgs.length ?_ ?_
      · simp only [R1, R2, R3, R4, R5, R6, R7, R8, AV.flat, fillIn_nil, fillIn_cons, splice, AV.cells, AV.one, eqsOf, idx, SO.calls, List.reduceReplicate, Nat.reduceBEq, Nat.reduceLT, Nat.reduceAdd, Nat.reduceMul, Nat.reduceSub, Nat.reduceLeDiff, Nat.reduceEqDiff, ↓reduceIte, Int.reduceLT, Int.reduceEq, Int.reduceBNe, Int.reduceBEq, aeq, Int.reduceLE, Int.reduceNeg, Int.reduceMul, Int.reduceAdd, Int.reduceSub, Int.reduceToNat, Int.reducePow, Atl.cs, g1, g2, g3]
        exact ⟨0, by omega, by omega, rfl⟩
      · rintro k t _ ⟨g1, rfl, ⟨g2, g3⟩, i, hi, rfl, g4⟩
        rw [← tm_nil t]
        by_cases hc : i < a.pgs.length
        · have a1 : ((i : Int) < (a.pgs.length : Int)) = True := eq_true (by omega)
          have w1 : IntKind.i64.wrap ((i : Int) + 1) = ((i + 1 : Nat) : Int) := by rw [wrap_i64 (by omega) (by omega)]; rfl
          have E := h1.pgs.elem hc
          have F := h2.pgs.elem hc
          generalize a.pgs[i] = e at *
          simp only [StrC, Nat.mul_one] at E F
          simp only [Atl.cs, R1, R2, R3, R4, R5, R6, R7, R8, AV.flat, fillIn_nil, fillIn_cons, splice, AV.cells, AV.one, eqsOf, idx, SO.calls, List.reduceReplicate, Nat.reduceBEq, Nat.reduceLT, Nat.reduceAdd, Nat.reduceMul, Nat.reduceSub, Nat.reduceLeDiff, Nat.reduceEqDiff, ↓reduceIte, Int.reduceLT, Int.reduceEq, Int.reduceBNe, Int.reduceBEq, aeq, Int.reduceLE, Int.reduceNeg, Int.reduceMul, Int.reduceAdd, Int.reduceSub, Int.reduceToNat, Int.reducePow, g1, g2, g3, g4, l3, a1, w1, E, F, nel_self]
          exact ⟨_, by omega, i + 1, by omega, rfl, rfl⟩
        · have a1 : ((i : Int) < (a.pgs.length : Int)) = False := eq_false (by omega)
          simp only [Atl.cs, R1, R2, R3, R4, R5, R6, R7, R8, AV.flat, fillIn_nil, fillIn_cons, splice, AV.cells, AV.one, eqsOf, idx, SO.calls, List.reduceReplicate, Nat.reduceBEq, Nat.reduceLT, Nat.reduceAdd, Nat.reduceMul, Nat.reduceSub, Nat.reduceLeDiff, Nat.reduceEqDiff, ↓reduceIte, Int.reduceLT, Int.reduceEq, Int.reduceBNe, Int.reduceBEq, aeq, Int.reduceLE, Int.reduceNeg, Int.reduceMul, Int.reduceAdd, Int.reduceSub, Int.reduceToNat, Int.reducePow, g1, g2, g3, g4, l3, a1]
          rw [tidy_bool']
end Go.Proofs.Ytppkggodpihfiaa
