/- Chapter 30: the reference's Texel, the law AtlasTexels. -/
import Derived.Test.YtbnnfmncipdlpaaDoorC30f
set_option linter.unusedVariables false
set_option linter.unusedSimpArgs false
set_option maxRecDepth 100000
set_option maxHeartbeats 2000000
namespace Go.Proofs.YtbnnfmncipdlpaaDoor
open Go Go.Den
theorem c87 {H : Heap} {a : Atl} {vg vp vs : AV} (hs : AtlOf H a vg vp vs) (hp : a.pr.length ≤ 9223372036854775807) (hl : a.pgs.length ≤ 1000000) (hd : ∀ s ∈ a.pgs, s.length ≤ 1000000000) (pg x y : Int) : call env 87 [.agg (a.cs vg vp vs), .int .i64 pg, .int .i64 x, .int .i64 y] H = some (.tup [.agg (texL a pg x y), .int .i64 (texE a pg x y)], H) := by
  have z1 := slof_cell hs.gl
  have z2 := slof_cell hs.pr
  have z3 := slof_cell hs.pgs
  simp only [AV.cells, AV.one] at z1 z2 z3
  have l3 := hs.pgs.lenOf
  have eM := fun X => c24 (hs.app X) hp hd
  by_cases hm : MayA a
  case neg =>
    have hno : ¬ TexOk a pg x y := fun h => hm h.1
    unfold texL texE
    rw [if_neg hno, if_neg hno]
    rw [decide_eq_false hm] at eM
    simp only [Atl.cs] at eM ⊢
    refine call_ends (fn := s87) rfl rfl (by simp [s87]) ?_
    simp only [s87, R1, R2, R3, R4, R5, R6, R7, R8, AV.flat, fillIn_nil, fillIn_cons, splice, AV.cells, AV.one, eqsOf, idx, SO.calls, List.reduceReplicate, Nat.reduceBEq, Nat.reduceLT, Nat.reduceAdd, Nat.reduceMul, Nat.reduceSub, Nat.reduceLeDiff, Nat.reduceEqDiff, ↓reduceIte, Int.reduceLT, Int.reduceEq, Int.reduceBNe, Int.reduceBEq, aeq, Int.reduceLE, Int.reduceNeg, Int.reduceMul, Int.reduceAdd, Int.reduceSub, Int.reduceToNat, Int.reducePow, eM, z1, z2, z3]
    rw [tidy_still rfl]
  rw [decide_eq_true hm] at eM
  obtain ⟨_, _, _, _, _, _, _, _, _, n1, n2, n3, n4, n5, n6, n7⟩ := id hm.1
  have w1 := wrap_i64 (x := (a.pgs.length : Int) - 1) (by omega) (by omega)
  have w2 := wrap_i64 (x := a.w - 1) (by omega) (by omega)
  have w3 := wrap_i64 (x := a.h - 1) (by omega) (by omega)
  by_cases ht : TexOk a pg x y
  case neg =>
    unfold texL texE
    rw [if_neg ht, if_neg ht]
    simp only [Atl.cs] at eM ⊢
    refine call_ends (fn := s87) rfl rfl (by simp [s87]) ?_
    by_cases d1 : 0 ≤ pg ∧ pg ≤ (a.pgs.length : Int) - 1
    · have i1 := fun H => c49 pg 0 ((a.pgs.length : Int) - 1) H
      rw [decide_eq_true d1] at i1
      by_cases d2 : 0 ≤ x ∧ x ≤ a.w - 1
      · have i2 := fun H => c49 x 0 (a.w - 1) H
        rw [decide_eq_true d2] at i2
        have i3 := fun H => c49 y 0 (a.h - 1) H
        rw [decide_eq_false fun h => ht ⟨hm, d1, d2, h⟩] at i3
        simp only [s87, R1, R2, R3, R4, R5, R6, R7, R8, AV.flat, fillIn_nil, fillIn_cons, splice, AV.cells, AV.one, eqsOf, idx, SO.calls, List.reduceReplicate, Nat.reduceBEq, Nat.reduceLT, Nat.reduceAdd, Nat.reduceMul, Nat.reduceSub, Nat.reduceLeDiff, Nat.reduceEqDiff, ↓reduceIte, Int.reduceLT, Int.reduceEq, Int.reduceBNe, Int.reduceBEq, aeq, Int.reduceLE, Int.reduceNeg, Int.reduceMul, Int.reduceAdd, Int.reduceSub, Int.reduceToNat, Int.reducePow, eM, z1, z2, z3, l3, w1, w2, w3, i1, i2, i3]
        rw [tidy_still rfl]
      · have i2 := fun H => c49 x 0 (a.w - 1) H
        rw [decide_eq_false d2] at i2
        simp only [s87, R1, R2, R3, R4, R5, R6, R7, R8, AV.flat, fillIn_nil, fillIn_cons, splice, AV.cells, AV.one, eqsOf, idx, SO.calls, List.reduceReplicate, Nat.reduceBEq, Nat.reduceLT, Nat.reduceAdd, Nat.reduceMul, Nat.reduceSub, Nat.reduceLeDiff, Nat.reduceEqDiff, ↓reduceIte, Int.reduceLT, Int.reduceEq, Int.reduceBNe, Int.reduceBEq, aeq, Int.reduceLE, Int.reduceNeg, Int.reduceMul, Int.reduceAdd, Int.reduceSub, Int.reduceToNat, Int.reducePow, eM, z1, z2, z3, l3, w1, w2, w3, i1, i2]
        rw [tidy_still rfl]
    · have i1 := fun H => c49 pg 0 ((a.pgs.length : Int) - 1) H
      rw [decide_eq_false d1] at i1
      simp only [s87, R1, R2, R3, R4, R5, R6, R7, R8, AV.flat, fillIn_nil, fillIn_cons, splice, AV.cells, AV.one, eqsOf, idx, SO.calls, List.reduceReplicate, Nat.reduceBEq, Nat.reduceLT, Nat.reduceAdd, Nat.reduceMul, Nat.reduceSub, Nat.reduceLeDiff, Nat.reduceEqDiff, ↓reduceIte, Int.reduceLT, Int.reduceEq, Int.reduceBNe, Int.reduceBEq, aeq, Int.reduceLE, Int.reduceNeg, Int.reduceMul, Int.reduceAdd, Int.reduceSub, Int.reduceToNat, Int.reducePow, eM, z1, z2, z3, l3, w1, w2, w3, i1]
      rw [tidy_still rfl]
  obtain ⟨i, k, s, b0, b1, b2, b3, T⟩ := tex_place ht
  obtain ⟨_, d1, d2, d3⟩ := id ht
  rw [T.tex, show texE a pg x y = 0 from if_pos ht]
  have i1 := fun H => c49 pg 0 ((a.pgs.length : Int) - 1) H
  have i2 := fun H => c49 x 0 (a.w - 1) H
  have i3 := fun H => c49 y 0 (a.h - 1) H
  rw [decide_eq_true d1] at i1
  rw [decide_eq_true d2] at i2
  rw [decide_eq_true d3] at i3
  have w4 := wrap_i64 (x := y * a.w) (by have := T.m1; omega) (by have := T.m1; omega)
  have w5 := wrap_i64 (x := y * a.w + x) (by have := T.m2; omega) (by have := T.m2; omega)
  have w6 : IntKind.i64.wrap (4 * (y * a.w + x)) = (k : Int) := by rw [T.hk]; exact wrap_i64 (by omega) (by have := T.n; omega)
  have E := hs.pgs.elem T.hi
  rw [T.hs] at E
  simp only [StrC, Nat.mul_one] at E
  have hpg := T.hpg
  subst hpg
  have hnn := T.n
  have u1 : IntKind.i64.wrap ((k : Int) + 1) = ((k + 1 : Nat) : Int) := by rw [wrap_i64 (by omega) (by omega)]; rfl
  have u2 : IntKind.i64.wrap ((k : Int) + 2) = ((k + 2 : Nat) : Int) := by rw [wrap_i64 (by omega) (by omega)]; rfl
  have u3 : IntKind.i64.wrap ((k : Int) + 3) = ((k + 3 : Nat) : Int) := by rw [wrap_i64 (by omega) (by omega)]; rfl
  have f0 := T.c0
  have f1 := T.c1
  have f2 := T.c2
  have f3 := T.c3
  simp only [Atl.cs] at eM ⊢
  refine call_ends (fn := s87) rfl rfl (by simp [s87]) ?_
  simp only [s87, R1, R2, R3, R4, R5, R6, R7, R8, AV.flat, fillIn_nil, fillIn_cons, splice, AV.cells, AV.one, eqsOf, idx, SO.calls, List.reduceReplicate, Nat.reduceBEq, Nat.reduceLT, Nat.reduceAdd, Nat.reduceMul, Nat.reduceSub, Nat.reduceLeDiff, Nat.reduceEqDiff, ↓reduceIte, Int.reduceLT, Int.reduceEq, Int.reduceBNe, Int.reduceBEq, aeq, Int.reduceLE, Int.reduceNeg, Int.reduceMul, Int.reduceAdd, Int.reduceSub, Int.reduceToNat, Int.reducePow, eM, z1, z2, z3, l3, w1, w2, w3, i1, i2, i3, w4, w5, w6, E, u1, u2, u3, f0, f1, f2, f3]
  rw [tidy_still rfl]
end Go.Proofs.YtbnnfmncipdlpaaDoor
