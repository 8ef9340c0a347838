/- Chapter 32: rows of texels. -/
import Derived.Test.YtbnnfmncipdlpaaDoorC32a
set_option linter.unusedVariables false
set_option linter.unusedSimpArgs false
set_option maxRecDepth 100000
set_option maxHeartbeats 4000000
namespace Go.Proofs.YtbnnfmncipdlpaaDoor
open Go Go.Den
/-- A sampler: a page, how wide it is, where the cell is. -/
def SmC (s : List UInt8) (w pg x y : Int) : List AV := [.str (mkS s), .int .i64 w, .int .i64 pg, .int .i64 x, .int .i64 y]
def pgS (a : Atl) (pg : Int) : List UInt8 := a.pgs.getD pg.toNat []
/-- The four bytes of a texel. -/
def texC (a : Atl) (pg x y : Int) : List AV := [.int .i64 (texI a pg x y 0), .int .i64 (texI a pg x y 1), .int .i64 (texI a pg x y 2), .int .i64 (texI a pg x y 3)]
theorem c122 {a : Atl} {pg X Y i j : Int} (hX : 0 ≤ X ∧ X ≤ 1024) (hY : 0 ≤ Y ∧ Y ≤ 1024) (hi : 0 ≤ i ∧ i ≤ 1024) (hj : 0 ≤ j ∧ j ≤ 1024) (ht : TexOk a pg (X + i) (Y + j)) (H : Heap) :
    call env 122 [.agg (SmC (pgS a pg) a.w pg X Y), .int .i64 i, .int .i64 j] H = some (.agg (texC a pg (X + i) (Y + j)), H) := by
  obtain ⟨n, k, s, b0, b1, b2, b3, T⟩ := tex_place ht
  have hm := T.m1
  have hm2 := T.m2
  have hk := T.hk
  have hkn := T.n
  have hpg : pgS a pg = s := by
    unfold pgS
    rw [T.hpg, Int.toNat_natCast, List.getD, List.getElem?_eq_getElem T.hi]; exact T.hs
  have hb : texC a pg (X + i) (Y + j) = [.int .i64 (b0.toNat : Int), .int .i64 (b1.toNat : Int), .int .i64 (b2.toNat : Int), .int .i64 (b3.toNat : Int)] := by
    have h := T.tex
    rw [texL_ok ht] at h
    simp only [List.cons.injEq, AV.int.injEq, true_and, and_true] at h
    unfold texC
    rw [h.1, h.2.1, h.2.2.1, h.2.2.2]
  rw [hpg, hb]
  have w1 := wrap_i64 (x := Y + j) (by omega) (by omega)
  have w2 := wrap_i64 (x := (Y + j) * a.w) (by omega) (by omega)
  have w3 := wrap_i64 (x := (Y + j) * a.w + X) (by omega) (by omega)
  have w4 := wrap_i64 (x := (Y + j) * a.w + X + i) (by omega) (by omega)
  have hk4 : 4 * ((Y + j) * a.w + X + i) = (k : Int) := by rw [← hk, Int.add_assoc]
  have w5 : IntKind.i64.wrap (k : Int) = (k : Int) := wrap_i64 (by omega) (by omega)
  have w6 : IntKind.i64.wrap ((k : Int) + 1) = ((k + 1 : Nat) : Int) := by rw [wrap_i64 (by omega) (by omega)]; rfl
  have w7 : IntKind.i64.wrap ((k : Int) + 2) = ((k + 2 : Nat) : Int) := by rw [wrap_i64 (by omega) (by omega)]; rfl
  have w8 : IntKind.i64.wrap ((k : Int) + 3) = ((k + 3 : Nat) : Int) := by rw [wrap_i64 (by omega) (by omega)]; rfl
  have c0 := T.c0
  have c1 := T.c1
  have c2 := T.c2
  have c3 := T.c3
  have v : ∀ b : UInt8, IntKind.i64.wrap (b.toNat : Int) = (b.toNat : Int) := fun b => wrap_i64 (by omega) (by have := b.toNat_lt; omega)
  simp only [SmC]
  refine call_ends (fn := s122) rfl rfl (by simp [s122]) ?_
  simp only [s122, R1, R2, R3, R4, R5, R6, R7, R8, AV.flat, fillIn_nil, fillIn_cons, splice, AV.cells, AV.one, eqsOf, idx, SO.calls, List.reduceReplicate, Nat.reduceBEq, Nat.reduceLT, Nat.reduceAdd, Nat.reduceMul, Nat.reduceSub, Nat.reduceLeDiff, Nat.reduceEqDiff, ↓reduceIte, Int.reduceLT, Int.reduceEq, Int.reduceBNe, Int.reduceBEq, aeq, Int.reduceLE, Int.reduceNeg, Int.reduceMul, Int.reduceAdd, Int.reduceSub, Int.reduceToNat, Int.reducePow, w1, w2, w3, w4, hk4, w5, w6, w7, w8, v, c0, c1, c2, c3]
  try rw [tidy_agg' rfl]
theorem sop_texI (a : Atl) (pg x y : Int) : (0 ≤ texI a pg x y 0 ∧ texI a pg x y 0 ≤ 1000000) ∧ (0 ≤ texI a pg x y 1 ∧ texI a pg x y 1 ≤ 1000000) ∧ (0 ≤ texI a pg x y 2 ∧ texI a pg x y 2 ≤ 1000000) ∧ 0 ≤ texI a pg x y 3 ∧ texI a pg x y 3 ≤ 1000000 := by
  have h0 := texI_le a pg x y 0
  have h1 := texI_le a pg x y 1
  have h2 := texI_le a pg x y 2
  have h3 := texI_le a pg x y 3
  omega
/-- Between two texels of a row. -/
def rowI (a : Atl) (pg x y u : Int) (c : Nat) : Int := mixI (texI a pg x y c) (texI a pg (x + 1) y c) u
def rowC (a : Atl) (pg x y u : Int) : List AV := [.int .i64 (rowI a pg x y u 0), .int .i64 (rowI a pg x y u 1), .int .i64 (rowI a pg x y u 2), .int .i64 (rowI a pg x y u 3)]
theorem mix_zero (a b : Int) : mixI a b 0 = mixI a a 0 := by unfold mixI; simp
theorem c106 {a : Atl} {pg X Y i j u : Int} (hX : 0 ≤ X ∧ X ≤ 1024) (hY : 0 ≤ Y ∧ Y ≤ 1024) (hi : 0 ≤ i ∧ i ≤ 1000) (hj : 0 ≤ j ∧ j ≤ 1000) (hu : 0 ≤ u ∧ u ≤ 256) (ht : TexOk a pg (X + i) (Y + j)) (hu2 : u ≠ 0 → TexOk a pg (X + (i + 1)) (Y + j)) (H : Heap) :
    call env 106 [.agg (SmC (pgS a pg) a.w pg X Y), .int .i64 i, .int .i64 j, .int .i64 u] H = some (.agg (rowC a pg (X + i) (Y + j) u), H) := by
  have e1 := fun H => c122 hX hY (show 0 ≤ i ∧ i ≤ 1024 by omega) (show 0 ≤ j ∧ j ≤ 1024 by omega) ht H
  have b1 := sop_texI a pg (X + i) (Y + j)
  have w1 := wrap_i64 (x := i + 1) (by omega) (by omega)
  unfold rowC rowI
  by_cases h0 : u = 0
  · subst h0
    have e2 := fun H => c107 b1 b1 (u := 0) (by omega) H
    simp only [mix_zero]
    simp only [SmC, texC] at e1 ⊢
    refine call_ends (fn := s106) rfl rfl (by simp [s106]) ?_
    generalize mkS (pgS a pg) = ms at *
    simp only [s106, R1, R2, R3, R4, R5, R6, R7, R8, AV.flat, fillIn_nil, fillIn_cons, splice, AV.cells, AV.one, eqsOf, idx, SO.calls, List.reduceReplicate, Nat.reduceBEq, Nat.reduceLT, Nat.reduceAdd, Nat.reduceMul, Nat.reduceSub, Nat.reduceLeDiff, Nat.reduceEqDiff, ↓reduceIte, Int.reduceLT, Int.reduceEq, Int.reduceBNe, Int.reduceBEq, aeq, Int.reduceLE, Int.reduceNeg, Int.reduceMul, Int.reduceAdd, Int.reduceSub, Int.reduceToNat, Int.reducePow, e1, e2]
    try rw [tidy_agg' rfl]
  · have c1 : (u == 0) = false := by rw [beq_eq_false_iff_ne]; exact h0
    have e3 := fun H => c122 hX hY (show 0 ≤ i + 1 ∧ i + 1 ≤ 1024 by omega) (show 0 ≤ j ∧ j ≤ 1024 by omega) (hu2 h0) H
    have b2 := sop_texI a pg (X + (i + 1)) (Y + j)
    have e2 := fun H => c107 b1 b2 hu H
    rw [show X + i + 1 = X + (i + 1) by omega]
    simp only [SmC, texC] at e1 e3 ⊢
    refine call_ends (fn := s106) rfl rfl (by simp [s106]) ?_
    generalize mkS (pgS a pg) = ms at *
    simp only [s106, R1, R2, R3, R4, R5, R6, R7, R8, AV.flat, fillIn_nil, fillIn_cons, splice, AV.cells, AV.one, eqsOf, idx, SO.calls, List.reduceReplicate, Nat.reduceBEq, Nat.reduceLT, Nat.reduceAdd, Nat.reduceMul, Nat.reduceSub, Nat.reduceLeDiff, Nat.reduceEqDiff, ↓reduceIte, Int.reduceLT, Int.reduceEq, Int.reduceBNe, Int.reduceBEq, aeq, Int.reduceLE, Int.reduceNeg, Int.reduceMul, Int.reduceAdd, Int.reduceSub, Int.reduceToNat, Int.reducePow, w1, c1, e1, e2, e3, veil_un, shun_un]
    try rw [tidy_agg' rfl]
end Go.Proofs.YtbnnfmncipdlpaaDoor
