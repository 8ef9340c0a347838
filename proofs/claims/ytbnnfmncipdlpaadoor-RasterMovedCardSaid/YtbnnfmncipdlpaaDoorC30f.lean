/- Chapter 30: Few, Texel. -/
import Derived.Test.YtbnnfmncipdlpaaDoorC30e
set_option linter.unusedVariables false
set_option linter.unusedSimpArgs false
set_option maxRecDepth 100000
set_option maxHeartbeats 2000000
namespace Go.Proofs.YtbnnfmncipdlpaaDoor
open Go Go.Den
def FewA (a : Atl) : Prop := (∀ s ∈ a.pgs, s.length ≤ 2000) ∧ a.gl.length ≤ 10 ∧ a.pr.length ≤ 20 ∧ a.pgs.length ≤ 4
instance (a : Atl) : Decidable (FewA a) := by unfold FewA; exact inferInstance
theorem c15 {H : Heap} {a : Atl} {vg vp vs : AV} (hs : AtlOf H a vg vp vs) (hp : a.pgs.length ≤ 9223372036854775807) : call env 15 [.agg (a.cs vg vp vs)] H = some (.bool (decide (FewA a)), H) := by
  have z1 := slof_cell hs.gl
  have z2 := slof_cell hs.pr
  have z3 := slof_cell hs.pgs
  simp only [AV.cells, AV.one] at z1 z2 z3
  have l1 := hs.gl.lenOf
  have l2 := hs.pr.lenOf
  have l3 := hs.pgs.lenOf
  refine call_ends (fn := s15) rfl rfl (by simp [s15]) ?_
  simp only [s15, Atl.cs, R1, R2, R3, R4, R5, R6, R7, R8, AV.flat, fillIn_nil, fillIn_cons, splice, AV.cells, AV.one, eqsOf, idx, SO.calls, List.reduceReplicate, Nat.reduceBEq, Nat.reduceLT, Nat.reduceAdd, Nat.reduceMul, Nat.reduceSub, Nat.reduceLeDiff, Nat.reduceEqDiff, ↓reduceIte, Int.reduceLT, Int.reduceEq, Int.reduceBNe, Int.reduceBEq, aeq, Int.reduceLE, Int.reduceNeg, Int.reduceMul, Int.reduceAdd, Int.reduceSub, Int.reduceToNat, Int.reducePow, z1, z2, z3, l1, l2, l3]
  refine ends_loop (fun k t H' => t.length = 32 ∧ (H ++ [.cells (a.cs vg vp vs) 33 true]) = H' ∧ (t.getD 1 .undef = .ptr H.length 0 ∧ t.getD 6 .undef = vs ∧ t.getD 7 .undef = .int .i64 (a.pgs.length : Int)) ∧ ∃ i : Nat, i ≤ a.pgs.length ∧ k = a.pgs.length - i ∧ t.getD 8 .undef = .int .i64 (i : Int) ∧ ∀ s ∈ a.pgs.take i, s.length ≤ 2000) a.pgs.length ?_ ?_
  · simp only [R1, R2, R3, R4, R5, R6, R7, R8, AV.flat, fillIn_nil, fillIn_cons, splice, AV.cells, AV.one, eqsOf, idx, SO.calls, List.reduceReplicate, Nat.reduceBEq, Nat.reduceLT, Nat.reduceAdd, Nat.reduceMul, Nat.reduceSub, Nat.reduceLeDiff, Nat.reduceEqDiff, ↓reduceIte, Int.reduceLT, Int.reduceEq, Int.reduceBNe, Int.reduceBEq, aeq, Int.reduceLE, Int.reduceNeg, Int.reduceMul, Int.reduceAdd, Int.reduceSub, Int.reduceToNat, Int.reducePow]
    exact ⟨rfl, 0, by omega, by omega, rfl, by simp⟩
  · rintro k t _ ⟨g1, rfl, ⟨g2, g3, g4⟩, i, hi, rfl, g5, g6⟩
    rw [← tm_nil t]
    by_cases hc : i < a.pgs.length
    · have a1 : ((i : Int) < (a.pgs.length : Int)) = True := eq_true (by omega)
      have w1 : IntKind.i64.wrap ((i : Int) + 1) = ((i + 1 : Nat) : Int) := by rw [wrap_i64 (by omega) (by omega)]; rfl
      have E := hs.pgs.elem hc
      have hmem := List.getElem_mem hc
      have g7 := fun h => all_suc (P := fun s => s.length ≤ 2000) hc g6 h
      have hno : ¬ (a.pgs[i].length ≤ 2000) → decide (FewA a) = false := fun h => decide_eq_false fun hh => h (hh.1 _ hmem)
      generalize a.pgs[i] = s at *
      simp only [StrC, Nat.mul_one] at E
      by_cases he : s.length ≤ 2000
      · have b1 : ((s.length : Int) > 2000) = False := eq_false (by omega)
        simp only [Atl.cs, R1, R2, R3, R4, R5, R6, R7, R8, AV.flat, fillIn_nil, fillIn_cons, splice, AV.cells, AV.one, eqsOf, idx, SO.calls, List.reduceReplicate, Nat.reduceBEq, Nat.reduceLT, Nat.reduceAdd, Nat.reduceMul, Nat.reduceSub, Nat.reduceLeDiff, Nat.reduceEqDiff, ↓reduceIte, Int.reduceLT, Int.reduceEq, Int.reduceBNe, Int.reduceBEq, aeq, Int.reduceLE, Int.reduceNeg, Int.reduceMul, Int.reduceAdd, Int.reduceSub, Int.reduceToNat, Int.reducePow, g1, g2, g3, g4, g5, a1, w1, E, b1]
        exact ⟨_, by omega, i + 1, by omega, rfl, rfl, g7 he⟩
      · have b1 : ((s.length : Int) > 2000) = True := eq_true (by omega)
        rw [hno he]
        simp only [Atl.cs, R1, R2, R3, R4, R5, R6, R7, R8, AV.flat, fillIn_nil, fillIn_cons, splice, AV.cells, AV.one, eqsOf, idx, SO.calls, List.reduceReplicate, Nat.reduceBEq, Nat.reduceLT, Nat.reduceAdd, Nat.reduceMul, Nat.reduceSub, Nat.reduceLeDiff, Nat.reduceEqDiff, ↓reduceIte, Int.reduceLT, Int.reduceEq, Int.reduceBNe, Int.reduceBEq, aeq, Int.reduceLE, Int.reduceNeg, Int.reduceMul, Int.reduceAdd, Int.reduceSub, Int.reduceToNat, Int.reducePow, g1, g2, g3, g4, g5, a1, E, b1]
        rw [tidy_bool']
    · have a1 : ((i : Int) < (a.pgs.length : Int)) = False := eq_false (by omega)
      obtain rfl : i = a.pgs.length := by omega
      rw [List.take_length] at g6
      by_cases q1 : a.gl.length ≤ 10
      · have b1 : ((a.gl.length : Int) ≤ 10) = True := eq_true (by omega)
        by_cases q2 : a.pr.length ≤ 20
        · have b2 : ((a.pr.length : Int) ≤ 20) = True := eq_true (by omega)
          have b3 : ((a.pgs.length : Int) ≤ 4) = (a.pgs.length ≤ 4) := by apply propext; omega
          have hy : decide (FewA a) = decide (a.pgs.length ≤ 4) := decide_eq_decide.2 ⟨fun h => h.2.2.2, fun h => ⟨g6, q1, q2, h⟩⟩
          simp only [Atl.cs, R1, R2, R3, R4, R5, R6, R7, R8, AV.flat, fillIn_nil, fillIn_cons, splice, AV.cells, AV.one, eqsOf, idx, SO.calls, List.reduceReplicate, Nat.reduceBEq, Nat.reduceLT, Nat.reduceAdd, Nat.reduceMul, Nat.reduceSub, Nat.reduceLeDiff, Nat.reduceEqDiff, ↓reduceIte, Int.reduceLT, Int.reduceEq, Int.reduceBNe, Int.reduceBEq, aeq, Int.reduceLE, Int.reduceNeg, Int.reduceMul, Int.reduceAdd, Int.reduceSub, Int.reduceToNat, Int.reducePow, g1, g2, g3, g4, g5, a1, l1, l2, l3, b1, b2]
          rw [tidy_bool', hy]
          simp only [decide_eq_decide.2 (Iff.of_eq b3)]
        · have b2 : ((a.pr.length : Int) ≤ 20) = False := eq_false (by omega)
          rw [decide_eq_false fun h : FewA a => q2 h.2.2.1]
          simp only [Atl.cs, R1, R2, R3, R4, R5, R6, R7, R8, AV.flat, fillIn_nil, fillIn_cons, splice, AV.cells, AV.one, eqsOf, idx, SO.calls, List.reduceReplicate, Nat.reduceBEq, Nat.reduceLT, Nat.reduceAdd, Nat.reduceMul, Nat.reduceSub, Nat.reduceLeDiff, Nat.reduceEqDiff, ↓reduceIte, Int.reduceLT, Int.reduceEq, Int.reduceBNe, Int.reduceBEq, aeq, Int.reduceLE, Int.reduceNeg, Int.reduceMul, Int.reduceAdd, Int.reduceSub, Int.reduceToNat, Int.reducePow, g1, g2, g3, g4, g5, a1, l1, l2, l3, b1, b2]
          rw [tidy_bool']
      · have b1 : ((a.gl.length : Int) ≤ 10) = False := eq_false (by omega)
        rw [decide_eq_false fun h : FewA a => q1 h.2.1]
        simp only [Atl.cs, R1, R2, R3, R4, R5, R6, R7, R8, AV.flat, fillIn_nil, fillIn_cons, splice, AV.cells, AV.one, eqsOf, idx, SO.calls, List.reduceReplicate, Nat.reduceBEq, Nat.reduceLT, Nat.reduceAdd, Nat.reduceMul, Nat.reduceSub, Nat.reduceLeDiff, Nat.reduceEqDiff, ↓reduceIte, Int.reduceLT, Int.reduceEq, Int.reduceBNe, Int.reduceBEq, aeq, Int.reduceLE, Int.reduceNeg, Int.reduceMul, Int.reduceAdd, Int.reduceSub, Int.reduceToNat, Int.reducePow, g1, g2, g3, g4, g5, a1, l1, l2, l3, b1]
        rw [tidy_bool']
/-- A place that is. -/
def TexOk (a : Atl) (pg x y : Int) : Prop := MayA a ∧ (0 ≤ pg ∧ pg ≤ (a.pgs.length : Int) - 1) ∧ (0 ≤ x ∧ x ≤ a.w - 1) ∧ (0 ≤ y ∧ y ≤ a.h - 1)
instance (a : Atl) (pg x y : Int) : Decidable (TexOk a pg x y) := by unfold TexOk; exact inferInstance
def texL (a : Atl) (pg x y : Int) : List AV :=
  if TexOk a pg x y then
    [.int .u8 (((a.pgs.getD pg.toNat []).getD (4 * (y * a.w + x)).toNat 0).toNat : Int), .int .u8 (((a.pgs.getD pg.toNat []).getD ((4 * (y * a.w + x)).toNat + 1) 0).toNat : Int),
     .int .u8 (((a.pgs.getD pg.toNat []).getD ((4 * (y * a.w + x)).toNat + 2) 0).toNat : Int), .int .u8 (((a.pgs.getD pg.toNat []).getD ((4 * (y * a.w + x)).toNat + 3) 0).toNat : Int)]
  else [.int .u8 0, .int .u8 0, .int .u8 0, .int .u8 0]
def texE (a : Atl) (pg x y : Int) : Int := if TexOk a pg x y then 0 else 1
structure TexAt (a : Atl) (pg x y : Int) (i k : Nat) (s : List UInt8) (b0 b1 b2 b3 : UInt8) : Prop where
  hi : i < a.pgs.length
  hpg : pg = (i : Int)
  hs : a.pgs[i] = s
  hk : 4 * (y * a.w + x) = (k : Int)
  n : k + 3 < s.length ∧ k ≤ 100000000
  m1 : 0 ≤ y * a.w ∧ y * a.w ≤ 2000000
  m2 : 0 ≤ y * a.w + x ∧ y * a.w + x ≤ 4000000
  c0 : s[k]? = some b0
  c1 : s[k + 1]? = some b1
  c2 : s[k + 2]? = some b2
  c3 : s[k + 3]? = some b3
  tex : texL a pg x y = [.int .u8 (b0.toNat : Int), .int .u8 (b1.toNat : Int), .int .u8 (b2.toNat : Int), .int .u8 (b3.toNat : Int)]
theorem tex_place {a : Atl} {pg x y : Int} (h : TexOk a pg x y) : ∃ i k s b0 b1 b2 b3, TexAt a pg x y i k s b0 b1 b2 b3 := by
  have hT := h
  obtain ⟨hm, ⟨p1, p2⟩, ⟨x1, x2⟩, y1, y2⟩ := h
  obtain ⟨_, _, _, _, _, _, _, _, _, n1, n2, n3, n4, n5, n6, n7⟩ := id hm.1
  have hi : pg.toNat < a.pgs.length := by omega
  have hl := hm.2.1 _ (List.getElem_mem hi)
  have m1 : 0 ≤ y * a.w := Int.mul_nonneg y1 (by omega)
  have m2 : y * a.w ≤ (a.h - 1) * a.w := Int.mul_le_mul_of_nonneg_right y2 (by omega)
  have m3 : (a.h - 1) * a.w = a.w * a.h - a.w := by rw [Int.sub_mul, Int.mul_comm a.h]; omega
  have m4 : a.w * a.h ≤ 1024 * 1024 := Int.mul_le_mul n2 n4 (by omega) (by omega)
  have m5 : 4 * a.w * a.h = 4 * (a.w * a.h) := Int.mul_assoc _ _ _
  obtain ⟨k, hk⟩ : ∃ k : Nat, 4 * (y * a.w + x) = (k : Int) := ⟨(4 * (y * a.w + x)).toNat, by omega⟩
  have hn : k + 3 < a.pgs[pg.toNat].length := by omega
  refine ⟨pg.toNat, k, _, _, _, _, _, ⟨hi, by omega, rfl, hk, ⟨hn, by omega⟩, ⟨m1, by omega⟩, ⟨by omega, by omega⟩, List.getElem?_eq_getElem (by omega), List.getElem?_eq_getElem (by omega), List.getElem?_eq_getElem (by omega), List.getElem?_eq_getElem (by omega), ?_⟩⟩
  unfold texL
  rw [if_pos hT, hk]
  have e1 : a.pgs.getD pg.toNat [] = a.pgs[pg.toNat] := by rw [List.getD, List.getElem?_eq_getElem hi]; rfl
  have e2 : ∀ j, (hj : j < a.pgs[pg.toNat].length) → a.pgs[pg.toNat].getD j 0 = a.pgs[pg.toNat][j] := fun j hj => by rw [List.getD, List.getElem?_eq_getElem hj]; rfl
  simp only [e1, Int.toNat_natCast, e2 k (by omega), e2 (k + 1) (by omega), e2 (k + 2) (by omega), e2 (k + 3) (by omega)]
end Go.Proofs.YtbnnfmncipdlpaaDoor
