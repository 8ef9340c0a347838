/- Chapter 32: the samples of a point. -/
import Derived.Test.YtbnnfmncipdlpaaDoorC32b
set_option linter.unusedVariables false
set_option linter.unusedSimpArgs false
set_option maxRecDepth 100000
set_option maxHeartbeats 8000000
namespace Go.Proofs.YtbnnfmncipdlpaaDoor
open Go Go.Den
def entA (a : Atl) (n : Int) : Ent := a.gl.getD n.toNat ⟨0, ⟨0, 0, 0, 0⟩, 0, 0, 0⟩
def AskA (a : Atl) (n : Int) : Prop := MayA a ∧ 0 ≤ n ∧ n < (a.gl.length : Int)
instance (a : Atl) (n : Int) : Decidable (AskA a n) := by unfold AskA; infer_instance
def InC (e : Ent) (x y : Int) : Prop := e.c.w ≠ 0 ∧ (0 ≤ x ∧ x ≤ 256 * (e.c.w - 1)) ∧ 0 ≤ y ∧ y ≤ 256 * (e.c.h - 1)
instance (e : Ent) (x y : Int) : Decidable (InC e x y) := by unfold InC; infer_instance
/-- Between four texels. -/
def bilI (a : Atl) (e : Ent) (x y : Int) (c : Nat) : Int :=
  mixI (rowI a e.pg (e.x + cutI x e.c.w) (e.y + cutI y e.c.h) (x - 256 * cutI x e.c.w) c) (rowI a e.pg (e.x + cutI x e.c.w) (e.y + (cutI y e.c.h + 1)) (x - 256 * cutI x e.c.w) c) (y - 256 * cutI y e.c.h)
def bilC (a : Atl) (e : Ent) (x y : Int) : List AV := [.int .i64 (bilI a e x y 0), .int .i64 (bilI a e x y 1), .int .i64 (bilI a e x y 2), .int .i64 (bilI a e x y 3)]
def zeroC : List AV := [.int .i64 0, .int .i64 0, .int .i64 0, .int .i64 0]
def atC (a : Atl) (n x y : Int) : List AV := if AskA a n then (if InC (entA a n) x y then bilC a (entA a n) x y else zeroC) else zeroC
def atE (a : Atl) (n x y : Int) : Int := if AskA a n then (if InC (entA a n) x y then 0 else 7) else 1
/-- A cell that may be asked. -/
structure EntOk (a : Atl) (e : Ent) : Prop where
  w : 1 ≤ e.c.w ∧ e.c.w ≤ 256
  h : 1 ≤ e.c.h ∧ e.c.h ≤ 256
  pg : 0 ≤ e.pg ∧ e.pg ≤ (a.pgs.length : Int) - 1
  x : 0 ≤ e.x ∧ e.x ≤ a.w - e.c.w
  y : 0 ≤ e.y ∧ e.y ≤ a.h - e.c.h
  size : a.w ≤ 1024 ∧ a.h ≤ 1024
theorem ent_ok {a : Atl} {n : Int} (h : AskA a n) (hw : (entA a n).c.w ≠ 0) : EntOk a (entA a n) := by
  have hmem : entA a n ∈ a.gl := by
    unfold entA
    rw [List.getD, List.getElem?_eq_getElem (by have := h.2; omega)]
    exact List.getElem_mem _
  obtain ⟨_, _, h3, _, h5⟩ := h.1.2.2.1 _ hmem
  obtain ⟨_, _, _, _, _, _, _, _, _, n1, n2, n3, n4, _⟩ := id h.1.1
  have hz : ¬ ZeroC (entA a n).c := fun hz => hw hz.2.2.1
  have h5 := h5 hz
  generalize entA a n = e at *
  unfold MayC at h3
  refine ⟨?_, ?_, ⟨h5.1, h5.2.1⟩, ⟨h5.2.2.1, h5.2.2.2.1⟩, ⟨h5.2.2.2.2.1, h5.2.2.2.2.2⟩, n2, n4⟩
  · unfold ZeroC at hz; omega
  · unfold ZeroC at hz; omega
theorem tex_ok {a : Atl} {e : Ent} (hm : MayA a) (h : EntOk a e) {i j : Int} (hi : 0 ≤ i ∧ i ≤ e.c.w - 1) (hj : 0 ≤ j ∧ j ≤ e.c.h - 1) : TexOk a e.pg (e.x + i) (e.y + j) := by
  have := h.x
  have := h.y
  exact ⟨hm, h.pg, by omega, by omega⟩
theorem row_le (a : Atl) (pg x y : Int) {u : Int} (hu : 0 ≤ u ∧ u ≤ 256) (c : Nat) : 0 ≤ rowI a pg x y u c ∧ rowI a pg x y u c ≤ 65280 := by
  have := (mix_le (M := 255) (texI_le a pg x y c) (texI_le a pg (x + 1) y c) hu).2.2
  unfold rowI
  omega
theorem row_le' (a : Atl) (pg x y : Int) {u : Int} (hu : 0 ≤ u ∧ u ≤ 256) (c : Nat) : 0 ≤ rowI a pg x y u c ∧ rowI a pg x y u c ≤ 1000000 := by
  have := row_le a pg x y hu c
  omega
theorem c82 {H : Heap} {a : Atl} {vg vp vs : AV} (hs : AtlOf H a vg vp vs) (hp : a.pr.length ≤ 9223372036854775807) (hd : ∀ s ∈ a.pgs, s.length ≤ 1000000000) (n x y : Int) :
    call env 82 [.agg (a.cs vg vp vs), .int .i64 n, .int .i64 x, .int .i64 y] H = some (.tup [.agg (atC a n x y), .int .i64 (atE a n x y)], H) := by
  have z1 := slof_cell hs.gl
  have z2 := slof_cell hs.pr
  have z3 := slof_cell hs.pgs
  simp only [AV.cells, AV.one] at z1 z2 z3
  have l1 := hs.gl.lenOf
  have eM := fun X => c69 (hs.app X) hp hd
  by_cases hm : MayA a
  rotate_left
  · have hno : ¬ AskA a n := fun h => hm h.1
    unfold atC atE zeroC
    rw [if_neg hno, if_neg hno]
    rw [decide_eq_false hm] at eM
    simp only [Atl.cs] at eM ⊢
    refine call_ends (fn := s82) rfl rfl (by simp [s82]) ?_
    simp only [s82, R1, R2, R3, R4, R5, R6, R7, R8, AV.flat, fillIn_nil, fillIn_cons, splice, AV.cells, AV.one, eqsOf, idx, SO.calls, List.reduceReplicate, Nat.reduceBEq, Nat.reduceLT, Nat.reduceAdd, Nat.reduceMul, Nat.reduceSub, Nat.reduceLeDiff, Nat.reduceEqDiff, ↓reduceIte, Int.reduceLT, Int.reduceEq, Int.reduceBNe, Int.reduceBEq, aeq, Int.reduceLE, Int.reduceNeg, Int.reduceMul, Int.reduceAdd, Int.reduceSub, Int.reduceToNat, Int.reducePow, eM, z1, z2, z3]
    rw [tidy_still rfl]
  rw [decide_eq_true hm] at eM
  by_cases hn0 : n < 0
  · have hno : ¬ AskA a n := fun h => by have := h.2; omega
    unfold atC atE zeroC
    rw [if_neg hno, if_neg hno]
    simp only [Atl.cs] at eM ⊢
    refine call_ends (fn := s82) rfl rfl (by simp [s82]) ?_
    simp only [s82, R1, R2, R3, R4, R5, R6, R7, R8, AV.flat, fillIn_nil, fillIn_cons, splice, AV.cells, AV.one, eqsOf, idx, SO.calls, List.reduceReplicate, Nat.reduceBEq, Nat.reduceLT, Nat.reduceAdd, Nat.reduceMul, Nat.reduceSub, Nat.reduceLeDiff, Nat.reduceEqDiff, ↓reduceIte, Int.reduceLT, Int.reduceEq, Int.reduceBNe, Int.reduceBEq, aeq, Int.reduceLE, Int.reduceNeg, Int.reduceMul, Int.reduceAdd, Int.reduceSub, Int.reduceToNat, Int.reducePow, eM, z1, z2, z3, eq_true hn0]
    rw [tidy_still rfl]
  by_cases hn1 : n ≥ (a.gl.length : Int)
  · have hno : ¬ AskA a n := fun h => by have := h.2; omega
    unfold atC atE zeroC
    rw [if_neg hno, if_neg hno]
    simp only [Atl.cs] at eM ⊢
    refine call_ends (fn := s82) rfl rfl (by simp [s82]) ?_
    simp only [s82, R1, R2, R3, R4, R5, R6, R7, R8, AV.flat, fillIn_nil, fillIn_cons, splice, AV.cells, AV.one, eqsOf, idx, SO.calls, List.reduceReplicate, Nat.reduceBEq, Nat.reduceLT, Nat.reduceAdd, Nat.reduceMul, Nat.reduceSub, Nat.reduceLeDiff, Nat.reduceEqDiff, ↓reduceIte, Int.reduceLT, Int.reduceEq, Int.reduceBNe, Int.reduceBEq, aeq, Int.reduceLE, Int.reduceNeg, Int.reduceMul, Int.reduceAdd, Int.reduceSub, Int.reduceToNat, Int.reducePow, eM, z1, z2, z3, l1, eq_false hn0, eq_true hn1]
    rw [tidy_still rfl]
  have hask : AskA a n := ⟨hm, by omega, by omega⟩
  obtain ⟨m, rfl⟩ : ∃ m : Nat, n = (m : Int) := ⟨n.toNat, by omega⟩
  have hml : m < a.gl.length := by omega
  have E := hs.gl.elem hml
  have hent : a.gl[m] = entA a (m : Int) := by unfold entA; simp [List.getD, hml]
  rw [hent] at E
  unfold atC atE zeroC
  rw [if_pos hask, if_pos hask]
  have hok := fun h => ent_ok hask h
  generalize entA a (m : Int) = e at *
  simp only [Ent.cs] at E
  by_cases hw0 : e.c.w = 0
  · have c1 : (e.c.w == 0) = true := by rw [beq_iff_eq]; exact hw0
    have hno : ¬ InC e x y := fun h => h.1 hw0
    rw [if_neg hno, if_neg hno]
    simp only [Atl.cs] at eM ⊢
    refine call_ends (fn := s82) rfl rfl (by simp [s82]) ?_
    simp only [s82, R1, R2, R3, R4, R5, R6, R7, R8, AV.flat, fillIn_nil, fillIn_cons, splice, AV.cells, AV.one, eqsOf, idx, SO.calls, List.reduceReplicate, Nat.reduceBEq, Nat.reduceLT, Nat.reduceAdd, Nat.reduceMul, Nat.reduceSub, Nat.reduceLeDiff, Nat.reduceEqDiff, ↓reduceIte, Int.reduceLT, Int.reduceEq, Int.reduceBNe, Int.reduceBEq, aeq, Int.reduceLE, Int.reduceNeg, Int.reduceMul, Int.reduceAdd, Int.reduceSub, Int.reduceToNat, Int.reducePow, eM, z1, z2, z3, l1, eq_false hn0, eq_false hn1, E, c1]
    rw [tidy_still rfl]
  have c1 : (e.c.w == 0) = false := by rw [beq_eq_false_iff_ne]; exact hw0
  have ok := hok hw0
  have okw := ok.w
  have okh := ok.h
  have okx := ok.x
  have oky := ok.y
  have oks := ok.size
  have okp := ok.pg
  have w1 := wrap_i64 (x := e.c.w - 1) (by omega) (by omega)
  have w2 := wrap_i64 (x := e.c.h - 1) (by omega) (by omega)
  have w3 := wrap_i64 (x := 256 * (e.c.w - 1)) (by omega) (by omega)
  have w4 := wrap_i64 (x := 256 * (e.c.h - 1)) (by omega) (by omega)
  by_cases h1 : x < 0
  · have hno : ¬ InC e x y := fun h => by have := h.2.1; omega
    rw [if_neg hno, if_neg hno]
    simp only [Atl.cs] at eM ⊢
    refine call_ends (fn := s82) rfl rfl (by simp [s82]) ?_
    simp only [s82, R1, R2, R3, R4, R5, R6, R7, R8, AV.flat, fillIn_nil, fillIn_cons, splice, AV.cells, AV.one, eqsOf, idx, SO.calls, List.reduceReplicate, Nat.reduceBEq, Nat.reduceLT, Nat.reduceAdd, Nat.reduceMul, Nat.reduceSub, Nat.reduceLeDiff, Nat.reduceEqDiff, ↓reduceIte, Int.reduceLT, Int.reduceEq, Int.reduceBNe, Int.reduceBEq, aeq, Int.reduceLE, Int.reduceNeg, Int.reduceMul, Int.reduceAdd, Int.reduceSub, Int.reduceToNat, Int.reducePow, eM, z1, z2, z3, l1, eq_false hn0, eq_false hn1, E, c1, w1, w2, w3, w4, eq_true h1]
    rw [tidy_still rfl]
  by_cases h2 : x > 256 * (e.c.w - 1)
  · have hno : ¬ InC e x y := fun h => by have := h.2.1; omega
    rw [if_neg hno, if_neg hno]
    simp only [Atl.cs] at eM ⊢
    refine call_ends (fn := s82) rfl rfl (by simp [s82]) ?_
    simp only [s82, R1, R2, R3, R4, R5, R6, R7, R8, AV.flat, fillIn_nil, fillIn_cons, splice, AV.cells, AV.one, eqsOf, idx, SO.calls, List.reduceReplicate, Nat.reduceBEq, Nat.reduceLT, Nat.reduceAdd, Nat.reduceMul, Nat.reduceSub, Nat.reduceLeDiff, Nat.reduceEqDiff, ↓reduceIte, Int.reduceLT, Int.reduceEq, Int.reduceBNe, Int.reduceBEq, aeq, Int.reduceLE, Int.reduceNeg, Int.reduceMul, Int.reduceAdd, Int.reduceSub, Int.reduceToNat, Int.reducePow, eM, z1, z2, z3, l1, eq_false hn0, eq_false hn1, E, c1, w1, w2, w3, w4, eq_false h1, eq_true h2]
    rw [tidy_still rfl]
  by_cases h3 : y < 0
  · have hno : ¬ InC e x y := fun h => by have := h.2.2; omega
    rw [if_neg hno, if_neg hno]
    simp only [Atl.cs] at eM ⊢
    refine call_ends (fn := s82) rfl rfl (by simp [s82]) ?_
    simp only [s82, R1, R2, R3, R4, R5, R6, R7, R8, AV.flat, fillIn_nil, fillIn_cons, splice, AV.cells, AV.one, eqsOf, idx, SO.calls, List.reduceReplicate, Nat.reduceBEq, Nat.reduceLT, Nat.reduceAdd, Nat.reduceMul, Nat.reduceSub, Nat.reduceLeDiff, Nat.reduceEqDiff, ↓reduceIte, Int.reduceLT, Int.reduceEq, Int.reduceBNe, Int.reduceBEq, aeq, Int.reduceLE, Int.reduceNeg, Int.reduceMul, Int.reduceAdd, Int.reduceSub, Int.reduceToNat, Int.reducePow, eM, z1, z2, z3, l1, eq_false hn0, eq_false hn1, E, c1, w1, w2, w3, w4, eq_false h1, eq_false h2, eq_true h3]
    rw [tidy_still rfl]
  by_cases h4 : y > 256 * (e.c.h - 1)
  · have hno : ¬ InC e x y := fun h => by have := h.2.2; omega
    rw [if_neg hno, if_neg hno]
    simp only [Atl.cs] at eM ⊢
    refine call_ends (fn := s82) rfl rfl (by simp [s82]) ?_
    simp only [s82, R1, R2, R3, R4, R5, R6, R7, R8, AV.flat, fillIn_nil, fillIn_cons, splice, AV.cells, AV.one, eqsOf, idx, SO.calls, List.reduceReplicate, Nat.reduceBEq, Nat.reduceLT, Nat.reduceAdd, Nat.reduceMul, Nat.reduceSub, Nat.reduceLeDiff, Nat.reduceEqDiff, ↓reduceIte, Int.reduceLT, Int.reduceEq, Int.reduceBNe, Int.reduceBEq, aeq, Int.reduceLE, Int.reduceNeg, Int.reduceMul, Int.reduceAdd, Int.reduceSub, Int.reduceToNat, Int.reducePow, eM, z1, z2, z3, l1, eq_false hn0, eq_false hn1, E, c1, w1, w2, w3, w4, eq_false h1, eq_false h2, eq_false h3, eq_true h4]
    rw [tidy_still rfl]
  have hin : InC e x y := ⟨hw0, by omega, by omega⟩
  rw [if_pos hin, if_pos hin]
  have cx := cutI_ok (x := x) (n := e.c.w) (by omega) okw.1 (by omega)
  have cy := cutI_ok (x := y) (n := e.c.h) (by omega) okh.1 (by omega)
  have e1 := fun H => c105 (x := x) (n := e.c.w) (by omega) (by omega) (by omega) H
  have e2 := fun H => c105 (x := y) (n := e.c.h) (by omega) (by omega) (by omega) H
  obtain ⟨p, hpp⟩ : ∃ p : Nat, e.pg = (p : Int) := ⟨e.pg.toNat, by omega⟩
  have hpl : p < a.pgs.length := by omega
  have F := hs.pgs.elem hpl
  have hpg : a.pgs[p] = pgS a e.pg := by unfold pgS; rw [hpp, Int.toNat_natCast, List.getD, List.getElem?_eq_getElem hpl]; rfl
  rw [hpg] at F
  rw [← hpp] at F
  have kp := fun (A B : Heap) (q : Nat) => (hs.pgs.kept A B q).1
  have e3 := fun H => c106 (a := a) (pg := e.pg) (X := e.x) (Y := e.y) (i := cutI x e.c.w) (j := cutI y e.c.h) (u := x - 256 * cutI x e.c.w) (by omega) (by omega) (by omega) (by omega) (by omega) (tex_ok hm ok (by omega) (by omega)) (fun h => tex_ok hm ok (by have := cx.2.2.2.2 h; omega) (by omega)) H
  have r0 := row_le' a e.pg (e.x + cutI x e.c.w) (e.y + cutI y e.c.h) (u := x - 256 * cutI x e.c.w) (by omega)
  have r0' := And.intro (r0 0) (And.intro (r0 1) (And.intro (r0 2) (r0 3)))
  unfold bilC bilI
  by_cases hv : y - 256 * cutI y e.c.h = 0
  · have c2 : (y - 256 * cutI y e.c.h == 0) = true := by rw [beq_iff_eq]; exact hv
    have e4 := fun H => c107 r0' r0' (u := 0) (by omega) H
    simp only [hv, mix_zero]
    rw [hv] at e2
    simp only [Atl.cs] at eM ⊢
    simp only [SmC, rowC, StrC, Nat.mul_one] at F e3
    refine call_ends (fn := s82) rfl rfl (by simp [s82]) ?_
    simp only [s82, R1, R2, R3, R4, R5, R6, R7, R8, AV.flat, fillIn_nil, fillIn_cons, splice, AV.cells, AV.one, eqsOf, idx, SO.calls, List.reduceReplicate, Nat.reduceBEq, Nat.reduceLT, Nat.reduceAdd, Nat.reduceMul, Nat.reduceSub, Nat.reduceLeDiff, Nat.reduceEqDiff, ↓reduceIte, Int.reduceLT, Int.reduceEq, Int.reduceBNe, Int.reduceBEq, aeq, Int.reduceLE, Int.reduceNeg, Int.reduceMul, Int.reduceAdd, Int.reduceSub, Int.reduceToNat, Int.reducePow, eM, z1, z2, z3, l1, eq_false hn0, eq_false hn1, E, F, kp, c1, w1, w2, w3, w4, eq_false h1, eq_false h2, eq_false h3, eq_false h4, e1, e2, e3, e4, c2, veil_un, shun_un]
    rw [tidy_still rfl]
  · have c2 : (y - 256 * cutI y e.c.h == 0) = false := by rw [beq_eq_false_iff_ne]; exact hv
    have hj1 := cy.2.2.2.2 hv
    have w5 := wrap_i64 (x := cutI y e.c.h + 1) (by omega) (by omega)
    have e5 := fun H => c106 (a := a) (pg := e.pg) (X := e.x) (Y := e.y) (i := cutI x e.c.w) (j := cutI y e.c.h + 1) (u := x - 256 * cutI x e.c.w) (by omega) (by omega) (by omega) (by omega) (by omega) (tex_ok hm ok (by omega) (by omega)) (fun h => tex_ok hm ok (by have := cx.2.2.2.2 h; omega) (by omega)) H
    have r1 := row_le' a e.pg (e.x + cutI x e.c.w) (e.y + (cutI y e.c.h + 1)) (u := x - 256 * cutI x e.c.w) (by omega)
    have r1' := And.intro (r1 0) (And.intro (r1 1) (And.intro (r1 2) (r1 3)))
    have e4 := fun H => c107 r0' r1' (u := y - 256 * cutI y e.c.h) (by omega) H
    simp only [Atl.cs] at eM ⊢
    simp only [SmC, rowC, StrC, Nat.mul_one] at F e3 e5
    refine call_ends (fn := s82) rfl rfl (by simp [s82]) ?_
    simp only [s82, R1, R2, R3, R4, R5, R6, R7, R8, AV.flat, fillIn_nil, fillIn_cons, splice, AV.cells, AV.one, eqsOf, idx, SO.calls, List.reduceReplicate, Nat.reduceBEq, Nat.reduceLT, Nat.reduceAdd, Nat.reduceMul, Nat.reduceSub, Nat.reduceLeDiff, Nat.reduceEqDiff, ↓reduceIte, Int.reduceLT, Int.reduceEq, Int.reduceBNe, Int.reduceBEq, aeq, Int.reduceLE, Int.reduceNeg, Int.reduceMul, Int.reduceAdd, Int.reduceSub, Int.reduceToNat, Int.reducePow, eM, z1, z2, z3, l1, eq_false hn0, eq_false hn1, E, F, kp, c1, w1, w2, w3, w4, w5, eq_false h1, eq_false h2, eq_false h3, eq_false h4, e1, e2, e3, e4, e5, c2, veil_un, shun_un]
    rw [tidy_still rfl]
end Go.Proofs.YtbnnfmncipdlpaaDoor
