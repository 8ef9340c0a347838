/- Chapter 34: points and pixels. -/
import Derived.Test.YtbnnfmncipdlpaaDoorC34c
set_option linter.unusedVariables false
set_option linter.unusedSimpArgs false
set_option maxRecDepth 100000
set_option maxHeartbeats 8000000
namespace Go.Proofs.YtbnnfmncipdlpaaDoor
open Go Go.Den
def axX (a : Atl) (v : View) (p : Pld) : Ax := axI a v v.x p.x (entA a p.g).c.x
def axY (a : Atl) (v : View) (p : Pld) : Ax := axI a v v.y p.y (entA a p.g).c.y
def InV (v : View) (i j : Int) : Prop := (0 ≤ i ∧ i ≤ v.w - 1) ∧ 0 ≤ j ∧ j ≤ v.h - 1
instance (v : View) (i j : Int) : Decidable (InV v i j) := by unfold InV; infer_instance
/-- May a point be asked? -/
def PtOk (a : Atl) (v : View) (p : Pld) (i j : Int) : Prop := askE a v [p] = 0 ∧ InV v i j
instance (a : Atl) (v : View) (p : Pld) (i j : Int) : Decidable (PtOk a v p i j) := by unfold PtOk; infer_instance
theorem ask_ok {a : Atl} {v : View} {l : List Pld} (h : askE a v l = 0) : MayA a ∧ MayV v ∧ ∀ p ∈ l, OkD a p := by
  unfold askE at h
  split at h
  · rename_i h1
    split at h
    · rename_i h2
      exact ⟨h1.1, h1.2, h2⟩
    · cases h
  · cases h
theorem ax_small {a : Atl} {v : View} {p : Pld} (ha : MayA a) (hv : MayV v) (hp : OkD a p) : AxSm (axX a v p) ∧ AxSm (axY a v p) := by
  have hask : AskA a p.g := ⟨ha, hp.1.1, by have := hp.1.2; omega⟩
  have hc := ent_c hask
  obtain ⟨_, _, v3, v4, _, _⟩ := id hv
  exact ⟨ax_sm (ax_ok ha hv v3 hp.2.1 hc.1), ax_sm (ax_ok ha hv v4 hp.2.2 hc.2)⟩
theorem slone {H : Heap} {p : Pld} {cap : Option Nat} : SlOf (H ++ [.cells p.cs 52 true]) 3 Pld.cs (.sl H.length 0 1 3 cap) [p] := by
  have := SlOf.row (H := H) (sz := 3) (g := Pld.cs) (l := [p]) (e := 52) (w := true) (cap := cap) (fun a _ => pld_cel.size a) (by decide)
  simpa using this
theorem c30 {H : Heap} {a : Atl} {vg vp vs : AV} {v : View} (hs : AtlOf H a vg vp vs) (hp : a.pr.length ≤ 9223372036854775807) (hd : ∀ s ∈ a.pgs, s.length ≤ 1000000000) (p : Pld) (i j : Int) :
    call env 30 [.agg (a.cs vg vp vs), .agg v.cs, .agg p.cs, .int .i64 i, .int .i64 j] H = some (.tup [.int .i64 (if PtOk a v p i j then (axX a v p).at i else 0), .int .i64 (if PtOk a v p i j then (axY a v p).at j else 0), .int .i64 (if PtOk a v p i j then 0 else 1)], H) := by
  have z1 := slof_cell hs.gl
  have z2 := slof_cell hs.pr
  have z3 := slof_cell hs.pgs
  simp only [AV.cells, AV.one] at z1 z2 z3
  have e1 := fun X => c55 ((hs.app X).app [.cells p.cs 52 true]) hp hd v (slone (H := H ++ X) (p := p) (cap := some 1)) (by simp)
  have e1 := e1 [.cells (a.cs vg vp vs) 33 true, .cells v.cs 55 true, .cells p.cs 52 true]
  refine call_ends (fn := s30) rfl rfl (by simp [s30]) ?_
  by_cases hk : askE a v [p] = 0
  rotate_left
  · have hno : ¬ PtOk a v p i j := fun h => hk h.1
    rw [if_neg hno, if_neg hno, if_neg hno]
    have c1 : (askE a v [p] != 0) = true := by rw [bne_iff_ne]; exact hk
    generalize askE a v [p] = q at *
    obtain ⟨pg, px, py⟩ := p
    simp only [Atl.cs, View.cs, Pld.cs, List.append_assoc, List.cons_append, List.nil_append, List.length_append, List.length_cons, List.length_nil] at e1 ⊢
    simp only [s30, R1, R2, R3, R4, R5, R6, R7, R8, AV.flat, fillIn_nil, fillIn_cons, splice, AV.cells, AV.one, eqsOf, idx, SO.calls, List.reduceReplicate, Nat.reduceBEq, Nat.reduceLT, Nat.reduceAdd, Nat.reduceMul, Nat.reduceSub, Nat.reduceLeDiff, Nat.reduceEqDiff, ↓reduceIte, Int.reduceLT, Int.reduceEq, Int.reduceBNe, Int.reduceBEq, aeq, Int.reduceLE, Int.reduceNeg, Int.reduceMul, Int.reduceAdd, Int.reduceSub, Int.reduceToNat, Int.reducePow, z1, z2, z3, e1, c1]
    rw [tidy_still rfl]
  obtain ⟨ha, hv, hp1⟩ := ask_ok hk
  have hpo := hp1 p (by simp)
  have c1 : (askE a v [p] != 0) = false := by rw [bne_eq_false_iff_eq]; exact hk
  have e2 := fun H => c59 i 0 (v.w - 1) H
  have e3 := fun H => c59 j 0 (v.h - 1) H
  obtain ⟨v1, v2, _⟩ := id hv
  have w1 := wrap_i64 (x := v.w - 1) (by omega) (by omega)
  have w2 := wrap_i64 (x := v.h - 1) (by omega) (by omega)
  by_cases hi : 0 ≤ i ∧ i ≤ v.w - 1
  rotate_left
  · have hno : ¬ PtOk a v p i j := fun h => hi h.2.1
    rw [if_neg hno, if_neg hno, if_neg hno]
    rw [decide_eq_false hi] at e2
    generalize askE a v [p] = q at *
    obtain ⟨pg, px, py⟩ := p
    simp only [Atl.cs, View.cs, Pld.cs, List.append_assoc, List.cons_append, List.nil_append, List.length_append, List.length_cons, List.length_nil] at e1 ⊢
    simp only [s30, R1, R2, R3, R4, R5, R6, R7, R8, AV.flat, fillIn_nil, fillIn_cons, splice, AV.cells, AV.one, eqsOf, idx, SO.calls, List.reduceReplicate, Nat.reduceBEq, Nat.reduceLT, Nat.reduceAdd, Nat.reduceMul, Nat.reduceSub, Nat.reduceLeDiff, Nat.reduceEqDiff, ↓reduceIte, Int.reduceLT, Int.reduceEq, Int.reduceBNe, Int.reduceBEq, aeq, Int.reduceLE, Int.reduceNeg, Int.reduceMul, Int.reduceAdd, Int.reduceSub, Int.reduceToNat, Int.reducePow, z1, z2, z3, e1, e2, w1, c1]
    rw [tidy_still rfl]
  rw [decide_eq_true hi] at e2
  by_cases hj : 0 ≤ j ∧ j ≤ v.h - 1
  rotate_left
  · have hno : ¬ PtOk a v p i j := fun h => hj h.2.2
    rw [if_neg hno, if_neg hno, if_neg hno]
    rw [decide_eq_false hj] at e3
    generalize askE a v [p] = q at *
    obtain ⟨pg, px, py⟩ := p
    simp only [Atl.cs, View.cs, Pld.cs, List.append_assoc, List.cons_append, List.nil_append, List.length_append, List.length_cons, List.length_nil] at e1 ⊢
    simp only [s30, R1, R2, R3, R4, R5, R6, R7, R8, AV.flat, fillIn_nil, fillIn_cons, splice, AV.cells, AV.one, eqsOf, idx, SO.calls, List.reduceReplicate, Nat.reduceBEq, Nat.reduceLT, Nat.reduceAdd, Nat.reduceMul, Nat.reduceSub, Nat.reduceLeDiff, Nat.reduceEqDiff, ↓reduceIte, Int.reduceLT, Int.reduceEq, Int.reduceBNe, Int.reduceBEq, aeq, Int.reduceLE, Int.reduceNeg, Int.reduceMul, Int.reduceAdd, Int.reduceSub, Int.reduceToNat, Int.reducePow, z1, z2, z3, e1, e2, e3, w1, w2, c1]
    rw [tidy_still rfl]
  rw [decide_eq_true hj] at e3
  have hyes : PtOk a v p i j := ⟨hk, hi, hj⟩
  rw [if_pos hyes, if_pos hyes, if_pos hyes]
  have e4 := fun X => c56 (hs.app X) ha hv
  have e5 := fun X => c60 (hs.app X) ha hv hpo
  obtain ⟨sx, sy⟩ := ax_small ha hv hpo
  have e6 := fun H => c61 sx (i := i) (by omega) H
  have e7 := fun H => c61 sy (i := j) (by omega) H
  rw [show axI a v v.x p.x (entA a p.g).c.x = axX a v p from rfl, show axI a v v.y p.y (entA a p.g).c.y = axY a v p from rfl] at e5
  generalize axX a v p = ax at *
  generalize axY a v p = ay at *
  generalize askE a v [p] = q at *
  obtain ⟨pg, px, py⟩ := p
  simp only [drC, Ax.cs, Atl.cs, View.cs, Pld.cs, List.append_assoc, List.cons_append, List.nil_append, List.length_append, List.length_cons, List.length_nil] at e1 e4 e5 e6 e7 ⊢
  simp only [s30, R1, R2, R3, R4, R5, R6, R7, R8, AV.flat, fillIn_nil, fillIn_cons, splice, AV.cells, AV.one, eqsOf, idx, SO.calls, List.reduceReplicate, Nat.reduceBEq, Nat.reduceLT, Nat.reduceAdd, Nat.reduceMul, Nat.reduceSub, Nat.reduceLeDiff, Nat.reduceEqDiff, ↓reduceIte, Int.reduceLT, Int.reduceEq, Int.reduceBNe, Int.reduceBEq, aeq, Int.reduceLE, Int.reduceNeg, Int.reduceMul, Int.reduceAdd, Int.reduceSub, Int.reduceToNat, Int.reducePow, z1, z2, z3, e1, e2, e3, e4, e5, e6, e7, w1, w2, c1, veil_un, shun_un]
  rw [tidy_still rfl]
end Go.Proofs.YtbnnfmncipdlpaaDoor
