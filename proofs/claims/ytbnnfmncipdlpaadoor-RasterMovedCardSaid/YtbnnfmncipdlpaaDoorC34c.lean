/- Chapter 34: a pixel. -/
import Derived.Test.YtbnnfmncipdlpaaDoorC34b
set_option linter.unusedVariables false
set_option linter.unusedSimpArgs false
set_option maxRecDepth 100000
set_option maxHeartbeats 8000000
namespace Go.Proofs.YtbnnfmncipdlpaaDoor
open Go Go.Den
theorem fit_ok {b : Bool} {w : Nat} {z : Int} (h : fitI b w = some z) : z.natAbs = w ∧ I64 z := by
  unfold fitI at h
  split at h
  · injection h with h
    unfold I64
    split at h <;> rename_i h1 h2 <;> simp_all <;> omega
  · cases h
theorem new_i64 (n d : Int) : I64 (newP n d).1 ∧ I64 (newP n d).2.1 := by
  have z : I64 0 := by unfold I64; omega
  unfold newP
  split
  · exact ⟨z, z⟩
  unfold lowP
  split
  · rename_i p q hp hq
    exact ⟨(fit_ok hp).2, (fit_ok hq).2⟩
  · exact ⟨z, z⟩
/-- A glyph's scale. -/
def scI (a : Atl) (v : View) : Int × Int × Int := newP v.n (v.d * a.px)
def drC (a : Atl) (vg vp vs : AV) (v : View) : List AV := a.cs vg vp vs ++ v.cs ++ [.int .i64 (scI a v).1, .int .i64 (scI a v).2.1]
theorem dp_ok {a : Atl} {v : View} (ha : MayA a) (hv : MayV v) : (1 ≤ v.d * a.px ∧ v.d * a.px ≤ 131072) ∧ 1 ≤ v.n ∧ v.n ≤ 1024 := by
  obtain ⟨m1, m2, m3, m4, _⟩ := id ha.1
  obtain ⟨_, _, _, _, v1, v2⟩ := hv
  have := prod_in (a := v.d) (b := a.px) (A := 1024) (B := 128) (by omega) (by omega)
  omega
theorem carry_slof {α : Type} {H : Heap} {sz : Nat} {g : α → List AV} {v : AV} {l : List α} (h : SlOf H sz g v l) (H1 : Heap) (m : Moved) : v.carry H.length H1 m = some (v, m) := by
  rcases h.kind with ⟨o, off, cap, row, rfl, h1, _⟩ | ⟨n, rfl⟩ | ⟨rfl, _⟩
  · have ho : o < H.length := by
      refine Decidable.byContradiction fun hn => ?_
      simp [arow, List.getElem?_eq_none (show H.length ≤ o by omega)] at h1
    simp only [AV.carry, if_pos ho]
  · exact carry_flat rfl
  · exact carry_flat rfl
theorem tidy_agg_c {H X : Heap} {l : List AV} (h : carries H.length (H ++ X) ([], []) l = some (l, ([], []))) : tidy H (.agg l) (H ++ X) = (.agg l, H) := by
  simp [tidy, keepOld_append, AV.carry, h]
theorem c56 {H : Heap} {a : Atl} {vg vp vs : AV} {v : View} (hs : AtlOf H a vg vp vs) (ha : MayA a) (hv : MayV v) : call env 56 [.agg (a.cs vg vp vs), .agg v.cs] H = some (.agg (drC a vg vp vs v), H) := by
  have z1 := slof_cell hs.gl
  have z2 := slof_cell hs.pr
  have z3 := slof_cell hs.pgs
  simp only [AV.cells, AV.one] at z1 z2 z3
  have hdp := dp_ok ha hv
  have w1 := wrap_i64 (x := v.d * a.px) (by omega) (by omega)
  have e1 := fun H => c79 (n := v.n) (d := v.d * a.px) (by unfold I64; omega) (by unfold I64; omega) H
  unfold drC scI
  generalize newP v.n (v.d * a.px) = z at *
  have c1 := fun H1 m => carry_slof hs.gl H1 m
  have c2 := fun H1 m => carry_slof hs.pr H1 m
  have c3 := fun H1 m => carry_slof hs.pgs H1 m
  simp only [Atl.cs, View.cs, List.cons_append, List.nil_append]
  refine call_ends (fn := s56) rfl rfl (by simp [s56]) ?_
  simp only [s56, R1, R2, R3, R4, R5, R6, R7, R8, AV.flat, fillIn_nil, fillIn_cons, splice, AV.cells, AV.one, eqsOf, idx, SO.calls, List.reduceReplicate, Nat.reduceBEq, Nat.reduceLT, Nat.reduceAdd, Nat.reduceMul, Nat.reduceSub, Nat.reduceLeDiff, Nat.reduceEqDiff, ↓reduceIte, Int.reduceLT, Int.reduceEq, Int.reduceBNe, Int.reduceBEq, aeq, Int.reduceLE, Int.reduceNeg, Int.reduceMul, Int.reduceAdd, Int.reduceSub, Int.reduceToNat, Int.reducePow, z1, z2, z3, w1, e1]
  rw [tidy_agg_c]
  simp only [carries, AV.carry, c1, c2, c3, Option.bind_some, Option.map_some]
theorem ent_c {a : Atl} {n : Int} (h : AskA a n) : (-1048576 ≤ (entA a n).c.x ∧ (entA a n).c.x ≤ 1048576) ∧ -1048576 ≤ (entA a n).c.y ∧ (entA a n).c.y ≤ 1048576 := by
  have hmem : entA a n ∈ a.gl := by
    unfold entA
    rw [List.getD, List.getElem?_eq_getElem (by have := h.2; omega)]
    exact List.getElem_mem _
  obtain ⟨_, _, h3, _, _⟩ := h.1.2.2.1 _ hmem
  unfold MayC at h3
  omega
theorem c60 {H : Heap} {a : Atl} {vg vp vs : AV} {v : View} {p : Pld} (hs : AtlOf H a vg vp vs) (ha : MayA a) (hv : MayV v) (hp : OkD a p) :
    call env 60 [.agg (drC a vg vp vs v), .agg p.cs] H = some (.tup [.agg (axI a v v.x p.x (entA a p.g).c.x).cs, .agg (axI a v v.y p.y (entA a p.g).c.y).cs], H) := by
  have z1 := slof_cell hs.gl
  have z2 := slof_cell hs.pr
  have z3 := slof_cell hs.pgs
  simp only [AV.cells, AV.one] at z1 z2 z3
  obtain ⟨pg, px, py⟩ := p
  obtain ⟨p1, p2, p3⟩ := id hp
  simp only at p1 p2 p3
  obtain ⟨m, rfl⟩ : ∃ m : Nat, pg = (m : Int) := ⟨pg.toNat, by omega⟩
  have hml : m < a.gl.length := by omega
  have hask : AskA a (m : Int) := ⟨ha, by omega, by omega⟩
  have E := hs.gl.elem hml
  have hent : a.gl[m] = entA a (m : Int) := by unfold entA; simp [List.getD, hml]
  rw [hent] at E
  have hc := ent_c hask
  obtain ⟨_, _, v3, v4, _, _⟩ := id hv
  have e1 := fun X => c81 (hs.app X) (ax_ok ha hv v3 p2 hc.1) v3 p2 hc.1
  have e2 := fun X => c81 (hs.app X) (ax_ok ha hv v4 p3 hc.2) v4 p3 hc.2
  simp only [Ax.cs] at e1 e2 ⊢
  generalize axI a v v.x px (entA a (m : Int)).c.x = ax at *
  generalize axI a v v.y py (entA a (m : Int)).c.y = ay at *
  generalize entA a (m : Int) = e at *
  simp only [drC, Pld.cs, Ent.cs, Atl.cs, View.cs, List.cons_append, List.nil_append] at E e1 e2 ⊢
  generalize scI a v = z at *
  refine call_ends (fn := s60) rfl rfl (by simp [s60]) ?_
  simp only [s60, R1, R2, R3, R4, R5, R6, R7, R8, AV.flat, fillIn_nil, fillIn_cons, splice, AV.cells, AV.one, eqsOf, idx, SO.calls, List.reduceReplicate, Nat.reduceBEq, Nat.reduceLT, Nat.reduceAdd, Nat.reduceMul, Nat.reduceSub, Nat.reduceLeDiff, Nat.reduceEqDiff, ↓reduceIte, Int.reduceLT, Int.reduceEq, Int.reduceBNe, Int.reduceBEq, aeq, Int.reduceLE, Int.reduceNeg, Int.reduceMul, Int.reduceAdd, Int.reduceSub, Int.reduceToNat, Int.reducePow, z1, z2, z3, E, e1, e2, veil_un, shun_un]
  rw [tidy_still rfl]
/-- What is covered at a point. -/
def atM (a : Atl) (n x y : Int) : Int := match atC a n x y with
  | [_, .int _ p, .int _ q, .int _ r] => medI p q r
  | _ => 0
def covG (a : Atl) (v : View) (n x y : Int) : Int := if atE a n x y = 0 then covI (atM a n x y) a.rg (scI a v).1 (scI a v).2.1 else 0
theorem c62 {H : Heap} {a : Atl} {vg vp vs : AV} {v : View} (hs : AtlOf H a vg vp vs) (hp : a.pr.length ≤ 9223372036854775807) (hd : ∀ s ∈ a.pgs, s.length ≤ 1000000000) (ha : MayA a) (n x y : Int) :
    call env 62 [.agg (drC a vg vp vs v), .int .i64 n, .int .i64 x, .int .i64 y] H = some (.int .u8 (covG a v n x y), H) := by
  have z1 := slof_cell hs.gl
  have z2 := slof_cell hs.pr
  have z3 := slof_cell hs.pgs
  simp only [AV.cells, AV.one] at z1 z2 z3
  obtain ⟨p0, p1, p2, p3, hat, b0, b1, b2, b3⟩ := at_four a n x y
  have e1 := fun X => c82 (hs.app X) hp hd n x y
  have hM : atM a n x y = medI p1 p2 p3 := by simp [atM, hat]
  rw [hat] at e1
  have e2 := fun H => c84 p0 p1 p2 p3 H
  obtain ⟨i1, i2⟩ := new_i64 v.n (v.d * a.px)
  obtain ⟨_, _, _, _, m5, m6, _⟩ := id ha.1
  have e3 := fun H => c83 (m := medI p1 p2 p3) (r := a.rg) (by unfold I64; omega) i1 i2 H
  unfold covG
  rw [hM]
  unfold scI drC
  unfold scI
  generalize newP v.n (v.d * a.px) = z at *
  simp only [Atl.cs, View.cs, List.cons_append, List.nil_append] at e1 ⊢
  refine call_ends (fn := s62) rfl rfl (by simp [s62]) ?_
  by_cases h0 : atE a n x y = 0
  · rw [if_pos h0]
    have c1 : (atE a n x y != 0) = false := by rw [bne_eq_false_iff_eq]; exact h0
    simp only [s62, R1, R2, R3, R4, R5, R6, R7, R8, AV.flat, fillIn_nil, fillIn_cons, splice, AV.cells, AV.one, eqsOf, idx, SO.calls, List.reduceReplicate, Nat.reduceBEq, Nat.reduceLT, Nat.reduceAdd, Nat.reduceMul, Nat.reduceSub, Nat.reduceLeDiff, Nat.reduceEqDiff, ↓reduceIte, Int.reduceLT, Int.reduceEq, Int.reduceBNe, Int.reduceBEq, aeq, Int.reduceLE, Int.reduceNeg, Int.reduceMul, Int.reduceAdd, Int.reduceSub, Int.reduceToNat, Int.reducePow, z1, z2, z3, e1, e2, e3, c1, veil_un, shun_un]
    rw [tidy_int']
  · rw [if_neg h0]
    have c1 : (atE a n x y != 0) = true := by rw [bne_iff_ne]; exact h0
    simp only [s62, R1, R2, R3, R4, R5, R6, R7, R8, AV.flat, fillIn_nil, fillIn_cons, splice, AV.cells, AV.one, eqsOf, idx, SO.calls, List.reduceReplicate, Nat.reduceBEq, Nat.reduceLT, Nat.reduceAdd, Nat.reduceMul, Nat.reduceSub, Nat.reduceLeDiff, Nat.reduceEqDiff, ↓reduceIte, Int.reduceLT, Int.reduceEq, Int.reduceBNe, Int.reduceBEq, aeq, Int.reduceLE, Int.reduceNeg, Int.reduceMul, Int.reduceAdd, Int.reduceSub, Int.reduceToNat, Int.reducePow, z1, z2, z3, e1, c1]
    rw [tidy_int']
end Go.Proofs.YtbnnfmncipdlpaaDoor
