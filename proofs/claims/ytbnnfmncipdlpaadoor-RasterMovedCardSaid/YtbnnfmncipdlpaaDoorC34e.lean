/- Chapter 34: the document's pixels; the law of pixels. -/
import Derived.Test.YtbnnfmncipdlpaaDoorC34d
set_option linter.unusedVariables false
set_option linter.unusedSimpArgs false
set_option maxRecDepth 100000
set_option maxHeartbeats 8000000
namespace Go.Proofs.YtbnnfmncipdlpaaDoor
open Go Go.Den
def pixI (a : Atl) (v : View) (p : Pld) (i j : Int) : Int := covG a v p.g ((axX a v p).at i) ((axY a v p).at j)
theorem c31 {H : Heap} {a : Atl} {vg vp vs : AV} {v : View} (hs : AtlOf H a vg vp vs) (hp : a.pr.length ≤ 9223372036854775807) (hd : ∀ s ∈ a.pgs, s.length ≤ 1000000000) (p : Pld) (i j : Int) :
    call env 31 [.agg (a.cs vg vp vs), .agg v.cs, .agg p.cs, .int .i64 i, .int .i64 j] H = some (.tup [.int .u8 (if PtOk a v p i j then pixI a v p i j else 0), .int .i64 (if PtOk a v p i j then 0 else 1)], H) := by
  have z1 := slof_cell hs.gl
  have z2 := slof_cell hs.pr
  have z3 := slof_cell hs.pgs
  simp only [AV.cells, AV.one] at z1 z2 z3
  have e1 := fun X => c30 (v := v) (hs.app X) hp hd p i j
  refine call_ends (fn := s31) rfl rfl (by simp [s31]) ?_
  by_cases hk : PtOk a v p i j
  rotate_left
  · simp only [if_neg hk] at e1 ⊢
    obtain ⟨pg, px, py⟩ := p
    simp only [Atl.cs, View.cs, Pld.cs] at e1 ⊢
    simp only [s31, R1, R2, R3, R4, R5, R6, R7, R8, AV.flat, fillIn_nil, fillIn_cons, splice, AV.cells, AV.one, eqsOf, idx, SO.calls, List.reduceReplicate, Nat.reduceBEq, Nat.reduceLT, Nat.reduceAdd, Nat.reduceMul, Nat.reduceSub, Nat.reduceLeDiff, Nat.reduceEqDiff, ↓reduceIte, Int.reduceLT, Int.reduceEq, Int.reduceBNe, Int.reduceBEq, aeq, Int.reduceLE, Int.reduceNeg, Int.reduceMul, Int.reduceAdd, Int.reduceSub, Int.reduceToNat, Int.reducePow, z1, z2, z3, e1]
    rw [tidy_still rfl]
  simp only [if_pos hk] at e1 ⊢
  obtain ⟨ha, hv, hp1⟩ := ask_ok hk.1
  have e2 := fun X => c56 (hs.app X) ha hv
  have e3 := fun X => c62 (v := v) (hs.app X) hp hd ha p.g ((axX a v p).at i) ((axY a v p).at j)
  unfold pixI
  generalize (axX a v p).at i = x at *
  generalize (axY a v p).at j = y at *
  obtain ⟨pg, px, py⟩ := p
  simp only at e3 ⊢
  generalize covG a v pg x y = q at *
  simp only [drC, Atl.cs, View.cs, Pld.cs, List.cons_append, List.nil_append] at e1 e2 e3 ⊢
  simp only [s31, R1, R2, R3, R4, R5, R6, R7, R8, AV.flat, fillIn_nil, fillIn_cons, splice, AV.cells, AV.one, eqsOf, idx, SO.calls, List.reduceReplicate, Nat.reduceBEq, Nat.reduceLT, Nat.reduceAdd, Nat.reduceMul, Nat.reduceSub, Nat.reduceLeDiff, Nat.reduceEqDiff, ↓reduceIte, Int.reduceLT, Int.reduceEq, Int.reduceBNe, Int.reduceBEq, aeq, Int.reduceLE, Int.reduceNeg, Int.reduceMul, Int.reduceAdd, Int.reduceSub, Int.reduceToNat, Int.reducePow, z1, z2, z3, e1, e2, e3, veil_un, shun_un]
  rw [tidy_still rfl]
theorem place_eq (D E P N i x u f : Int) : 128 * (((2 * i + 1 - 2 * x) * D * E - 2 * u * N) * P - (2 * f + 1) * N * E) = 256 * (D * E * P) * i + 128 * ((1 - 2 * x) * (D * E * P) - 2 * u * N * P - (2 * f + 1) * N * E) := by
  have e1 : (2 * i + 1 - 2 * x) = 2 * i + (1 - 2 * x) := by omega
  have e2 : (2 * i + (1 - 2 * x)) * D * E * P = 2 * (D * E * P * i) + (1 - 2 * x) * (D * E * P) := by
    rw [Int.mul_assoc, Int.mul_assoc, Int.add_mul, ← Int.mul_assoc D E P, Int.mul_assoc 2 i, Int.mul_comm i]
  rw [e1, Int.sub_mul, e2, Int.mul_assoc 256]
  omega
theorem c63 {H : Heap} {a : Atl} {vg vp vs : AV} {v : View} {i zero units start : Int} (hs : AtlOf H a vg vp vs) (ok : AxOk a v zero units start) (ha : MayA a) (hv : MayV v) (hi : 0 ≤ i ∧ i ≤ 1024) (hz : -32768 ≤ zero ∧ zero ≤ 32767) (hu : -134217728 ≤ units ∧ units ≤ 134217728) (hf : -1048576 ≤ start ∧ start ≤ 1048576) : call env 63 [.agg (a.cs vg vp vs), .agg v.cs, .int .i64 i, .int .i64 zero, .int .i64 units, .int .i64 start] H = some (.int .i64 ((axI a v zero units start).at i), H) := by
  obtain ⟨k1, k2, k3, k4, k5, k6, k7, k8⟩ := ok
  obtain ⟨m1, m2, m3, m4, _⟩ := id ha.1
  obtain ⟨_, _, _, _, v1, v2⟩ := hv
  have z1 := slof_cell hs.gl
  have z2 := slof_cell hs.pr
  have z3 := slof_cell hs.pgs
  simp only [AV.cells, AV.one] at z1 z2 z3
  have b1 := prod_le (a := 2 * i + 1 - 2 * zero) (b := v.d) (A := 70000) (B := 1024) (by omega) (by omega)
  have b2 := prod_le (a := (2 * i + 1 - 2 * zero) * v.d) (b := a.em) (A := 71680000) (B := 16384) (by omega) (by omega)
  have b3 := prod_le (a := (2 * i + 1 - 2 * zero) * v.d * a.em - 2 * units * v.n) (b := a.px) (A := 2000000000000) (B := 128) (by omega) (by omega)
  have w3 := wrap_i64 (x := 2 * zero) (by omega) (by omega)
  have w6 := wrap_i64 (x := 2 * units) (by omega) (by omega)
  have w7 := wrap_i64 (x := 2 * units * v.n) (by omega) (by omega)
  have w10 := wrap_i64 (x := 2 * start) (by omega) (by omega)
  have w11 := wrap_i64 (x := 2 * start + 1) (by omega) (by omega)
  have w12 := wrap_i64 (x := (2 * start + 1) * v.n) (by omega) (by omega)
  have w13 := wrap_i64 (x := (2 * start + 1) * v.n * a.em) (by omega) (by omega)
  have u1 := wrap_i64 (x := 2 * i) (by omega) (by omega)
  have u2 := wrap_i64 (x := 2 * i + 1) (by omega) (by omega)
  have u3 := wrap_i64 (x := 2 * i + 1 - 2 * zero) (by omega) (by omega)
  have u4 := wrap_i64 (x := (2 * i + 1 - 2 * zero) * v.d) (by omega) (by omega)
  have u5 := wrap_i64 (x := (2 * i + 1 - 2 * zero) * v.d * a.em) (by omega) (by omega)
  have u6 := wrap_i64 (x := (2 * i + 1 - 2 * zero) * v.d * a.em - 2 * units * v.n) (by omega) (by omega)
  have u7 := wrap_i64 (x := ((2 * i + 1 - 2 * zero) * v.d * a.em - 2 * units * v.n) * a.px) (by omega) (by omega)
  have u8 := wrap_i64 (x := ((2 * i + 1 - 2 * zero) * v.d * a.em - 2 * units * v.n) * a.px - (2 * start + 1) * v.n * a.em) (by omega) (by omega)
  have u9 := wrap_i64 (x := 128 * (((2 * i + 1 - 2 * zero) * v.d * a.em - 2 * units * v.n) * a.px - (2 * start + 1) * v.n * a.em)) (by omega) (by omega)
  have w17 := wrap_i64 (x := v.n * a.em) (by omega) (by omega)
  have e1 := fun H => c85 (n := 128 * (((2 * i + 1 - 2 * zero) * v.d * a.em - 2 * units * v.n) * a.px - (2 * start + 1) * v.n * a.em)) (d := v.n * a.em) (by unfold I64; omega) (by omega) H
  unfold axI Ax.at
  simp only
  rw [← place_eq]
  generalize hA : 128 * (((2 * i + 1 - 2 * zero) * v.d * a.em - 2 * units * v.n) * a.px - (2 * start + 1) * v.n * a.em) = A at *
  simp only [Atl.cs, View.cs]
  refine call_ends (fn := s63) rfl rfl (by simp [s63]) ?_
  simp only [s63, R1, R2, R3, R4, R5, R6, R7, R8, AV.flat, fillIn_nil, fillIn_cons, splice, AV.cells, AV.one, eqsOf, idx, SO.calls, List.reduceReplicate, Nat.reduceBEq, Nat.reduceLT, Nat.reduceAdd, Nat.reduceMul, Nat.reduceSub, Nat.reduceLeDiff, Nat.reduceEqDiff, ↓reduceIte, Int.reduceLT, Int.reduceEq, Int.reduceBNe, Int.reduceBEq, aeq, Int.reduceLE, Int.reduceNeg, Int.reduceMul, Int.reduceAdd, Int.reduceSub, Int.reduceToNat, Int.reducePow, z1, z2, z3, w3, w6, w7, w10, w11, w12, w13, w17, u1, u2, u3, u4, u5, u6, u7, u8, hA, u9, e1]
  rw [tidy_int']
theorem c33 {H : Heap} {a : Atl} {vg vp vs : AV} {v : View} {p : Pld} {i j : Int} (hs : AtlOf H a vg vp vs) (ha : MayA a) (hv : MayV v) (hp : OkD a p) (hi : InV v i j) :
    call env 33 [.agg (a.cs vg vp vs), .agg v.cs, .agg p.cs, .int .i64 i, .int .i64 j] H = some (.tup [.int .i64 ((axX a v p).at i), .int .i64 ((axY a v p).at j)], H) := by
  have z1 := slof_cell hs.gl
  have z2 := slof_cell hs.pr
  have z3 := slof_cell hs.pgs
  simp only [AV.cells, AV.one] at z1 z2 z3
  obtain ⟨pg, px, py⟩ := p
  obtain ⟨p1, p2, p3⟩ := id hp
  simp only at p1 p2 p3
  obtain ⟨m, rfl⟩ : ∃ m : Nat, pg = (m : Int) := ⟨pg.toNat, by omega⟩
  have hml : m < a.gl.length := by omega
  have hask : AskA a (m : Int) := ⟨ha, by omega, by omega⟩
  have E := hs.gl.elem hml
  have hent : a.gl[m] = entA a (m : Int) := by unfold entA; simp [List.getD, hml]
  rw [hent] at E
  have hc := ent_c hask
  obtain ⟨v1, v2, v3, v4, _, _⟩ := id hv
  unfold InV at hi
  have e1 := fun X => c63 (i := i) (hs.app X) (ax_ok ha hv v3 p2 hc.1) ha hv (by omega) v3 p2 hc.1
  have e2 := fun X => c63 (i := j) (hs.app X) (ax_ok ha hv v4 p3 hc.2) ha hv (by omega) v4 p3 hc.2
  unfold axX axY
  simp only
  generalize (axI a v v.x px (entA a (m : Int)).c.x).at i = x at *
  generalize (axI a v v.y py (entA a (m : Int)).c.y).at j = y at *
  generalize entA a (m : Int) = e at *
  simp only [Pld.cs, Ent.cs, Atl.cs, View.cs] at E e1 e2 ⊢
  refine call_ends (fn := s33) rfl rfl (by simp [s33]) ?_
  simp only [s33, R1, R2, R3, R4, R5, R6, R7, R8, AV.flat, fillIn_nil, fillIn_cons, splice, AV.cells, AV.one, eqsOf, idx, SO.calls, List.reduceReplicate, Nat.reduceBEq, Nat.reduceLT, Nat.reduceAdd, Nat.reduceMul, Nat.reduceSub, Nat.reduceLeDiff, Nat.reduceEqDiff, ↓reduceIte, Int.reduceLT, Int.reduceEq, Int.reduceBNe, Int.reduceBEq, aeq, Int.reduceLE, Int.reduceNeg, Int.reduceMul, Int.reduceAdd, Int.reduceSub, Int.reduceToNat, Int.reducePow, z1, z2, z3, E, e1, e2, veil_un, shun_un]
  rw [tidy_still rfl]
theorem c34 {H : Heap} {a : Atl} {vg vp vs : AV} {v : View} {p : Pld} {i j : Int} (hs : AtlOf H a vg vp vs) (hp : a.pr.length ≤ 9223372036854775807) (hl : a.pgs.length ≤ 1000000) (hd : ∀ s ∈ a.pgs, s.length ≤ 1000000000) (ha : MayA a) (hv : MayV v) (hpo : OkD a p) (hi : InV v i j) :
    call env 34 [.agg (a.cs vg vp vs), .agg v.cs, .agg p.cs, .int .i64 i, .int .i64 j] H = some (.int .i64 (pixI a v p i j), H) := by
  have z1 := slof_cell hs.gl
  have z2 := slof_cell hs.pr
  have z3 := slof_cell hs.pgs
  simp only [AV.cells, AV.one] at z1 z2 z3
  have e1 := fun X => c33 (hs.app X) ha hv hpo hi
  unfold pixI
  generalize (axX a v p).at i = x at *
  generalize (axY a v p).at j = y at *
  obtain ⟨p0, p1, p2, p3, hat, b0, b1, b2, b3⟩ := at_four a p.g x y
  have e2 := fun X => c64 (hs.app X) hp hl hd p.g x y
  have hM : atM a p.g x y = medI p1 p2 p3 := by simp [atM, hat]
  rw [hat] at e2
  have e3 := fun H => c67 p0 b1 b2 b3 H
  have hdp := dp_ok ha hv
  have w1 := wrap_i64 (x := v.d * a.px) (by omega) (by omega)
  have e4 := fun H => c65 (n := v.n) (d := v.d * a.px) (by unfold I64; omega) (by unfold I64; omega) H
  obtain ⟨i1, i2⟩ := new_i64 v.n (v.d * a.px)
  obtain ⟨_, _, _, _, m5, m6, _⟩ := id ha.1
  have e5 := fun H => c66 (m := medI p1 p2 p3) (r := a.rg) (by unfold I64; omega) i1 i2 H
  unfold covG
  rw [hM]
  unfold scI
  generalize newP v.n (v.d * a.px) = z at *
  obtain ⟨pg, px, py⟩ := p
  simp only at e2 ⊢
  simp only [Pld.cs, Atl.cs, View.cs] at e1 e2 ⊢
  refine call_ends (fn := s34) rfl rfl (by simp [s34]) ?_
  by_cases h0 : atE a pg x y = 0
  · rw [if_pos h0]
    have c1 : (atE a pg x y != 0) = false := by rw [bne_eq_false_iff_eq]; exact h0
    simp only [s34, R1, R2, R3, R4, R5, R6, R7, R8, AV.flat, fillIn_nil, fillIn_cons, splice, AV.cells, AV.one, eqsOf, idx, SO.calls, List.reduceReplicate, Nat.reduceBEq, Nat.reduceLT, Nat.reduceAdd, Nat.reduceMul, Nat.reduceSub, Nat.reduceLeDiff, Nat.reduceEqDiff, ↓reduceIte, Int.reduceLT, Int.reduceEq, Int.reduceBNe, Int.reduceBEq, aeq, Int.reduceLE, Int.reduceNeg, Int.reduceMul, Int.reduceAdd, Int.reduceSub, Int.reduceToNat, Int.reducePow, z1, z2, z3, w1, e1, e2, e3, e4, e5, c1, veil_un, shun_un]
    rw [tidy_int']
  · rw [if_neg h0]
    have c1 : (atE a pg x y != 0) = true := by rw [bne_iff_ne]; exact h0
    simp only [s34, R1, R2, R3, R4, R5, R6, R7, R8, AV.flat, fillIn_nil, fillIn_cons, splice, AV.cells, AV.one, eqsOf, idx, SO.calls, List.reduceReplicate, Nat.reduceBEq, Nat.reduceLT, Nat.reduceAdd, Nat.reduceMul, Nat.reduceSub, Nat.reduceLeDiff, Nat.reduceEqDiff, ↓reduceIte, Int.reduceLT, Int.reduceEq, Int.reduceBNe, Int.reduceBEq, aeq, Int.reduceLE, Int.reduceNeg, Int.reduceMul, Int.reduceAdd, Int.reduceSub, Int.reduceToNat, Int.reducePow, z1, z2, z3, w1, e1, e2, c1]
    rw [tidy_int']
end Go.Proofs.YtbnnfmncipdlpaaDoor
