/- Chapter 34: views, places, axes. -/
import Derived.Test.YtbnnfmncipdlpaaDoorC32n
import Derived.Test.YtbnnfmncipdlpaaDoorC32m
import Derived.Test.YtbnnfmncipdlpaaDoorC03c
set_option linter.unusedVariables false
set_option linter.unusedSimpArgs false
set_option maxRecDepth 100000
set_option maxHeartbeats 8000000
namespace Go.Proofs.YtbnnfmncipdlpaaDoor
open Go Go.Den
structure View where
  w : Int
  h : Int
  x : Int
  y : Int
  n : Int
  d : Int
def View.cs (v : View) : List AV := [.int .i64 v.w, .int .i64 v.h, .int .i64 v.x, .int .i64 v.y, .int .i64 v.n, .int .i64 v.d]
structure Pld where
  g : Int
  x : Int
  y : Int
def Pld.cs (p : Pld) : List AV := [.int .i64 p.g, .int .i64 p.x, .int .i64 p.y]
theorem pld_cel : Cel 3 Pld.cs := ⟨fun _ => rfl, fun _ => rfl, fun _ => rfl, by decide⟩
def MayV (v : View) : Prop := (1 ≤ v.w ∧ v.w ≤ 1024) ∧ (1 ≤ v.h ∧ v.h ≤ 1024) ∧ (-32768 ≤ v.x ∧ v.x ≤ 32767) ∧ (-32768 ≤ v.y ∧ v.y ≤ 32767) ∧ (1 ≤ v.n ∧ v.n ≤ 1024) ∧ 1 ≤ v.d ∧ v.d ≤ 1024
instance (v : View) : Decidable (MayV v) := by unfold MayV; infer_instance
def OkD (a : Atl) (p : Pld) : Prop := (0 ≤ p.g ∧ p.g ≤ (a.gl.length : Int) - 1) ∧ (-134217728 ≤ p.x ∧ p.x ≤ 134217728) ∧ -134217728 ≤ p.y ∧ p.y ≤ 134217728
instance (a : Atl) (p : Pld) : Decidable (OkD a p) := by unfold OkD; infer_instance
theorem c59 (n a b : Int) (H : Heap) : call env 59 [.int .i64 n, .int .i64 a, .int .i64 b] H = some (.bool (decide (a ≤ n ∧ n ≤ b)), H) := by
  refine call_ends (fn := s59) rfl rfl (by simp [s59]) ?_
  have hh : True := trivial
  have hk : True := trivial
  have hj : True := trivial
  simp only [s59]
  repeat' (first
    | simp only [R1, R2, R3, R4, R5, R6, R7, R8, AV.flat, fillIn_nil, fillIn_cons, splice, AV.cells, AV.one, eqsOf, idx, SO.calls, List.reduceReplicate, Nat.reduceBEq, Nat.reduceLT, Nat.reduceAdd, Nat.reduceMul, Nat.reduceSub, Nat.reduceLeDiff, Nat.reduceEqDiff, ↓reduceIte, Int.reduceLT, Int.reduceEq, Int.reduceBNe, Int.reduceBEq, aeq, Int.reduceLE, Int.reduceNeg, Int.reduceMul, Int.reduceAdd, Int.reduceSub, Int.reduceToNat, Int.reducePow, hh, hk, hj, tidy_bool]
    | simp (disch := omega) only [wrap_i64]
    | (simp only [gets_guard, gets_guardd, endsIf_any]; split <;> rename_i hk <;> (try simp only [Bool.not_eq_true] at hk) <;> (have hh := hk) <;> (have hj := hk) <;> (try simp only [Bool.not_eq_true', Bool.not_eq_false'] at hj) <;> (try simp only [decide_eq_true_eq, Bool.not_eq_true, decide_eq_false_iff_not, Bool.not_eq_true', Bool.not_eq_false', Bool.and_eq_true, Bool.or_eq_true, beq_iff_eq, bne_iff_ne, ne_eq] at hh)))
  all_goals grind
theorem c54 (n a b : Int) (H : Heap) : call env 54 [.int .i64 n, .int .i64 a, .int .i64 b] H = some (.bool (decide (a ≤ n ∧ n ≤ b)), H) := by
  refine call_ends (fn := s54) rfl rfl (by simp [s54]) ?_
  have hh : True := trivial
  have hk : True := trivial
  have hj : True := trivial
  simp only [s54]
  repeat' (first
    | simp only [R1, R2, R3, R4, R5, R6, R7, R8, AV.flat, fillIn_nil, fillIn_cons, splice, AV.cells, AV.one, eqsOf, idx, SO.calls, List.reduceReplicate, Nat.reduceBEq, Nat.reduceLT, Nat.reduceAdd, Nat.reduceMul, Nat.reduceSub, Nat.reduceLeDiff, Nat.reduceEqDiff, ↓reduceIte, Int.reduceLT, Int.reduceEq, Int.reduceBNe, Int.reduceBEq, aeq, Int.reduceLE, Int.reduceNeg, Int.reduceMul, Int.reduceAdd, Int.reduceSub, Int.reduceToNat, Int.reducePow, hh, hk, hj, tidy_bool]
    | simp (disch := omega) only [wrap_i64]
    | (simp only [gets_guard, gets_guardd, endsIf_any]; split <;> rename_i hk <;> (try simp only [Bool.not_eq_true] at hk) <;> (have hh := hk) <;> (have hj := hk) <;> (try simp only [Bool.not_eq_true', Bool.not_eq_false'] at hj) <;> (try simp only [decide_eq_true_eq, Bool.not_eq_true, decide_eq_false_iff_not, Bool.not_eq_true', Bool.not_eq_false', Bool.and_eq_true, Bool.or_eq_true, beq_iff_eq, bne_iff_ne, ne_eq] at hh)))
  all_goals grind
theorem c32 (v : View) (H : Heap) : call env 32 [.agg v.cs] H = some (.bool (decide (MayV v)), H) := by
  obtain ⟨w, h, x, y, n, d⟩ := v
  simp only [View.cs]
  refine call_ends (fn := s32) rfl rfl (by simp [s32]) ?_
  have hh : True := trivial
  have hk : True := trivial
  have hj : True := trivial
  simp only [s32]
  repeat' (first
    | simp only [R1, R2, R3, R4, R5, R6, R7, R8, AV.flat, fillIn_nil, fillIn_cons, splice, AV.cells, AV.one, eqsOf, idx, SO.calls, List.reduceReplicate, Nat.reduceBEq, Nat.reduceLT, Nat.reduceAdd, Nat.reduceMul, Nat.reduceSub, Nat.reduceLeDiff, Nat.reduceEqDiff, ↓reduceIte, Int.reduceLT, Int.reduceEq, Int.reduceBNe, Int.reduceBEq, aeq, Int.reduceLE, Int.reduceNeg, Int.reduceMul, Int.reduceAdd, Int.reduceSub, Int.reduceToNat, Int.reducePow, hh, hk, hj, tidy_bool', c59]
    | simp (disch := omega) only [wrap_i64]
    | (simp only [gets_guard, gets_guardd, endsIf_any]; split <;> rename_i hk <;> (try simp only [Bool.not_eq_true] at hk) <;> (have hh := hk) <;> (have hj := hk) <;> (try simp only [Bool.not_eq_true', Bool.not_eq_false'] at hj) <;> (try simp only [decide_eq_true_eq, Bool.not_eq_true, decide_eq_false_iff_not, Bool.not_eq_true', Bool.not_eq_false', Bool.and_eq_true, Bool.or_eq_true, beq_iff_eq, bne_iff_ne, ne_eq] at hh)))
  all_goals grind [MayV]
theorem c26 (v : View) (H : Heap) : call env 26 [.agg v.cs] H = some (.bool (decide (MayV v)), H) := by
  obtain ⟨w, h, x, y, n, d⟩ := v
  simp only [View.cs]
  refine call_ends (fn := s26) rfl rfl (by simp [s26]) ?_
  have hh : True := trivial
  have hk : True := trivial
  have hj : True := trivial
  simp only [s26]
  repeat' (first
    | simp only [R1, R2, R3, R4, R5, R6, R7, R8, AV.flat, fillIn_nil, fillIn_cons, splice, AV.cells, AV.one, eqsOf, idx, SO.calls, List.reduceReplicate, Nat.reduceBEq, Nat.reduceLT, Nat.reduceAdd, Nat.reduceMul, Nat.reduceSub, Nat.reduceLeDiff, Nat.reduceEqDiff, ↓reduceIte, Int.reduceLT, Int.reduceEq, Int.reduceBNe, Int.reduceBEq, aeq, Int.reduceLE, Int.reduceNeg, Int.reduceMul, Int.reduceAdd, Int.reduceSub, Int.reduceToNat, Int.reducePow, hh, hk, hj, tidy_bool', c54]
    | simp (disch := omega) only [wrap_i64]
    | (simp only [gets_guard, gets_guardd, endsIf_any]; split <;> rename_i hk <;> (try simp only [Bool.not_eq_true] at hk) <;> (have hh := hk) <;> (have hj := hk) <;> (try simp only [Bool.not_eq_true', Bool.not_eq_false'] at hj) <;> (try simp only [decide_eq_true_eq, Bool.not_eq_true, decide_eq_false_iff_not, Bool.not_eq_true', Bool.not_eq_false', Bool.and_eq_true, Bool.or_eq_true, beq_iff_eq, bne_iff_ne, ne_eq] at hh)))
  all_goals grind [MayV]
theorem c58 {H : Heap} {a : Atl} {vg vp vs : AV} (hs : AtlOf H a vg vp vs) (hl : a.gl.length ≤ 1000000) (p : Pld) : call env 58 [.agg (a.cs vg vp vs), .agg p.cs] H = some (.bool (decide (OkD a p)), H) := by
  obtain ⟨g, x, y⟩ := p
  have z1 := slof_cell hs.gl
  have z2 := slof_cell hs.pr
  have z3 := slof_cell hs.pgs
  simp only [AV.cells, AV.one] at z1 z2 z3
  have l1 := hs.gl.lenOf
  have w1 := wrap_i64 (x := (a.gl.length : Int) - 1) (by omega) (by omega)
  simp only [Pld.cs, Atl.cs]
  refine call_ends (fn := s58) rfl rfl (by simp [s58]) ?_
  have hh : True := trivial
  have hk : True := trivial
  have hj : True := trivial
  simp only [s58]
  repeat' (first
    | simp only [R1, R2, R3, R4, R5, R6, R7, R8, AV.flat, fillIn_nil, fillIn_cons, splice, AV.cells, AV.one, eqsOf, idx, SO.calls, List.reduceReplicate, Nat.reduceBEq, Nat.reduceLT, Nat.reduceAdd, Nat.reduceMul, Nat.reduceSub, Nat.reduceLeDiff, Nat.reduceEqDiff, ↓reduceIte, Int.reduceLT, Int.reduceEq, Int.reduceBNe, Int.reduceBEq, aeq, Int.reduceLE, Int.reduceNeg, Int.reduceMul, Int.reduceAdd, Int.reduceSub, Int.reduceToNat, Int.reducePow, hh, hk, hj, tidy_bool', c54, z1, z2, z3, l1, w1]
    | simp (disch := omega) only [wrap_i64]
    | (simp only [gets_guard, gets_guardd, endsIf_any]; split <;> rename_i hk <;> (try simp only [Bool.not_eq_true] at hk) <;> (have hh := hk) <;> (have hj := hk) <;> (try simp only [Bool.not_eq_true', Bool.not_eq_false'] at hj) <;> (try simp only [decide_eq_true_eq, Bool.not_eq_true, decide_eq_false_iff_not, Bool.not_eq_true', Bool.not_eq_false', Bool.and_eq_true, Bool.or_eq_true, beq_iff_eq, bne_iff_ne, ne_eq] at hh)))
  all_goals grind [OkD]
/-- An axis: a step, where it begins, by what it is divided. -/
structure Ax where
  s : Int
  f : Int
  b : Int
def Ax.cs (x : Ax) : List AV := [.int .i64 x.s, .int .i64 x.f, .int .i64 x.b]
def axI (a : Atl) (v : View) (zero units start : Int) : Ax := ⟨256 * (v.d * a.em * a.px), 128 * ((1 - 2 * zero) * (v.d * a.em * a.px) - 2 * units * v.n * a.px - (2 * start + 1) * v.n * a.em), v.n * a.em⟩
theorem prod_in {a b A B : Int} (ha : 1 ≤ a ∧ a ≤ A) (hb : 1 ≤ b ∧ b ≤ B) : 1 ≤ a * b ∧ a * b ≤ A * B := by
  have h1 : a * b ≤ A * b := Int.mul_le_mul_of_nonneg_right ha.2 (by omega)
  have h3 : A * b ≤ A * B := Int.mul_le_mul_of_nonneg_left hb.2 (by omega)
  have h2 : 1 * b ≤ a * b := Int.mul_le_mul_of_nonneg_right ha.1 (by omega)
  omega
structure AxOk (a : Atl) (v : View) (zero units start : Int) : Prop where
  de : 1 ≤ v.d * a.em ∧ v.d * a.em ≤ 16777216
  px : 1 ≤ v.d * a.em * a.px ∧ v.d * a.em * a.px ≤ 2147483648
  zp : -140739635838976 ≤ (1 - 2 * zero) * (v.d * a.em * a.px) ∧ (1 - 2 * zero) * (v.d * a.em * a.px) ≤ 140739635838976
  un : -274877906944 ≤ 2 * units * v.n ∧ 2 * units * v.n ≤ 274877906944
  up : -35184372088832 ≤ 2 * units * v.n * a.px ∧ 2 * units * v.n * a.px ≤ 35184372088832
  fn : -2147484672 ≤ (2 * start + 1) * v.n ∧ (2 * start + 1) * v.n ≤ 2147484672
  fe : -35184388866048 ≤ (2 * start + 1) * v.n * a.em ∧ (2 * start + 1) * v.n * a.em ≤ 35184388866048
  ne : 1 ≤ v.n * a.em ∧ v.n * a.em ≤ 16777216
theorem ax_ok {a : Atl} {v : View} {zero units start : Int} (ha : MayA a) (hv : MayV v) (hz : -32768 ≤ zero ∧ zero ≤ 32767) (hu : -134217728 ≤ units ∧ units ≤ 134217728) (hf : -1048576 ≤ start ∧ start ≤ 1048576) : AxOk a v zero units start := by
  obtain ⟨m1, m2, m3, m4, _⟩ := id ha.1
  obtain ⟨_, _, _, _, v1, v2⟩ := hv
  have h1 := prod_in (a := v.d) (b := a.em) (A := 1024) (B := 16384) (by omega) (by omega)
  have h2 := prod_in (a := v.d * a.em) (b := a.px) (A := 16777216) (B := 128) (by omega) (by omega)
  have h3 := prod_le (a := 1 - 2 * zero) (b := v.d * a.em * a.px) (A := 65537) (B := 2147483648) (by omega) (by omega)
  have h4 := prod_le (a := 2 * units) (b := v.n) (A := 268435456) (B := 1024) (by omega) (by omega)
  have h5 := prod_le (a := 2 * units * v.n) (b := a.px) (A := 274877906944) (B := 128) (by omega) (by omega)
  have h6 := prod_le (a := 2 * start + 1) (b := v.n) (A := 2097153) (B := 1024) (by omega) (by omega)
  have h7 := prod_le (a := (2 * start + 1) * v.n) (b := a.em) (A := 2147484672) (B := 16384) (by omega) (by omega)
  have h8 := prod_in (a := v.n) (b := a.em) (A := 1024) (B := 16384) (by omega) (by omega)
  exact ⟨by omega, by omega, by omega, by omega, by omega, by omega, by omega, by omega⟩
theorem c81 {H : Heap} {a : Atl} {vg vp vs : AV} {v : View} {zero units start : Int} (hs : AtlOf H a vg vp vs) (ok : AxOk a v zero units start) (hz : -32768 ≤ zero ∧ zero ≤ 32767) (hu : -134217728 ≤ units ∧ units ≤ 134217728) (hf : -1048576 ≤ start ∧ start ≤ 1048576) : call env 81 [.agg (a.cs vg vp vs), .agg v.cs, .int .i64 zero, .int .i64 units, .int .i64 start] H = some (.agg (axI a v zero units start).cs, H) := by
  obtain ⟨k1, k2, k3, k4, k5, k6, k7, k8⟩ := ok
  have z1 := slof_cell hs.gl
  have z2 := slof_cell hs.pr
  have z3 := slof_cell hs.pgs
  simp only [AV.cells, AV.one] at z1 z2 z3
  have w1 := wrap_i64 (x := v.d * a.em) (by omega) (by omega)
  have w2 := wrap_i64 (x := v.d * a.em * a.px) (by omega) (by omega)
  have w3 := wrap_i64 (x := 2 * zero) (by omega) (by omega)
  have w4 := wrap_i64 (x := 1 - 2 * zero) (by omega) (by omega)
  have w5 := wrap_i64 (x := (1 - 2 * zero) * (v.d * a.em * a.px)) (by omega) (by omega)
  have w6 := wrap_i64 (x := 2 * units) (by omega) (by omega)
  have w7 := wrap_i64 (x := 2 * units * v.n) (by omega) (by omega)
  have w8 := wrap_i64 (x := 2 * units * v.n * a.px) (by omega) (by omega)
  have w9 := wrap_i64 (x := (1 - 2 * zero) * (v.d * a.em * a.px) - 2 * units * v.n * a.px) (by omega) (by omega)
  have w10 := wrap_i64 (x := 2 * start) (by omega) (by omega)
  have w11 := wrap_i64 (x := 2 * start + 1) (by omega) (by omega)
  have w12 := wrap_i64 (x := (2 * start + 1) * v.n) (by omega) (by omega)
  have w13 := wrap_i64 (x := (2 * start + 1) * v.n * a.em) (by omega) (by omega)
  have w14 := wrap_i64 (x := (1 - 2 * zero) * (v.d * a.em * a.px) - 2 * units * v.n * a.px - (2 * start + 1) * v.n * a.em) (by omega) (by omega)
  have w15 := wrap_i64 (x := 256 * (v.d * a.em * a.px)) (by omega) (by omega)
  have w16 := wrap_i64 (x := 128 * ((1 - 2 * zero) * (v.d * a.em * a.px) - 2 * units * v.n * a.px - (2 * start + 1) * v.n * a.em)) (by omega) (by omega)
  have w17 := wrap_i64 (x := v.n * a.em) (by omega) (by omega)
  simp only [Atl.cs, View.cs, axI, Ax.cs]
  refine call_ends (fn := s81) rfl rfl (by simp [s81]) ?_
  simp only [s81, R1, R2, R3, R4, R5, R6, R7, R8, AV.flat, fillIn_nil, fillIn_cons, splice, AV.cells, AV.one, eqsOf, idx, SO.calls, List.reduceReplicate, Nat.reduceBEq, Nat.reduceLT, Nat.reduceAdd, Nat.reduceMul, Nat.reduceSub, Nat.reduceLeDiff, Nat.reduceEqDiff, ↓reduceIte, Int.reduceLT, Int.reduceEq, Int.reduceBNe, Int.reduceBEq, aeq, Int.reduceLE, Int.reduceNeg, Int.reduceMul, Int.reduceAdd, Int.reduceSub, Int.reduceToNat, Int.reducePow, z1, z2, z3, w1, w2, w3, w4, w5, w6, w7, w8, w9, w10, w11, w12, w13, w14, w15, w16, w17]
  rw [tidy_agg' rfl]
/-- Where the ith one of an axis is. -/
def Ax.at (x : Ax) (i : Int) : Int := (x.s * i + x.f) / x.b
/-- An axis whose numbers are small. -/
structure AxSm (x : Ax) : Prop where
  s : 1 ≤ x.s ∧ x.s ≤ 549755813888
  f : -144115188075855872 ≤ x.f ∧ x.f ≤ 144115188075855872
  b : 1 ≤ x.b
theorem ax_sm {a : Atl} {v : View} {zero units start : Int} (ok : AxOk a v zero units start) : AxSm (axI a v zero units start) := by
  obtain ⟨k1, k2, k3, k4, k5, k6, k7, k8⟩ := ok
  unfold axI
  exact ⟨by simp only; omega, by simp only; omega, by simp only; omega⟩
theorem c61 {x : Ax} (hx : AxSm x) {i : Int} (hi : 0 ≤ i ∧ i ≤ 100000) (H : Heap) : call env 61 [.agg x.cs, .int .i64 i] H = some (.int .i64 (x.at i), H) := by
  obtain ⟨s, f, b⟩ := x
  obtain ⟨h1, h2, h3⟩ := hx
  simp only at h1 h2 h3
  have hp := prod_le (a := s) (b := i) (A := 549755813888) (B := 100000) (by omega) (by omega)
  have w1 := wrap_i64 (x := s * i) (by omega) (by omega)
  have w2 := wrap_i64 (x := s * i + f) (by omega) (by omega)
  simp only [Ax.cs, Ax.at]
  generalize hq : s * i + f = n at *
  obtain ⟨f1, f2⟩ := floor_eq (n := n) (d := b) (by omega)
  have f3 := floor_le (n := n) (d := b) (by omega)
  have f4 := tdiv_le n b
  have c0 : (b = 0) = False := eq_false (by omega)
  refine call_ends (fn := s61) rfl rfl (by simp [s61]) ?_
  by_cases h : n.tmod b < 0
  · have e := f1 h
    have w3 := wrap_i64 (x := n.tdiv b) (by omega) (by omega)
    have w4 : IntKind.i64.wrap (n.tdiv b - 1) = n / b := by rw [e, wrap_i64 (by omega) (by omega)]
    simp only [s61, R1, R2, R3, R4, R5, R6, R7, R8, AV.flat, fillIn_nil, fillIn_cons, splice, AV.cells, AV.one, eqsOf, idx, SO.calls, List.reduceReplicate, Nat.reduceBEq, Nat.reduceLT, Nat.reduceAdd, Nat.reduceMul, Nat.reduceSub, Nat.reduceLeDiff, Nat.reduceEqDiff, ↓reduceIte, Int.reduceLT, Int.reduceEq, Int.reduceBNe, Int.reduceBEq, aeq, Int.reduceLE, Int.reduceNeg, Int.reduceMul, Int.reduceAdd, Int.reduceSub, Int.reduceToNat, Int.reducePow, eq_true h, c0, w1, hq, w2, w3, w4]
    rw [tidy_int']
  · have e := f2 h
    have w3 : IntKind.i64.wrap (n.tdiv b) = n / b := by rw [e, wrap_i64 (by omega) (by omega)]
    simp only [s61, R1, R2, R3, R4, R5, R6, R7, R8, AV.flat, fillIn_nil, fillIn_cons, splice, AV.cells, AV.one, eqsOf, idx, SO.calls, List.reduceReplicate, Nat.reduceBEq, Nat.reduceLT, Nat.reduceAdd, Nat.reduceMul, Nat.reduceSub, Nat.reduceLeDiff, Nat.reduceEqDiff, ↓reduceIte, Int.reduceLT, Int.reduceEq, Int.reduceBNe, Int.reduceBEq, aeq, Int.reduceLE, Int.reduceNeg, Int.reduceMul, Int.reduceAdd, Int.reduceSub, Int.reduceToNat, Int.reducePow, eq_false h, c0, w1, hq, w2, w3]
    rw [tidy_int']
end Go.Proofs.YtbnnfmncipdlpaaDoor
