/- Chapter 34: the law of moved pictures. -/
import Derived.Test.YtbnnfmncipdlpaaDoorC34k
set_option linter.unusedVariables false
set_option linter.unusedSimpArgs false
set_option maxRecDepth 100000
set_option maxHeartbeats 8000000
namespace Go.Proofs.YtbnnfmncipdlpaaDoor
open Go Go.Den
/-- The view, its point 0, 0 moved. -/
def View.mv (v : View) (dx dy : Int) : View := ⟨v.w, v.h, v.x + dx, v.y + dy, v.n, v.d⟩
theorem ax_mv (a : Atl) (v : View) (zero units start i d dy : Int) : (axI a (v.mv d dy) (zero + d) units start).at (i + d) = (axI a v zero units start).at i := by
  unfold axI Ax.at View.mv
  simp only
  have e : 256 * (v.d * a.em * a.px) * (i + d) + 128 * ((1 - 2 * (zero + d)) * (v.d * a.em * a.px) - 2 * units * v.n * a.px - (2 * start + 1) * v.n * a.em) = 256 * (v.d * a.em * a.px) * i + 128 * ((1 - 2 * zero) * (v.d * a.em * a.px) - 2 * units * v.n * a.px - (2 * start + 1) * v.n * a.em) := by
    generalize v.d * a.em * a.px = P
    generalize 2 * units * v.n * a.px = U
    generalize (2 * start + 1) * v.n * a.em = F
    have e1 : (1 - 2 * (zero + d)) * P = (1 - 2 * zero) * P - 2 * (d * P) := by
      rw [show 1 - 2 * (zero + d) = (1 - 2 * zero) - 2 * d by omega, Int.sub_mul, Int.mul_assoc 2 d P]
    have e2 : 256 * P * (i + d) = 256 * P * i + 256 * (d * P) := by
      rw [Int.mul_add, Int.mul_assoc 256 P d, Int.mul_comm P d]
    rw [e1, e2]
    omega
  rw [e]
theorem pix_mv (a : Atl) (v : View) (p : Pld) (i j dx dy : Int) : pixI a (v.mv dx dy) p (i + dx) (j + dy) = pixI a v p i j := by
  unfold pixI axX axY
  have e1 := ax_mv a v v.x p.x (entA a p.g).c.x i dx dy
  have e2 : (axI a (v.mv dx dy) (v.y + dy) p.y (entA a p.g).c.y).at (j + dy) = (axI a v v.y p.y (entA a p.g).c.y).at j := ax_mv a v v.y p.y (entA a p.g).c.y j dy dy
  rw [show (v.mv dx dy).x = v.x + dx from rfl, show (v.mv dx dy).y = v.y + dy from rfl, e1, e2]
  rfl
theorem px_mv {a : Atl} {v : View} {p : Pld} {w : Nat} (hw : v.w = (w : Int)) {k dx dy : Nat} (hk : k % w + dx < w) : pxF a (v.mv dx dy) p ((k / w + dy) * w + (k % w + dx)) = pxF a v p k := by
  obtain ⟨q1, q2⟩ := place_at (j := k / w + dy) hk
  unfold pxF
  rw [show (v.mv dx dy).w = v.w from rfl, hw, Int.toNat_natCast, q1, q2, Int.natCast_add, Int.natCast_add]
  exact pix_mv a v p _ _ _ _
theorem best_mv {a : Atl} {v : View} {w : Nat} (hw : v.w = (w : Int)) {k dx dy : Nat} (hk : k % w + dx < w) (l : List Pld) : bestI a (v.mv dx dy) l ((k / w + dy) * w + (k % w + dx)) = bestI a v l k := by
  unfold bestI
  have : (fun (m : Int) p => max m (pxF a (v.mv dx dy) p ((k / w + dy) * w + (k % w + dx)))) = fun m p => max m (pxF a v p k) := by
    funext m p
    rw [px_mv hw hk]
  rw [this]
theorem c9 {H : Heap} {a : Atl} {vg vp vs vl : AV} {l : List Pld} (hs : AtlOf H a vg vp vs) (hl : a.pgs.length ≤ 9223372036854775807) (v : View) (hx : SlOf H 3 Pld.cs vl l) (hn1 : l.length ≤ 9223372036854775807) : ∃ H', call env 9 [.agg (a.cs vg vp vs), .agg v.cs, vl] H = some (.bool true, H') := by
  have z1 := slof_cell hs.gl
  have z2 := slof_cell hs.pr
  have z3 := slof_cell hs.pgs
  have z4 := slof_cell hx
  simp only [AV.cells, AV.one] at z1 z2 z3 z4
  have hsX := fun X => hs.app X
  have hxX := fun X => hx.app X
  have l1 := hx.lenOf
  have l2 := hs.gl.lenOf
  refine ⟨H, ?_⟩
  refine call_ends (fn := s9) rfl rfl (by simp [s9]) ?_
  have eF := fun X => c15 (hsX X) hl
  by_cases hf : FewA a
  rotate_left
  · rw [decide_eq_false hf] at eF
    simp only [Atl.cs, View.cs] at eF ⊢
    simp only [s9, R1, R2, R3, R4, R5, R6, R7, R8, AV.flat, fillIn_nil, fillIn_cons, splice, AV.cells, AV.one, eqsOf, idx, SO.calls, List.reduceReplicate, Nat.reduceBEq, Nat.reduceLT, Nat.reduceAdd, Nat.reduceMul, Nat.reduceSub, Nat.reduceLeDiff, Nat.reduceEqDiff, ↓reduceIte, Int.reduceLT, Int.reduceEq, Int.reduceBNe, Int.reduceBEq, aeq, Int.reduceLE, Int.reduceNeg, Int.reduceMul, Int.reduceAdd, Int.reduceSub, Int.reduceToNat, Int.reducePow, w25, z1, z2, z3, z4, eF]
    rw [tidy_bool']
  rw [decide_eq_true hf] at eF
  have hp : a.pr.length ≤ 9223372036854775807 := by have := hf.2.2.1; omega
  have hd : ∀ s ∈ a.pgs, s.length ≤ 1000000000 := fun s h => by have := hf.1 s h; omega
  have hg10 := hf.2.1
  by_cases h10 : l.length ≤ 10
  rotate_left
  · have b1 : ((l.length : Int) > 10) = True := eq_true (by omega)
    simp only [Atl.cs, View.cs] at eF ⊢
    simp only [s9, R1, R2, R3, R4, R5, R6, R7, R8, AV.flat, fillIn_nil, fillIn_cons, splice, AV.cells, AV.one, eqsOf, idx, SO.calls, List.reduceReplicate, Nat.reduceBEq, Nat.reduceLT, Nat.reduceAdd, Nat.reduceMul, Nat.reduceSub, Nat.reduceLeDiff, Nat.reduceEqDiff, ↓reduceIte, Int.reduceLT, Int.reduceEq, Int.reduceBNe, Int.reduceBEq, aeq, Int.reduceLE, Int.reduceNeg, Int.reduceMul, Int.reduceAdd, Int.reduceSub, Int.reduceToNat, Int.reducePow, w25, z1, z2, z3, z4, eF, l1, b1]
    rw [tidy_bool']
  have b1 : ((l.length : Int) > 10) = False := eq_false (by omega)
  by_cases hw : v.w > 60
  · simp only [Atl.cs, View.cs] at eF ⊢
    simp only [s9, R1, R2, R3, R4, R5, R6, R7, R8, AV.flat, fillIn_nil, fillIn_cons, splice, AV.cells, AV.one, eqsOf, idx, SO.calls, List.reduceReplicate, Nat.reduceBEq, Nat.reduceLT, Nat.reduceAdd, Nat.reduceMul, Nat.reduceSub, Nat.reduceLeDiff, Nat.reduceEqDiff, ↓reduceIte, Int.reduceLT, Int.reduceEq, Int.reduceBNe, Int.reduceBEq, aeq, Int.reduceLE, Int.reduceNeg, Int.reduceMul, Int.reduceAdd, Int.reduceSub, Int.reduceToNat, Int.reducePow, w25, z1, z2, z3, z4, eF, l1, b1, eq_true hw]
    rw [tidy_bool']
  by_cases hh : v.h > 60
  · simp only [Atl.cs, View.cs] at eF ⊢
    simp only [s9, R1, R2, R3, R4, R5, R6, R7, R8, AV.flat, fillIn_nil, fillIn_cons, splice, AV.cells, AV.one, eqsOf, idx, SO.calls, List.reduceReplicate, Nat.reduceBEq, Nat.reduceLT, Nat.reduceAdd, Nat.reduceMul, Nat.reduceSub, Nat.reduceLeDiff, Nat.reduceEqDiff, ↓reduceIte, Int.reduceLT, Int.reduceEq, Int.reduceBNe, Int.reduceBEq, aeq, Int.reduceLE, Int.reduceNeg, Int.reduceMul, Int.reduceAdd, Int.reduceSub, Int.reduceToNat, Int.reducePow, w25, z1, z2, z3, z4, eF, l1, b1, eq_false hw, eq_true hh]
    rw [tidy_bool']
  have e2 := fun X => c28 (hsX X) hp hd v (hxX X) hn1
  by_cases hk : askE a v l = 0
  rotate_left
  · have c1 : (askE a v l != 0) = true := by rw [bne_iff_ne]; exact hk
    generalize askE a v l = q1 at *
    simp only [Atl.cs, View.cs] at eF e2 ⊢
    simp only [s9, R1, R2, R3, R4, R5, R6, R7, R8, AV.flat, fillIn_nil, fillIn_cons, splice, AV.cells, AV.one, eqsOf, idx, SO.calls, List.reduceReplicate, Nat.reduceBEq, Nat.reduceLT, Nat.reduceAdd, Nat.reduceMul, Nat.reduceSub, Nat.reduceLeDiff, Nat.reduceEqDiff, ↓reduceIte, Int.reduceLT, Int.reduceEq, Int.reduceBNe, Int.reduceBEq, aeq, Int.reduceLE, Int.reduceNeg, Int.reduceMul, Int.reduceAdd, Int.reduceSub, Int.reduceToNat, Int.reducePow, w25, z1, z2, z3, z4, eF, l1, b1, eq_false hw, eq_false hh, e2, c1]
    rw [tidy_bool']
  have c1 : ((0 : Int) != 0) = false := rfl
  obtain ⟨ha, hv, hok⟩ := ask_ok hk
  obtain ⟨v1, v2, v3, v4, v5, v6⟩ := id hv
  obtain ⟨dx, hdx⟩ : ∃ dx, dx = l.length % 3 := ⟨_, rfl⟩
  obtain ⟨dy, hdy⟩ : ∃ dy, dy = a.gl.length % 3 := ⟨_, rfl⟩
  have r1 : (l.length : Int).tmod 3 = (dx : Int) := by rw [Int.tmod_eq_emod_of_nonneg (by omega)]; omega
  have r2 : (a.gl.length : Int).tmod 3 = (dy : Int) := by rw [Int.tmod_eq_emod_of_nonneg (by omega)]; omega
  have hdx3 : dx ≤ 2 := by omega
  have hdy3 : dy ≤ 2 := by omega
  have w1 := wrap_i64 (x := v.x + (dx : Int)) (by omega) (by omega)
  have w2 := wrap_i64 (x := v.y + (dy : Int)) (by omega) (by omega)
  have e3 := fun H => c26 (v.mv dx dy) H
  have hcs : (v.mv dx dy).cs = [.int .i64 v.w, .int .i64 v.h, .int .i64 (v.x + (dx : Int)), .int .i64 (v.y + (dy : Int)), .int .i64 v.n, .int .i64 v.d] := rfl
  rw [hk] at e2
  by_cases hv2 : MayV (v.mv dx dy)
  rotate_left
  · rw [decide_eq_false hv2] at e3
    simp only [hcs] at e3
    simp only [Atl.cs, View.cs, hcs] at eF e2 e3 ⊢
    simp only [s9, R1, R2, R3, R4, R5, R6, R7, R8, AV.flat, fillIn_nil, fillIn_cons, splice, AV.cells, AV.one, eqsOf, idx, SO.calls, List.reduceReplicate, Nat.reduceBEq, Nat.reduceLT, Nat.reduceAdd, Nat.reduceMul, Nat.reduceSub, Nat.reduceLeDiff, Nat.reduceEqDiff, ↓reduceIte, Int.reduceLT, Int.reduceEq, Int.reduceBNe, Int.reduceBEq, aeq, Int.reduceLE, Int.reduceNeg, Int.reduceMul, Int.reduceAdd, Int.reduceSub, Int.reduceToNat, Int.reducePow, w25, z1, z2, z3, z4, eF, l1, l2, b1, eq_false hw, eq_false hh, e2, e3, c1, r1, r2, w1, w2, veil_un, shun_un]
    rw [tidy_bool']
  rw [decide_eq_true hv2] at e3
  have hk2 : askE a (v.mv dx dy) l = 0 := by
    unfold askE
    rw [if_pos ⟨ha, hv2⟩, if_pos hok, if_neg (by omega)]
  have e4 := fun X => c27 (v := v) (hsX X) hp hd (hxX X) hn1
  have e5 := fun X => c27 (v := v.mv dx dy) (hsX X) hp hd (hxX X) hn1
  simp only [if_pos hk, hk] at e4
  simp only [if_pos hk2, hk2] at e5
  have n1 := pic_len a v l
  have n2 := pic_len a (v.mv dx dy) l
  have g1 := fun k hk => pic_get (a := a) (v := v) (l := l) (k := k) hk
  have g2 := fun k hk => pic_get (a := a) (v := v.mv dx dy) (l := l) (k := k) hk
  rw [show ((v.mv dx dy).w * (v.mv dx dy).h) = v.w * v.h from rfl] at n2 g2
  obtain ⟨w, hww⟩ : ∃ w : Nat, v.w = (w : Int) := ⟨v.w.toNat, by omega⟩
  obtain ⟨h, hhh⟩ : ∃ h : Nat, v.h = (h : Int) := ⟨v.h.toNat, by omega⟩
  have hbm := fun k hk => best_mv (a := a) (v := v) hww (k := k) (dx := dx) (dy := dy) hk l
  have hwh : w * h ≤ 60 * 60 := Nat.mul_le_mul (by omega) (by omega)
  have w3 : IntKind.i64.wrap ((w : Int) * (h : Int)) = ((w * h : Nat) : Int) := by
    rw [← Int.natCast_mul]
    exact wrap_i64 (by omega) (by omega)
  have hnn : (v.w * v.h).toNat = w * h := by rw [hww, hhh, ← Int.natCast_mul, Int.toNat_natCast]
  rw [hnn] at n1 n2 g1 g2
  have hmul : ∀ j, j < h → (j + 1) * w ≤ w * h := fun j hj => by rw [Nat.mul_comm w h]; exact Nat.mul_le_mul_right w hj
  have c0 : ∀ z : Int, (z != z) = false := fun z => by simp
  have cw : ((w : Int) = 0) = False := eq_false (by omega)
  rw [hww] at hw
  rw [hhh] at hh
  have hw0 : 0 < w := by omega
  have hdl : ∀ k, k / w ≤ k := fun k => Nat.div_le_self _ _
  have hml : ∀ k, k % w < w := fun k => Nat.mod_lt k hw0
  have hw60 : w ≤ 60 := by omega
  have hh60 : h ≤ 60 := by omega
  simp only [hcs] at e3 e5
  generalize picL a v l = P1 at *
  generalize picL a (v.mv dx dy) l = P2 at *
  have wN : ∀ q : Nat, q ≤ 9000 → IntKind.i64.wrap (q : Int) = (q : Int) := fun q hq => wrap_i64 (by omega) (by omega)
  have wA : ∀ p q : Nat, p ≤ 9000 → q ≤ 9000 → IntKind.i64.wrap ((p : Int) + (q : Int)) = ((p + q : Nat) : Int) := fun p q hp hq => by rw [wrap_i64 (by omega) (by omega)]; omega
  have hnq : ∃ n, n = w * h := ⟨_, rfl⟩
  obtain ⟨n, hnq⟩ := hnq
  rw [← hnq] at n1 n2 g1 g2 w3 hwh
  simp only [← hnq] at hmul
  simp only [Atl.cs, View.cs, hcs, hww, hhh] at eF e2 e3 e4 e5 ⊢
  simp only [s9, R1, R2, R3, R4, R5, R6, R7, R8, AV.flat, fillIn_nil, fillIn_cons, splice, AV.cells, AV.one, eqsOf, idx, SO.calls, List.reduceReplicate, Nat.reduceBEq, Nat.reduceLT, Nat.reduceAdd, Nat.reduceMul, Nat.reduceSub, Nat.reduceLeDiff, Nat.reduceEqDiff, ↓reduceIte, Int.reduceLT, Int.reduceEq, Int.reduceBNe, Int.reduceBEq, aeq, Int.reduceLE, Int.reduceNeg, Int.reduceMul, Int.reduceAdd, Int.reduceSub, Int.reduceToNat, Int.reducePow, w25, z1, z2, z3, z4, eF, l1, l2, b1, eq_false hw, eq_false hh, e2, e3, e4, e5, c0, c1, r1, r2, w1, w2, w3, n1, n2, veil_un, shun_un]
  refine ends_loop (fun k t H' => t.length = 144 ∧ (∃ A B, H' = H ++ [A, .cells [.int .i64 (w : Int), .int .i64 (h : Int), .int .i64 v.x, .int .i64 v.y, .int .i64 v.n, .int .i64 v.d] 55 true, B]) ∧ (t.getD 4 .undef = .ptr (H.length + 1) 0 ∧ t.getD 8 .undef = .int .i64 (dx : Int) ∧ t.getD 9 .undef = .int .i64 (dy : Int) ∧ t.getD 10 .undef = .str (mkS P1) ∧ t.getD 12 .undef = .str (mkS P2) ∧ t.getD 103 .undef = .int .i64 (n : Int)) ∧ ∃ i : Nat, i ≤ n ∧ k = n - i ∧ t.getD 104 .undef = .int .i64 (i : Int)) n ?_ ?_
  · simp only [R1, R2, R3, R4, R5, R6, R7, R8, AV.flat, fillIn_nil, fillIn_cons, splice, AV.cells, AV.one, eqsOf, idx, SO.calls, List.reduceReplicate, Nat.reduceBEq, Nat.reduceLT, Nat.reduceAdd, Nat.reduceMul, Nat.reduceSub, Nat.reduceLeDiff, Nat.reduceEqDiff, ↓reduceIte, Int.reduceLT, Int.reduceEq, Int.reduceBNe, Int.reduceBEq, aeq, Int.reduceLE, Int.reduceNeg, Int.reduceMul, Int.reduceAdd, Int.reduceSub, Int.reduceToNat, Int.reducePow]
    exact ⟨⟨_, _, rfl⟩, 0, by omega, by omega, rfl⟩
  rintro k t _ ⟨k1, ⟨A, B, rfl⟩, ⟨k2, k3, k4, k5, k6, k7⟩, i, hi, rfl, k8⟩
  rw [← tm_nil t]
  by_cases hc : i < n
  · have a1 : ((i : Int) < (n : Int)) = True := eq_true (by omega)
    have m1 := hml i
    have m2 := hdl i
    have u2 : IntKind.i64.wrap ((i : Int) + 1) = ((i + 1 : Nat) : Int) := by rw [wrap_i64 (by omega) (by omega)]; rfl
    have u3 : (i : Int).tmod (w : Int) = ((i % w : Nat) : Int) := by rw [Int.tmod_eq_emod_of_nonneg (by omega), ← Int.natCast_emod]
    have u4 : IntKind.i64.wrap ((i : Int).tdiv (w : Int)) = ((i / w : Nat) : Int) := by rw [Int.tdiv_eq_ediv_of_nonneg (by omega), ← Int.natCast_ediv, wN _ (by omega)]
    have u5 : IntKind.i64.wrap (((i % w : Nat) : Int) + (dx : Int)) = ((i % w + dx : Nat) : Int) := wA _ _ (by omega) (by omega)
    have u6 : IntKind.i64.wrap (((i / w : Nat) : Int) + (dy : Int)) = ((i / w + dy : Nat) : Int) := wA _ _ (by omega) (by omega)
    by_cases hx1 : i % w + dx < w
    · have a2 : (((i % w + dx : Nat) : Int) < (w : Int)) = True := eq_true (by omega)
      by_cases hy1 : i / w + dy < h
      · have a3 : (((i / w + dy : Nat) : Int) < (h : Int)) = True := eq_true (by omega)
        have hm1 := hmul _ hy1
        rw [Nat.succ_mul] at hm1
        have hj : (i / w + dy) * w + (i % w + dx) < n := by omega
        have u7 : IntKind.i64.wrap (((i / w + dy : Nat) : Int) * (w : Int)) = (((i / w + dy) * w : Nat) : Int) := by
          rw [← Int.natCast_mul]
          exact wrap_i64 (by omega) (by omega)
        have u8 : IntKind.i64.wrap ((((i / w + dy) * w : Nat) : Int) + ((i % w + dx : Nat) : Int)) = (((i / w + dy) * w + (i % w + dx) : Nat) : Int) := wA _ _ (by omega) (by omega)
        obtain ⟨x1, x2, x3⟩ := g1 i hc
        obtain ⟨y1, y2, y3⟩ := g2 _ hj
        have c5 : ((y1.toNat : Int) != (x1.toNat : Int)) = false := by
          rw [bne_eq_false_iff_eq, x3, y3, hbm i hx1]
        simp only [R1, R2, R3, R4, R5, R6, R7, R8, AV.flat, fillIn_nil, fillIn_cons, splice, AV.cells, AV.one, eqsOf, idx, SO.calls, List.reduceReplicate, Nat.reduceBEq, Nat.reduceLT, Nat.reduceAdd, Nat.reduceMul, Nat.reduceSub, Nat.reduceLeDiff, Nat.reduceEqDiff, ↓reduceIte, Int.reduceLT, Int.reduceEq, Int.reduceBNe, Int.reduceBEq, aeq, Int.reduceLE, Int.reduceNeg, Int.reduceMul, Int.reduceAdd, Int.reduceSub, Int.reduceToNat, Int.reducePow, k1, k2, k3, k4, k5, k6, k7, k8, a1, a2, a3, u2, u3, u4, u5, u6, u7, u8, cw, x2, y2, c5, veil_un, shun_un]
        exact ⟨_, by omega, ⟨_, _, rfl⟩, i + 1, by omega, rfl, rfl⟩
      · have a3 : (((i / w + dy : Nat) : Int) < (h : Int)) = False := eq_false (by omega)
        simp only [R1, R2, R3, R4, R5, R6, R7, R8, AV.flat, fillIn_nil, fillIn_cons, splice, AV.cells, AV.one, eqsOf, idx, SO.calls, List.reduceReplicate, Nat.reduceBEq, Nat.reduceLT, Nat.reduceAdd, Nat.reduceMul, Nat.reduceSub, Nat.reduceLeDiff, Nat.reduceEqDiff, ↓reduceIte, Int.reduceLT, Int.reduceEq, Int.reduceBNe, Int.reduceBEq, aeq, Int.reduceLE, Int.reduceNeg, Int.reduceMul, Int.reduceAdd, Int.reduceSub, Int.reduceToNat, Int.reducePow, k1, k2, k3, k4, k5, k6, k7, k8, a1, a2, a3, u2, u3, u4, u5, u6, cw, veil_un, shun_un]
        exact ⟨_, by omega, ⟨_, _, rfl⟩, i + 1, by omega, rfl, rfl⟩
    · have a2 : (((i % w + dx : Nat) : Int) < (w : Int)) = False := eq_false (by omega)
      simp only [R1, R2, R3, R4, R5, R6, R7, R8, AV.flat, fillIn_nil, fillIn_cons, splice, AV.cells, AV.one, eqsOf, idx, SO.calls, List.reduceReplicate, Nat.reduceBEq, Nat.reduceLT, Nat.reduceAdd, Nat.reduceMul, Nat.reduceSub, Nat.reduceLeDiff, Nat.reduceEqDiff, ↓reduceIte, Int.reduceLT, Int.reduceEq, Int.reduceBNe, Int.reduceBEq, aeq, Int.reduceLE, Int.reduceNeg, Int.reduceMul, Int.reduceAdd, Int.reduceSub, Int.reduceToNat, Int.reducePow, k1, k2, k3, k4, k5, k6, k7, k8, a1, a2, u2, u3, u4, u5, u6, cw, veil_un, shun_un]
      exact ⟨_, by omega, ⟨_, _, rfl⟩, i + 1, by omega, rfl, rfl⟩
  · have a1 : ((i : Int) < (n : Int)) = False := eq_false (by omega)
    simp only [R1, R2, R3, R4, R5, R6, R7, R8, AV.flat, fillIn_nil, fillIn_cons, splice, AV.cells, AV.one, eqsOf, idx, SO.calls, List.reduceReplicate, Nat.reduceBEq, Nat.reduceLT, Nat.reduceAdd, Nat.reduceMul, Nat.reduceSub, Nat.reduceLeDiff, Nat.reduceEqDiff, ↓reduceIte, Int.reduceLT, Int.reduceEq, Int.reduceBNe, Int.reduceBEq, aeq, Int.reduceLE, Int.reduceNeg, Int.reduceMul, Int.reduceAdd, Int.reduceSub, Int.reduceToNat, Int.reducePow, k1, k2, k3, k4, k5, k6, k7, k8, a1]
    rw [tidy_bool']
end Go.Proofs.YtbnnfmncipdlpaaDoor
