/- Chapter 34: a glyph onto a picture. -/
import Derived.Test.YtbnnfmncipdlpaaDoorC34h
set_option linter.unusedVariables false
set_option linter.unusedSimpArgs false
set_option maxRecDepth 100000
set_option maxHeartbeats 8000000
namespace Go.Proofs.YtbnnfmncipdlpaaDoor
open Go Go.Den
/-- What a glyph covers of a picture's kth pixel. -/
def pxF (a : Atl) (v : View) (p : Pld) (k : Nat) : Int := pixI a v p ((k % v.w.toNat : Nat) : Int) ((k / v.w.toNat : Nat) : Int)
theorem cov_out {a : Atl} {v : View} {n x y : Int} (h : ¬ InC (entA a n) x y) : covG a v n x y = 0 := by
  unfold covG atE
  by_cases hk : AskA a n
  · rw [if_pos hk, if_neg h, if_neg (by decide)]
  · rw [if_neg hk, if_neg (by decide)]
theorem cov_le (a : Atl) (v : View) (n x y : Int) : 0 ≤ covG a v n x y ∧ covG a v n x y ≤ 255 := by
  unfold covG
  split
  · exact cov_ok _ _ _ _
  · omega
theorem c57 {B : List UInt8 → Heap} {N o : Nat} {a : Atl} {vg vp vs : AV} {v : View} {p : Pld} (F : PicF B N o a vg vp vs) (hp : a.pr.length ≤ 9223372036854775807) (hd : ∀ s ∈ a.pgs, s.length ≤ 1000000000) (ha : MayA a) (hv : MayV v) (hpo : OkD a p) {l : List UInt8} {cap : Option Nat} (hl : (l.length : Int) = v.w * v.h) :
    call env 57 [.agg (drC a vg vp vs v), .sl o 0 l.length 1 cap, .agg p.cs] (B l) = some (.tup [], B (drawn l (fun _ => true) (pxF a v p))) := by
  have z1 := slof_cell (F.atl l).gl
  have z2 := slof_cell (F.atl l).pr
  have z3 := slof_cell (F.atl l).pgs
  simp only [AV.cells, AV.one] at z1 z2 z3
  have A := fam F.len
  obtain ⟨w, hw⟩ : ∃ w : Nat, v.w = (w : Int) := ⟨v.w.toNat, by have := hv.1; omega⟩
  obtain ⟨h, hh⟩ : ∃ h : Nat, v.h = (h : Int) := ⟨v.h.toNat, by have := hv.2.1; omega⟩
  obtain ⟨v1, v2, v3, v4, _, _⟩ := id hv
  have hlw : l.length = w * h := by rw [hw, hh] at hl; exact_mod_cast hl
  obtain ⟨m, hm⟩ : ∃ m : Nat, p.g = (m : Int) := ⟨p.g.toNat, by have := hpo.1; omega⟩
  have hml : m < a.gl.length := by have := hpo.1; omega
  have hask : AskA a (m : Int) := ⟨ha, by omega, by omega⟩
  have E := (F.atl l).gl.elem hml
  have hent : a.gl[m] = entA a (m : Int) := by unfold entA; simp [List.getD, hml]
  rw [hent] at E
  have hok := fun h => ent_ok hask h
  have hpx : ∀ k, ¬ InC (entA a (m : Int)) ((axX a v p).at ((k % w : Nat) : Int)) ((axY a v p).at ((k / w : Nat) : Int)) → pxF a v p k = 0 := fun k hno => by
    unfold pxF pixI
    rw [hw, Int.toNat_natCast, hm]
    exact cov_out hno
  refine call_ends (fn := s57) rfl rfl (by simp [s57]) ?_
  have e1 := fun l X => c60 ((F.atl l).app X) ha hv hpo
  obtain ⟨sx, sy⟩ := ax_small ha hv hpo
  rw [show axI a v v.x p.x (entA a p.g).c.x = axX a v p from rfl, show axI a v v.y p.y (entA a p.g).c.y = axY a v p from rfl] at e1
  by_cases hw0 : (entA a (m : Int)).c.w = 0
  · have hz : drawn l (fun _ => true) (pxF a v p) = l := by
      rw [← drawn_all (V := fun _ => false) (fun k _ _ => hpx k fun hin => hin.1 hw0), drawn_none]
    rw [hz]
    generalize entA a (m : Int) = e at *
    have c1 : (e.c.w == 0) = true := by rw [beq_iff_eq]; exact hw0
    simp only [drC, Ent.cs, Atl.cs, View.cs, Pld.cs, hm, List.cons_append, List.nil_append] at E ⊢
    simp only [s57, R1, R2, R3, R4, R5, R6, R7, R8, AV.flat, fillIn_nil, fillIn_cons, splice, AV.cells, AV.one, eqsOf, idx, SO.calls, List.reduceReplicate, Nat.reduceBEq, Nat.reduceLT, Nat.reduceAdd, Nat.reduceMul, Nat.reduceSub, Nat.reduceLeDiff, Nat.reduceEqDiff, ↓reduceIte, Int.reduceLT, Int.reduceEq, Int.reduceBNe, Int.reduceBEq, aeq, Int.reduceLE, Int.reduceNeg, Int.reduceMul, Int.reduceAdd, Int.reduceSub, Int.reduceToNat, Int.reducePow, A, z1, z2, z3, E, c1]
    rw [F.tidy]
  have ok := hok hw0
  have okw := ok.w
  have okh := ok.h
  have c1 : ((entA a (m : Int)).c.w == 0) = false := by rw [beq_eq_false_iff_ne]; exact hw0
  have w1 := wrap_i64 (x := (entA a (m : Int)).c.w - 1) (by omega) (by omega)
  have w2 := wrap_i64 (x := 256 * ((entA a (m : Int)).c.w - 1)) (by omega) (by omega)
  have w3 := wrap_i64 (x := (entA a (m : Int)).c.h - 1) (by omega) (by omega)
  have w4 := wrap_i64 (x := 256 * ((entA a (m : Int)).c.h - 1)) (by omega) (by omega)
  obtain ⟨left, right, hx, e2⟩ := c80 sx (n := w) (by omega) (256 * ((entA a (m : Int)).c.w - 1)) (B l ++ [.cells (drC a vg vp vs v) 111 true, .cells p.cs 52 true, .cells [.int .i64 (entA a (m : Int)).c.x, .int .i64 (entA a (m : Int)).c.y, .int .i64 (entA a (m : Int)).c.w, .int .i64 (entA a (m : Int)).c.h] 73 true, .cells (axX a v p).cs 116 true, .cells (axY a v p).cs 116 true])
  obtain ⟨low, high, hy, e3⟩ := c80 sy (n := h) (by omega) (256 * ((entA a (m : Int)).c.h - 1)) (B l ++ [.cells (drC a vg vp vs v) 111 true, .cells p.cs 52 true, .cells [.int .i64 (entA a (m : Int)).c.x, .int .i64 (entA a (m : Int)).c.y, .int .i64 (entA a (m : Int)).c.w, .int .i64 (entA a (m : Int)).c.h] 73 true, .cells (axX a v p).cs 116 true, .cells (axY a v p).cs 116 true])
  obtain ⟨x1, x2, x3⟩ := hx
  obtain ⟨y1, y2, y3⟩ := hy
  have hfin : drawn l (vis w left right low high left) (pxF a v p) = drawn l (fun _ => true) (pxF a v p) := drawn_all fun k hk hV => hpx k fun hin => by
    have hwp : 0 < w := by omega
    have q1 := Nat.mod_lt k hwp
    have q2 : k / w < h := Nat.div_lt_of_lt_mul (by omega)
    have r1 := (x3 _ q1).2 hin.2.1
    have r2 := (y3 _ q2).2 hin.2.2
    have : vis w left right low high left k = true := by unfold vis; exact decide_eq_true (by omega)
    rw [this] at hV
    cases hV
  have hcv := fun (i j : Nat) => cov_le a v p.g ((axX a v p).at (i : Int)) ((axY a v p).at (j : Int))
  have e4 := fun (i : Nat) (h : i ≤ 1024) (H : Heap) => c61 sx (i := (i : Int)) (by omega) H
  have e5 := fun (i : Nat) (h : i ≤ 1024) (H : Heap) => c61 sy (i := (i : Int)) (by omega) H
  have e6 := fun l X x y => c62 (v := v) ((F.atl l).app X) hp hd ha p.g x y
  have hpxv : ∀ i j : Nat, i < w → pxF a v p (j * w + i) = covG a v p.g ((axX a v p).at (i : Int)) ((axY a v p).at (j : Int)) := fun i j hi => by
    obtain ⟨q1, q2⟩ := place_at (j := j) hi
    unfold pxF pixI
    rw [hw, Int.toNat_natCast, q1, q2]
  generalize pxF a v p = px at *
  generalize axX a v p = ax at *
  generalize axY a v p = ay at *
  generalize entA a (m : Int) = e at *
  rw [hm] at e6 hcv hpxv
  simp only [drC, Ax.cs, Ent.cs, Atl.cs, View.cs, Pld.cs, hm, hw, hh, List.cons_append, List.nil_append] at E e1 e2 e3 e4 e5 e6 ⊢
  simp only [s57, R1, R2, R3, R4, R5, R6, R7, R8, AV.flat, fillIn_nil, fillIn_cons, splice, AV.cells, AV.one, eqsOf, idx, SO.calls, List.reduceReplicate, Nat.reduceBEq, Nat.reduceLT, Nat.reduceAdd, Nat.reduceMul, Nat.reduceSub, Nat.reduceLeDiff, Nat.reduceEqDiff, ↓reduceIte, Int.reduceLT, Int.reduceEq, Int.reduceBNe, Int.reduceBEq, aeq, Int.reduceLE, Int.reduceNeg, Int.reduceMul, Int.reduceAdd, Int.reduceSub, Int.reduceToNat, Int.reducePow, A, z1, z2, z3, E, e1, e2, e3, w1, w2, w3, w4, c1]
  have hstart : drawn l (vis w left right low low left) px = l := by
    rw [drawn_congr (V' := fun _ => false) (fun k _ => vis_none k), drawn_none]
  refine ends_loop (fun k t H' => t.length = 94 ∧ (t.getD 1 .undef = .sl o 0 l.length 1 cap ∧ t.getD 3 .undef = .ptr N 0 ∧ t.getD 5 .undef = .ptr (N + 1) 0 ∧ t.getD 7 .undef = .ptr (N + 3) 0 ∧ t.getD 8 .undef = .ptr (N + 4) 0 ∧ t.getD 9 .undef = .int .i64 (left : Int) ∧ t.getD 10 .undef = .int .i64 (right : Int) ∧ t.getD 12 .undef = .int .i64 (high : Int)) ∧ ∃ jc : Nat, H' = B (drawn l (vis w left right low jc left) px) ++ [.cells [.int .i64 a.em, .int .i64 a.px, .int .i64 a.rg, .int .i64 a.up, .int .i64 a.down, .int .i64 a.gap, .int .i64 a.w, .int .i64 a.h, vg, vp, vs, .int .i64 (w : Int), .int .i64 (h : Int), .int .i64 v.x, .int .i64 v.y, .int .i64 v.n, .int .i64 v.d, .int .i64 (scI a v).1, .int .i64 (scI a v).2.1] 111 true, .cells [.int .i64 (m : Int), .int .i64 p.x, .int .i64 p.y] 52 true, .cells [.int .i64 e.c.x, .int .i64 e.c.y, .int .i64 e.c.w, .int .i64 e.c.h] 73 true, .cells [.int .i64 ax.s, .int .i64 ax.f, .int .i64 ax.b] 116 true, .cells [.int .i64 ay.s, .int .i64 ay.f, .int .i64 ay.b] 116 true] ∧ low ≤ jc ∧ jc ≤ high ∧ k = high - jc ∧ t.getD 13 .undef = .int .i64 (jc : Int)) (high - low) ?_ ?_
  · simp only [R1, R2, R3, R4, R5, R6, R7, R8, AV.flat, fillIn_nil, fillIn_cons, splice, AV.cells, AV.one, eqsOf, idx, SO.calls, List.reduceReplicate, Nat.reduceBEq, Nat.reduceLT, Nat.reduceAdd, Nat.reduceMul, Nat.reduceSub, Nat.reduceLeDiff, Nat.reduceEqDiff, ↓reduceIte, Int.reduceLT, Int.reduceEq, Int.reduceBNe, Int.reduceBEq, aeq, Int.reduceLE, Int.reduceNeg, Int.reduceMul, Int.reduceAdd, Int.reduceSub, Int.reduceToNat, Int.reducePow]
    exact ⟨low, by rw [hstart], by omega, by omega, rfl, rfl⟩
  rintro k t _ ⟨g1, ⟨g2, g3, g4, g5, g6, g7, g8, g9⟩, jc, rfl, h1, h2, rfl, g10⟩
  rw [← tm_nil t]
  by_cases hc : jc < high
  rotate_left
  · have a1 : ((jc : Int) < (high : Int)) = False := eq_false (by omega)
    obtain rfl : jc = high := by omega
    simp only [R1, R2, R3, R4, R5, R6, R7, R8, AV.flat, fillIn_nil, fillIn_cons, splice, AV.cells, AV.one, eqsOf, idx, SO.calls, List.reduceReplicate, Nat.reduceBEq, Nat.reduceLT, Nat.reduceAdd, Nat.reduceMul, Nat.reduceSub, Nat.reduceLeDiff, Nat.reduceEqDiff, ↓reduceIte, Int.reduceLT, Int.reduceEq, Int.reduceBNe, Int.reduceBEq, aeq, Int.reduceLE, Int.reduceNeg, Int.reduceMul, Int.reduceAdd, Int.reduceSub, Int.reduceToNat, Int.reducePow, g1, g9, g10, a1]
    rw [F.tidy, hfin]
  have a1 : ((jc : Int) < (high : Int)) = True := eq_true (by omega)
  simp only [R1, R2, R3, R4, R5, R6, R7, R8, AV.flat, fillIn_nil, fillIn_cons, splice, AV.cells, AV.one, eqsOf, idx, SO.calls, List.reduceReplicate, Nat.reduceBEq, Nat.reduceLT, Nat.reduceAdd, Nat.reduceMul, Nat.reduceSub, Nat.reduceLeDiff, Nat.reduceEqDiff, ↓reduceIte, Int.reduceLT, Int.reduceEq, Int.reduceBNe, Int.reduceBEq, aeq, Int.reduceLE, Int.reduceNeg, Int.reduceMul, Int.reduceAdd, Int.reduceSub, Int.reduceToNat, Int.reducePow, g1, g7, g9, g10, a1]
  refine ends_loop (fun k t H' => t.length = 94 ∧ (t.getD 1 .undef = .sl o 0 l.length 1 cap ∧ t.getD 3 .undef = .ptr N 0 ∧ t.getD 5 .undef = .ptr (N + 1) 0 ∧ t.getD 7 .undef = .ptr (N + 3) 0 ∧ t.getD 8 .undef = .ptr (N + 4) 0 ∧ t.getD 9 .undef = .int .i64 (left : Int) ∧ t.getD 10 .undef = .int .i64 (right : Int) ∧ t.getD 12 .undef = .int .i64 (high : Int)) ∧ ∃ ic : Nat, H' = B (drawn l (vis w left right low jc ic) px) ++ [.cells [.int .i64 a.em, .int .i64 a.px, .int .i64 a.rg, .int .i64 a.up, .int .i64 a.down, .int .i64 a.gap, .int .i64 a.w, .int .i64 a.h, vg, vp, vs, .int .i64 (w : Int), .int .i64 (h : Int), .int .i64 v.x, .int .i64 v.y, .int .i64 v.n, .int .i64 v.d, .int .i64 (scI a v).1, .int .i64 (scI a v).2.1] 111 true, .cells [.int .i64 (m : Int), .int .i64 p.x, .int .i64 p.y] 52 true, .cells [.int .i64 e.c.x, .int .i64 e.c.y, .int .i64 e.c.w, .int .i64 e.c.h] 73 true, .cells [.int .i64 ax.s, .int .i64 ax.f, .int .i64 ax.b] 116 true, .cells [.int .i64 ay.s, .int .i64 ay.f, .int .i64 ay.b] 116 true] ∧ left ≤ ic ∧ ic ≤ right ∧ k = right - ic ∧ t.getD 13 .undef = .int .i64 (jc : Int) ∧ t.getD 14 .undef = .int .i64 (ic : Int)) (right - left) ?_ ?_
  · simp only [R1, R2, R3, R4, R5, R6, R7, R8, AV.flat, fillIn_nil, fillIn_cons, splice, AV.cells, AV.one, eqsOf, idx, SO.calls, List.reduceReplicate, Nat.reduceBEq, Nat.reduceLT, Nat.reduceAdd, Nat.reduceMul, Nat.reduceSub, Nat.reduceLeDiff, Nat.reduceEqDiff, ↓reduceIte, Int.reduceLT, Int.reduceEq, Int.reduceBNe, Int.reduceBEq, aeq, Int.reduceLE, Int.reduceNeg, Int.reduceMul, Int.reduceAdd, Int.reduceSub, Int.reduceToNat, Int.reducePow, g1, g2, g3, g4, g5, g6, g7, g8, g9, g10]
    exact ⟨left, rfl, by omega, by omega, rfl, rfl⟩
  rintro k u _ ⟨k1, ⟨k2, k3, k4, k5, k6, k7, k8, k9⟩, ic, rfl, i1, i2, rfl, k10, k11⟩
  rw [← tm_nil u]
  by_cases hi : ic < right
  rotate_left
  · have b1 : ((ic : Int) < (right : Int)) = False := eq_false (by omega)
    obtain rfl : ic = right := by omega
    have w5 : IntKind.i64.wrap ((jc : Int) + 1) = ((jc + 1 : Nat) : Int) := by rw [wrap_i64 (by omega) (by omega)]; rfl
    simp only [R1, R2, R3, R4, R5, R6, R7, R8, AV.flat, fillIn_nil, fillIn_cons, splice, AV.cells, AV.one, eqsOf, idx, SO.calls, List.reduceReplicate, Nat.reduceBEq, Nat.reduceLT, Nat.reduceAdd, Nat.reduceMul, Nat.reduceSub, Nat.reduceLeDiff, Nat.reduceEqDiff, ↓reduceIte, Int.reduceLT, Int.reduceEq, Int.reduceBNe, Int.reduceBEq, aeq, Int.reduceLE, Int.reduceNeg, Int.reduceMul, Int.reduceAdd, Int.reduceSub, Int.reduceToNat, Int.reducePow, k1, k2, k3, k4, k5, k6, k7, k8, k9, k10, k11, b1, w5]
    exact ⟨_, by omega, jc + 1, by rw [drawn_congr fun k _ => vis_row k], by omega, by omega, rfl, rfl⟩
  have b1 : ((ic : Int) < (right : Int)) = True := eq_true (by omega)
  have hmul : (jc + 1) * w ≤ h * w := Nat.mul_le_mul_right w (by omega)
  rw [Nat.succ_mul, Nat.mul_comm h w, ← hlw] at hmul
  have hwh : w * h ≤ 1024 * 1024 := Nat.mul_le_mul (by omega) (by omega)
  have hlt : jc * w + ic < l.length := by omega
  obtain ⟨p1, p2⟩ := place_at (j := jc) (show ic < w by omega)
  obtain ⟨b, hb⟩ : ∃ b, l[jc * w + ic]? = some b := ⟨_, List.getElem?_eq_getElem hlt⟩
  have hV : vis w left right low jc ic (jc * w + ic) = false := by unfold vis; rw [p1, p2]; exact decide_eq_false (by omega)
  have hb2 : (drawn l (vis w left right low jc ic) px)[jc * w + ic]? = some b := by rw [drawn_get, hb, hV]; rfl
  have ql := fun X => F.load hb2 X
  have qs := fun X => F.store (l := drawn l (vis w left right low jc ic) px) (k := jc * w + ic) (by rw [drawn_len]; exact hlt) (mx b (px (jc * w + ic))) X
  rw [drawn_set hb hV, drawn_congr (V' := vis w left right low jc (ic + 1)) fun q _ => vis_step (by omega) i1 hi h1 q] at qs
  have hmax : max (b.toNat : Int) (covG a v (m : Int) (ax.at (ic : Int)) (ay.at (jc : Int))) = ((mx b (px (jc * w + ic))).toNat : Int) := by
    rw [hpxv ic jc (by omega)]
    exact mx_nat b (hcv ic jc)
  have u1 : IntKind.i64.wrap ((jc : Int) * (w : Int)) = ((jc * w : Nat) : Int) := by
    rw [← Int.natCast_mul]
    exact wrap_i64 (by omega) (by omega)
  have hk0 : ((jc * w : Nat) : Int) + (ic : Int) = ((jc * w + ic : Nat) : Int) := by omega
  have u2 : IntKind.i64.wrap (((jc * w : Nat) : Int) + (ic : Int)) = ((jc * w + ic : Nat) : Int) := by rw [hk0]; exact wrap_i64 (by omega) (by omega)
  have u3 : IntKind.i64.wrap ((ic : Int) + 1) = ((ic + 1 : Nat) : Int) := by rw [wrap_i64 (by omega) (by omega)]; rfl
  have b2 : (((jc * w + ic : Nat) : Int) < ((l.length : Nat) : Int)) = True := eq_true (by omega)
  have e4 := e4 ic (by omega)
  have e5 := e5 jc (by omega)
  generalize mx b (px (jc * w + ic)) = nb at *
  generalize jc * w + ic = k0 at *
  generalize jc * w = j0 at *
  simp only [R1, R2, R3, R4, R5, R6, R7, R8, AV.flat, fillIn_nil, fillIn_cons, splice, AV.cells, AV.one, eqsOf, idx, SO.calls, List.reduceReplicate, Nat.reduceBEq, Nat.reduceLT, Nat.reduceAdd, Nat.reduceMul, Nat.reduceSub, Nat.reduceLeDiff, Nat.reduceEqDiff, ↓reduceIte, Int.reduceLT, Int.reduceEq, Int.reduceBNe, Int.reduceBEq, aeq, Int.reduceLE, Int.reduceNeg, Int.reduceMul, Int.reduceAdd, Int.reduceSub, Int.reduceToNat, Int.reducePow, A, k1, k2, k3, k4, k5, k6, k7, k8, k9, k10, k11, b1, b2, u1, u2, u3, e4, e5, e6, ql, qs, hmax, veil_un, shun_un]
  exact ⟨_, by omega, ic + 1, rfl, by omega, by omega, rfl, rfl⟩
end Go.Proofs.YtbnnfmncipdlpaaDoor
