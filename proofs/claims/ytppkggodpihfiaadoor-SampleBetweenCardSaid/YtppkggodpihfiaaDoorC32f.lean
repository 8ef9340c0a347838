/- Chapter 32: samples lie between the least and the greatest. -/
import Derived.Test.YtppkggodpihfiaaDoorC32e
set_option linter.unusedVariables false
set_option linter.unusedSimpArgs false
set_option maxRecDepth 100000
set_option maxHeartbeats 8000000
namespace Go.Proofs.YtppkggodpihfiaaDoor
open Go Go.Den
theorem mix_between {L M a b u : Int} (ha : L ≤ a ∧ a ≤ M) (hb : u ≠ 0 → L ≤ b ∧ b ≤ M) (hu : 0 ≤ u ∧ u ≤ 256) : L * 256 ≤ mixI a b u ∧ mixI a b u ≤ M * 256 := by
  unfold mixI
  by_cases h0 : u = 0
  · subst h0
    simp only [Int.sub_zero, Int.mul_zero, Int.add_zero]
    omega
  · obtain ⟨b1, b2⟩ := hb h0
    have h1 : L * (256 - u) ≤ a * (256 - u) := Int.mul_le_mul_of_nonneg_right ha.1 (by omega)
    have h2 : a * (256 - u) ≤ M * (256 - u) := Int.mul_le_mul_of_nonneg_right ha.2 (by omega)
    have h3 : L * u ≤ b * u := Int.mul_le_mul_of_nonneg_right b1 hu.1
    have h4 : b * u ≤ M * u := Int.mul_le_mul_of_nonneg_right b2 hu.1
    have h5 : L * (256 - u) = L * 256 - L * u := Int.mul_sub _ _ _
    have h6 : M * (256 - u) = M * 256 - M * u := Int.mul_sub _ _ _
    omega
/-- Each of a cell's texels lies so. -/
def Between (a : Atl) (e : Ent) (L M : Int) : Prop := ∀ i j : Int, 0 ≤ i ∧ i ≤ e.c.w - 1 → 0 ≤ j ∧ j ≤ e.c.h - 1 → L ≤ texI a e.pg (e.x + i) (e.y + j) 0 ∧ texI a e.pg (e.x + i) (e.y + j) 0 ≤ M
theorem bil_between {a : Atl} {e : Ent} {L M x y : Int} (h : Between a e L M) (ok : EntOk a e) (hin : InC e x y) : L * 65536 ≤ bilI a e x y 0 ∧ bilI a e x y 0 ≤ M * 65536 := by
  obtain ⟨_, h1, h2⟩ := hin
  have cx := cutI_ok (x := x) (n := e.c.w) (by omega) ok.w.1 (by omega)
  have cy := cutI_ok (x := y) (n := e.c.h) (by omega) ok.h.1 (by omega)
  unfold bilI
  generalize cutI x e.c.w = i at *
  generalize cutI y e.c.h = j at *
  generalize x - 256 * i = u at *
  generalize y - 256 * j = v at *
  have row : ∀ q : Int, 0 ≤ q ∧ q ≤ e.c.h - 1 → L * 256 ≤ rowI a e.pg (e.x + i) (e.y + q) u 0 ∧ rowI a e.pg (e.x + i) (e.y + q) u 0 ≤ M * 256 := fun q hq => by
    unfold rowI
    refine mix_between (h i q (by omega) hq) (fun hu => ?_) (by omega)
    rw [Int.add_assoc]
    exact h (i + 1) q (by have := cx.2.2.2.2 hu; omega) hq
  have := mix_between (row j (by omega)) (fun hv => row (j + 1) (by have := cy.2.2.2.2 hv; omega)) (u := v) (by omega)
  omega
/-- In a texel's middle. -/
theorem row_mid (a : Atl) (pg X y : Int) {i w : Int} (hi : 0 ≤ i ∧ i ≤ w - 1) (c : Nat) : rowI a pg (X + cutI (256 * i) w) y (256 * i - 256 * cutI (256 * i) w) c = 256 * texI a pg (X + i) y c := by
  have hc : (cutI (256 * i) w = i) ∨ (cutI (256 * i) w + 1 = i ∧ 256 * i - 256 * cutI (256 * i) w = 256) := by unfold cutI; omega
  unfold rowI mixI
  rcases hc with h | ⟨h1, h2⟩
  · rw [h, Int.sub_self]
    simp only [Int.sub_zero, Int.mul_zero, Int.add_zero]
    omega
  · rw [h2, Int.add_assoc, h1]
    simp only [Int.sub_self, Int.mul_zero, Int.zero_add]
    omega
theorem bil_mid (a : Atl) (e : Ent) {i j : Int} (hi : 0 ≤ i ∧ i ≤ e.c.w - 1) (hj : 0 ≤ j ∧ j ≤ e.c.h - 1) (c : Nat) : bilI a e (256 * i) (256 * j) c = texI a e.pg (e.x + i) (e.y + j) c * 65536 := by
  unfold bilI
  rw [row_mid a e.pg e.x _ hi c, row_mid a e.pg e.x _ hi c]
  have hc : (cutI (256 * j) e.c.h = j) ∨ (cutI (256 * j) e.c.h + 1 = j ∧ 256 * j - 256 * cutI (256 * j) e.c.h = 256) := by unfold cutI; omega
  unfold mixI
  rcases hc with h | ⟨h1, h2⟩
  · rw [h, Int.sub_self]
    simp only [Int.sub_zero, Int.mul_zero, Int.add_zero]
    omega
  · rw [h2, h1]
    simp only [Int.sub_self, Int.mul_zero, Int.zero_add]
    omega
theorem c5 {a : Atl} {vg vp vs : AV} (hs : AtlOf [] a vg vp vs) (hp : a.pgs.length ≤ 9223372036854775807) (n x y p q : Int) (hpq : (0 ≤ p ∧ p ≤ 255) ∧ 0 ≤ q ∧ q ≤ 255) :
    ∃ H', call env 5 [.agg (a.cs vg vp vs), .agg [.int .i64 n, .int .i64 x, .int .i64 y], .agg [.int .u8 p, .int .u8 q]] [] = some (.bool true, H') := by
  have z1 := slof_cell hs.gl
  have z2 := slof_cell hs.pr
  have z3 := slof_cell hs.pgs
  simp only [AV.cells, AV.one] at z1 z2 z3
  suffices h : ∃ r, call env 5 [.agg (a.cs vg vp vs), .agg [.int .i64 n, .int .i64 x, .int .i64 y], .agg [.int .u8 p, .int .u8 q]] [] = some r ∧ r.1 = .bool true by
    obtain ⟨⟨a, b⟩, h1, rfl⟩ := h
    exact ⟨b, h1⟩
  refine call_endsE (fn := s5) rfl rfl (by simp [s5]) fun W hW => ?_
  have fin : ∀ X : Heap, W (tidy [] (.bool true) X) := fun X => hW _ (by rw [tidy_law])
  have hsX := fun X => hs.app X
  simp only [List.nil_append] at hsX
  have l1 := hs.gl.lenOf
  have eF := fun X => c7 (hsX X) hp
  by_cases hf : FewA a
  rotate_left
  · rw [decide_eq_false hf] at eF
    simp only [Atl.cs] at eF ⊢
    simp only [s5, R1, R2, R3, R4, R5, R6, R7, R8, AV.flat, fillIn_nil, fillIn_cons, splice, AV.cells, AV.one, eqsOf, idx, SO.calls, List.reduceReplicate, Nat.reduceBEq, Nat.reduceLT, Nat.reduceAdd, Nat.reduceMul, Nat.reduceSub, Nat.reduceLeDiff, Nat.reduceEqDiff, ↓reduceIte, Int.reduceLT, Int.reduceEq, Int.reduceBNe, Int.reduceBEq, aeq, Int.reduceLE, Int.reduceNeg, Int.reduceMul, Int.reduceAdd, Int.reduceSub, Int.reduceToNat, Int.reducePow, w6, z1, z2, z3, eF, leftE_ret, got_some]
    first | exact fin [] | exact fin _
  rw [decide_eq_true hf] at eF
  have f1 := hf.1
  have f2 := hf.2.2.1
  have f3 := hf.2.2.2
  have hd : ∀ s ∈ a.pgs, s.length ≤ 1000000000 := fun s h => by have := f1 s h; omega
  have eM := fun X => c14 (hsX X) (by omega) hd
  by_cases hm : MayA a
  rotate_left
  · rw [decide_eq_false hm] at eM
    simp only [Atl.cs] at eF eM ⊢
    simp only [s5, R1, R2, R3, R4, R5, R6, R7, R8, AV.flat, fillIn_nil, fillIn_cons, splice, AV.cells, AV.one, eqsOf, idx, SO.calls, List.reduceReplicate, Nat.reduceBEq, Nat.reduceLT, Nat.reduceAdd, Nat.reduceMul, Nat.reduceSub, Nat.reduceLeDiff, Nat.reduceEqDiff, ↓reduceIte, Int.reduceLT, Int.reduceEq, Int.reduceBNe, Int.reduceBEq, aeq, Int.reduceLE, Int.reduceNeg, Int.reduceMul, Int.reduceAdd, Int.reduceSub, Int.reduceToNat, Int.reducePow, w6, z1, z2, z3, eF, eM, leftE_ret, got_some]
    first | exact fin [] | exact fin _
  rw [decide_eq_true hm] at eM
  by_cases hn0 : n < 0
  · simp only [Atl.cs] at eF eM ⊢
    simp only [s5, R1, R2, R3, R4, R5, R6, R7, R8, AV.flat, fillIn_nil, fillIn_cons, splice, AV.cells, AV.one, eqsOf, idx, SO.calls, List.reduceReplicate, Nat.reduceBEq, Nat.reduceLT, Nat.reduceAdd, Nat.reduceMul, Nat.reduceSub, Nat.reduceLeDiff, Nat.reduceEqDiff, ↓reduceIte, Int.reduceLT, Int.reduceEq, Int.reduceBNe, Int.reduceBEq, aeq, Int.reduceLE, Int.reduceNeg, Int.reduceMul, Int.reduceAdd, Int.reduceSub, Int.reduceToNat, Int.reducePow, w6, z1, z2, z3, eF, eM, eq_true hn0, leftE_ret, got_some]
    first | exact fin [] | exact fin _
  by_cases hn1 : n ≥ (a.gl.length : Int)
  · simp only [Atl.cs] at eF eM ⊢
    simp only [s5, R1, R2, R3, R4, R5, R6, R7, R8, AV.flat, fillIn_nil, fillIn_cons, splice, AV.cells, AV.one, eqsOf, idx, SO.calls, List.reduceReplicate, Nat.reduceBEq, Nat.reduceLT, Nat.reduceAdd, Nat.reduceMul, Nat.reduceSub, Nat.reduceLeDiff, Nat.reduceEqDiff, ↓reduceIte, Int.reduceLT, Int.reduceEq, Int.reduceBNe, Int.reduceBEq, aeq, Int.reduceLE, Int.reduceNeg, Int.reduceMul, Int.reduceAdd, Int.reduceSub, Int.reduceToNat, Int.reducePow, w6, z1, z2, z3, l1, eF, eM, eq_false hn0, eq_true hn1, leftE_ret, got_some]
    first | exact fin [] | exact fin _
  have hask : AskA a n := ⟨hm, by omega, by omega⟩
  have e1 := fun X => c8 (hsX X) (by omega) hd n x y
  have eT := fun X => c15 (hsX X) (by omega) (by omega) hd
  have e2 := fun X => c8 (hsX X) (by omega) hd n
  have hat := at_four a n x y
  obtain ⟨m, rfl⟩ : ∃ m : Nat, n = (m : Int) := ⟨n.toNat, by omega⟩
  have hml : m < a.gl.length := by omega
  have E := hs.gl.elem hml
  have hent : a.gl[m] = entA a (m : Int) := by unfold entA; simp [List.getD, hml]
  rw [hent] at E
  have fa : ∀ H', faddrOf 2 (cellAt vg (m * 8 + 1)) H' = some (cellAt vg (m * 8 + 1 + 2), H') := fun H' => hs.gl.field 2 (m * 8 + 1) (by omega) H'
  have fl : ∀ X, aload X 1 (cellAt vg (m * 8 + 1 + 2)) = some [.int .i64 (entA a (m : Int)).c.w] := fun X => by
    have := hs.gl.some' hml 3 1 (by decide) X
    rw [hent, List.nil_append] at this
    exact this
  have hok := fun h => ent_ok hask h
  have heA : ∀ x y, atE a (m : Int) x y = if InC (entA a (m : Int)) x y then 0 else 7 := fun x y => if_pos hask
  have heC : ∀ x y, InC (entA a (m : Int)) x y → atC a (m : Int) x y = bilC a (entA a (m : Int)) x y := fun x y h => by unfold atC; rw [if_pos hask, if_pos h]
  generalize entA a (m : Int) = e at *
  simp only [Ent.cs, List.nil_append] at E
  by_cases hw0 : e.c.w = 0
  · have c1 : (e.c.w == 0) = true := by rw [beq_iff_eq]; exact hw0
    simp only [Atl.cs] at eF eM ⊢
    simp only [s5, R1, R2, R3, R4, R5, R6, R7, R8, AV.flat, fillIn_nil, fillIn_cons, splice, AV.cells, AV.one, eqsOf, idx, SO.calls, List.reduceReplicate, Nat.reduceBEq, Nat.reduceLT, Nat.reduceAdd, Nat.reduceMul, Nat.reduceSub, Nat.reduceLeDiff, Nat.reduceEqDiff, ↓reduceIte, Int.reduceLT, Int.reduceEq, Int.reduceBNe, Int.reduceBEq, aeq, Int.reduceLE, Int.reduceNeg, Int.reduceMul, Int.reduceAdd, Int.reduceSub, Int.reduceToNat, Int.reducePow, w6, z1, z2, z3, l1, eF, eM, eq_false hn0, eq_false hn1, E, fa, fl, c1, leftE_ret, got_some]
    first | exact fin [] | exact fin _
  have c1 : (e.c.w == 0) = false := by rw [beq_eq_false_iff_ne]; exact hw0
  have ok := hok hw0
  have okw := ok.w
  have okh := ok.h
  have okx := ok.x
  have oky := ok.y
  have oks := ok.size
  have hwh : 0 ≤ e.c.w * e.c.h ∧ e.c.w * e.c.h ≤ 256 * 256 := ⟨Int.mul_nonneg (by omega) (by omega), Int.mul_le_mul okw.2 okh.2 (by omega) (by omega)⟩
  have w0 := wrap_i64 (x := e.c.w * e.c.h) (by omega) (by omega)
  obtain ⟨N, hN⟩ : ∃ N : Nat, e.c.w * e.c.h = (N : Int) := ⟨(e.c.w * e.c.h).toNat, by omega⟩
  rw [hN] at w0
  simp only [Atl.cs] at eF eM eT e1 e2 ⊢
  simp only [s5, R1, R2, R3, R4, R5, R6, R7, R8, AV.flat, fillIn_nil, fillIn_cons, splice, AV.cells, AV.one, eqsOf, idx, SO.calls, List.reduceReplicate, Nat.reduceBEq, Nat.reduceLT, Nat.reduceAdd, Nat.reduceMul, Nat.reduceSub, Nat.reduceLeDiff, Nat.reduceEqDiff, ↓reduceIte, Int.reduceLT, Int.reduceEq, Int.reduceBNe, Int.reduceBEq, aeq, Int.reduceLE, Int.reduceNeg, Int.reduceMul, Int.reduceAdd, Int.reduceSub, Int.reduceToNat, Int.reducePow, w6, z1, z2, z3, l1, eF, eM, eq_false hn0, eq_false hn1, E, fa, fl, c1, hN, w0]
  refine ends_loop (fun k t H' => t.length = 201 ∧ (t.getD 3 .undef = .ptr 0 0 ∧ t.getD 4 .undef = .ptr 1 0 ∧ t.getD 5 .undef = .ptr 2 0 ∧ t.getD 7 .undef = .ptr 3 0 ∧ t.getD 67 .undef = .int .i64 (N : Int)) ∧
    ∃ (i : Nat) (L M : Int) (X : Heap), i ≤ N ∧ k = N - i ∧ (t.getD 68 .undef = .int .i64 (i : Int) ∧ t.getD 8 .undef = .int .i64 L ∧ t.getD 9 .undef = .int .i64 M) ∧
      H' = .cells [.int .i64 a.em, .int .i64 a.px, .int .i64 a.rg, .int .i64 a.up, .int .i64 a.down, .int .i64 a.gap, .int .i64 a.w, .int .i64 a.h, vg, vp, vs] 28 true :: .cells [.int .i64 (m : Int), .int .i64 x, .int .i64 y] 29 true :: .cells [.int .u8 p, .int .u8 q] 48 true ::
        .cells [.int .i64 e.wd, .int .i64 e.c.x, .int .i64 e.c.y, .int .i64 e.c.w, .int .i64 e.c.h, .int .i64 e.pg, .int .i64 e.x, .int .i64 e.y] 54 true :: X ∧
      ((0 ≤ L ∧ L ≤ 255) ∧ 0 ≤ M ∧ M ≤ 255) ∧ ∀ z : Nat, z < i → L ≤ texI a e.pg (e.x + (z : Int) % e.c.w) (e.y + (z : Int) / e.c.w) 0 ∧ texI a e.pg (e.x + (z : Int) % e.c.w) (e.y + (z : Int) / e.c.w) 0 ≤ M) N ?_ ?_
  · simp only [R1, R2, R3, R4, R5, R6, R7, R8, AV.flat, fillIn_nil, fillIn_cons, splice, AV.cells, AV.one, eqsOf, idx, SO.calls, List.reduceReplicate, Nat.reduceBEq, Nat.reduceLT, Nat.reduceAdd, Nat.reduceMul, Nat.reduceSub, Nat.reduceLeDiff, Nat.reduceEqDiff, ↓reduceIte, Int.reduceLT, Int.reduceEq, Int.reduceBNe, Int.reduceBEq, aeq, Int.reduceLE, Int.reduceNeg, Int.reduceMul, Int.reduceAdd, Int.reduceSub, Int.reduceToNat, Int.reducePow]
    exact ⟨0, 255, 0, [], by omega, by omega, ⟨rfl, rfl, rfl⟩, rfl, by omega, fun z hz => by omega⟩
  rintro k t _ ⟨g1, ⟨g2, g3, g4, g5, g6⟩, i, L, M, X, hi, rfl, ⟨g7, g8, g9⟩, rfl, hLM, hb⟩
  rw [← tm_nil t]
  by_cases hc : i < N
  · have a1 : ((i : Int) < (N : Int)) = True := eq_true (by omega)
    have w1 : IntKind.i64.wrap ((i : Int) + 1) = ((i + 1 : Nat) : Int) := by rw [wrap_i64 (by omega) (by omega)]; rfl
    have hr := Int.emod_nonneg (i : Int) (show e.c.w ≠ 0 from hw0)
    have hr2 := Int.emod_lt_of_pos (i : Int) (show 0 < e.c.w by omega)
    have hq := Int.ediv_nonneg (show (0 : Int) ≤ (i : Int) by omega) (show 0 ≤ e.c.w by omega)
    have hq2 : (i : Int) / e.c.w ≤ e.c.h - 1 := by
      have : (i : Int) / e.c.w < e.c.h := Int.ediv_lt_of_lt_mul (by omega) (by rw [Int.mul_comm]; omega)
      omega
    have t1 : (i : Int).tmod e.c.w = (i : Int) % e.c.w := Int.tmod_eq_emod_of_nonneg (by omega)
    have t2 : IntKind.i64.wrap ((i : Int).tdiv e.c.w) = (i : Int) / e.c.w := by rw [Int.tdiv_eq_ediv_of_nonneg (by omega), wrap_i64 (by omega) (by omega)]
    have w2 := wrap_i64 (x := e.x + (i : Int) % e.c.w) (by omega) (by omega)
    have w3 := wrap_i64 (x := e.y + (i : Int) / e.c.w) (by omega) (by omega)
    have hto := tex_ok hm ok (i := (i : Int) % e.c.w) (j := (i : Int) / e.c.w) (by omega) (by omega)
    have eT := fun X => eT X e.pg (e.x + (i : Int) % e.c.w) (e.y + (i : Int) / e.c.w)
    rw [texL_ok hto] at eT
    have htl := texI_le a e.pg (e.x + (i : Int) % e.c.w) (e.y + (i : Int) / e.c.w) 0
    have w4 := wrap_i64 (x := texI a e.pg (e.x + (i : Int) % e.c.w) (e.y + (i : Int) / e.c.w) 0) (by omega) (by omega)
    have hw00 : (e.c.w = 0) = False := eq_false hw0
    have hmore : ∀ z : Nat, z < i + 1 → min L (texI a e.pg (e.x + (i : Int) % e.c.w) (e.y + (i : Int) / e.c.w) 0) ≤ texI a e.pg (e.x + (z : Int) % e.c.w) (e.y + (z : Int) / e.c.w) 0 ∧ texI a e.pg (e.x + (z : Int) % e.c.w) (e.y + (z : Int) / e.c.w) 0 ≤ max M (texI a e.pg (e.x + (i : Int) % e.c.w) (e.y + (i : Int) / e.c.w) 0) := fun z hz => by
      by_cases hzi : z = i
      · subst hzi; omega
      · have := hb z (by omega); omega
    simp only [R1, R2, R3, R4, R5, R6, R7, R8, AV.flat, fillIn_nil, fillIn_cons, splice, AV.cells, AV.one, eqsOf, idx, SO.calls, List.reduceReplicate, Nat.reduceBEq, Nat.reduceLT, Nat.reduceAdd, Nat.reduceMul, Nat.reduceSub, Nat.reduceLeDiff, Nat.reduceEqDiff, ↓reduceIte, Int.reduceLT, Int.reduceEq, Int.reduceBNe, Int.reduceBEq, aeq, Int.reduceLE, Int.reduceNeg, Int.reduceMul, Int.reduceAdd, Int.reduceSub, Int.reduceToNat, Int.reducePow, g1, g2, g3, g4, g5, g6, g7, g8, g9, z1, z2, z3, a1, w1, w2, w3, w4, t1, t2, hw00, eT, veil_un, shun_un]
    exact ⟨_, by omega, i + 1, _, _, _, by omega, rfl, ⟨rfl, rfl, rfl⟩, rfl, by omega, hmore⟩
  have a1 : ((i : Int) < (N : Int)) = False := eq_false (by omega)
  obtain rfl : i = N := by omega
  have hbet : Between a e L M := fun i' j' hi' hj' => by
    have hz : (j' * e.c.w + i') = (((j' * e.c.w + i').toNat : Nat) : Int) := by
      have : 0 ≤ j' * e.c.w := Int.mul_nonneg hj'.1 (by omega)
      omega
    have hlt : (j' * e.c.w + i').toNat < i := by
      have h1 : j' * e.c.w ≤ (e.c.h - 1) * e.c.w := Int.mul_le_mul_of_nonneg_right hj'.2 (by omega)
      have h2 : (e.c.h - 1) * e.c.w = e.c.w * e.c.h - e.c.w := by rw [Int.sub_mul, Int.mul_comm e.c.h]; omega
      omega
    have := hb _ hlt
    rw [← hz, Int.add_comm (j' * e.c.w) i', Int.add_mul_emod_self_right, Int.emod_eq_of_lt hi'.1 (by omega), Int.add_mul_ediv_right _ _ hw0, Int.ediv_eq_zero_of_lt hi'.1 (by omega), Int.zero_add] at this
    exact this
  have i1 := Int.emod_nonneg p (show e.c.w ≠ 0 from hw0)
  have i2 := Int.emod_lt_of_pos p (show 0 < e.c.w by omega)
  have j1 := Int.emod_nonneg q (show e.c.h ≠ 0 by omega)
  have j2 := Int.emod_lt_of_pos q (show 0 < e.c.h by omega)
  have t1 : p.tmod e.c.w = p % e.c.w := Int.tmod_eq_emod_of_nonneg (by omega)
  have t2 : q.tmod e.c.h = q % e.c.h := Int.tmod_eq_emod_of_nonneg (by omega)
  have wp := wrap_i64 (x := p) (by omega) (by omega)
  have wq := wrap_i64 (x := q) (by omega) (by omega)
  have hw00 : (e.c.w = 0) = False := eq_false hw0
  have hh00 : (e.c.h = 0) = False := eq_false (by omega)
  generalize p % e.c.w = I at *
  generalize q % e.c.h = J at *
  have w2 := wrap_i64 (x := e.x + I) (by omega) (by omega)
  have w3 := wrap_i64 (x := e.y + J) (by omega) (by omega)
  have w4 := wrap_i64 (x := 256 * I) (by omega) (by omega)
  have w5 := wrap_i64 (x := 256 * J) (by omega) (by omega)
  have hto := tex_ok hm ok (i := I) (j := J) (by omega) (by omega)
  have eT := fun X => eT X e.pg (e.x + I) (e.y + J)
  rw [texL_ok hto] at eT
  have hin2 : InC e (256 * I) (256 * J) := ⟨hw0, by omega, by omega⟩
  have e2 := fun X => e2 X (256 * I) (256 * J)
  rw [heC _ _ hin2, heA, if_pos hin2] at e2
  unfold bilC at e2
  rw [bil_mid a e (by omega) (by omega), bil_mid a e (by omega) (by omega), bil_mid a e (by omega) (by omega), bil_mid a e (by omega) (by omega)] at e2
  have b0 := texI_le a e.pg (e.x + I) (e.y + J) 0
  have b1 := texI_le a e.pg (e.x + I) (e.y + J) 1
  have b2 := texI_le a e.pg (e.x + I) (e.y + J) 2
  have b3 := texI_le a e.pg (e.x + I) (e.y + J) 3
  generalize texI a e.pg (e.x + I) (e.y + J) 0 = T0 at *
  generalize texI a e.pg (e.x + I) (e.y + J) 1 = T1 at *
  generalize texI a e.pg (e.x + I) (e.y + J) 2 = T2 at *
  generalize texI a e.pg (e.x + I) (e.y + J) 3 = T3 at *
  have v0 := wrap_i64 (x := T0) (by omega) (by omega)
  have v1 := wrap_i64 (x := T1) (by omega) (by omega)
  have v2 := wrap_i64 (x := T2) (by omega) (by omega)
  have v3 := wrap_i64 (x := T3) (by omega) (by omega)
  have u0 := wrap_i64 (x := T0 * 65536) (by omega) (by omega)
  have u1 := wrap_i64 (x := T1 * 65536) (by omega) (by omega)
  have u2 := wrap_i64 (x := T2 * 65536) (by omega) (by omega)
  have u3 := wrap_i64 (x := T3 * 65536) (by omega) (by omega)
  have uL := wrap_i64 (x := L * 65536) (by omega) (by omega)
  have uM := wrap_i64 (x := M * 65536) (by omega) (by omega)
  have c0 : aeqs [1, 1, 1, 1] [.int .i64 (T0 * 65536), .int .i64 (T1 * 65536), .int .i64 (T2 * 65536), .int .i64 (T3 * 65536)] [.int .i64 (T0 * 65536), .int .i64 (T1 * 65536), .int .i64 (T2 * 65536), .int .i64 (T3 * 65536)] = some true := by simp [aeqs]
  have heAx := heA x y
  by_cases hin : InC e x y
  · rw [if_pos hin] at heAx
    rw [heAx, heC _ _ hin] at e1
    unfold bilC at e1
    have hbb := bil_between hbet ok hin
    generalize bilI a e x y 0 = B0 at *
    have d1 : (B0 < L * 65536) = False := eq_false (by omega)
    have d2 : (B0 > M * 65536) = False := eq_false (by omega)
    simp only [R1, R2, R3, R4, R5, R6, R7, R8, AV.flat, fillIn_nil, fillIn_cons, splice, AV.cells, AV.one, eqsOf, idx, SO.calls, List.reduceReplicate, Nat.reduceBEq, Nat.reduceLT, Nat.reduceAdd, Nat.reduceMul, Nat.reduceSub, Nat.reduceLeDiff, Nat.reduceEqDiff, ↓reduceIte, Int.reduceLT, Int.reduceEq, Int.reduceBNe, Int.reduceBEq, aeq, Int.reduceLE, Int.reduceNeg, Int.reduceMul, Int.reduceAdd, Int.reduceSub, Int.reduceToNat, Int.reducePow, g1, g2, g3, g4, g5, g6, g7, g8, g9, z1, z2, z3, a1, e1, d1, d2, t1, t2, wp, wq, hw00, hh00, w2, w3, w4, w5, eT, e2, v0, v1, v2, v3, u0, u1, u2, u3, uL, uM, c0, veil_un, shun_un, leftE_ret, got_some]
    first | exact fin [] | exact fin _
  · rw [if_neg hin] at heAx
    obtain ⟨p0, p1, p2, p3, hat, _⟩ := hat
    rw [heAx, hat] at e1
    simp only [R1, R2, R3, R4, R5, R6, R7, R8, AV.flat, fillIn_nil, fillIn_cons, splice, AV.cells, AV.one, eqsOf, idx, SO.calls, List.reduceReplicate, Nat.reduceBEq, Nat.reduceLT, Nat.reduceAdd, Nat.reduceMul, Nat.reduceSub, Nat.reduceLeDiff, Nat.reduceEqDiff, ↓reduceIte, Int.reduceLT, Int.reduceEq, Int.reduceBNe, Int.reduceBEq, aeq, Int.reduceLE, Int.reduceNeg, Int.reduceMul, Int.reduceAdd, Int.reduceSub, Int.reduceToNat, Int.reducePow, g1, g2, g3, g4, g5, g6, g7, g8, g9, z1, z2, z3, a1, e1, t1, t2, wp, wq, hw00, hh00, w2, w3, w4, w5, eT, e2, v0, v1, v2, v3, u0, u1, u2, u3, c0, veil_un, shun_un, leftE_ret, got_some]
    first | exact fin [] | exact fin _
end Go.Proofs.YtppkggodpihfiaaDoor
