/- Chapter 34: the law of two rows of glyphs. -/
import Derived.Test.YtbnnfmncipdlpaaDoorC34m
set_option linter.unusedVariables false
set_option linter.unusedSimpArgs false
set_option maxRecDepth 100000
set_option maxHeartbeats 8000000
namespace Go.Proofs.YtbnnfmncipdlpaaDoor
open Go Go.Den
theorem c8 {a : Atl} {vg vp vs vx vy : AV} {l m : List Pld} {H : Heap} (hs : AtlOf H a vg vp vs) (hl : a.pgs.length ≤ 9223372036854775807) (v : View) (hx : SlOf H 3 Pld.cs vx l) (hy : SlOf H 3 Pld.cs vy m) (hn1 : l.length ≤ 9223372036854775807) (hn2 : m.length ≤ 9223372036854775807) : ∃ H', call env 8 [.agg (a.cs vg vp vs), .agg v.cs, .agg [vx, vy]] H = some (.bool true, H') := by
  have z1 := slof_cell hs.gl
  have z2 := slof_cell hs.pr
  have z3 := slof_cell hs.pgs
  have z4 := slof_cell hx
  have z5 := slof_cell hy
  simp only [AV.cells, AV.one] at z1 z2 z3 z4 z5
  have hsX := fun X => hs.app X
  have hxX := fun X => hx.app X
  have hyX := fun X => hy.app X
  have l1 := hx.lenOf
  have l2 := hy.lenOf
  refine ⟨H, ?_⟩
  refine call_ends (fn := s8) rfl rfl (by simp [s8]) ?_
  have eF := fun X => c15 (hsX X) hl
  by_cases hf : FewA a
  rotate_left
  · rw [decide_eq_false hf] at eF
    simp only [Atl.cs, View.cs] at eF ⊢
    simp only [s8, R1, R2, R3, R4, R5, R6, R7, R8, AV.flat, fillIn_nil, fillIn_cons, splice, AV.cells, AV.one, eqsOf, idx, SO.calls, List.reduceReplicate, Nat.reduceBEq, Nat.reduceLT, Nat.reduceAdd, Nat.reduceMul, Nat.reduceSub, Nat.reduceLeDiff, Nat.reduceEqDiff, ↓reduceIte, Int.reduceLT, Int.reduceEq, Int.reduceBNe, Int.reduceBEq, aeq, Int.reduceLE, Int.reduceNeg, Int.reduceMul, Int.reduceAdd, Int.reduceSub, Int.reduceToNat, Int.reducePow, w25, z1, z2, z3, z4, z5, eF]
    rw [tidy_bool']
  rw [decide_eq_true hf] at eF
  have hp : a.pr.length ≤ 9223372036854775807 := by have := hf.2.2.1; omega
  have hd : ∀ s ∈ a.pgs, s.length ≤ 1000000000 := fun s h => by have := hf.1 s h; omega
  by_cases h10 : l.length ≤ 10
  rotate_left
  · have b1 : ((l.length : Int) > 10) = True := eq_true (by omega)
    simp only [Atl.cs, View.cs] at eF ⊢
    simp only [s8, R1, R2, R3, R4, R5, R6, R7, R8, AV.flat, fillIn_nil, fillIn_cons, splice, AV.cells, AV.one, eqsOf, idx, SO.calls, List.reduceReplicate, Nat.reduceBEq, Nat.reduceLT, Nat.reduceAdd, Nat.reduceMul, Nat.reduceSub, Nat.reduceLeDiff, Nat.reduceEqDiff, ↓reduceIte, Int.reduceLT, Int.reduceEq, Int.reduceBNe, Int.reduceBEq, aeq, Int.reduceLE, Int.reduceNeg, Int.reduceMul, Int.reduceAdd, Int.reduceSub, Int.reduceToNat, Int.reducePow, w25, z1, z2, z3, z4, z5, eF, l1, l2, b1]
    rw [tidy_bool']
  have b1 : ((l.length : Int) > 10) = False := eq_false (by omega)
  by_cases h11 : m.length ≤ 10
  rotate_left
  · have b2 : ((m.length : Int) > 10) = True := eq_true (by omega)
    simp only [Atl.cs, View.cs] at eF ⊢
    simp only [s8, R1, R2, R3, R4, R5, R6, R7, R8, AV.flat, fillIn_nil, fillIn_cons, splice, AV.cells, AV.one, eqsOf, idx, SO.calls, List.reduceReplicate, Nat.reduceBEq, Nat.reduceLT, Nat.reduceAdd, Nat.reduceMul, Nat.reduceSub, Nat.reduceLeDiff, Nat.reduceEqDiff, ↓reduceIte, Int.reduceLT, Int.reduceEq, Int.reduceBNe, Int.reduceBEq, aeq, Int.reduceLE, Int.reduceNeg, Int.reduceMul, Int.reduceAdd, Int.reduceSub, Int.reduceToNat, Int.reducePow, w25, z1, z2, z3, z4, z5, eF, l1, l2, b1, b2]
    rw [tidy_bool']
  have b2 : ((m.length : Int) > 10) = False := eq_false (by omega)
  by_cases hw : v.w > 60
  · simp only [Atl.cs, View.cs] at eF ⊢
    simp only [s8, R1, R2, R3, R4, R5, R6, R7, R8, AV.flat, fillIn_nil, fillIn_cons, splice, AV.cells, AV.one, eqsOf, idx, SO.calls, List.reduceReplicate, Nat.reduceBEq, Nat.reduceLT, Nat.reduceAdd, Nat.reduceMul, Nat.reduceSub, Nat.reduceLeDiff, Nat.reduceEqDiff, ↓reduceIte, Int.reduceLT, Int.reduceEq, Int.reduceBNe, Int.reduceBEq, aeq, Int.reduceLE, Int.reduceNeg, Int.reduceMul, Int.reduceAdd, Int.reduceSub, Int.reduceToNat, Int.reducePow, w25, z1, z2, z3, z4, z5, eF, l1, l2, b1, b2, eq_true hw]
    rw [tidy_bool']
  by_cases hh : v.h > 60
  · simp only [Atl.cs, View.cs] at eF ⊢
    simp only [s8, R1, R2, R3, R4, R5, R6, R7, R8, AV.flat, fillIn_nil, fillIn_cons, splice, AV.cells, AV.one, eqsOf, idx, SO.calls, List.reduceReplicate, Nat.reduceBEq, Nat.reduceLT, Nat.reduceAdd, Nat.reduceMul, Nat.reduceSub, Nat.reduceLeDiff, Nat.reduceEqDiff, ↓reduceIte, Int.reduceLT, Int.reduceEq, Int.reduceBNe, Int.reduceBEq, aeq, Int.reduceLE, Int.reduceNeg, Int.reduceMul, Int.reduceAdd, Int.reduceSub, Int.reduceToNat, Int.reducePow, w25, z1, z2, z3, z4, z5, eF, l1, l2, b1, b2, eq_false hw, eq_true hh]
    rw [tidy_bool']
  have e2 := fun X => c27 (v := v) (hsX X) hp hd (hxX X) hn1
  have e3 := fun X => c27 (v := v) (hsX X) hp hd (hyX X) hn2
  obtain ⟨v1, Z1, v2, Z2, y1, y2, y3, y4⟩ := two_app (A1 := .cells (a.cs vg vp vs) 33 true) (A2 := .cells v.cs 55 true) (A3 := .cells [vx, vy] 61 true) hy hx (by omega) (by omega)
  have e4 := c27 (v := v) (hsX (.cells (a.cs vg vp vs) 33 true :: .cells v.cs 55 true :: .cells [vx, vy] 61 true :: Z2)) hp hd y3 (by simp; omega)
  have z6 := slof_cell y3
  have ld1 := slof_leads hx
  have ld2 := slof_leads hy
  simp only [AV.cells, AV.one] at z6
  have c0 : ∀ z : Int, (z != z) = false := fun z => by simp
  have htwo := ask_two a v (l := l) (m := m) h10 h11
  by_cases hk1 : askE a v l = 0
  rotate_left
  · have c1 : (askE a v l != 0) = true := by rw [bne_iff_ne]; exact hk1
    have c2 : (askE a v (m ++ l) != 0) = true := by rw [bne_iff_ne]; exact fun h => hk1 (htwo.1 h).1
    generalize askE a v l = q1 at *
    generalize askE a v m = q2 at *
    generalize askE a v (m ++ l) = q3 at *
    simp only [Atl.cs, View.cs] at eF e2 e3 e4 y1 y2 ⊢
    rcases y4 with ⟨rfl, rfl, rfl, rfl⟩ | ⟨rfl, rfl, rfl, rfl⟩ | ⟨rfl, rfl, rfl, rfl⟩ | ⟨rfl, rfl, rfl, rfl⟩ <;>
      simp only [s8, R1, R2, R3, R4, R5, R6, R7, R8, AV.flat, fillIn_nil, fillIn_cons, splice, AV.cells, AV.one, eqsOf, idx, SO.calls, List.reduceReplicate, Nat.reduceBEq, Nat.reduceLT, Nat.reduceAdd, Nat.reduceMul, Nat.reduceSub, Nat.reduceLeDiff, Nat.reduceEqDiff, ↓reduceIte, Int.reduceLT, Int.reduceEq, Int.reduceBNe, Int.reduceBEq, aeq, Int.reduceLE, Int.reduceNeg, Int.reduceMul, Int.reduceAdd, Int.reduceSub, Int.reduceToNat, Int.reducePow, w25, z1, z2, z3, z4, z5, z6, eF, l1, l2, b1, b2, eq_false hw, eq_false hh, e2, e3, y1, y2, e4, c0, c1, c2, ld1, ld2, veil_un, shun_un] <;>
      rw [tidy_bool']
  have c1 : (askE a v l != 0) = false := by rw [bne_eq_false_iff_eq]; exact hk1
  by_cases hk2 : askE a v m = 0
  rotate_left
  · have c3 : (askE a v m != 0) = true := by rw [bne_iff_ne]; exact hk2
    have c2 : (askE a v (m ++ l) != 0) = true := by rw [bne_iff_ne]; exact fun h => hk2 (htwo.1 h).2
    generalize askE a v l = q1 at *
    generalize askE a v m = q2 at *
    generalize askE a v (m ++ l) = q3 at *
    simp only [Atl.cs, View.cs] at eF e2 e3 e4 y1 y2 ⊢
    rcases y4 with ⟨rfl, rfl, rfl, rfl⟩ | ⟨rfl, rfl, rfl, rfl⟩ | ⟨rfl, rfl, rfl, rfl⟩ | ⟨rfl, rfl, rfl, rfl⟩ <;>
      simp only [s8, R1, R2, R3, R4, R5, R6, R7, R8, AV.flat, fillIn_nil, fillIn_cons, splice, AV.cells, AV.one, eqsOf, idx, SO.calls, List.reduceReplicate, Nat.reduceBEq, Nat.reduceLT, Nat.reduceAdd, Nat.reduceMul, Nat.reduceSub, Nat.reduceLeDiff, Nat.reduceEqDiff, ↓reduceIte, Int.reduceLT, Int.reduceEq, Int.reduceBNe, Int.reduceBEq, aeq, Int.reduceLE, Int.reduceNeg, Int.reduceMul, Int.reduceAdd, Int.reduceSub, Int.reduceToNat, Int.reducePow, w25, z1, z2, z3, z4, z5, z6, eF, l1, l2, b1, b2, eq_false hw, eq_false hh, e2, e3, y1, y2, e4, c0, c1, c2, c3, ld1, ld2, veil_un, shun_un] <;>
      rw [tidy_bool']
  have hk3 := htwo.2 ⟨hk1, hk2⟩
  simp only [if_pos hk1, hk1] at e2
  simp only [if_pos hk2, hk2] at e3
  simp only [if_pos hk3, hk3] at e4
  obtain ⟨ha, hv, _⟩ := ask_ok hk1
  obtain ⟨v1', v2', _⟩ := id hv
  have hwh := prod_in (a := v.w) (b := v.h) (A := 60) (B := 60) (by omega) (by omega)
  have n1 := pic_len a v l
  have n2 := pic_len a v m
  have n3 := pic_len a v (m ++ l)
  have g1 := fun k hk => pic_get (a := a) (v := v) (l := l) (k := k) hk
  have g2 := fun k hk => pic_get (a := a) (v := v) (l := m) (k := k) hk
  have g3 := fun k hk => pic_get (a := a) (v := v) (l := m ++ l) (k := k) hk
  have hb := fun k => best_two a v m l k
  have hnn : (v.w * v.h).toNat ≤ 3600 := by omega
  generalize (v.w * v.h).toNat = n at *
  generalize picL a v l = P1 at *
  generalize picL a v m = P2 at *
  generalize picL a v (m ++ l) = P3 at *
  simp only [Atl.cs, View.cs] at eF e2 e3 e4 y1 y2 ⊢
  rcases y4 with ⟨rfl, rfl, rfl, rfl⟩ | ⟨rfl, rfl, rfl, rfl⟩ | ⟨rfl, rfl, rfl, rfl⟩ | ⟨rfl, rfl, rfl, rfl⟩
  all_goals
    simp only [s8, R1, R2, R3, R4, R5, R6, R7, R8, AV.flat, fillIn_nil, fillIn_cons, splice, AV.cells, AV.one, eqsOf, idx, SO.calls, List.reduceReplicate, Nat.reduceBEq, Nat.reduceLT, Nat.reduceAdd, Nat.reduceMul, Nat.reduceSub, Nat.reduceLeDiff, Nat.reduceEqDiff, ↓reduceIte, Int.reduceLT, Int.reduceEq, Int.reduceBNe, Int.reduceBEq, aeq, Int.reduceLE, Int.reduceNeg, Int.reduceMul, Int.reduceAdd, Int.reduceSub, Int.reduceToNat, Int.reducePow, w25, z1, z2, z3, z4, z5, z6, eF, l1, l2, b1, b2, eq_false hw, eq_false hh, e2, e3, y1, y2, e4, c0, n1, n2, n3, ld1, ld2, veil_un, shun_un]
    refine ends_loop (fun k t H' => t.length = 111 ∧ (∃ X, H' = H ++ X) ∧ (t.getD 7 .undef = .str (mkS P1) ∧ t.getD 9 .undef = .str (mkS P2) ∧ t.getD 11 .undef = .str (mkS P3) ∧ t.getD 95 .undef = .int .i64 (n : Int)) ∧ ∃ i : Nat, i ≤ n ∧ k = n - i ∧ t.getD 96 .undef = .int .i64 (i : Int)) n ?_ ?_
    · simp only [R1, R2, R3, R4, R5, R6, R7, R8, AV.flat, fillIn_nil, fillIn_cons, splice, AV.cells, AV.one, eqsOf, idx, SO.calls, List.reduceReplicate, Nat.reduceBEq, Nat.reduceLT, Nat.reduceAdd, Nat.reduceMul, Nat.reduceSub, Nat.reduceLeDiff, Nat.reduceEqDiff, ↓reduceIte, Int.reduceLT, Int.reduceEq, Int.reduceBNe, Int.reduceBEq, aeq, Int.reduceLE, Int.reduceNeg, Int.reduceMul, Int.reduceAdd, Int.reduceSub, Int.reduceToNat, Int.reducePow]
      exact ⟨⟨_, rfl⟩, 0, by omega, by omega, rfl⟩
    rintro k t _ ⟨k1, ⟨X, rfl⟩, ⟨k2, k3, k4, k5⟩, i, hi, rfl, k6⟩
    rw [← tm_nil t]
    by_cases hc : i < n
    · have a1 : ((i : Int) < (n : Int)) = True := eq_true (by omega)
      have w2 : IntKind.i64.wrap ((i : Int) + 1) = ((i + 1 : Nat) : Int) := by rw [wrap_i64 (by omega) (by omega)]; rfl
      obtain ⟨x1, x2, x3⟩ := g1 i hc
      obtain ⟨y1, y2, y3⟩ := g2 i hc
      obtain ⟨u1, u2, u3⟩ := g3 i hc
      have c5 : ((u1.toNat : Int) != max (x1.toNat : Int) (y1.toNat : Int)) = false := by
        rw [bne_eq_false_iff_eq, x3, y3, u3, hb i]
        omega
      simp only [R1, R2, R3, R4, R5, R6, R7, R8, AV.flat, fillIn_nil, fillIn_cons, splice, AV.cells, AV.one, eqsOf, idx, SO.calls, List.reduceReplicate, Nat.reduceBEq, Nat.reduceLT, Nat.reduceAdd, Nat.reduceMul, Nat.reduceSub, Nat.reduceLeDiff, Nat.reduceEqDiff, ↓reduceIte, Int.reduceLT, Int.reduceEq, Int.reduceBNe, Int.reduceBEq, aeq, Int.reduceLE, Int.reduceNeg, Int.reduceMul, Int.reduceAdd, Int.reduceSub, Int.reduceToNat, Int.reducePow, k1, k2, k3, k4, k5, k6, a1, w2, x2, y2, u2, c5, veil_un, shun_un]
      exact ⟨_, by omega, ⟨_, rfl⟩, i + 1, by omega, rfl, rfl⟩
    · have a1 : ((i : Int) < (n : Int)) = False := eq_false (by omega)
      simp only [R1, R2, R3, R4, R5, R6, R7, R8, AV.flat, fillIn_nil, fillIn_cons, splice, AV.cells, AV.one, eqsOf, idx, SO.calls, List.reduceReplicate, Nat.reduceBEq, Nat.reduceLT, Nat.reduceAdd, Nat.reduceMul, Nat.reduceSub, Nat.reduceLeDiff, Nat.reduceEqDiff, ↓reduceIte, Int.reduceLT, Int.reduceEq, Int.reduceBNe, Int.reduceBEq, aeq, Int.reduceLE, Int.reduceNeg, Int.reduceMul, Int.reduceAdd, Int.reduceSub, Int.reduceToNat, Int.reducePow, k1, k2, k3, k4, k5, k6, a1]
      rw [tidy_bool']
end Go.Proofs.YtbnnfmncipdlpaaDoor
