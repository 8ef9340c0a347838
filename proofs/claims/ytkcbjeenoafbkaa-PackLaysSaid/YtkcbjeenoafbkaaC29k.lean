/- Chapter 29: one size is laid. -/
import Derived.Test.YtkcbjeenoafbkaaC29j
import Derived.Test.YtkcbjeenoafbkaaLeftX
set_option linter.unusedVariables false
set_option linter.unusedSimpArgs false
set_option maxRecDepth 100000
set_option maxHeartbeats 8000000
namespace Go.Proofs.Ytkcbjeenoafbkaa
open Go Go.Den
/-- What comes of it. -/
def LayW (G : Heap) (n0 p : Nat) (pw ph : Int) (o : Option (Nat × Rect × List (List Rect))) (r : AV × Heap) : Prop :=
  match o with
  | none => r = (.tup [.agg [.int .i64 0, .int .i64 0, .int .i64 0], .int .i64 10], G)
  | some (k, q, ps') => ∃ K, r = (.tup [.agg [.int .i64 (k : Int), .int .i64 q.x, .int .i64 q.y], .int .i64 0], K) ∧ PS K n0 p pw ph ps' ∧ KeepP n0 G K
theorem one_cells {v : AV} (h : v.one = true) : v.cells = [v] := by
  cases v <;> first | rfl | (simp [AV.one] at h)
theorem same_low {G A B : Heap} {p : Nat} (h : p < G.length) : sameAt p (G ++ A) (G ++ B) = true := by
  have := @sameAt_same p G
  unfold sameAt at this ⊢
  rw [List.getElem?_append_left h, List.getElem?_append_left h]
  exact this
theorem c63 {G : Heap} {n0 p : Nat} {pw ph w h : Int} {ps : List (List Rect)} (hP : PS G n0 p pw ph ps) (hg : n0 ≤ G.length) (hlen : ps.length ≤ 16) (hB : ∀ k, (ps.getD k []).length ≤ 3000000 ∧ ∀ r ∈ ps.getD k [], May r)
    (hw : 1 ≤ w ∧ w ≤ pw ∧ pw ≤ 1024) (hh : 1 ≤ h ∧ h ≤ ph ∧ ph ≤ 1024) : ∃ r, call env 63 [.ptr p 0, .agg [.int .i64 w, .int .i64 h]] G = some r ∧ LayW G n0 p pw ph (layP ps pw ph w h) r := by
  obtain ⟨hp0, v0, hG, hG0⟩ := hP
  have hpG := get_lt hG
  have l1 := hG0.lenOf
  have ld : ∀ X, aload (G ++ X) 1 (.ptr p 2) = some [v0] := fun X => by rw [aload_row (getElem?_keep hG)]; rfl
  have ld0 : ∀ X, aload (G ++ X) 1 (.ptr p 0) = some [.int .i64 pw] := fun X => by rw [aload_row (getElem?_keep hG)]; rfl
  have ld1 : ∀ X, aload (G ++ X) 1 (.ptr p 1) = some [.int .i64 ph] := fun X => by rw [aload_row (getElem?_keep hG)]; rfl
  refine call_endsE (fn := s63) rfl rfl (by simp [s63]) ?_
  intro W hW
  simp only [s63, R1, R2, R3, R4, R5, R6, R7, R8, AV.flat, fillIn_nil, fillIn_cons, splice, AV.cells, AV.one, eqsOf, idx, SO.calls, List.reduceReplicate, Nat.reduceBEq, Nat.reduceLT, Nat.reduceAdd, Nat.reduceMul, Nat.reduceSub, Nat.reduceLeDiff, Nat.reduceEqDiff, ↓reduceIte, Int.reduceLT, Int.reduceEq, Int.reduceBNe, Int.reduceBEq, aeq, Int.reduceLE, Int.reduceNeg, Int.reduceMul, Int.reduceAdd, Int.reduceSub, Int.reduceToNat, Int.reducePow]
  refine ends_loop (fun k t H' => t.length = 87 ∧ (t.getD 0 .undef = .ptr p 0 ∧ t.getD 3 .undef = .ptr G.length 0 ∧ t.getD 4 .undef = .ptr (G.length + 1) 0) ∧
    ∃ (i : Nat) (X : Heap), i ≤ ps.length ∧ k = ps.length - i ∧ t.getD 6 .undef = .int .i64 (i : Int) ∧ H' = G ++ (szRow w h :: plRow 0 0 0 :: X) ∧ ∀ j, j < i → best (ps.getD j []) w h = none) ps.length ?_ ?_
  · simp only [R1, R2, R3, R4, R5, R6, R7, R8, AV.flat, fillIn_nil, fillIn_cons, splice, AV.cells, AV.one, eqsOf, idx, SO.calls, List.reduceReplicate, Nat.reduceBEq, Nat.reduceLT, Nat.reduceAdd, Nat.reduceMul, Nat.reduceSub, Nat.reduceLeDiff, Nat.reduceEqDiff, ↓reduceIte, Int.reduceLT, Int.reduceEq, Int.reduceBNe, Int.reduceBEq, aeq, Int.reduceLE, Int.reduceNeg, Int.reduceMul, Int.reduceAdd, Int.reduceSub, Int.reduceToNat, Int.reducePow]
    exact ⟨0, [], by omega, by omega, rfl, rfl, fun j hj => by omega⟩
  rintro k t _ ⟨g1, ⟨g2, g3, g4⟩, i, X, hi, rfl, g5, rfl, hno⟩
  rw [ends_seq, ends_block]
  refine ends_mid (fun u K => u.length = 87 ∧ ∃ (G2 X2 : Heap) (v : AV) (M : List (List Rect)), K = G2 ++ (szRow w h :: plRow 0 0 0 :: X2) ∧ (u.getD 0 .undef = .ptr p 0 ∧ u.getD 3 .undef = .ptr G2.length 0 ∧ u.getD 4 .undef = .ptr (G2.length + 1) 0 ∧ u.getD 6 .undef = .int .i64 (i : Int)) ∧
    LayM G n0 p pw ph w h ps i G2 X2 v M) ?_ ?_
  · rw [← tm_nil t]
    by_cases hc : i < ps.length
    · have c1 : ((i : Int) == (ps.length : Int)) = false := by rw [beq_eq_false_iff_ne]; omega
      simp only [R1, R2, R3, R4, R5, R6, R7, R8, AV.flat, fillIn_nil, fillIn_cons, splice, AV.cells, AV.one, eqsOf, idx, SO.calls, List.reduceReplicate, Nat.reduceBEq, Nat.reduceLT, Nat.reduceAdd, Nat.reduceMul, Nat.reduceSub, Nat.reduceLeDiff, Nat.reduceEqDiff, ↓reduceIte, Int.reduceLT, Int.reduceEq, Int.reduceBNe, Int.reduceBEq, aeq, Int.reduceLE, Int.reduceNeg, Int.reduceMul, Int.reduceAdd, Int.reduceSub, Int.reduceToNat, Int.reducePow, g1, g2, g3, g4, g5, ld, l1, c1]
      exact ⟨G, X, v0, ps, rfl, ⟨rfl, rfl⟩, ⟨rfl, hG, hG0.app _, KeepP.refl _ _, .inl ⟨rfl, rfl, hc, hG0⟩⟩⟩
    have hi : i = ps.length := by omega
    have c1 : ((i : Int) == (ps.length : Int)) = true := by rw [beq_iff_eq]; omega
    by_cases h16 : ps.length = 16
    · have c2 : ((i : Int) == 16) = true := by rw [beq_iff_eq]; omega
      have hlay : layP ps pw ph w h = none := by
        unfold layP
        rw [if_pos ⟨firstK_end (fun j hj => hno j (by omega)), h16⟩]
      have fin : ∀ Z, W (tidy G (.tup [.agg [.int .i64 0, .int .i64 0, .int .i64 0], .int .i64 10]) (G ++ Z)) := fun Z => hW _ (by rw [hlay, tidy_still rfl]; rfl)
      simp only [R1, R2, R3, R4, R5, R6, R7, R8, AV.flat, fillIn_nil, fillIn_cons, splice, AV.cells, AV.one, eqsOf, idx, SO.calls, List.reduceReplicate, Nat.reduceBEq, Nat.reduceLT, Nat.reduceAdd, Nat.reduceMul, Nat.reduceSub, Nat.reduceLeDiff, Nat.reduceEqDiff, ↓reduceIte, Int.reduceLT, Int.reduceEq, Int.reduceBNe, Int.reduceBEq, aeq, Int.reduceLE, Int.reduceNeg, Int.reduceMul, Int.reduceAdd, Int.reduceSub, Int.reduceToNat, Int.reducePow, g1, g2, g3, g4, g5, ld, l1, c1, c2, leftE_ret, got_some]
      exact fin _
    · have c2 : ((i : Int) == 16) = false := by rw [beq_eq_false_iff_ne]; omega
      have hsm := fun A B => @same_low G A B p hpG
      have hx : InOk (G ++ ((szRow w h :: plRow 0 0 0 :: (X ++ [AO.cells [.int .i64 0, .int .i64 0, .int .i64 pw, .int .i64 ph] 112 true])) ++ [AO.cells [.sl (G.length + (X.length + 1 + 1)) 0 1 4 (some 1)] 110 true])) n0 (.sl (G.length + (X.length + 1 + 1)) 0 1 4 (some 1)) [⟨0, 0, pw, ph⟩] := by
        refine .inr ⟨by simp, _, some 1, by omega, rfl, ?_⟩
        rw [List.getElem?_append_right (by omega), Nat.add_sub_cancel_left]
        simp [List.getElem?_append, Rect.cs]
      obtain ⟨G2, vs, y1, y2, y3, y4, y5⟩ := hG0.grow hlen hx rfl (q := G.length + (X.length + 1 + 1 + 1)) (by simp) hg
      simp only [List.append_assoc, List.cons_append, List.nil_append] at y4 y5
      have hG2 := y3 p _ hG
      have A := asK y1
      have le3 : (G.length + (X.length + 2 + 1 + 1) ≤ G.length + (X.length + 3 + 1 + 1)) = True := eq_true (by omega)
      have est : ∀ Z, astore (G2 ++ Z) (.ptr p 2) [.sl (G.length + (X.length + 1 + 1 + 1) + 1) 0 (ps.length + 1) 1 none] = some (G2.set p (AO.cells [.int .i64 pw, .int .i64 ph, .sl (G.length + (X.length + 1 + 1 + 1) + 1) 0 (ps.length + 1) 1 none] 106 true) ++ Z) := fun Z => store_at (i := 2) hG2 (by simp) rfl Z
      have z1 : (G2.set p (AO.cells [.int .i64 pw, .int .i64 ph, .sl (G.length + (X.length + 1 + 1 + 1) + 1) 0 (ps.length + 1) 1 none] 106 true)).length = G.length := by rw [List.length_set, y1]
      have z2 : KeepP n0 G (G2.set p (AO.cells [.int .i64 pw, .int .i64 ph, .sl (G.length + (X.length + 1 + 1 + 1) + 1) 0 (ps.length + 1) 1 none] 106 true)) := y2.trans (KeepP.set hG2 hp0 (.inl rfl))
      have z3 : (G2.set p (AO.cells [.int .i64 pw, .int .i64 ph, .sl (G.length + (X.length + 1 + 1 + 1) + 1) 0 (ps.length + 1) 1 none] 106 true))[p]? = some (AO.cells [.int .i64 pw, .int .i64 ph, .sl (G.length + (X.length + 1 + 1 + 1) + 1) 0 (ps.length + 1) 1 none] 106 true) := List.getElem?_set_self (get_lt hG2)
      have z4 := y5.keep (K := G2.set p (AO.cells [.int .i64 pw, .int .i64 ph, .sl (G.length + (X.length + 1 + 1 + 1) + 1) 0 (ps.length + 1) 1 none] 106 true) ++ (szRow w h :: plRow 0 0 0 :: (X ++ [AO.cells [.int .i64 0, .int .i64 0, .int .i64 pw, .int .i64 ph] 112 true, AO.cells [.sl (G.length + (X.length + 1 + 1)) 0 1 4 (some 1)] 110 true, AO.cells vs 110 true]))) (fun j r e he hj => by
        rw [← List.set_append_left _ _ (get_lt hG2), List.getElem?_set_ne]
        · exact hj
        · rintro rfl
          rw [getElem?_keep hG2] at hj
          injection hj with hj
          injection hj with _ hj
          rcases he with rfl | rfl
          · exact absurd hj (by decide)
          · exact absurd hj (by decide))
      generalize G2.set p (AO.cells [.int .i64 pw, .int .i64 ph, .sl (G.length + (X.length + 1 + 1 + 1) + 1) 0 (ps.length + 1) 1 none] 106 true) = G3 at *
      have le4 : (G.length + (X.length + 3 + 1 + 1) ≤ G3.length + (X.length + 3 + 1 + 1)) = True := eq_true (by omega)
      have le1 : (G.length + (X.length + 1 + 1) ≤ G.length + (X.length + 1 + 1 + 1)) = True := eq_true (by omega)
      have le2 : (G.length + (X.length + 1 + 1 + 1) ≤ G.length + (X.length + 2 + 1 + 1)) = True := eq_true (by omega)
      simp only [R1, R2, R3, R4, R5, R6, R7, R8, AV.flat, fillIn_nil, fillIn_cons, splice, AV.cells, AV.one, eqsOf, idx, SO.calls, List.reduceReplicate, Nat.reduceBEq, Nat.reduceLT, Nat.reduceAdd, Nat.reduceMul, Nat.reduceSub, Nat.reduceLeDiff, Nat.reduceEqDiff, ↓reduceIte, Int.reduceLT, Int.reduceEq, Int.reduceBNe, Int.reduceBEq, aeq, Int.reduceLE, Int.reduceNeg, Int.reduceMul, Int.reduceAdd, Int.reduceSub, Int.reduceToNat, Int.reducePow, g1, g2, g3, g4, g5, ld, ld0, ld1, l1, c1, c2, hsm, le1, le2, le3, le4, y4, A, est, veil_un, shun_un]
      exact ⟨G3, _, _, _, rfl, ⟨by rw [z1], by rw [z1]⟩, ⟨z1, z3, z4, z2, .inr ⟨hi, h16, rfl, _, _, rfl, by omega⟩⟩⟩
  · rintro u _ ⟨k1, G2, X2, v, M, rfl, ⟨k2, k3, k4, k5⟩, m⟩
    rw [← tm_nil u]
    have hil := m.lt
    have hall := m.all hB ⟨⟨by omega, by omega⟩, by omega, by omega⟩
    obtain ⟨o, vs, w', ho, hv, h3, h4, hw', ia, lo, hin, h5⟩ := m.pf.at hil
    have hp2 := get_lt m.row
    have ldv : ∀ X, aload (G2 ++ X) 1 (.ptr p 2) = some [v] := fun X => by rw [aload_row (getElem?_keep m.row)]; rfl
    have hsm := fun A B => @same_low G2 A B p hp2
    have lo0 := lo []
    have lo1 := fun a X => lo (a :: X)
    have hbs := c92 hin.sl (by omega) (fun r hr => may_small (hall.2 r hr)) (w := w) (h := h) (by omega) (by omega)
    simp only [List.append_nil] at lo0
    simp only [List.append_assoc, List.cons_append] at lo1
    cases hb : best (M.getD i []) w h with
    | none =>
      have hv4 : bestV (M.getD i []) w h = z4 := by unfold bestV; rw [hb]
      rw [hb, hv4] at hbs
      have w1 : IntKind.i64.wrap ((i : Int) + 1) = ((i + 1 : Nat) : Int) := by rw [wrap_i64 (by omega) (by omega)]; rfl
      rcases m.case with ⟨rfl, rfl, hl, _⟩ | ⟨rfl, _, rfl, _⟩
      rotate_left
      · exfalso
        rw [List.getD, List.getElem?_append_right (Nat.le_refl _), Nat.sub_self] at hb
        simp only [List.getElem?_cons_zero, Option.getD_some] at hb
        rw [best_whole hw.2.1 hh.2.1] at hb
        cases hb
      simp only [Option.isSome_none, Rect.cs, z4] at hbs
      simp only [R1, R2, R3, R4, R5, R6, R7, R8, AV.flat, fillIn_nil, fillIn_cons, splice, AV.cells, AV.one, eqsOf, idx, SO.calls, List.reduceReplicate, Nat.reduceBEq, Nat.reduceLT, Nat.reduceAdd, Nat.reduceMul, Nat.reduceSub, Nat.reduceLeDiff, Nat.reduceEqDiff, ↓reduceIte, Int.reduceLT, Int.reduceEq, Int.reduceBNe, Int.reduceBEq, aeq, Int.reduceLE, Int.reduceNeg, Int.reduceMul, Int.reduceAdd, Int.reduceSub, Int.reduceToNat, Int.reducePow, k1, k2, k3, k4, k5, ldv, ia, lo0, hbs, w1, veil_un, shun_un]
      exact ⟨_, by omega, i + 1, _, by omega, rfl, rfl, rfl, fun j hj => by
        by_cases hji : j = i
        · subst hji; exact hb
        · exact hno j (by omega)⟩
    | some j =>
      have hlay := m.lays hno hb
      obtain ⟨hj, hfit⟩ := bestAt_lt hb
      have hv4 : bestV (M.getD i []) w h = nth (M.getD i []) j := by unfold bestV; rw [hb]
      rw [hb, hv4] at hbs
      have hmay := hall.2 _ (nth_mem hj)
      simp only [Option.isSome_some] at hbs
      obtain ⟨c, X3, ec, hc⟩ := c94 ⟨(nth (M.getD i []) j).x, (nth (M.getD i []) j).y, w, h⟩ (hin.sl.app [AO.cells (nth (M.getD i []) j).cs 112 true, AO.cells [.int .i64 (nth (M.getD i []) j).x, .int .i64 (nth (M.getD i []) j).y, .int .i64 w, .int .i64 h] 112 true]) (by omega)
      have hcl : (cutAll ((M.getD i []).filter may) ⟨(nth (M.getD i []) j).x, (nth (M.getD i []) j).y, w, h⟩).length ≤ 100000000 := by
        have hf := List.length_filter_le may (M.getD i [])
        unfold cutAll
        split
        · have := cutTo_len ⟨(nth (M.getD i []) j).x, (nth (M.getD i []) j).y, w, h⟩ ((M.getD i []).filter may)
          omega
        · omega
      have ep := c93 hc hcl
      have hcut : prune ((cutAll ((M.getD i []).filter may) ⟨(nth (M.getD i []) j).x, (nth (M.getD i []) j).y, w, h⟩).filter may) = cutP (M.getD i []) ⟨(nth (M.getD i []) j).x, (nth (M.getD i []) j).y, w, h⟩ := rfl
      rw [hcut] at ep
      obtain ⟨n1, n2, n3⟩ := newSl_in (K := G2 ++ (szRow w h :: plRow 0 0 0 :: X2) ++ [AO.cells (nth (M.getD i []) j).cs 112 true, AO.cells [.int .i64 (nth (M.getD i []) j).x, .int .i64 (nth (M.getD i []) j).y, .int .i64 w, .int .i64 h] 112 true] ++ X3) (n0 := n0) (l := cutP (M.getD i []) ⟨(nth (M.getD i []) j).x, (nth (M.getD i []) j).y, w, h⟩) (by simp; have := m.len; omega) []
      generalize hS : newSl (G2 ++ (szRow w h :: plRow 0 0 0 :: X2) ++ [AO.cells (nth (M.getD i []) j).cs 112 true, AO.cells [.int .i64 (nth (M.getD i []) j).x, .int .i64 (nth (M.getD i []) j).y, .int .i64 w, .int .i64 h] 112 true] ++ X3) 112 4 Rect.cs (cutP (M.getD i []) ⟨(nth (M.getD i []) j).x, (nth (M.getD i []) j).y, w, h⟩) = S at *
      obtain ⟨w2, Y⟩ := S
      simp only [List.append_nil] at n1 n2 n3 ep
      generalize hl2 : cutP (M.getD i []) ⟨(nth (M.getD i []) j).x, (nth (M.getD i []) j).y, w, h⟩ = l2 at *
      have hend := fun pa pb pc => lay_end (Z := AO.cells (nth (M.getD i []) j).cs 112 true :: AO.cells [.int .i64 (nth (M.getD i []) j).x, .int .i64 (nth (M.getD i []) j).y, .int .i64 w, .int .i64 h] 112 true :: (X3 ++ Y)) (w2 := w2) (l := l2) (pa := pa) (pb := pb) (pc := pc) (r := [.agg [.int .i64 pa, .int .i64 pb, .int .i64 pc], .int .i64 0]) m hp0 hg hG hG0 hv ho h3 h4 h5
        (by simpa only [List.append_assoc, List.cons_append, List.nil_append] using n1) (n3.imp id fun ⟨n, c, e⟩ => ⟨_, n, c, e, by simp⟩) rfl
      have ecs := one_cells n2
      simp only [AV.cells] at ecs
      have le1 : (G2.length + (X2.length + 2 + 1 + 1) ≤ G2.length + (X2.length + (X3.length + 1 + 1) + 1 + 1)) = True := eq_true (by omega)
      have le2 : (G2.length + (X2.length + (X3.length + 1 + 1) + 1 + 1) ≤ G2.length + (X2.length + (X3.length + Y.length + 1 + 1) + 1 + 1)) = True := eq_true (by omega)
      have est := fun X => store_at (i := i) h3 (by omega) n2 X
      have hpl : (G2 ++ (szRow w h :: plRow 0 0 0 :: X2))[G2.length + 1]? = some (plRow 0 0 0) := by
        rw [List.getElem?_append_right (by omega), Nat.add_sub_cancel_left]; rfl
      have hop : o ≠ G2.length + 1 := by
        rintro rfl
        rw [hpl] at h3
        injection h3 with h3
        injection h3 with _ h3
        exact absurd h3 (by decide)
      have hK2 : ((G2 ++ (szRow w h :: plRow 0 0 0 :: X2)).set o (AO.cells (vs.set i w2) 110 true)).length = G2.length + (X2.length + 1 + 1) := by simp
      have hpl2 : ((G2 ++ (szRow w h :: plRow 0 0 0 :: X2)).set o (AO.cells (vs.set i w2) 110 true))[G2.length + 1]? = some (plRow 0 0 0) := by
        rw [List.getElem?_set_ne hop]; exact hpl
      generalize (G2 ++ (szRow w h :: plRow 0 0 0 :: X2)).set o (AO.cells (vs.set i w2) 110 true) = K2 at *
      have esp : ∀ (a b c : Int) X, astore (K2 ++ X) (.ptr (G2.length + 1) 0) [.int .i64 a, .int .i64 b, .int .i64 c] = some (K2.set (G2.length + 1) (plRow a b c) ++ X) := fun a b c X => by
        rw [astore_row (getElem?_keep hpl2), if_pos ⟨by simp, rfl⟩, List.set_append_left _ _ (get_lt hpl2)]; rfl
      have elp : ∀ (a b c : Int) X, aload (K2.set (G2.length + 1) (plRow a b c) ++ X) 3 (.ptr (G2.length + 1) 0) = some [.int .i64 a, .int .i64 b, .int .i64 c] := fun a b c X => by
        rw [aload_row (getElem?_keep (List.getElem?_set_self (get_lt hpl2)))]; rfl
      have el2 : ∀ n off X, aload (K2 ++ X) n (.ptr (G2.length + (X2.length + 1 + 1)) off) = aload X n (.ptr 0 off) := fun n off X => by rw [← hK2]; exact aload_end0
      have le3 : (G2.length + (X2.length + (X3.length + Y.length + 1 + 1) + 1 + 1) ≤ K2.length + (X3.length + Y.length + 1 + 1)) = True := eq_true (by omega)
      generalize nth (M.getD i []) j = q at *
      obtain ⟨q1, q2, q3, q4⟩ := q
      simp only [Rect.cs, List.append_assoc, List.cons_append, List.nil_append] at hbs ec ep est
      simp only [R1, R2, R3, R4, R5, R6, R7, R8, AV.flat, fillIn_nil, fillIn_cons, splice, AV.cells, AV.one, eqsOf, idx, SO.calls, List.reduceReplicate, Nat.reduceBEq, Nat.reduceLT, Nat.reduceAdd, Nat.reduceMul, Nat.reduceSub, Nat.reduceLeDiff, Nat.reduceEqDiff, ↓reduceIte, Int.reduceLT, Int.reduceEq, Int.reduceBNe, Int.reduceBEq, aeq, Int.reduceLE, Int.reduceNeg, Int.reduceMul, Int.reduceAdd, Int.reduceSub, Int.reduceToNat, Int.reducePow, k1, k2, k3, k4, k5, ldv, ia, lo0, lo1, hbs, ec, ep, hsm, le1, le2, le3, ecs, est, esp, elp, el2, veil_un, shun_un, leftE_ret, got_some]
      simp only [Rect.cs] at hend
      obtain ⟨K, z1, z2, z3⟩ := hend (i : Int) q1 q2
      rw [z1]
      exact hW _ (by rw [hlay]; exact ⟨K, rfl, z2, z3⟩)
end Go.Proofs.Ytkcbjeenoafbkaa
