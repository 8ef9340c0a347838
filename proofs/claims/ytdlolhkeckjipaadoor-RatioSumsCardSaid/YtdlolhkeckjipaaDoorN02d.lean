/- Chapter 02, the document's numbers: Neg, Add, Sub, Sign, Cmp. -/
import Derived.Test.YtdlolhkeckjipaaDoorN02c
set_option linter.unusedVariables false
set_option linter.unusedSimpArgs false
set_option maxRecDepth 100000
set_option maxHeartbeats 8000000
namespace Go.Proofs.YtdlolhkeckjipaaDoor
open Go Go.Den
theorem num_val {b : Bool} {N : Nat} {z : Int} (h1 : N = z.natAbs) (h2 : z.natAbs ≠ 0 → b = decide (z < 0)) : (b && decide (N ≠ 0)) = decide (z < 0) := by
  subst h1
  by_cases h : z.natAbs = 0
  · rw [decide_eq_false (show ¬ z.natAbs ≠ 0 from fun h' => h' h), decide_eq_false (by omega)]; simp
  · rw [decide_eq_true h, h2 h]; simp
theorem num_zero {a b : AV} {w : Bool} {H : Heap} {x : Int} {v : AV} (h : NumOf H v x) : Kept 45 [AO.cells [a, b] 61 w] [AO.cells [a, b] 61 w] := .refl _
theorem c54 {H : Heap} {a : AV} {x : Int} (h : NumOf H a x) (hn : nd x ≤ 50000) : ∃ r, NumOf H r (-x) ∧ ∀ X, call env 54 [a] (H ++ X) = some (r, H ++ X) := by
  obtain ⟨w, rfl, h1⟩ := h
  unfold nd at hn
  obtain ⟨w', h2, e1⟩ := c55 h1 (dig_digs _) (by omega) (!decide (x < 0))
  rw [val_digs] at h2 e1
  rw [num_val (z := -x) (by omega) (fun _ => by by_cases h : x < 0 <;> simp [h] <;> omega)] at e1
  refine ⟨.agg [.bool (decide (-x < 0)), w'], ⟨w', rfl, by rw [show (-x).natAbs = x.natAbs by omega]; exact h2⟩, fun X => ?_⟩
  obtain ⟨z1, z2, _⟩ := t_cell h1
  obtain ⟨z3, z4, _⟩ := t_cell h2
  simp only [AV.cells, AV.one] at z1 z2 z3 z4
  refine call_ends (fn := s54) rfl rfl (by simp [s54]) ?_
  have t1 := fun Y => old_tidy (Cx.agg [.bool (decide (-x < 0))] [] rfl rfl Cx.here) (h2.app X) Y
  simp only [List.append_assoc, List.cons_append, List.nil_append] at t1
  generalize decide (x < 0) = b1 at *
  generalize decide (-x < 0) = b2 at *
  simp only [s54, R1, R2, R3, R4, R5, R6, R7, R8, AV.flat, fillIn_nil, fillIn_cons, splice, AV.cells, AV.one, eqsOf, idx, SO.calls, List.reduceReplicate, Nat.reduceBEq, Nat.reduceLT, Nat.reduceAdd, Nat.reduceMul, Nat.reduceSub, Nat.reduceLeDiff, Nat.reduceEqDiff, ↓reduceIte, Int.reduceLT, Int.reduceEq, Int.reduceBNe, Int.reduceBEq, aeq, Int.reduceLE, Int.reduceNeg, Int.reduceMul, Int.reduceAdd, Int.reduceSub, Int.reduceToNat, Int.reducePow, e1, z1, z2, z3, z4, t1]
def sgn (x : Int) : Int := if x = 0 then 0 else if x < 0 then -1 else 1
theorem c52 {H : Heap} {a : AV} {x : Int} (h : NumOf H a x) (hn : nd x ≤ 50000) (X : Heap) : call env 52 [a] (H ++ X) = some (.int .i64 (sgn x), H ++ X) := by
  obtain ⟨w, rfl, h1⟩ := h
  obtain ⟨z1, z2, _⟩ := t_cell h1
  simp only [AV.cells, AV.one] at z1 z2
  have l1 := h1.of.lenOf
  refine call_ends (fn := s52) rfl rfl (by simp [s52]) ?_
  unfold sgn
  by_cases h0 : x = 0
  · have a1 : (((digs x.natAbs).length : Int) == 0) = true := by
      have := (digs_nil (n := x.natAbs)).2 (by omega)
      rw [beq_iff_eq]; omega
    rw [if_pos h0]
    simp only [s52, R1, R2, R3, R4, R5, R6, R7, R8, AV.flat, fillIn_nil, fillIn_cons, splice, AV.cells, AV.one, eqsOf, idx, SO.calls, List.reduceReplicate, Nat.reduceBEq, Nat.reduceLT, Nat.reduceAdd, Nat.reduceMul, Nat.reduceSub, Nat.reduceLeDiff, Nat.reduceEqDiff, ↓reduceIte, Int.reduceLT, Int.reduceEq, Int.reduceBNe, Int.reduceBEq, aeq, Int.reduceLE, Int.reduceNeg, Int.reduceMul, Int.reduceAdd, Int.reduceSub, Int.reduceToNat, Int.reducePow, z1, z2, l1, a1]
    rw [← List.append_assoc, tidy_int']
  · have a1 : (((digs x.natAbs).length : Int) == 0) = false := by
      have : ¬ (digs x.natAbs).length = 0 := fun h => h0 (by have := digs_nil.1 h; omega)
      rw [beq_eq_false_iff_ne]; omega
    rw [if_neg h0]
    by_cases hx : x < 0
    · rw [if_pos hx, decide_eq_true hx]
      simp only [s52, R1, R2, R3, R4, R5, R6, R7, R8, AV.flat, fillIn_nil, fillIn_cons, splice, AV.cells, AV.one, eqsOf, idx, SO.calls, List.reduceReplicate, Nat.reduceBEq, Nat.reduceLT, Nat.reduceAdd, Nat.reduceMul, Nat.reduceSub, Nat.reduceLeDiff, Nat.reduceEqDiff, ↓reduceIte, Int.reduceLT, Int.reduceEq, Int.reduceBNe, Int.reduceBEq, aeq, Int.reduceLE, Int.reduceNeg, Int.reduceMul, Int.reduceAdd, Int.reduceSub, Int.reduceToNat, Int.reducePow, z1, z2, l1, a1]
      rw [← List.append_assoc, tidy_int']
    · rw [if_neg hx, decide_eq_false hx]
      simp only [s52, R1, R2, R3, R4, R5, R6, R7, R8, AV.flat, fillIn_nil, fillIn_cons, splice, AV.cells, AV.one, eqsOf, idx, SO.calls, List.reduceReplicate, Nat.reduceBEq, Nat.reduceLT, Nat.reduceAdd, Nat.reduceMul, Nat.reduceSub, Nat.reduceLeDiff, Nat.reduceEqDiff, ↓reduceIte, Int.reduceLT, Int.reduceEq, Int.reduceBNe, Int.reduceBEq, aeq, Int.reduceLE, Int.reduceNeg, Int.reduceMul, Int.reduceAdd, Int.reduceSub, Int.reduceToNat, Int.reducePow, z1, z2, l1, a1]
      rw [← List.append_assoc, tidy_int']
abbrev BX (a b : AV) : AO := .cells [a, b] 61 true
/-- What stands behind plus or minus in Add: one form, stored, the call's end. -/
theorem add_end {H X : Heap} {B1 B2 : AO} {r : AV} {O : List Nat} {b : Bool} {z : Int} (h : DOf (H ++ (B1 :: B2 :: BX (.bool false) .nils :: X)) r O) (hO : Dig O) (hl : O.length ≤ 100000) (hv : val O = z.natAbs) (hb : z.natAbs ≠ 0 → b = decide (z < 0)) :
    ∃ w, w.cells = [w] ∧ w.one = true ∧ call env 55 [.bool b, r] (H ++ (B1 :: B2 :: BX (.bool false) .nils :: X)) = some (.agg [.bool (decide (z < 0)), w], H ++ (B1 :: B2 :: BX (.bool false) .nils :: X)) ∧
      Makes H z (tidy H (.agg [.bool (decide (z < 0)), w]) (H ++ (B1 :: B2 :: BX (.bool (decide (z < 0))) w :: X))).1 (tidy H (.agg [.bool (decide (z < 0)), w]) (H ++ (B1 :: B2 :: BX (.bool (decide (z < 0))) w :: X))).2 := by
  obtain ⟨w, h2, e1⟩ := c55 h hO hl b
  obtain ⟨z1, z2, _⟩ := t_cell h2
  have e1 := e1 []
  rw [List.append_nil, num_val (z := z) hv hb] at e1
  rw [hv] at h2
  have hbox : DOf (H ++ (B1 :: B2 :: BX (.bool (decide (z < 0))) w :: X)) w (digs z.natAbs) := h2.kept (.on (.same (.same (.box (by decide) (.refl _)))))
  obtain ⟨w', X', t1, t2⟩ := t_tidy (Cx.agg [.bool (decide (z < 0))] [] rfl rfl Cx.here) hbox
  simp only [List.cons_append, List.nil_append] at t1
  refine ⟨w, z1, z2, e1, ?_⟩
  rw [t1]
  exact ⟨X', rfl, w', rfl, t2⟩
theorem c40 {H : Heap} {a b : AV} {x y : Int} (h1 : NumOf H a x) (h2 : NumOf H b y) (hn1 : nd x ≤ 40000) (hn2 : nd y ≤ 40000) : Comes (call env 40 [a, b] H) (Makes H (x + y)) := by
  obtain ⟨v, rfl, h1⟩ := h1
  obtain ⟨w, rfl, h2⟩ := h2
  unfold nd at hn1 hn2
  obtain ⟨z1, z2, _⟩ := t_cell h1
  obtain ⟨z3, z4, _⟩ := t_cell h2
  simp only [AV.cells, AV.one] at z1 z2 z3 z4
  have l1 := h1.app [BX (.bool (decide (x < 0))) v, BX (.bool (decide (y < 0))) w, BX (.bool false) .nils]
  have l2 := h2.app [BX (.bool (decide (x < 0))) v, BX (.bool (decide (y < 0))) w, BX (.bool false) .nils]
  have e1 := fun X => c57 h1 h2 (by omega) (by omega) X
  refine comes_call (fn := s40) rfl rfl (by simp [s40]) ?_
  by_cases hs : decide (x < 0) = decide (y < 0)
  · have a1 : (decide (x < 0) == decide (y < 0)) = true := by rw [beq_iff_eq]; exact hs
    have hp := c56 l1 l2 (dig_digs _) (dig_digs _) (by omega) (by omega)
    rw [val_digs, val_digs] at hp
    have hz : x.natAbs + y.natAbs = (x + y).natAbs := by
      by_cases hx : x < 0
      · have : y < 0 := by simpa [hx] using hs
        omega
      · have : ¬ y < 0 := by simpa [hx] using hs
        omega
    have hb : (x + y).natAbs ≠ 0 → decide (x < 0) = decide (x + y < 0) := fun h => by
      by_cases hx : x < 0
      · have : y < 0 := by simpa [hx] using hs
        rw [decide_eq_true hx, decide_eq_true (by omega)]
      · have : ¬ y < 0 := by simpa [hx] using hs
        rw [decide_eq_false hx, decide_eq_false (by omega)]
    generalize decide (x < 0) = b1 at *
    generalize decide (y < 0) = b2 at *
    simp only [s40, R1, R2, R3, R4, R5, R6, R7, R8, AV.flat, fillIn_nil, fillIn_cons, splice, AV.cells, AV.one, eqsOf, idx, SO.calls, List.reduceReplicate, Nat.reduceBEq, Nat.reduceLT, Nat.reduceAdd, Nat.reduceMul, Nat.reduceSub, Nat.reduceLeDiff, Nat.reduceEqDiff, ↓reduceIte, Int.reduceLT, Int.reduceEq, Int.reduceBNe, Int.reduceBEq, aeq, Int.reduceLE, Int.reduceNeg, Int.reduceMul, Int.reduceAdd, Int.reduceSub, Int.reduceToNat, Int.reducePow, z1, z2, z3, z4, a1]
    refine gets_comesA hp ?_ ?_ ?_
    · rintro r H1 ⟨X, O, rfl, q1, q2, q3, q4⟩
      simp
    · rintro r H1 ⟨X, O, rfl, q1, q2, q3, q4⟩
      simp only [R1, R2, R3, R4, R5, R6, R7, R8, AV.flat, fillIn_nil, fillIn_cons, splice, AV.cells, AV.one, eqsOf, idx, SO.calls, List.reduceReplicate, Nat.reduceBEq, Nat.reduceLT, Nat.reduceAdd, Nat.reduceMul, Nat.reduceSub, Nat.reduceLeDiff, Nat.reduceEqDiff, ↓reduceIte, Int.reduceLT, Int.reduceEq, Int.reduceBNe, Int.reduceBEq, aeq, Int.reduceLE, Int.reduceNeg, Int.reduceMul, Int.reduceAdd, Int.reduceSub, Int.reduceToNat, Int.reducePow]
    · rintro r H1 ⟨X, O, rfl, q1, q2, q3, q4⟩
      simp only [List.append_assoc, List.cons_append, List.nil_append] at q1
      obtain ⟨u, u1, u2, u3, u4⟩ := add_end (b := b1) (z := x + y) q1 q2 (by omega) (by rw [q3, hz]) hb
      simp only [AV.cells, AV.one] at u1 u2
      generalize decide (x + y < 0) = b3 at *
      simp only [R1, R2, R3, R4, R5, R6, R7, R8, AV.flat, fillIn_nil, fillIn_cons, splice, AV.cells, AV.one, eqsOf, idx, SO.calls, List.reduceReplicate, Nat.reduceBEq, Nat.reduceLT, Nat.reduceAdd, Nat.reduceMul, Nat.reduceSub, Nat.reduceLeDiff, Nat.reduceEqDiff, ↓reduceIte, Int.reduceLT, Int.reduceEq, Int.reduceBNe, Int.reduceBEq, aeq, Int.reduceLE, Int.reduceNeg, Int.reduceMul, Int.reduceAdd, Int.reduceSub, Int.reduceToNat, Int.reducePow, u1, u2, u3, leftE_ret, got_some]
      exact u4
  · have a1 : (decide (x < 0) == decide (y < 0)) = false := by rw [beq_eq_false_iff_ne]; exact hs
    have le := fun h => digs_mono (a := y.natAbs) (b := x.natAbs) h
    have le2 := fun h => digs_mono (a := x.natAbs) (b := y.natAbs) h
    have hs' : (x < 0 ∧ ¬ y < 0) ∨ (¬ x < 0 ∧ y < 0) := by
      by_cases hx : x < 0
      · by_cases hy : y < 0
        · exact absurd (by rw [decide_eq_true hx, decide_eq_true hy]) hs
        · exact .inl ⟨hx, hy⟩
      · by_cases hy : y < 0
        · exact .inr ⟨hx, hy⟩
        · exact absurd (by rw [decide_eq_false hx, decide_eq_false hy]) hs
    by_cases hc : y.natAbs ≤ x.natAbs
    · have a2 : (cmpN x.natAbs y.natAbs ≥ 0) = True := eq_true (by unfold cmpN; split <;> (try split) <;> omega)
      have hp := c58 l1 l2 (dig_digs _) (dig_digs _) (by omega) (le hc) (by rw [val_digs, val_digs]; exact hc)
      rw [val_digs, val_digs] at hp
      have hz : x.natAbs - y.natAbs = (x + y).natAbs := by omega
      have hb : (x + y).natAbs ≠ 0 → decide (x < 0) = decide (x + y < 0) := fun h => by
        by_cases hx : x < 0
        · rw [decide_eq_true hx, decide_eq_true (by omega)]
        · rw [decide_eq_false hx, decide_eq_false (by omega)]
      generalize decide (x < 0) = b1 at *
      generalize decide (y < 0) = b2 at *
      simp only [s40, R1, R2, R3, R4, R5, R6, R7, R8, AV.flat, fillIn_nil, fillIn_cons, splice, AV.cells, AV.one, eqsOf, idx, SO.calls, List.reduceReplicate, Nat.reduceBEq, Nat.reduceLT, Nat.reduceAdd, Nat.reduceMul, Nat.reduceSub, Nat.reduceLeDiff, Nat.reduceEqDiff, ↓reduceIte, Int.reduceLT, Int.reduceEq, Int.reduceBNe, Int.reduceBEq, aeq, Int.reduceLE, Int.reduceNeg, Int.reduceMul, Int.reduceAdd, Int.reduceSub, Int.reduceToNat, Int.reducePow, z1, z2, z3, z4, a1, a2, e1]
      refine gets_comesA hp ?_ ?_ ?_
      · rintro r H1 ⟨X, O, rfl, q1, q2, q3, q4⟩
        simp
      · rintro r H1 ⟨X, O, rfl, q1, q2, q3, q4⟩
        simp only [R1, R2, R3, R4, R5, R6, R7, R8, AV.flat, fillIn_nil, fillIn_cons, splice, AV.cells, AV.one, eqsOf, idx, SO.calls, List.reduceReplicate, Nat.reduceBEq, Nat.reduceLT, Nat.reduceAdd, Nat.reduceMul, Nat.reduceSub, Nat.reduceLeDiff, Nat.reduceEqDiff, ↓reduceIte, Int.reduceLT, Int.reduceEq, Int.reduceBNe, Int.reduceBEq, aeq, Int.reduceLE, Int.reduceNeg, Int.reduceMul, Int.reduceAdd, Int.reduceSub, Int.reduceToNat, Int.reducePow]
      · rintro r H1 ⟨X, O, rfl, q1, q2, q3, q4⟩
        simp only [List.append_assoc, List.cons_append, List.nil_append] at q1
        obtain ⟨u, u1, u2, u3, u4⟩ := add_end (b := b1) (z := x + y) q1 q2 (by omega) (by rw [q3, hz]) hb
        simp only [AV.cells, AV.one] at u1 u2
        generalize decide (x + y < 0) = b3 at *
        simp only [R1, R2, R3, R4, R5, R6, R7, R8, AV.flat, fillIn_nil, fillIn_cons, splice, AV.cells, AV.one, eqsOf, idx, SO.calls, List.reduceReplicate, Nat.reduceBEq, Nat.reduceLT, Nat.reduceAdd, Nat.reduceMul, Nat.reduceSub, Nat.reduceLeDiff, Nat.reduceEqDiff, ↓reduceIte, Int.reduceLT, Int.reduceEq, Int.reduceBNe, Int.reduceBEq, aeq, Int.reduceLE, Int.reduceNeg, Int.reduceMul, Int.reduceAdd, Int.reduceSub, Int.reduceToNat, Int.reducePow, u1, u2, u3, leftE_ret, got_some]
        exact u4
    · have a2 : (cmpN x.natAbs y.natAbs ≥ 0) = False := eq_false (by unfold cmpN; split <;> (try split) <;> omega)
      have hp := c58 l2 l1 (dig_digs _) (dig_digs _) (by omega) (le2 (by omega)) (by rw [val_digs, val_digs]; omega)
      rw [val_digs, val_digs] at hp
      have hz : y.natAbs - x.natAbs = (x + y).natAbs := by omega
      have hb : (x + y).natAbs ≠ 0 → decide (y < 0) = decide (x + y < 0) := fun h => by
        by_cases hx : y < 0
        · rw [decide_eq_true hx, decide_eq_true (by omega)]
        · rw [decide_eq_false hx, decide_eq_false (by omega)]
      generalize decide (x < 0) = b1 at *
      generalize decide (y < 0) = b2 at *
      simp only [s40, R1, R2, R3, R4, R5, R6, R7, R8, AV.flat, fillIn_nil, fillIn_cons, splice, AV.cells, AV.one, eqsOf, idx, SO.calls, List.reduceReplicate, Nat.reduceBEq, Nat.reduceLT, Nat.reduceAdd, Nat.reduceMul, Nat.reduceSub, Nat.reduceLeDiff, Nat.reduceEqDiff, ↓reduceIte, Int.reduceLT, Int.reduceEq, Int.reduceBNe, Int.reduceBEq, aeq, Int.reduceLE, Int.reduceNeg, Int.reduceMul, Int.reduceAdd, Int.reduceSub, Int.reduceToNat, Int.reducePow, z1, z2, z3, z4, a1, a2, e1]
      refine gets_comesA hp ?_ ?_ ?_
      · rintro r H1 ⟨X, O, rfl, q1, q2, q3, q4⟩
        simp
      · rintro r H1 ⟨X, O, rfl, q1, q2, q3, q4⟩
        simp only [R1, R2, R3, R4, R5, R6, R7, R8, AV.flat, fillIn_nil, fillIn_cons, splice, AV.cells, AV.one, eqsOf, idx, SO.calls, List.reduceReplicate, Nat.reduceBEq, Nat.reduceLT, Nat.reduceAdd, Nat.reduceMul, Nat.reduceSub, Nat.reduceLeDiff, Nat.reduceEqDiff, ↓reduceIte, Int.reduceLT, Int.reduceEq, Int.reduceBNe, Int.reduceBEq, aeq, Int.reduceLE, Int.reduceNeg, Int.reduceMul, Int.reduceAdd, Int.reduceSub, Int.reduceToNat, Int.reducePow]
      · rintro r H1 ⟨X, O, rfl, q1, q2, q3, q4⟩
        simp only [List.append_assoc, List.cons_append, List.nil_append] at q1
        obtain ⟨u, u1, u2, u3, u4⟩ := add_end (b := b2) (z := x + y) q1 q2 (by omega) (by rw [q3, hz]) hb
        simp only [AV.cells, AV.one] at u1 u2
        generalize decide (x + y < 0) = b3 at *
        simp only [R1, R2, R3, R4, R5, R6, R7, R8, AV.flat, fillIn_nil, fillIn_cons, splice, AV.cells, AV.one, eqsOf, idx, SO.calls, List.reduceReplicate, Nat.reduceBEq, Nat.reduceLT, Nat.reduceAdd, Nat.reduceMul, Nat.reduceSub, Nat.reduceLeDiff, Nat.reduceEqDiff, ↓reduceIte, Int.reduceLT, Int.reduceEq, Int.reduceBNe, Int.reduceBEq, aeq, Int.reduceLE, Int.reduceNeg, Int.reduceMul, Int.reduceAdd, Int.reduceSub, Int.reduceToNat, Int.reducePow, u1, u2, u3, leftE_ret, got_some]
        exact u4
theorem num_cells {H : Heap} {a : AV} {x : Int} (h : NumOf H a x) : ∃ w, a = .agg [.bool (decide (x < 0)), w] ∧ w.cells = [w] ∧ w.one = true := by
  obtain ⟨w, rfl, h1⟩ := h
  obtain ⟨z1, z2, _⟩ := t_cell h1
  exact ⟨w, rfl, z1, z2⟩
theorem nd_neg (x : Int) : nd (-x) = nd x := by unfold nd; rw [Int.natAbs_neg]
theorem nd_add (x y : Int) : nd (x + y) ≤ max (nd x) (nd y) + 1 := by
  unfold nd
  exact Nat.le_trans (digs_mono (show (x + y).natAbs ≤ x.natAbs + y.natAbs by omega)) (digs_add _ _)
theorem nd_sub (x y : Int) : nd (x - y) ≤ max (nd x) (nd y) + 1 := by
  have := nd_add x (-y)
  rw [nd_neg] at this
  exact this
/-- A number that was made, behind the call: it goes where it goes. -/
theorem makes_tidy {H X : Heap} {a : AV} {x : Int} (h : NumOf (H ++ X) a x) : Makes H x (tidy H a (H ++ X)).1 (tidy H a (H ++ X)).2 := by
  obtain ⟨w, rfl, h1⟩ := h
  obtain ⟨w', X', t1, t2⟩ := t_tidy (Cx.agg [.bool (decide (x < 0))] [] rfl rfl Cx.here) h1
  simp only [List.cons_append, List.nil_append] at t1
  rw [t1]
  exact ⟨X', rfl, w', rfl, t2⟩
theorem c38 {H : Heap} {a b : AV} {x y : Int} (h1 : NumOf H a x) (h2 : NumOf H b y) (hn1 : nd x ≤ 40000) (hn2 : nd y ≤ 40000) : Comes (call env 38 [a, b] H) (Makes H (x - y)) := by
  obtain ⟨n, h3, e1⟩ := c54 h2 (by omega)
  obtain ⟨v, rfl, z1, z2⟩ := num_cells h1
  obtain ⟨w, rfl, z3, z4⟩ := num_cells h2
  simp only [AV.cells, AV.one] at z1 z2 z3 z4
  have hp := fun X => c40 (h1.kept (.more H X)) (h3.kept (.more H X)) hn1 (by rw [nd_neg]; exact hn2)
  rw [← Int.sub_eq_add_neg] at hp
  refine comes_call (fn := s38) rfl rfl (by simp [s38]) ?_
  generalize decide (x < 0) = b1 at *
  generalize decide (y < 0) = b2 at *
  simp only [s38, R1, R2, R3, R4, R5, R6, R7, R8, AV.flat, fillIn_nil, fillIn_cons, splice, AV.cells, AV.one, eqsOf, idx, SO.calls, List.reduceReplicate, Nat.reduceBEq, Nat.reduceLT, Nat.reduceAdd, Nat.reduceMul, Nat.reduceSub, Nat.reduceLeDiff, Nat.reduceEqDiff, ↓reduceIte, Int.reduceLT, Int.reduceEq, Int.reduceBNe, Int.reduceBEq, aeq, Int.reduceLE, Int.reduceNeg, Int.reduceMul, Int.reduceAdd, Int.reduceSub, Int.reduceToNat, Int.reducePow, z1, z2, z3, z4, e1]
  refine gets_comesAll (hp _) ?_ ?_
  · rintro r H1 ⟨X, rfl, q⟩
    simp
  · rintro r H1 ⟨X, rfl, q⟩
    simp only [List.append_assoc, List.cons_append, List.nil_append] at q
    obtain ⟨u, rfl, u1, u2⟩ := num_cells q
    simp only [AV.cells, AV.one] at u1 u2
    have q2 : NumOf (H ++ (BX (.bool b1) v :: BX (.bool b2) w :: BX (.bool (decide (x - y < 0))) u :: X)) _ (x - y) := q.kept (.on (.same (.same (.box (by decide) (.refl _)))))
    have q3 := makes_tidy q2
    generalize decide (x - y < 0) = b3 at *
    simp only [R1, R2, R3, R4, R5, R6, R7, R8, AV.flat, fillIn_nil, fillIn_cons, splice, AV.cells, AV.one, eqsOf, idx, SO.calls, List.reduceReplicate, Nat.reduceBEq, Nat.reduceLT, Nat.reduceAdd, Nat.reduceMul, Nat.reduceSub, Nat.reduceLeDiff, Nat.reduceEqDiff, ↓reduceIte, Int.reduceLT, Int.reduceEq, Int.reduceBNe, Int.reduceBEq, aeq, Int.reduceLE, Int.reduceNeg, Int.reduceMul, Int.reduceAdd, Int.reduceSub, Int.reduceToNat, Int.reducePow, u1, u2, leftE_ret, got_some]
    exact q3
/-- Which of two numbers is greater. -/
theorem c36 {H : Heap} {a b : AV} {x y : Int} (h1 : NumOf H a x) (h2 : NumOf H b y) (hn1 : nd x ≤ 40000) (hn2 : nd y ≤ 40000) (X : Heap) : call env 36 [a, b] (H ++ X) = some (.int .i64 (sgn (x - y)), H ++ X) := by
  have key : Comes (call env 36 [a, b] (H ++ X)) fun v H1 => v = .int .i64 (sgn (x - y)) ∧ H1 = H ++ X := by
    obtain ⟨v, rfl, z1, z2⟩ := num_cells h1
    obtain ⟨w, rfl, z3, z4⟩ := num_cells h2
    simp only [AV.cells, AV.one] at z1 z2 z3 z4
    have hp := fun X => c38 (h1.kept (.more H X)) (h2.kept (.more H X)) hn1 hn2
    refine comes_call (fn := s36) rfl rfl (by simp [s36]) ?_
    generalize decide (x < 0) = b1 at *
    generalize decide (y < 0) = b2 at *
    simp only [s36, R1, R2, R3, R4, R5, R6, R7, R8, AV.flat, fillIn_nil, fillIn_cons, splice, AV.cells, AV.one, eqsOf, idx, SO.calls, List.reduceReplicate, Nat.reduceBEq, Nat.reduceLT, Nat.reduceAdd, Nat.reduceMul, Nat.reduceSub, Nat.reduceLeDiff, Nat.reduceEqDiff, ↓reduceIte, Int.reduceLT, Int.reduceEq, Int.reduceBNe, Int.reduceBEq, aeq, Int.reduceLE, Int.reduceNeg, Int.reduceMul, Int.reduceAdd, Int.reduceSub, Int.reduceToNat, Int.reducePow, z1, z2, z3, z4]
    refine gets_comes (hp _) ?_
    rintro r H1 ⟨Y, rfl, q⟩
    have := nd_sub x y
    have e1 := fun X => c52 q (by omega) X
    have e1 := e1 []
    simp only [List.append_nil, List.append_assoc, List.cons_append, List.nil_append] at e1
    have t := fun Y => tidy_int' (H := H ++ X) (X := Y) (k := .i64) (n := sgn (x - y))
    simp only [List.append_assoc] at t
    simp only [R1, R2, R3, R4, R5, R6, R7, R8, AV.flat, fillIn_nil, fillIn_cons, splice, AV.cells, AV.one, eqsOf, idx, SO.calls, List.reduceReplicate, Nat.reduceBEq, Nat.reduceLT, Nat.reduceAdd, Nat.reduceMul, Nat.reduceSub, Nat.reduceLeDiff, Nat.reduceEqDiff, ↓reduceIte, Int.reduceLT, Int.reduceEq, Int.reduceBNe, Int.reduceBEq, aeq, Int.reduceLE, Int.reduceNeg, Int.reduceMul, Int.reduceAdd, Int.reduceSub, Int.reduceToNat, Int.reducePow, e1, leftE_ret, got_some, t]
  obtain ⟨v, H1, e, rfl, rfl⟩ := key
  exact e
theorem sgn_pos {x : Int} (h : 0 < x) : sgn x = 1 := by unfold sgn; rw [if_neg (by omega), if_neg (by omega)]
theorem sgn_neg {x : Int} (h : x < 0) : sgn x = -1 := by unfold sgn; rw [if_neg (by omega), if_pos h]
theorem sgn_zero : sgn 0 = 0 := rfl
end Go.Proofs.YtdlolhkeckjipaaDoor
