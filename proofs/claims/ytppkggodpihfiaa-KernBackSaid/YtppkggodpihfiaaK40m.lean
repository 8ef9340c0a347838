/- Chapter 40: what the document says of Parse: the walk. -/
import Derived.Test.YtppkggodpihfiaaK40l
set_option linter.unusedVariables false
set_option linter.unusedSimpArgs false
set_option maxRecDepth 100000
set_option maxHeartbeats 4000000
namespace Go.Proofs.Ytppkggodpihfiaa
open Go Go.Den
theorem c19 {p : List UInt8} (hp : p.length ≤ 1000000) (g : Int) (H : Heap) :
    ∃ r, call env 19 [.str (mkS p), .int .i64 g] H = some r ∧ ∃ v X, r = (.tup [v, .int .i64 (parsK p g).2], H ++ X) ∧ SlOf (H ++ X) 3 Kn.cs v (parsK p g).1 := by
  refine call_endsE (fn := s19) rfl rfl (by simp [s19]) fun W hW => ?_
  have hW := fun v X h => hW _ ⟨v, X, rfl, h⟩
  unfold parsK at hW
  by_cases h1 : g < 1
  · rw [if_pos (Or.inl h1)] at hW
    simp only [s19, R1, R2, R3, R4, R5, R6, R7, R8, AV.flat, fillIn_nil, fillIn_cons, splice, AV.cells, AV.one, eqsOf, idx, SO.calls, List.reduceReplicate, Nat.reduceBEq, Nat.reduceLT, Nat.reduceAdd, Nat.reduceMul, Nat.reduceSub, Nat.reduceLeDiff, Nat.reduceEqDiff, ↓reduceIte, Int.reduceLT, Int.reduceEq, Int.reduceBNe, Int.reduceBEq, aeq, Int.reduceLE, Int.reduceNeg, Int.reduceMul, Int.reduceAdd, Int.reduceSub, Int.reduceToNat, Int.reducePow, eq_true h1, leftE_ret, got_some]
    exact no_rows0 rfl hW
  by_cases h2 : g > 1024
  · rw [if_pos (Or.inr h2)] at hW
    simp only [s19, R1, R2, R3, R4, R5, R6, R7, R8, AV.flat, fillIn_nil, fillIn_cons, splice, AV.cells, AV.one, eqsOf, idx, SO.calls, List.reduceReplicate, Nat.reduceBEq, Nat.reduceLT, Nat.reduceAdd, Nat.reduceMul, Nat.reduceSub, Nat.reduceLeDiff, Nat.reduceEqDiff, ↓reduceIte, Int.reduceLT, Int.reduceEq, Int.reduceBNe, Int.reduceBEq, aeq, Int.reduceLE, Int.reduceNeg, Int.reduceMul, Int.reduceAdd, Int.reduceSub, Int.reduceToNat, Int.reducePow, eq_false h1, eq_true h2, leftE_ret, got_some]
    exact no_rows0 rfl hW
  rw [if_neg (by omega)] at hW
  by_cases h3 : p.length < 18
  · have c3 : ((p.length : Int) < 18) = True := eq_true (by omega)
    rw [if_pos h3] at hW
    simp only [s19, R1, R2, R3, R4, R5, R6, R7, R8, AV.flat, fillIn_nil, fillIn_cons, splice, AV.cells, AV.one, eqsOf, idx, SO.calls, List.reduceReplicate, Nat.reduceBEq, Nat.reduceLT, Nat.reduceAdd, Nat.reduceMul, Nat.reduceSub, Nat.reduceLeDiff, Nat.reduceEqDiff, ↓reduceIte, Int.reduceLT, Int.reduceEq, Int.reduceBNe, Int.reduceBEq, aeq, Int.reduceLE, Int.reduceNeg, Int.reduceMul, Int.reduceAdd, Int.reduceSub, Int.reduceToNat, Int.reducePow, eq_false h1, eq_false h2, c3, leftE_ret, got_some]
    exact no_rows0 rfl hW
  rw [if_neg h3] at hW
  have c3 : ((p.length : Int) < 18) = False := eq_false (by omega)
  have e1 := fun H => c49 (l := p) (a := 10) (by omega) hp H
  have hn2 := n2_lt p 10
  simp only [Int.cast_ofNat_Int] at e1
  by_cases h4 : n2 p 10 > 4096
  · have c4 : (((n2 p 10 : Nat) : Int) > 4096) = True := eq_true (by omega)
    rw [if_pos h4] at hW
    simp only [s19, R1, R2, R3, R4, R5, R6, R7, R8, AV.flat, fillIn_nil, fillIn_cons, splice, AV.cells, AV.one, eqsOf, idx, SO.calls, List.reduceReplicate, Nat.reduceBEq, Nat.reduceLT, Nat.reduceAdd, Nat.reduceMul, Nat.reduceSub, Nat.reduceLeDiff, Nat.reduceEqDiff, ↓reduceIte, Int.reduceLT, Int.reduceEq, Int.reduceBNe, Int.reduceBEq, aeq, Int.reduceLE, Int.reduceNeg, Int.reduceMul, Int.reduceAdd, Int.reduceSub, Int.reduceToNat, Int.reducePow, eq_false h1, eq_false h2, c3, e1, c4, leftE_ret, got_some]
    exact no_rows0 rfl hW
  rw [if_neg h4] at hW
  have c4 : (((n2 p 10 : Nat) : Int) > 4096) = False := eq_false (by omega)
  have hiff := head_iff (p := p) (n := n2 p 10) (by omega) (by omega)
  generalize n2 p 10 = n at *
  have w2 : IntKind.i64.wrap (6 * (n : Int)) = 6 * (n : Int) := wrap_i64 (by omega) (by omega)
  have w3 : IntKind.i64.wrap (14 + 6 * (n : Int)) = 14 + 6 * (n : Int) := wrap_i64 (by omega) (by omega)
  have e2 := c38 (n := n) (by omega) (H ++ [.cells [.int .i64 0, .int .i64 1, .int .i64 0, .int .i64 (14 + 6 * (n : Int)), .int .i64 1, .int .i64 (n : Int)] 3 true])
  have hrow6 : (H ++ ([.cells [.int .i64 0, .int .i64 1, .int .i64 0, .int .i64 (14 + 6 * (n : Int)), .int .i64 1, .int .i64 (n : Int)] 3 true] ++ [.cells ((threeP n).flatMap IntC) 3 true]))[H.length]? = some (.cells (([0, 1, 0, 14 + 6 * (n : Int), 1, (n : Int)] : List Int).flatMap IntC) 3 true) := by
    rw [List.getElem?_append_right (Nat.le_refl _), Nat.sub_self]; rfl
  have s3 : SlOf (H ++ ([.cells [.int .i64 0, .int .i64 1, .int .i64 0, .int .i64 (14 + 6 * (n : Int)), .int .i64 1, .int .i64 (n : Int)] 3 true] ++ [.cells ((threeP n).flatMap IntC) 3 true])) 1 IntC (.sl (H.length + 1) 0 3 1 (some 3)) (threeP n) := by
    have := @slrow (H ++ [.cells [.int .i64 0, .int .i64 1, .int .i64 0, .int .i64 (14 + 6 * (n : Int)), .int .i64 1, .int .i64 (n : Int)] 3 true]) (threeP n) (some 3)
    rw [threeP_len, List.length_append, List.append_assoc] at this
    exact this
  have e3 := app_full (e := 3) (m := threeP n) int_cel hrow6 (by intro h; have := threeP_len n; rw [h] at this; simp at this) s3.len (by simpa using slof_new s3 []) (by rw [threeP_len]; simp)
  have s9 := @slrow (H ++ ([.cells [.int .i64 0, .int .i64 1, .int .i64 0, .int .i64 (14 + 6 * (n : Int)), .int .i64 1, .int .i64 (n : Int)] 3 true] ++ [.cells ((threeP n).flatMap IntC) 3 true])) (headL n) none
  rw [headL_len] at s9
  rw [threeP_len, show ([0, 1, 0, 14 + 6 * (n : Int), 1, (n : Int)] ++ threeP n) = headL n from rfl] at e3
  simp only [List.length_append, List.length_cons, List.length_nil, Nat.zero_add, Nat.reduceAdd, List.append_assoc, List.cons_append, List.nil_append] at e2 e3 s9
  obtain ⟨X0, hX0⟩ : ∃ X0 : Heap, X0 = [.cells [.int .i64 0, .int .i64 1, .int .i64 0, .int .i64 (14 + 6 * (n : Int)), .int .i64 1, .int .i64 (n : Int)] 3 true, .cells ((threeP n).flatMap IntC) 3 true, .cells ((headL n).flatMap IntC) 3 true] := ⟨_, rfl⟩
  rw [← hX0] at e3 s9
  simp only [s19, R1, R2, R3, R4, R5, R6, R7, R8, AV.flat, fillIn_nil, fillIn_cons, splice, AV.cells, AV.one, eqsOf, idx, SO.calls, List.reduceReplicate, Nat.reduceBEq, Nat.reduceLT, Nat.reduceAdd, Nat.reduceMul, Nat.reduceSub, Nat.reduceLeDiff, Nat.reduceEqDiff, ↓reduceIte, Int.reduceLT, Int.reduceEq, Int.reduceBNe, Int.reduceBEq, aeq, Int.reduceLE, Int.reduceNeg, Int.reduceMul, Int.reduceAdd, Int.reduceSub, Int.reduceToNat, Int.reducePow, eq_false h1, eq_false h2, c3, e1, c4, w2, w3, e2, e3]
  have hl9 := headL_len n
  generalize headL n = L at *
  refine ends_loop (fun k t H' => t.length = 103 ∧ H ++ X0 = H' ∧ (t.getD 0 .undef = .str (mkS p) ∧ t.getD 1 .undef = .int .i64 g ∧ t.getD 6 .undef = .int .i64 (n : Int) ∧ t.getD 7 .undef = .sl (H.length + 2) 0 9 1 none) ∧
    ∃ i : Nat, i ≤ 9 ∧ k = 9 - i ∧ t.getD 8 .undef = .int .i64 (i : Int) ∧ ∀ j, j < i → ((n2 p (2 * j) : Nat) : Int) = L.getD j 0) 9 ?_ ?_
  · simp only [R1, R2, R3, R4, R5, R6, R7, R8, AV.flat, fillIn_nil, fillIn_cons, splice, AV.cells, AV.one, eqsOf, idx, SO.calls, List.reduceReplicate, Nat.reduceBEq, Nat.reduceLT, Nat.reduceAdd, Nat.reduceMul, Nat.reduceSub, Nat.reduceLeDiff, Nat.reduceEqDiff, ↓reduceIte, Int.reduceLT, Int.reduceEq, Int.reduceBNe, Int.reduceBEq, aeq, Int.reduceLE, Int.reduceNeg, Int.reduceMul, Int.reduceAdd, Int.reduceSub, Int.reduceToNat, Int.reducePow]
    exact ⟨0, by omega, by omega, rfl, by simp⟩
  rintro k t _ ⟨g1, rfl, ⟨g2, g3, g4, g5⟩, i, hi, rfl, g6, hok⟩
  rw [← tm_nil t]
  by_cases hc : i < 9
  · have a1 : ((i : Int) < 9) = True := eq_true (by omega)
    have w4 : IntKind.i64.wrap ((i : Int) + 1) = ((i + 1 : Nat) : Int) := by rw [wrap_i64 (by omega) (by omega)]; rfl
    have w5 : IntKind.i64.wrap (2 * (i : Int)) = ((2 * i : Nat) : Int) := by rw [wrap_i64 (by omega) (by omega)]; omega
    have eu := fun H => c49 (l := p) (a := 2 * i) (by omega) hp H
    have E := s9.elem0 (i := i) (by omega)
    have hL : L.getD i 0 = L[i]'(by omega) := by rw [List.getD, List.getElem?_eq_getElem (by omega)]; rfl
    have bad : ¬ ((n2 p (2 * i) : Nat) : Int) = L.getD i 0 → ∀ v X, SlOf (H ++ X) 3 Kn.cs v [] → W (.tup [v, .int .i64 4], H ++ X) := fun h v X hs => by
      rw [if_pos (fun hh => h (hiff.1 hh i hc))] at hW; exact hW v X hs
    have more : ((n2 p (2 * i) : Nat) : Int) = L.getD i 0 → ∀ j, j < i + 1 → ((n2 p (2 * j) : Nat) : Int) = L.getD j 0 := fun h j hj => by
      by_cases hji : j = i
      · subst hji; exact h
      · exact hok j (by omega)
    rw [hL] at bad more
    generalize n2 p (2 * i) = y at *
    generalize L[i]'(by omega) = z at *
    simp only [IntC, Nat.mul_one] at E
    by_cases d : (y : Int) = z
    · have c7 : ((y : Int) != z) = false := by rw [bne_eq_false_iff_eq]; exact d
      simp only [R1, R2, R3, R4, R5, R6, R7, R8, AV.flat, fillIn_nil, fillIn_cons, splice, AV.cells, AV.one, eqsOf, idx, SO.calls, List.reduceReplicate, Nat.reduceBEq, Nat.reduceLT, Nat.reduceAdd, Nat.reduceMul, Nat.reduceSub, Nat.reduceLeDiff, Nat.reduceEqDiff, ↓reduceIte, Int.reduceLT, Int.reduceEq, Int.reduceBNe, Int.reduceBEq, aeq, Int.reduceLE, Int.reduceNeg, Int.reduceMul, Int.reduceAdd, Int.reduceSub, Int.reduceToNat, Int.reducePow, g1, g2, g3, g4, g5, g6, a1, w4, w5, eu, E, c7]
      exact ⟨_, by omega, i + 1, by omega, rfl, rfl, more d⟩
    · have c7 : ((y : Int) != z) = true := by rw [bne_iff_ne]; exact d
      simp only [R1, R2, R3, R4, R5, R6, R7, R8, AV.flat, fillIn_nil, fillIn_cons, splice, AV.cells, AV.one, eqsOf, idx, SO.calls, List.reduceReplicate, Nat.reduceBEq, Nat.reduceLT, Nat.reduceAdd, Nat.reduceMul, Nat.reduceSub, Nat.reduceLeDiff, Nat.reduceEqDiff, ↓reduceIte, Int.reduceLT, Int.reduceEq, Int.reduceBNe, Int.reduceBEq, aeq, Int.reduceLE, Int.reduceNeg, Int.reduceMul, Int.reduceAdd, Int.reduceSub, Int.reduceToNat, Int.reducePow, g1, g2, g3, g4, g5, g6, a1, w4, w5, eu, E, c7, leftE_ret, got_some]
      exact no_rows rfl (bad d)
  obtain rfl : i = 9 := by omega
  have a1 : (((9 : Nat) : Int) < 9) = False := eq_false (by omega)
  rw [if_neg (by simpa using hiff.2 hok)] at hW
  have w6 : IntKind.i64.wrap (18 + 6 * (n : Int)) = 18 + 6 * (n : Int) := wrap_i64 (by omega) (by omega)
  by_cases h6 : p.length < 18 + 6 * n
  · rw [if_pos h6] at hW
    have c6 : ((p.length : Int) < 18 + 6 * (n : Int)) = True := eq_true (by omega)
    simp only [R1, R2, R3, R4, R5, R6, R7, R8, AV.flat, fillIn_nil, fillIn_cons, splice, AV.cells, AV.one, eqsOf, idx, SO.calls, List.reduceReplicate, Nat.reduceBEq, Nat.reduceLT, Nat.reduceAdd, Nat.reduceMul, Nat.reduceSub, Nat.reduceLeDiff, Nat.reduceEqDiff, ↓reduceIte, Int.reduceLT, Int.reduceEq, Int.reduceBNe, Int.reduceBEq, aeq, Int.reduceLE, Int.reduceNeg, Int.reduceMul, Int.reduceAdd, Int.reduceSub, Int.reduceToNat, Int.reducePow, g1, g2, g3, g4, g5, g6, a1, w2, w6, c6, leftE_ret, got_some]
    exact no_rows rfl hW
  rw [if_neg h6] at hW
  have c6 : ((p.length : Int) < 18 + 6 * (n : Int)) = False := eq_false (by omega)
  simp only [R1, R2, R3, R4, R5, R6, R7, R8, AV.flat, fillIn_nil, fillIn_cons, splice, AV.cells, AV.one, eqsOf, idx, SO.calls, List.reduceReplicate, Nat.reduceBEq, Nat.reduceLT, Nat.reduceAdd, Nat.reduceMul, Nat.reduceSub, Nat.reduceLeDiff, Nat.reduceEqDiff, ↓reduceIte, Int.reduceLT, Int.reduceEq, Int.reduceBNe, Int.reduceBEq, aeq, Int.reduceLE, Int.reduceNeg, Int.reduceMul, Int.reduceAdd, Int.reduceSub, Int.reduceToNat, Int.reducePow, g1, g2, g3, g4, g5, g6, a1, w2, w6, c6]
  clear hok
  refine ends_loop (fun k t H' => t.length = 103 ∧ (t.getD 0 .undef = .str (mkS p) ∧ t.getD 1 .undef = .int .i64 g ∧ t.getD 6 .undef = .int .i64 (n : Int)) ∧
    ∃ (i : Nat) (X : Heap) (u : AV), i ≤ n ∧ k = n - i ∧ t.getD 10 .undef = .int .i64 (i : Int) ∧ t.getD 9 .undef = u ∧ H' = H ++ (X0 ++ X) ∧
    Acc (H ++ X0) (H ++ (X0 ++ X)) 41 3 Kn.cs u (rowsK p i) ∧ ∀ j, j < i → okRow p g j) n ?_ ?_
  · simp only [R1, R2, R3, R4, R5, R6, R7, R8, AV.flat, fillIn_nil, fillIn_cons, splice, AV.cells, AV.one, eqsOf, idx, SO.calls, List.reduceReplicate, Nat.reduceBEq, Nat.reduceLT, Nat.reduceAdd, Nat.reduceMul, Nat.reduceSub, Nat.reduceLeDiff, Nat.reduceEqDiff, ↓reduceIte, Int.reduceLT, Int.reduceEq, Int.reduceBNe, Int.reduceBEq, aeq, Int.reduceLE, Int.reduceNeg, Int.reduceMul, Int.reduceAdd, Int.reduceSub, Int.reduceToNat, Int.reducePow, g1, g2, g3, g4]
    exact ⟨0, [], .nils, by omega, by omega, rfl, rfl, by simp, by simpa [rowsK] using Acc.start, by simp⟩
  clear g1 g2 g3 g4 g5 g6 a1
  rintro k t _ ⟨g1, ⟨g2, g3, g4⟩, i, X, u, hi, rfl, g5, g6, rfl, ha, hok⟩
  rw [← tm_nil t]
  by_cases hc : i < n
  · have a1 : ((i : Int) < (n : Int)) = True := eq_true (by omega)
    have w4 : IntKind.i64.wrap ((i : Int) + 1) = ((i + 1 : Nat) : Int) := by rw [wrap_i64 (by omega) (by omega)]; rfl
    have w5 : IntKind.i64.wrap (6 * (i : Int)) = ((6 * i : Nat) : Int) := by rw [wrap_i64 (by omega) (by omega)]; omega
    have w7 : IntKind.i64.wrap (18 + ((6 * i : Nat) : Int)) = ((18 + 6 * i : Nat) : Int) := by rw [wrap_i64 (by omega) (by omega)]; omega
    have w8 : IntKind.i64.wrap (20 + ((6 * i : Nat) : Int)) = ((20 + 6 * i : Nat) : Int) := by rw [wrap_i64 (by omega) (by omega)]; omega
    have w9 : IntKind.i64.wrap (22 + ((6 * i : Nat) : Int)) = ((22 + 6 * i : Nat) : Int) := by rw [wrap_i64 (by omega) (by omega)]; omega
    have u1 := fun H => c49 (l := p) (a := 18 + 6 * i) (by omega) hp H
    have u2 := fun H => c49 (l := p) (a := 20 + 6 * i) (by omega) hp H
    have u3 := fun H => c50 (p := p) (a := 22 + 6 * i) (by omega) hp H
    have hrow : rowK p i = ⟨(n2 p (18 + 6 * i) : Nat), (n2 p (20 + 6 * i) : Nat), sg16 (n2 p (22 + 6 * i))⟩ := rfl
    obtain ⟨X', hX, b1, b2⟩ := push_one (B := X0) kn_cel (Z := [.cells (rowK p i).cs 41 true]) (m := rowK p i) (p := H.length + (X0.length + (X.length + 1))) ha (by rw [rowsK_len]; omega) (by simp)
    have hj := b2 X0 rfl
    have hX1 := asK hX
    rw [← rowsK_succ, rowsK_len] at b1 hj
    have more : okRow p g i → ∀ j, j < i + 1 → okRow p g j := fun h j hj => by
      by_cases hji : j = i
      · subst hji; exact h
      · exact hok j (by omega)
    have bad : ¬ okRow p g i → ∀ v X, SlOf (H ++ X) 3 Kn.cs v [] → W (.tup [v, .int .i64 4], H ++ X) := fun h v X hs => by
      rw [if_neg (fun hh => h (hh i hc))] at hW; exact hW v X hs
    have hok2 : okRow p g i ↔ ((n2 p (18 + 6 * i) : Nat) < g ∧ (n2 p (20 + 6 * i) : Nat) < g) ∧ risesR p i := Iff.rfl
    rw [hrow] at b1 hj
    have hso := acc_sl ha (by decide)
    have hlo := rowsK_len p i
    generalize hrk : rowsK p (i + 1) = L2 at *
    generalize L2.flatMap Kn.cs = c2 at *
    by_cases h0 : i = 0
    · subst h0
      have c0 : ((0 : Int) > 0) = False := eq_false (by omega)
      have hr : risesR p 0 := Or.inl rfl
      simp only [Int.natCast_zero, Nat.mul_zero, Nat.add_zero, Nat.zero_add] at *
      simp only [Int.mul_zero, Int.add_zero] at w5 w7 w8 w9
      generalize ((n2 p 18 : Nat) : Int) = y1 at *
      generalize ((n2 p 20 : Nat) : Int) = y2 at *
      generalize sg16 (n2 p 22) = y3 at *
      simp only [Kn.cs, Int.cast_ofNat_Int, List.cons_append, List.nil_append, List.append_assoc] at u1 u2 u3 b1 hj w7 w8 w9 w4 ⊢
      by_cases d1 : y1 ≥ g
      · simp only [R1, R2, R3, R4, R5, R6, R7, R8, AV.flat, fillIn_nil, fillIn_cons, splice, AV.cells, AV.one, eqsOf, idx, SO.calls, List.reduceReplicate, Nat.reduceBEq, Nat.reduceLT, Nat.reduceAdd, Nat.reduceMul, Nat.reduceSub, Nat.reduceLeDiff, Nat.reduceEqDiff, ↓reduceIte, Int.reduceLT, Int.reduceEq, Int.reduceBNe, Int.reduceBEq, aeq, Int.reduceLE, Int.reduceNeg, Int.reduceMul, Int.reduceAdd, Int.reduceSub, Int.reduceToNat, Int.reducePow, g1, g2, g3, g4, g5, g6, a1, w5, w7, w8, w9, u1, u2, u3, eq_true d1, leftE_ret, got_some]
        exact no_rows rfl (bad fun h => by have := hok2.1 h; omega)
      by_cases d2 : y2 ≥ g
      · simp only [R1, R2, R3, R4, R5, R6, R7, R8, AV.flat, fillIn_nil, fillIn_cons, splice, AV.cells, AV.one, eqsOf, idx, SO.calls, List.reduceReplicate, Nat.reduceBEq, Nat.reduceLT, Nat.reduceAdd, Nat.reduceMul, Nat.reduceSub, Nat.reduceLeDiff, Nat.reduceEqDiff, ↓reduceIte, Int.reduceLT, Int.reduceEq, Int.reduceBNe, Int.reduceBEq, aeq, Int.reduceLE, Int.reduceNeg, Int.reduceMul, Int.reduceAdd, Int.reduceSub, Int.reduceToNat, Int.reducePow, g1, g2, g3, g4, g5, g6, a1, w5, w7, w8, w9, u1, u2, u3, eq_false d1, eq_true d2, leftE_ret, got_some]
        exact no_rows rfl (bad fun h => by have := hok2.1 h; omega)
      have hm := more (hok2.2 ⟨by omega, hr⟩)
      simp only [R1, R2, R3, R4, R5, R6, R7, R8, AV.flat, fillIn_nil, fillIn_cons, splice, AV.cells, AV.one, eqsOf, idx, SO.calls, List.reduceReplicate, Nat.reduceBEq, Nat.reduceLT, Nat.reduceAdd, Nat.reduceMul, Nat.reduceSub, Nat.reduceLeDiff, Nat.reduceEqDiff, ↓reduceIte, Int.reduceLT, Int.reduceEq, Int.reduceBNe, Int.reduceBEq, aeq, Int.reduceLE, Int.reduceNeg, Int.reduceMul, Int.reduceAdd, Int.reduceSub, Int.reduceToNat, Int.reducePow, g1, g2, g3, g4, g5, g6, a1, w4, w5, w7, w8, w9, u1, u2, u3, eq_false d1, eq_false d2, c0, b1, hX1]
      exact ⟨_, by omega, 1, _, _, by omega, rfl, rfl, rfl, rfl, by rw [hrk]; exact hj, hm⟩
    obtain ⟨j, rfl⟩ : ∃ j, i = j + 1 := ⟨i - 1, by omega⟩
    have c0 : (((j + 1 : Nat) : Int) > 0) = True := eq_true (by omega)
    have wj : IntKind.i64.wrap (((j + 1 : Nat) : Int) - 1) = (j : Int) := by rw [wrap_i64 (by omega) (by omega)]; omega
    have F := hso.elem (i := j) (by omega)
    have hF : (rowsK p (j + 1))[j]'(by omega) = rowK p j := by rw [← getK (by omega), rowsK_get p (Nat.lt_succ_self j)]
    rw [hF] at F
    have hr : risesR p (j + 1) ↔ lessK (rowK p j) (rowK p (j + 1)) := by unfold risesR; rw [Nat.add_sub_cancel]; simp
    have e4 := fun H => c41 (rowK p (j + 1)) (rowK p j) H
    rw [hrow] at hr e4
    generalize rowK p j = q at *
    obtain ⟨x0, y0, z0⟩ := q
    generalize ((n2 p (18 + 6 * (j + 1)) : Nat) : Int) = y1 at *
    generalize ((n2 p (20 + 6 * (j + 1)) : Nat) : Int) = y2 at *
    generalize sg16 (n2 p (22 + 6 * (j + 1))) = y3 at *
    simp only [Kn.cs, List.cons_append, List.nil_append, List.append_assoc] at u1 u2 u3 b1 hj F e4 ⊢
    by_cases d1 : y1 ≥ g
    · simp only [R1, R2, R3, R4, R5, R6, R7, R8, AV.flat, fillIn_nil, fillIn_cons, splice, AV.cells, AV.one, eqsOf, idx, SO.calls, List.reduceReplicate, Nat.reduceBEq, Nat.reduceLT, Nat.reduceAdd, Nat.reduceMul, Nat.reduceSub, Nat.reduceLeDiff, Nat.reduceEqDiff, ↓reduceIte, Int.reduceLT, Int.reduceEq, Int.reduceBNe, Int.reduceBEq, aeq, Int.reduceLE, Int.reduceNeg, Int.reduceMul, Int.reduceAdd, Int.reduceSub, Int.reduceToNat, Int.reducePow, g1, g2, g3, g4, g5, g6, a1, w5, w7, w8, w9, u1, u2, u3, eq_true d1, leftE_ret, got_some]
      exact no_rows rfl (bad fun h => by have := hok2.1 h; omega)
    by_cases d2 : y2 ≥ g
    · simp only [R1, R2, R3, R4, R5, R6, R7, R8, AV.flat, fillIn_nil, fillIn_cons, splice, AV.cells, AV.one, eqsOf, idx, SO.calls, List.reduceReplicate, Nat.reduceBEq, Nat.reduceLT, Nat.reduceAdd, Nat.reduceMul, Nat.reduceSub, Nat.reduceLeDiff, Nat.reduceEqDiff, ↓reduceIte, Int.reduceLT, Int.reduceEq, Int.reduceBNe, Int.reduceBEq, aeq, Int.reduceLE, Int.reduceNeg, Int.reduceMul, Int.reduceAdd, Int.reduceSub, Int.reduceToNat, Int.reducePow, g1, g2, g3, g4, g5, g6, a1, w5, w7, w8, w9, u1, u2, u3, eq_false d1, eq_true d2, leftE_ret, got_some]
      exact no_rows rfl (bad fun h => by have := hok2.1 h; omega)
    by_cases d3 : lessK ⟨x0, y0, z0⟩ ⟨y1, y2, y3⟩
    · rw [decide_eq_true d3] at e4
      have hm := more (hok2.2 ⟨by omega, hr.2 d3⟩)
      simp only [R1, R2, R3, R4, R5, R6, R7, R8, AV.flat, fillIn_nil, fillIn_cons, splice, AV.cells, AV.one, eqsOf, idx, SO.calls, List.reduceReplicate, Nat.reduceBEq, Nat.reduceLT, Nat.reduceAdd, Nat.reduceMul, Nat.reduceSub, Nat.reduceLeDiff, Nat.reduceEqDiff, ↓reduceIte, Int.reduceLT, Int.reduceEq, Int.reduceBNe, Int.reduceBEq, aeq, Int.reduceLE, Int.reduceNeg, Int.reduceMul, Int.reduceAdd, Int.reduceSub, Int.reduceToNat, Int.reducePow, g1, g2, g3, g4, g5, g6, a1, w4, w5, w7, w8, w9, u1, u2, u3, eq_false d1, eq_false d2, c0, wj, F, e4, b1, hX1]
      exact ⟨_, by omega, j + 1 + 1, _, _, by omega, rfl, rfl, rfl, rfl, by rw [hrk]; exact hj, hm⟩
    · rw [decide_eq_false d3] at e4
      simp only [R1, R2, R3, R4, R5, R6, R7, R8, AV.flat, fillIn_nil, fillIn_cons, splice, AV.cells, AV.one, eqsOf, idx, SO.calls, List.reduceReplicate, Nat.reduceBEq, Nat.reduceLT, Nat.reduceAdd, Nat.reduceMul, Nat.reduceSub, Nat.reduceLeDiff, Nat.reduceEqDiff, ↓reduceIte, Int.reduceLT, Int.reduceEq, Int.reduceBNe, Int.reduceBEq, aeq, Int.reduceLE, Int.reduceNeg, Int.reduceMul, Int.reduceAdd, Int.reduceSub, Int.reduceToNat, Int.reducePow, g1, g2, g3, g4, g5, g6, a1, w4, w5, w7, w8, w9, u1, u2, u3, eq_false d1, eq_false d2, c0, wj, F, e4, leftE_ret, got_some]
      exact no_rows rfl (bad fun h => d3 (hr.1 (hok2.1 h).2))
  · have a1 : ((i : Int) < (n : Int)) = False := eq_false (by omega)
    obtain rfl : i = n := by omega
    rw [if_pos hok] at hW
    have ti := (acc_wide ha).tidy2 (fun a _ => kn_cel.flat a) (r := [.int .i64 0]) rfl
    simp only [R1, R2, R3, R4, R5, R6, R7, R8, AV.flat, fillIn_nil, fillIn_cons, splice, AV.cells, AV.one, eqsOf, idx, SO.calls, List.reduceReplicate, Nat.reduceBEq, Nat.reduceLT, Nat.reduceAdd, Nat.reduceMul, Nat.reduceSub, Nat.reduceLeDiff, Nat.reduceEqDiff, ↓reduceIte, Int.reduceLT, Int.reduceEq, Int.reduceBNe, Int.reduceBEq, aeq, Int.reduceLE, Int.reduceNeg, Int.reduceMul, Int.reduceAdd, Int.reduceSub, Int.reduceToNat, Int.reducePow, g1, g2, g3, g4, g5, g6, a1, leftE_ret, got_some]
    rw [ti]
    exact hW _ _ (newSl_of (fun a _ => kn_cel.size a) (by decide))
end Go.Proofs.Ytppkggodpihfiaa
