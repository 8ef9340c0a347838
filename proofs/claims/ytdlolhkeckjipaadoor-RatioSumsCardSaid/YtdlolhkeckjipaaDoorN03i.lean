/- Chapter 03, the document's: lowest terms. -/
import Derived.Test.YtdlolhkeckjipaaDoorN03h
set_option linter.unusedVariables false
set_option linter.unusedSimpArgs false
set_option maxRecDepth 100000
set_option maxHeartbeats 8000000
namespace Go.Proofs.YtdlolhkeckjipaaDoor
open Go Go.Den
abbrev RX (a b : AV) : AO := .cells [a, b] 24 true
theorem kept5 {H X Z : Heap} {c1 c2 c3 c4 c5 : List AV} {a1 a2 a3 a4 a5 : AO} (Y : Heap) (hZ : Z = X ++ Y) : Kept 45 (H ++ (AO.cells c1 61 true :: AO.cells c2 61 true :: AO.cells c3 24 true :: AO.cells c4 61 true :: AO.cells c5 61 true :: X)) (H ++ (a1 :: a2 :: a3 :: a4 :: a5 :: Z)) := by
  subst hZ
  exact .on (.box (by decide) (.box (by decide) (.box (by decide) (.box (by decide) (.box (by decide) (.more X Y))))))
/-- Rows at the end of such a heap may change, if they are no digits. -/
theorem kept_end {H X Y : Heap} {A B : AO} {c d : List AV} : Kept 45 (H ++ (X ++ [AO.cells c 61 true, AO.cells d 61 true] ++ Y)) (H ++ (X ++ [A, B] ++ Y)) := by
  rw [List.append_assoc, List.append_assoc]
  exact .on (.on (.box (by decide) (.box (by decide) (.refl Y))))
theorem sgn_mul (x y : Int) : (IntKind.i64.wrap (sgn x * sgn y) < 0) = (x * y < 0) := by
  have hs : ∀ z : Int, (z = 0 ∧ sgn z = 0) ∨ (z < 0 ∧ sgn z = -1) ∨ (z > 0 ∧ sgn z = 1) := fun z => by
    rcases Int.lt_trichotomy z 0 with h | h | h
    · exact .inr (.inl ⟨h, sgn_neg h⟩)
    · subst h; exact .inl ⟨rfl, rfl⟩
    · exact .inr (.inr ⟨h, sgn_pos h⟩)
  apply propext
  rcases hs x with ⟨h1, e1⟩ | ⟨h1, e1⟩ | ⟨h1, e1⟩ <;> rcases hs y with ⟨h2, e2⟩ | ⟨h2, e2⟩ | ⟨h2, e2⟩ <;> rw [e1, e2]
  · subst h1 h2; decide
  · subst h1; simp only [Int.zero_mul]; decide
  · subst h1; simp only [Int.zero_mul]; decide
  · subst h2; simp only [Int.mul_zero]; decide
  · have := Int.mul_pos_of_neg_of_neg h1 h2
    constructor
    · intro h; exact absurd h (by decide)
    · intro h; omega
  · have := Int.mul_neg_of_neg_of_pos h1 h2
    exact ⟨fun _ => this, fun _ => by decide⟩
  · subst h2; simp only [Int.mul_zero]; decide
  · have := Int.mul_neg_of_pos_of_neg h1 h2
    exact ⟨fun _ => this, fun _ => by decide⟩
  · have := Int.mul_pos h1 h2
    constructor
    · intro h; exact absurd h (by decide)
    · intro h; omega
theorem c42 {H : Heap} {a b : AV} {n d : Int} (h1 : NumOf H a n) (h2 : NumOf H b d) (hd0 : d ≠ 0) (n1 : nd n ≤ 1000) (n2 : nd d ≤ 1000) : call env 42 [a, b] H = some (outR (lowR n d), H) := by
  have key : Comes (call env 42 [a, b] H) fun v H1 => v = outR (lowR n d) ∧ H1 = H := by
    obtain ⟨aa, ha1, ea⟩ := c60 h1
    obtain ⟨ab, hb1, eb⟩ := c60 h2
    have sN := fun X => c52 h1 (by omega) X
    have sD := fun X => c52 h2 (by omega) X
    obtain ⟨v1, rfl, z1, z2⟩ := num_cells h1
    obtain ⟨v2, rfl, z3, z4⟩ := num_cells h2
    obtain ⟨v3, rfl, z5, z6⟩ := num_cells ha1
    obtain ⟨v4, rfl, z7, z8⟩ := num_cells hb1
    simp only [AV.cells, AV.one] at z1 z2 z3 z4 z5 z6 z7 z8
    obtain ⟨N, hN⟩ : ∃ N, N = n.natAbs := ⟨_, rfl⟩
    obtain ⟨D, hD⟩ : ∃ D, D = d.natAbs := ⟨_, rfl⟩
    have hD0 : D ≠ 0 := by omega
    have nN : nd (N : Int) ≤ 1000 := Nat.le_trans (nd_le (by omega)) n1
    have nD : nd (D : Int) ≤ 1000 := Nat.le_trans (nd_le (by omega)) n2
    unfold lowR
    rw [← hN] at ea ha1
    rw [← hD] at eb hb1
    rw [← hN, ← hD]
    have dfN : decide ((N : Int) < 0) = false := decide_eq_false (by omega)
    have dfD : decide ((D : Int) < 0) = false := decide_eq_false (by omega)
    rw [dfN] at ea ha1
    rw [dfD] at eb hb1
    generalize hs1 : decide (n < 0) = s1 at *
    generalize hs2 : decide (d < 0) = s2 at *
    have hg : 0 < Nat.gcd N D := Nat.gcd_pos_of_pos_right _ (by omega)
    refine comes_call (fn := s42) rfl rfl (by simp [s42]) ?_
    simp only [s42, R1, R2, R3, R4, R5, R6, R7, R8, AV.flat, fillIn_nil, fillIn_cons, splice, AV.cells, AV.one, eqsOf, idx, SO.calls, List.reduceReplicate, Nat.reduceBEq, Nat.reduceLT, Nat.reduceAdd, Nat.reduceMul, Nat.reduceSub, Nat.reduceLeDiff, Nat.reduceEqDiff, ↓reduceIte, Int.reduceLT, Int.reduceEq, Int.reduceBNe, Int.reduceBEq, aeq, Int.reduceLE, Int.reduceNeg, Int.reduceMul, Int.reduceAdd, Int.reduceSub, Int.reduceToNat, Int.reducePow, z1, z2, z3, z4, z5, z6, z7, z8, ea, eb]
    refine ends_loop_to (fun t H' => t.length = 75 ∧ t.getD 2 .undef = .ptr H.length 0 ∧ t.getD 3 .undef = .ptr (H.length + 1) 0 ∧ t.getD 4 .undef = .ptr (H.length + 2) 0 ∧ t.getD 6 .undef = .ptr (H.length + 3) 0 ∧
      ∃ av B2 X, H ++ (BX (.bool s1) v1 :: BX (.bool s2) v2 :: RX (.int .i64 0) (.int .i64 0) :: BX (.bool false) av :: B2 :: X) = H' ∧ NumOf H' (.agg [.bool false, av]) ((Nat.gcd N D : Nat) : Int) ∧ ∃ c, B2 = .cells c 61 true) ?_ ?_
    · refine ends_loop (fun k t H' => t.length = 75 ∧ t.getD 2 .undef = .ptr H.length 0 ∧ t.getD 3 .undef = .ptr (H.length + 1) 0 ∧ t.getD 4 .undef = .ptr (H.length + 2) 0 ∧ t.getD 6 .undef = .ptr (H.length + 3) 0 ∧ t.getD 7 .undef = .ptr (H.length + 4) 0 ∧
        ∃ (A : Nat) (av bv : AV) (X : Heap), H ++ (BX (.bool s1) v1 :: BX (.bool s2) v2 :: RX (.int .i64 0) (.int .i64 0) :: BX (.bool false) av :: BX (.bool false) bv :: X) = H' ∧ NumOf H' (.agg [.bool false, av]) (A : Int) ∧ NumOf H' (.agg [.bool false, bv]) (k : Int) ∧ Nat.gcd A k = Nat.gcd N D ∧ nd (A : Int) ≤ 1000 ∧ nd (k : Int) ≤ 1000) D ?_ ?_
      · simp only [R1, R2, R3, R4, R5, R6, R7, R8, AV.flat, fillIn_nil, fillIn_cons, splice, AV.cells, AV.one, eqsOf, idx, SO.calls, List.reduceReplicate, Nat.reduceBEq, Nat.reduceLT, Nat.reduceAdd, Nat.reduceMul, Nat.reduceSub, Nat.reduceLeDiff, Nat.reduceEqDiff, ↓reduceIte, Int.reduceLT, Int.reduceEq, Int.reduceBNe, Int.reduceBEq, aeq, Int.reduceLE, Int.reduceNeg, Int.reduceMul, Int.reduceAdd, Int.reduceSub, Int.reduceToNat, Int.reducePow]
        exact ⟨N, v3, v4, [], rfl, ha1.kept (.more _ _), hb1.kept (.more _ _), rfl, nN, nD⟩
      rintro B t _ ⟨k0, k1, k2, k3, k4, k5, A, av, bv, X, rfl, g1, g2, hgcd, nA, nB⟩
      rw [← tm_nil t]
      obtain ⟨av', ha', y1, y2⟩ := num_cells g1
      obtain ⟨bv', hb', y3, y4⟩ := num_cells g2
      obtain rfl : av = av' := by injection ha' with ha'; injection ha' with _ ha'; injection ha'
      obtain rfl : bv = bv' := by injection hb' with hb'; injection hb' with _ hb'; injection hb'
      clear ha' hb'
      simp only [AV.cells, AV.one] at y1 y2 y3 y4
      have sB := c52 g2 (by omega) []
      simp only [List.append_nil] at sB
      by_cases h0 : B = 0
      · have a1 : (sgn (B : Int) != 0) = false := by rw [h0]; rfl
        rw [h0, Nat.gcd_zero_right] at hgcd
        rw [hgcd] at g1
        simp only [R1, R2, R3, R4, R5, R6, R7, R8, AV.flat, fillIn_nil, fillIn_cons, splice, AV.cells, AV.one, eqsOf, idx, SO.calls, List.reduceReplicate, Nat.reduceBEq, Nat.reduceLT, Nat.reduceAdd, Nat.reduceMul, Nat.reduceSub, Nat.reduceLeDiff, Nat.reduceEqDiff, ↓reduceIte, Int.reduceLT, Int.reduceEq, Int.reduceBNe, Int.reduceBEq, aeq, Int.reduceLE, Int.reduceNeg, Int.reduceMul, Int.reduceAdd, Int.reduceSub, Int.reduceToNat, Int.reducePow, k0, k1, k2, k3, k4, k5, y1, y2, y3, y4, sB, a1]
        exact ⟨av, _, X, rfl, g1, _, rfl⟩
      have a1 : (sgn (B : Int) != 0) = true := by rw [sgn_pos (by omega)]; rfl
      simp only [R1, R2, R3, R4, R5, R6, R7, R8, AV.flat, fillIn_nil, fillIn_cons, splice, AV.cells, AV.one, eqsOf, idx, SO.calls, List.reduceReplicate, Nat.reduceBEq, Nat.reduceLT, Nat.reduceAdd, Nat.reduceMul, Nat.reduceSub, Nat.reduceLeDiff, Nat.reduceEqDiff, ↓reduceIte, Int.reduceLT, Int.reduceEq, Int.reduceBNe, Int.reduceBEq, aeq, Int.reduceLE, Int.reduceNeg, Int.reduceMul, Int.reduceAdd, Int.reduceSub, Int.reduceToNat, Int.reducePow, k0, k1, k2, k3, k4, k5, y1, y2, y3, y4, sB, a1]
      refine gets_comes (c61 g1 g2 (by omega) nA nB) ?_
      rintro v _ ⟨Y, qv, rv, rfl, rfl, f1, f2⟩
      obtain ⟨u1, rfl, x1, x2⟩ := num_cells f1
      obtain ⟨u2, rfl, x3, x4⟩ := num_cells f2
      simp only [AV.cells, AV.one] at x1 x2 x3 x4
      have df1 : decide (((A / B : Nat) : Int) < 0) = false := decide_eq_false (Int.not_lt.2 (Int.natCast_nonneg _))
      have df2 : decide (((A % B : Nat) : Int) < 0) = false := decide_eq_false (Int.not_lt.2 (Int.natCast_nonneg _))
      rw [df1] at f1 ⊢
      rw [df2] at f2 ⊢
      simp only [R1, R2, R3, R4, R5, R6, R7, R8, AV.flat, fillIn_nil, fillIn_cons, splice, AV.cells, AV.one, eqsOf, idx, SO.calls, List.reduceReplicate, Nat.reduceBEq, Nat.reduceLT, Nat.reduceAdd, Nat.reduceMul, Nat.reduceSub, Nat.reduceLeDiff, Nat.reduceEqDiff, ↓reduceIte, Int.reduceLT, Int.reduceEq, Int.reduceBNe, Int.reduceBEq, aeq, Int.reduceLE, Int.reduceNeg, Int.reduceMul, Int.reduceAdd, Int.reduceSub, Int.reduceToNat, Int.reducePow, k0, k1, k2, k3, k4, k5, x1, x2, x3, x4, y1, y2, y3, y4]
      have hlt := Nat.mod_lt A (show B > 0 by omega)
      refine ⟨A % B, hlt, B, bv, u2, _, rfl, g2.kept (kept5 _ rfl), f2.kept ?_, ?_, nB, Nat.le_trans (nd_le (by omega)) nB⟩
      · simp only [List.append_assoc, List.cons_append, List.nil_append]
        exact kept5 _ (by simp only [List.append_assoc]; rfl)
      · rw [← hgcd, Nat.gcd_comm A B, Nat.gcd_comm B (A % B), ← Nat.gcd_rec B A]
    rintro t _ ⟨k0, k1, k2, k3, k4, av, B2, X, rfl, g1, c2, rfl⟩
    rw [← tm_nil t]
    obtain ⟨av', ha', y1, y2⟩ := num_cells g1
    obtain rfl : av = av' := by injection ha' with ha'; injection ha' with _ ha'; injection ha'
    clear ha'
    simp only [AV.cells, AV.one] at y1 y2
    generalize hG : Nat.gcd N D = G at *
    have nG : nd (G : Int) ≤ 1000 := Nat.le_trans (nd_le (by
      have := Nat.le_of_dvd (by omega) (Nat.gcd_dvd_right N D)
      omega)) nD
    have p1 := c61 (ha1.kept (.more _ (BX (.bool s1) v1 :: BX (.bool s2) v2 :: RX (.int .i64 0) (.int .i64 0) :: BX (.bool false) av :: AO.cells c2 61 true :: X))) g1 hg nN nG
    simp only [R1, R2, R3, R4, R5, R6, R7, R8, AV.flat, fillIn_nil, fillIn_cons, splice, AV.cells, AV.one, eqsOf, idx, SO.calls, List.reduceReplicate, Nat.reduceBEq, Nat.reduceLT, Nat.reduceAdd, Nat.reduceMul, Nat.reduceSub, Nat.reduceLeDiff, Nat.reduceEqDiff, ↓reduceIte, Int.reduceLT, Int.reduceEq, Int.reduceBNe, Int.reduceBEq, aeq, Int.reduceLE, Int.reduceNeg, Int.reduceMul, Int.reduceAdd, Int.reduceSub, Int.reduceToNat, Int.reducePow, k0, k1, k2, k3, k4, y1, y2, z1, z2, z3, z4, z5, z6, z7, z8, ea, eb, veil_un, shun_un]
    refine gets_sS p1 ?_ ?_
    · rintro v _ ⟨Y, qv, rv, rfl, -, -, -⟩
      exact ⟨Y, rfl⟩
    rintro v Y M F ⟨Y', qv, rv, -, rfl, f1, f2⟩ hM j1 j4 j3 j2
    obtain ⟨u1, rfl, x1, x2⟩ := num_cells f1
    obtain ⟨u2, rfl, x3, x4⟩ := num_cells f2
    simp only [AV.cells, AV.one] at x1 x2 x3 x4
    have df1 : decide (((N / G : Nat) : Int) < 0) = false := decide_eq_false (Int.not_lt.2 (Int.natCast_nonneg _))
    have df2 : decide (((N % G : Nat) : Int) < 0) = false := decide_eq_false (Int.not_lt.2 (Int.natCast_nonneg _))
    rw [df1] at f1 ⊢
    rw [df2] at f2 ⊢
    simp only [List.append_assoc, List.cons_append, List.nil_append, List.length_append, List.length_cons, List.length_nil, Nat.add_zero, Nat.zero_add, Nat.reduceAdd] at f1 f2 j1 j2 j3 j4 hM
    have sh1 := shun_box (u := [1, 3]) (l := [.bool false, .nils]) (e := 61) (w := true) (o := H.length + (X.length + Y.length + 1 + 1 + 1 + 1 + 1)) hM (by omega) rfl
    have hM2 := hM.add (i := 7) (c := H.length + (X.length + Y.length + 1 + 1 + 1 + 1 + 1)) (d := H.length + (X.length + (Y.length + 1) + 1 + 1 + 1 + 1 + 1)) (by omega) (by omega) (by omega)
    obtain ⟨F2, q1, q2⟩ := mds_fam (B := H ++ (BX (.bool s1) v1 :: BX (.bool s2) v2 :: RX (.int .i64 0) (.int .i64 0) :: BX (.bool false) av :: AO.cells c2 61 true :: X)) (X := Y ++ [BX (.bool false) .nils]) (hM2.cast (by simp) (by simp; omega))
    have q3 : ∀ u, (F2 u).drop (Y.length + 1) = [] := fun u => List.drop_of_length_le (by rw [q1]; simp)
    have q4 : ∀ u Z, (F2 u ++ Z).drop (Y.length + 1) = Z := fun u Z => List.drop_left' (by rw [q1]; simp)
    have sh2 := shun_box (u := [1, 3, 7]) (l := [.bool false, .nils]) (e := 61) (w := true) (o := H.length + (X.length + (Y.length + 1) + 1 + 1 + 1 + 1 + 1)) hM2 (by omega) rfl
    simp only [List.append_assoc, List.cons_append, List.nil_append, List.length_append, List.length_cons, List.length_nil, Nat.add_zero, Nat.zero_add, Nat.reduceAdd] at q1 q2
    simp only [R1, R2, R3, R4, R5, R6, R7, R8, AV.flat, fillIn_nil, fillIn_cons, splice, AV.cells, AV.one, eqsOf, idx, SO.calls, List.reduceReplicate, Nat.reduceBEq, Nat.reduceLT, Nat.reduceAdd, Nat.reduceMul, Nat.reduceSub, Nat.reduceLeDiff, Nat.reduceEqDiff, ↓reduceIte, Int.reduceLT, Int.reduceEq, Int.reduceBNe, Int.reduceBEq, aeq, Int.reduceLE, Int.reduceNeg, Int.reduceMul, Int.reduceAdd, Int.reduceSub, Int.reduceToNat, Int.reducePow, k0, k1, k2, k3, k4, y1, y2, z1, z2, z3, z4, z7, z8, eb, x1, x2, x3, x4, j1, j2, j3, j4, q1, q2, q3, q4, sh1, sh2, veil_un, shun_un]
    clear sh1 sh2 q1 q2 q3 q4 j1 j2 j3 j4 hM hM2 p1
    clear F F2 M
    have g1' := g1.kept (.more _ (Y ++ [BX (.bool false) u1, BX (.bool false) u2]))
    have f1' := f1.kept (.more _ [BX (.bool false) u1, BX (.bool false) u2])
    simp only [List.append_assoc, List.cons_append] at g1' f1'
    refine gets_sS (c61 (hb1.kept (.more _ _)) g1' hg nD nG) ?_ ?_
    · rintro v _ ⟨Y, qv, rv, rfl, -, -, -⟩
      exact ⟨Y, rfl⟩
    rintro v W M F ⟨W', qv, rv, -, rfl, f3, f4⟩ hM j1 j4 j3 j2
    obtain ⟨u3, rfl, x5, x6⟩ := num_cells f3
    obtain ⟨u4, rfl, x7, x8⟩ := num_cells f4
    simp only [AV.cells, AV.one] at x5 x6 x7 x8
    have df3 : decide (((D / G : Nat) : Int) < 0) = false := decide_eq_false (Int.not_lt.2 (Int.natCast_nonneg _))
    have df4 : decide (((D % G : Nat) : Int) < 0) = false := decide_eq_false (Int.not_lt.2 (Int.natCast_nonneg _))
    rw [df3] at f3 ⊢
    rw [df4] at f4 ⊢
    simp only [List.append_assoc, List.cons_append, List.nil_append, List.length_append, List.length_cons, List.length_nil, Nat.add_zero, Nat.zero_add, Nat.reduceAdd] at f3 f4 j1 j2 j3 j4 hM
    have sh1 := shun_box (u := [1, 3]) (l := [.bool false, .nils]) (e := 61) (w := true) (o := H.length + (X.length + (Y.length + (W.length + 1 + 1)) + 1 + 1 + 1 + 1 + 1)) hM (by omega) rfl
    have hM2 := hM.add (i := 7) (c := H.length + (X.length + (Y.length + (W.length + 1 + 1)) + 1 + 1 + 1 + 1 + 1)) (d := H.length + (X.length + (Y.length + (W.length + 1 + 1 + 1)) + 1 + 1 + 1 + 1 + 1)) (by omega) (by omega) (by omega)
    obtain ⟨F2, q1, q2⟩ := mds_fam (B := H ++ (BX (.bool s1) v1 :: BX (.bool s2) v2 :: RX (.int .i64 0) (.int .i64 0) :: BX (.bool false) av :: AO.cells c2 61 true :: (X ++ (Y ++ [BX (.bool false) u1, BX (.bool false) u2])))) (X := W ++ [BX (.bool false) .nils]) (hM2.cast (by simp) (by simp; omega))
    have q3 : ∀ u, (F2 u).drop (W.length + 1) = [] := fun u => List.drop_of_length_le (by rw [q1]; simp)
    have q4 : ∀ u Z, (F2 u ++ Z).drop (W.length + 1) = Z := fun u Z => List.drop_left' (by rw [q1]; simp)
    have sh2 := shun_box (u := [1, 3, 7]) (l := [.bool false, .nils]) (e := 61) (w := true) (o := H.length + (X.length + (Y.length + (W.length + 1 + 1 + 1)) + 1 + 1 + 1 + 1 + 1)) hM2 (by omega) rfl
    simp only [List.append_assoc, List.cons_append, List.nil_append, List.length_append, List.length_cons, List.length_nil, Nat.add_zero, Nat.zero_add, Nat.reduceAdd] at q1 q2
    have nxq := fun {z : Nat} (hz : nd (z : Int) ≤ 1000) => Nat.le_trans (nd_le (x := ((z / G : Nat) : Int)) (y := (z : Int)) (by rw [Int.natAbs_natCast, Int.natAbs_natCast]; exact Nat.div_le_self _ _)) hz
    have nxN := nxq nN
    have nxD := nxq nD
    have f1 : NumOf (H ++ (BX (.bool s1) v1 :: BX (.bool s2) v2 :: RX (.int .i64 0) (.int .i64 0) :: BX (.bool false) av :: AO.cells c2 61 true :: (X ++ (Y ++ (BX (.bool false) u1 :: BX (.bool false) u2 :: (W ++ [BX (.bool false) u3, BX (.bool false) u4])))))) (.agg [.bool false, u1]) ((N / G : Nat) : Int) := by
      have := f1'.kept (.more _ (W ++ [BX (.bool false) u3, BX (.bool false) u4]))
      simpa only [List.append_assoc, List.cons_append, List.nil_append] using this
    have f3 : NumOf (H ++ (BX (.bool s1) v1 :: BX (.bool s2) v2 :: RX (.int .i64 0) (.int .i64 0) :: BX (.bool false) av :: AO.cells c2 61 true :: (X ++ (Y ++ (BX (.bool false) u1 :: BX (.bool false) u2 :: (W ++ [BX (.bool false) u3, BX (.bool false) u4])))))) (.agg [.bool false, u3]) ((D / G : Nat) : Int) := by
      have := f3.kept (.more _ [BX (.bool false) u3, BX (.bool false) u4])
      simpa only [List.append_assoc, List.cons_append, List.nil_append] using this
    have hsm := sgn_mul n d
    by_cases hnd : n * d < 0
    · have a1 : (IntKind.i64.wrap (sgn n * sgn d) < 0) = True := by rw [hsm]; exact eq_true hnd
      obtain ⟨r5, f5, e5⟩ := c54 f1 (by omega)
      have e5 := e5 []
      simp only [List.append_nil] at e5
      have hneg : decide (-((N / G : Nat) : Int) < 0) = true := by
        refine decide_eq_true ?_
        have hN0 : n ≠ 0 := fun h => by rw [h, Int.zero_mul] at hnd; omega
        have := Nat.div_pos (Nat.le_of_dvd (show N > 0 by omega) (by rw [← hG]; exact Nat.gcd_dvd_left N D)) hg
        omega
      obtain ⟨u5, rfl, p1, p2⟩ := num_cells f5
      simp only [AV.cells, AV.one] at p1 p2
      rw [hneg] at f5 e5
      have f5 : NumOf (H ++ (BX (.bool s1) v1 :: BX (.bool s2) v2 :: RX (.int .i64 0) (.int .i64 0) :: BX (.bool false) av :: AO.cells c2 61 true :: (X ++ (Y ++ (BX (.bool true) u5 :: BX (.bool false) u2 :: (W ++ [BX (.bool false) u3, BX (.bool false) u4])))))) _ (-((N / G : Nat) : Int)) := f5.kept (.on (.same (.same (.same (.same (.same (.on (.on (.box (by decide) (.refl _)))))))))) 
      have f3 : NumOf (H ++ (BX (.bool s1) v1 :: BX (.bool s2) v2 :: RX (.int .i64 0) (.int .i64 0) :: BX (.bool false) av :: AO.cells c2 61 true :: (X ++ (Y ++ (BX (.bool true) u5 :: BX (.bool false) u2 :: (W ++ [BX (.bool false) u3, BX (.bool false) u4])))))) _ ((D / G : Nat) : Int) := f3.kept (.on (.same (.same (.same (.same (.same (.on (.on (.box (by decide) (.refl _))))))))))
      obtain ⟨p, o1, o2⟩ := c62 f5 (by rw [nd_neg]; exact nxN)
      obtain ⟨q, o3, o4⟩ := c62 f3 nxD
      have o2 := o2 []
      have o4 := o4 []
      rw [hneg, Int.natAbs_neg, Int.natAbs_natCast] at o1 o2
      rw [df3, Int.natAbs_natCast] at o3 o4
      simp only [List.append_nil] at o2 o4
      rw [decide_eq_true hnd]
      unfold outR lowP
      rcases hf1 : fitI true (N / G) with _ | p
      · rw [hf1] at o2
        simp only [Option.isSome_none] at o2
        rcases hf2 : fitI false (D / G) with _ | q
        · rw [hf2] at o4
          simp only [Option.isSome_none] at o4
          simp only [R1, R2, R3, R4, R5, R6, R7, R8, AV.flat, fillIn_nil, fillIn_cons, splice, AV.cells, AV.one, eqsOf, idx, SO.calls, List.reduceReplicate, Nat.reduceBEq, Nat.reduceLT, Nat.reduceAdd, Nat.reduceMul, Nat.reduceSub, Nat.reduceLeDiff, Nat.reduceEqDiff, ↓reduceIte, Int.reduceLT, Int.reduceEq, Int.reduceBNe, Int.reduceBEq, aeq, Int.reduceLE, Int.reduceNeg, Int.reduceMul, Int.reduceAdd, Int.reduceSub, Int.reduceToNat, Int.reducePow, k0, k1, k2, k3, k4, y1, y2, x1, x2, x3, x4, x5, x6, x7, x8, z1, z2, z3, z4, j1, j2, j3, j4, q1, q2, q3, q4, sh1, sh2, sN, sD, a1, e5, p1, p2, veil_un, shun_un, o2, o4, leftE_ret, got_some]
          rw [tidy_still rfl]
          exact ⟨rfl, rfl⟩
        · rw [hf2] at o4
          simp only [Option.isSome_some] at o4
          simp only [R1, R2, R3, R4, R5, R6, R7, R8, AV.flat, fillIn_nil, fillIn_cons, splice, AV.cells, AV.one, eqsOf, idx, SO.calls, List.reduceReplicate, Nat.reduceBEq, Nat.reduceLT, Nat.reduceAdd, Nat.reduceMul, Nat.reduceSub, Nat.reduceLeDiff, Nat.reduceEqDiff, ↓reduceIte, Int.reduceLT, Int.reduceEq, Int.reduceBNe, Int.reduceBEq, aeq, Int.reduceLE, Int.reduceNeg, Int.reduceMul, Int.reduceAdd, Int.reduceSub, Int.reduceToNat, Int.reducePow, k0, k1, k2, k3, k4, y1, y2, x1, x2, x3, x4, x5, x6, x7, x8, z1, z2, z3, z4, j1, j2, j3, j4, q1, q2, q3, q4, sh1, sh2, sN, sD, a1, e5, p1, p2, veil_un, shun_un, o2, o4, leftE_ret, got_some]
          rw [tidy_still rfl]
          exact ⟨rfl, rfl⟩
      · rw [hf1] at o2
        have e1 := o1 p hf1
        simp only [Option.isSome_some] at o2
        rcases hf2 : fitI false (D / G) with _ | q
        · rw [hf2] at o4
          simp only [Option.isSome_none] at o4
          simp only [R1, R2, R3, R4, R5, R6, R7, R8, AV.flat, fillIn_nil, fillIn_cons, splice, AV.cells, AV.one, eqsOf, idx, SO.calls, List.reduceReplicate, Nat.reduceBEq, Nat.reduceLT, Nat.reduceAdd, Nat.reduceMul, Nat.reduceSub, Nat.reduceLeDiff, Nat.reduceEqDiff, ↓reduceIte, Int.reduceLT, Int.reduceEq, Int.reduceBNe, Int.reduceBEq, aeq, Int.reduceLE, Int.reduceNeg, Int.reduceMul, Int.reduceAdd, Int.reduceSub, Int.reduceToNat, Int.reducePow, k0, k1, k2, k3, k4, y1, y2, x1, x2, x3, x4, x5, x6, x7, x8, z1, z2, z3, z4, j1, j2, j3, j4, q1, q2, q3, q4, sh1, sh2, sN, sD, a1, e5, p1, p2, veil_un, shun_un, o2, o4, leftE_ret, got_some]
          rw [tidy_still rfl]
          exact ⟨rfl, rfl⟩
        · rw [hf2] at o4
          have e2 := o3 q hf2
          simp only [Option.isSome_some] at o4
          subst e1 e2
          simp only [R1, R2, R3, R4, R5, R6, R7, R8, AV.flat, fillIn_nil, fillIn_cons, splice, AV.cells, AV.one, eqsOf, idx, SO.calls, List.reduceReplicate, Nat.reduceBEq, Nat.reduceLT, Nat.reduceAdd, Nat.reduceMul, Nat.reduceSub, Nat.reduceLeDiff, Nat.reduceEqDiff, ↓reduceIte, Int.reduceLT, Int.reduceEq, Int.reduceBNe, Int.reduceBEq, aeq, Int.reduceLE, Int.reduceNeg, Int.reduceMul, Int.reduceAdd, Int.reduceSub, Int.reduceToNat, Int.reducePow, k0, k1, k2, k3, k4, y1, y2, x1, x2, x3, x4, x5, x6, x7, x8, z1, z2, z3, z4, j1, j2, j3, j4, q1, q2, q3, q4, sh1, sh2, sN, sD, a1, e5, p1, p2, veil_un, shun_un, o2, o4, leftE_ret, got_some]
          rw [tidy_still rfl]
          exact ⟨rfl, rfl⟩
    · have a1 : (IntKind.i64.wrap (sgn n * sgn d) < 0) = False := by rw [hsm]; exact eq_false hnd
      obtain ⟨p, o1, o2⟩ := c62 f1 nxN
      obtain ⟨q, o3, o4⟩ := c62 f3 nxD
      have o2 := o2 []
      have o4 := o4 []
      rw [df1, Int.natAbs_natCast] at o1 o2
      rw [df3, Int.natAbs_natCast] at o3 o4
      simp only [List.append_nil] at o2 o4
      rw [decide_eq_false hnd]
      unfold outR lowP
      rcases hf1 : fitI false (N / G) with _ | p
      · rw [hf1] at o2
        simp only [Option.isSome_none] at o2
        rcases hf2 : fitI false (D / G) with _ | q
        · rw [hf2] at o4
          simp only [Option.isSome_none] at o4
          simp only [R1, R2, R3, R4, R5, R6, R7, R8, AV.flat, fillIn_nil, fillIn_cons, splice, AV.cells, AV.one, eqsOf, idx, SO.calls, List.reduceReplicate, Nat.reduceBEq, Nat.reduceLT, Nat.reduceAdd, Nat.reduceMul, Nat.reduceSub, Nat.reduceLeDiff, Nat.reduceEqDiff, ↓reduceIte, Int.reduceLT, Int.reduceEq, Int.reduceBNe, Int.reduceBEq, aeq, Int.reduceLE, Int.reduceNeg, Int.reduceMul, Int.reduceAdd, Int.reduceSub, Int.reduceToNat, Int.reducePow, k0, k1, k2, k3, k4, y1, y2, x1, x2, x3, x4, x5, x6, x7, x8, z1, z2, z3, z4, j1, j2, j3, j4, q1, q2, q3, q4, sh1, sh2, sN, sD, a1, veil_un, shun_un, o2, o4, leftE_ret, got_some]
          rw [tidy_still rfl]
          exact ⟨rfl, rfl⟩
        · rw [hf2] at o4
          simp only [Option.isSome_some] at o4
          simp only [R1, R2, R3, R4, R5, R6, R7, R8, AV.flat, fillIn_nil, fillIn_cons, splice, AV.cells, AV.one, eqsOf, idx, SO.calls, List.reduceReplicate, Nat.reduceBEq, Nat.reduceLT, Nat.reduceAdd, Nat.reduceMul, Nat.reduceSub, Nat.reduceLeDiff, Nat.reduceEqDiff, ↓reduceIte, Int.reduceLT, Int.reduceEq, Int.reduceBNe, Int.reduceBEq, aeq, Int.reduceLE, Int.reduceNeg, Int.reduceMul, Int.reduceAdd, Int.reduceSub, Int.reduceToNat, Int.reducePow, k0, k1, k2, k3, k4, y1, y2, x1, x2, x3, x4, x5, x6, x7, x8, z1, z2, z3, z4, j1, j2, j3, j4, q1, q2, q3, q4, sh1, sh2, sN, sD, a1, veil_un, shun_un, o2, o4, leftE_ret, got_some]
          rw [tidy_still rfl]
          exact ⟨rfl, rfl⟩
      · rw [hf1] at o2
        have e1 := o1 p hf1
        simp only [Option.isSome_some] at o2
        rcases hf2 : fitI false (D / G) with _ | q
        · rw [hf2] at o4
          simp only [Option.isSome_none] at o4
          simp only [R1, R2, R3, R4, R5, R6, R7, R8, AV.flat, fillIn_nil, fillIn_cons, splice, AV.cells, AV.one, eqsOf, idx, SO.calls, List.reduceReplicate, Nat.reduceBEq, Nat.reduceLT, Nat.reduceAdd, Nat.reduceMul, Nat.reduceSub, Nat.reduceLeDiff, Nat.reduceEqDiff, ↓reduceIte, Int.reduceLT, Int.reduceEq, Int.reduceBNe, Int.reduceBEq, aeq, Int.reduceLE, Int.reduceNeg, Int.reduceMul, Int.reduceAdd, Int.reduceSub, Int.reduceToNat, Int.reducePow, k0, k1, k2, k3, k4, y1, y2, x1, x2, x3, x4, x5, x6, x7, x8, z1, z2, z3, z4, j1, j2, j3, j4, q1, q2, q3, q4, sh1, sh2, sN, sD, a1, veil_un, shun_un, o2, o4, leftE_ret, got_some]
          rw [tidy_still rfl]
          exact ⟨rfl, rfl⟩
        · rw [hf2] at o4
          have e2 := o3 q hf2
          simp only [Option.isSome_some] at o4
          subst e1 e2
          simp only [R1, R2, R3, R4, R5, R6, R7, R8, AV.flat, fillIn_nil, fillIn_cons, splice, AV.cells, AV.one, eqsOf, idx, SO.calls, List.reduceReplicate, Nat.reduceBEq, Nat.reduceLT, Nat.reduceAdd, Nat.reduceMul, Nat.reduceSub, Nat.reduceLeDiff, Nat.reduceEqDiff, ↓reduceIte, Int.reduceLT, Int.reduceEq, Int.reduceBNe, Int.reduceBEq, aeq, Int.reduceLE, Int.reduceNeg, Int.reduceMul, Int.reduceAdd, Int.reduceSub, Int.reduceToNat, Int.reducePow, k0, k1, k2, k3, k4, y1, y2, x1, x2, x3, x4, x5, x6, x7, x8, z1, z2, z3, z4, j1, j2, j3, j4, q1, q2, q3, q4, sh1, sh2, sN, sD, a1, veil_un, shun_un, o2, o4, leftE_ret, got_some]
          rw [tidy_still rfl]
          exact ⟨rfl, rfl⟩
  obtain ⟨v, H1, e, rfl, rfl⟩ := key
  exact e
end Go.Proofs.YtdlolhkeckjipaaDoor
