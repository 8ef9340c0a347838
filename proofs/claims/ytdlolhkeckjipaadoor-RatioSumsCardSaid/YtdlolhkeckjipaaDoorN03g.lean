/- Chapter 03, the document's: a big number by another one, bit by bit. -/
import Derived.Test.YtdlolhkeckjipaaDoorN03a
set_option linter.unusedVariables false
set_option linter.unusedSimpArgs false
set_option maxRecDepth 100000
set_option maxHeartbeats 8000000
namespace Go.Proofs.YtdlolhkeckjipaaDoor
open Go Go.Den
theorem kept6 {H X Y : Heap} {c1 c2 c3 c4 c5 c6 : List AV} {a1 a2 a3 a4 a5 a6 : AO} : Kept 45 (H ++ (AO.cells c1 61 true :: AO.cells c2 61 true :: AO.cells c3 61 true :: AO.cells c4 61 true :: AO.cells c5 61 true :: AO.cells c6 61 true :: X)) (H ++ (a1 :: a2 :: a3 :: a4 :: a5 :: a6 :: (X ++ Y))) :=
  .on (.box (by decide) (.box (by decide) (.box (by decide) (.box (by decide) (.box (by decide) (.box (by decide) (.more X Y)))))))
theorem kept6Z {H X Z : Heap} {c1 c2 c3 c4 c5 c6 : List AV} {a1 a2 a3 a4 a5 a6 : AO} (Y : Heap) (hZ : Z = X ++ Y) : Kept 45 (H ++ (AO.cells c1 61 true :: AO.cells c2 61 true :: AO.cells c3 61 true :: AO.cells c4 61 true :: AO.cells c5 61 true :: AO.cells c6 61 true :: X)) (H ++ (a1 :: a2 :: a3 :: a4 :: a5 :: a6 :: Z)) := by
  subst hZ
  exact kept6
theorem kept6' {H X : Heap} {c1 c2 c3 c4 c5 c6 : List AV} {a1 a2 a3 a4 a5 a6 : AO} : Kept 45 (H ++ (AO.cells c1 61 true :: AO.cells c2 61 true :: AO.cells c3 61 true :: AO.cells c4 61 true :: AO.cells c5 61 true :: AO.cells c6 61 true :: X)) (H ++ (a1 :: a2 :: a3 :: a4 :: a5 :: a6 :: X)) :=
  .on (.box (by decide) (.box (by decide) (.box (by decide) (.box (by decide) (.box (by decide) (.box (by decide) (.refl X)))))))
theorem nd_le {x y : Int} (h : x.natAbs ≤ y.natAbs) : nd x ≤ nd y := digs_mono h
theorem bit_low (x m : Nat) (h : m < 16) : x % 65536 / 2 ^ m % 2 = x / 2 ^ m % 2 := by
  have := Nat.testBit_mod_two_pow x 16 m
  simp only [Nat.testBit_eq_decide_div_mod_eq, h, decide_true, Bool.true_and] at this
  have e : (x % 65536 / 2 ^ m % 2 = 1) ↔ (x / 2 ^ m % 2 = 1) := by
    rw [← @decide_eq_true_iff (x % 65536 / 2 ^ m % 2 = 1), ← @decide_eq_true_iff (x / 2 ^ m % 2 = 1)]
    rw [show (2 : Nat) ^ 16 = 65536 from rfl] at this
    rw [this]
  omega
theorem bit_at (A i : Nat) : (digs A).getD (i / 16) 0 / 2 ^ (i % 16) % 2 = A / 2 ^ i % 2 := by
  rw [digs_at, bit_low _ _ (Nat.mod_lt _ (by omega)), Nat.div_div_eq_div_mul]
  have : 65536 ^ (i / 16) * 2 ^ (i % 16) = 2 ^ i := by
    rw [show (65536 : Nat) = 2 ^ 16 from rfl, ← Nat.pow_mul, ← Nat.pow_add]
    congr 1
    omega
  rw [this]
/-- One bit more. -/
theorem bit_step {A B i p bit : Nat} (hB : 0 < B) (hp : p = A / 2 ^ (i + 1)) (hb : bit = A / 2 ^ i % 2) :
    (2 * (p % B) + bit ≥ B → A / 2 ^ i / B = 2 * (p / B) + 1 ∧ A / 2 ^ i % B = 2 * (p % B) + bit - B) ∧ (¬ 2 * (p % B) + bit ≥ B → A / 2 ^ i / B = 2 * (p / B) ∧ A / 2 ^ i % B = 2 * (p % B) + bit) := by
  have e : A / 2 ^ i = 2 * p + bit := by
    rw [hp, hb, Nat.pow_succ, ← Nat.div_div_eq_div_mul]
    omega
  have hbit : bit ≤ 1 := by omega
  rw [e]
  have e1 := Nat.div_add_mod p B
  have l1 := Nat.mod_lt p hB
  generalize p / B = q at *
  generalize p % B = r at *
  constructor
  · intro h
    have := (Nat.div_mod_unique (show B > 0 from hB)).2 (show (2 * r + bit - B) + B * (2 * q + 1) = 2 * p + bit ∧ 2 * r + bit - B < B from ⟨by
      rw [Nat.mul_add, Nat.mul_one, ← Nat.mul_assoc, Nat.mul_comm B 2, Nat.mul_assoc]
      omega, by omega⟩)
    exact this
  · intro h
    have := (Nat.div_mod_unique (show B > 0 from hB)).2 (show (2 * r + bit) + B * (2 * q) = 2 * p + bit ∧ 2 * r + bit < B from ⟨by
      rw [← Nat.mul_assoc, Nat.mul_comm B 2, Nat.mul_assoc]
      omega, by omega⟩)
    exact this
theorem nat_add (a b : Nat) : (a : Int) + (b : Int) = ((a + b : Nat) : Int) := rfl
theorem c61 {H : Heap} {a b : AV} {A B : Nat} (h1 : NumOf H a (A : Int)) (h2 : NumOf H b (B : Int)) (hB : 0 < B) (n1 : nd (A : Int) ≤ 1000) (n2 : nd (B : Int) ≤ 1000) :
    Comes (call env 61 [a, b] H) fun v H1 => ∃ X q r, H1 = H ++ X ∧ v = .tup [q, r] ∧ NumOf H1 q ((A / B : Nat) : Int) ∧ NumOf H1 r ((A % B : Nat) : Int) := by
  obtain ⟨av, ha, z1, z2⟩ := num_cells h1
  obtain ⟨bv, hb, z3, z4⟩ := num_cells h2
  have hd := h1
  obtain ⟨av', ha', hd⟩ := hd
  obtain rfl : av = av' := by rw [ha] at ha'; injection ha' with ha'; injection ha' with _ ha'; injection ha'
  clear ha'
  subst ha hb
  rw [Int.natAbs_natCast] at hd
  simp only [AV.cells, AV.one] at z1 z2 z3 z4
  have l1 := hd.of.lenOf
  have eO := fun H => c39 (n := 1) (by decide) (by decide) H
  have nO : nd 1 ≤ 4 := nd_i64 (by unfold I64; decide)
  have hlen : (digs A).length ≤ 1000 := by
    unfold nd at n1
    rwa [Int.natAbs_natCast] at n1
  have hAl := digs_len A
  have w1 : IntKind.i64.wrap (16 * ((digs A).length : Int)) = ((16 * (digs A).length : Nat) : Int) := by rw [wrap_i64 (by omega) (by omega)]; omega
  have w2 : IntKind.i64.wrap (((16 * (digs A).length : Nat) : Int) - 1) = ((16 * (digs A).length : Nat) : Int) - 1 := wrap_i64 (by omega) (by omega)
  have hz0 : NumOf H (.agg [.bool false, .nils]) ((0 : Nat) : Int) := ⟨.nils, rfl, by rw [show ((0 : Nat) : Int).natAbs = 0 from rfl, digs_zero]; exact TOf.nils (by decide)⟩
  have mle : ∀ k, A / 2 ^ k ≤ A := fun k => Nat.div_le_self _ _
  have qle : ∀ k, (A / 2 ^ k) / B ≤ A := fun k => Nat.le_trans (Nat.div_le_self _ _) (mle k)
  have rlt : ∀ k, (A / 2 ^ k) % B < B := fun k => Nat.mod_lt _ hB
  refine comes_call (fn := s61) rfl rfl (by simp [s61]) ?_
  simp only [s61, R1, R2, R3, R4, R5, R6, R7, R8, AV.flat, fillIn_nil, fillIn_cons, splice, AV.cells, AV.one, eqsOf, idx, SO.calls, List.reduceReplicate, Nat.reduceBEq, Nat.reduceLT, Nat.reduceAdd, Nat.reduceMul, Nat.reduceSub, Nat.reduceLeDiff, Nat.reduceEqDiff, ↓reduceIte, Int.reduceLT, Int.reduceEq, Int.reduceBNe, Int.reduceBEq, aeq, Int.reduceLE, Int.reduceNeg, Int.reduceMul, Int.reduceAdd, Int.reduceSub, Int.reduceToNat, Int.reducePow, z1, z2, z3, z4, l1, w1, w2]
  refine ends_loop (fun k t H' => t.length = 52 ∧ t.getD 2 .undef = .ptr H.length 0 ∧ t.getD 3 .undef = .ptr (H.length + 1) 0 ∧ t.getD 4 .undef = .ptr (H.length + 2) 0 ∧ t.getD 5 .undef = .ptr (H.length + 3) 0 ∧ t.getD 6 .undef = .ptr (H.length + 4) 0 ∧ t.getD 7 .undef = .ptr (H.length + 5) 0 ∧ k ≤ 16 * (digs A).length ∧ t.getD 8 .undef = .int .i64 ((k : Int) - 1) ∧
    ∃ b1 b2 qv rv X, H ++ (BX (.bool (decide ((A : Int) < 0))) av :: BX (.bool (decide ((B : Int) < 0))) bv :: BX (.bool false) .nils :: BX (.bool false) .nils :: BX (.bool b1) qv :: BX (.bool b2) rv :: X) = H' ∧ NumOf H' (.agg [.bool b1, qv]) ((A / 2 ^ k / B : Nat) : Int) ∧ NumOf H' (.agg [.bool b2, rv]) ((A / 2 ^ k % B : Nat) : Int)) (16 * (digs A).length) ?_ ?_
  · simp only [R1, R2, R3, R4, R5, R6, R7, R8, AV.flat, fillIn_nil, fillIn_cons, splice, AV.cells, AV.one, eqsOf, idx, SO.calls, List.reduceReplicate, Nat.reduceBEq, Nat.reduceLT, Nat.reduceAdd, Nat.reduceMul, Nat.reduceSub, Nat.reduceLeDiff, Nat.reduceEqDiff, ↓reduceIte, Int.reduceLT, Int.reduceEq, Int.reduceBNe, Int.reduceBEq, aeq, Int.reduceLE, Int.reduceNeg, Int.reduceMul, Int.reduceAdd, Int.reduceSub, Int.reduceToNat, Int.reducePow]
    have e0 : A / 2 ^ (16 * (digs A).length) = 0 := by
      rw [Nat.pow_mul]
      exact Nat.div_eq_of_lt hAl
    refine ⟨false, false, .nils, .nils, [], rfl, ?_, ?_⟩
    · rw [e0, Nat.zero_div]; exact hz0.kept (.more _ _)
    · rw [e0, Nat.zero_mod]; exact hz0.kept (.more _ _)
  rintro k t _ ⟨k0, k1, k2, k3, k4, k5, k6, hk, k7, b1, b2, qv, rv, X, rfl, g1, g2⟩
  rw [← tm_nil t]
  obtain ⟨qv', hq', y1, y2⟩ := num_cells g1
  obtain ⟨rv', hr', y3, y4⟩ := num_cells g2
  obtain rfl : qv = qv' := by injection hq' with hq'; injection hq' with _ hq'; injection hq'
  obtain rfl : rv = rv' := by injection hr' with hr'; injection hr' with _ hr'; injection hr'
  clear hq' hr'
  simp only [AV.cells, AV.one] at y1 y2 y3 y4
  by_cases h0 : k = 0
  · have a2 : ((k : Int) - 1 ≥ 0) = False := eq_false (by omega)
    have f1 : NumOf (H ++ (BX (.bool (decide ((A : Int) < 0))) av :: BX (.bool (decide ((B : Int) < 0))) bv :: BX (.bool b1) qv :: BX (.bool b2) rv :: BX (.bool b1) qv :: BX (.bool b2) rv :: X)) (.agg [.bool b1, qv]) ((A / B : Nat) : Int) := by
      rw [h0, Nat.pow_zero, Nat.div_one] at g1
      exact g1.kept kept6'
    have f2 : NumOf (H ++ (BX (.bool (decide ((A : Int) < 0))) av :: BX (.bool (decide ((B : Int) < 0))) bv :: BX (.bool b1) qv :: BX (.bool b2) rv :: BX (.bool b1) qv :: BX (.bool b2) rv :: X)) (.agg [.bool b2, rv]) ((A % B : Nat) : Int) := by
      rw [h0, Nat.pow_zero, Nat.div_one] at g2
      exact g2.kept kept6'
    simp only [R1, R2, R3, R4, R5, R6, R7, R8, AV.flat, fillIn_nil, fillIn_cons, splice, AV.cells, AV.one, eqsOf, idx, SO.calls, List.reduceReplicate, Nat.reduceBEq, Nat.reduceLT, Nat.reduceAdd, Nat.reduceMul, Nat.reduceSub, Nat.reduceLeDiff, Nat.reduceEqDiff, ↓reduceIte, Int.reduceLT, Int.reduceEq, Int.reduceBNe, Int.reduceBEq, aeq, Int.reduceLE, Int.reduceNeg, Int.reduceMul, Int.reduceAdd, Int.reduceSub, Int.reduceToNat, Int.reducePow, k0, k1, k2, k3, k4, k5, k6, k7, y1, y2, y3, y4, a2, leftE_ret, got_some, veil_un, shun_un]
    obtain ⟨qw, hq, f1⟩ := f1
    obtain ⟨rw', hr, f2⟩ := f2
    injection hq with hq
    injection hq with hq1 hq
    injection hq with hq
    injection hr with hr
    injection hr with hr1 hr
    injection hr with hr
    subst hq hr
    obtain ⟨v', v2', X', t1, t2, t3⟩ := t_tidy2 (Cx.agg [.bool b1] [] rfl rfl Cx.here) (Cx.agg [.bool b2] [] rfl rfl Cx.here) (r := []) rfl f1 f2
    simp only [List.cons_append, List.nil_append] at t1
    rw [t1]
    exact ⟨X', _, _, rfl, rfl, ⟨v', by rw [hq1], t2⟩, ⟨v2', by rw [hr1], t3⟩⟩
  obtain ⟨i, rfl⟩ : ∃ i, k = i + 1 := ⟨k - 1, by omega⟩
  have ei : ((i + 1 : Nat) : Int) - 1 = (i : Int) := by omega
  rw [ei] at k7
  have a2 : ((i : Int) ≥ 0) = True := eq_true (by omega)
  have w3 : IntKind.i64.wrap ((i : Int) - 1) = (i : Int) - 1 := wrap_i64 (by omega) (by omega)
  have w4 : IntKind.i64.wrap ((i : Int).tdiv 16) = ((i / 16 : Nat) : Int) := by rw [Int.tdiv_eq_ediv_of_nonneg (by omega), wrap_i64 (by omega) (by omega)]; omega
  have w5 : (i : Int).tmod 16 = ((i % 16 : Nat) : Int) := by rw [Int.tmod_eq_emod_of_nonneg (by omega)]; omega
  have gA := w64_addr hd (i := i / 16) (by omega)
  have gL := w64_load hd (i := i / 16) (by omega)
  have hbit := bit_at A i
  have dsh := fdiv_nat ((digs A).getD (i / 16) 0) (i % 16)
  have m1 : (((i % 16 : Nat) : Int) < 0) = False := eq_false (by omega)
  have m2 : (i % 16 ≤ 64) = True := eq_true (by omega)
  generalize (digs A).getD (i / 16) 0 / 2 ^ (i % 16) = sh at *
  have m3 : (sh : Int).tmod 2 = ((sh % 2 : Nat) : Int) := by rw [Int.tmod_eq_emod_of_nonneg (by omega)]; omega
  obtain ⟨st1, st2⟩ := bit_step (i := i) hB rfl hbit
  have q1 := qle (i + 1)
  have r1 := rlt (i + 1)
  generalize A / 2 ^ (i + 1) / B = q at *
  generalize A / 2 ^ (i + 1) % B = r at *
  have nq : nd (q : Int) ≤ 1000 := Nat.le_trans (nd_le (by omega)) n1
  have nr : nd (r : Int) ≤ 1000 := Nat.le_trans (nd_le (by omega)) n2
  have nq2 := nd_add (q : Int) (q : Int)
  have nr2 := nd_add (r : Int) (r : Int)
  have nr3 := nd_add ((r : Int) + (r : Int)) 1
  have nq3 := nd_add ((q : Int) + (q : Int)) 1
  simp only [R1, R2, R3, R4, R5, R6, R7, R8, AV.flat, fillIn_nil, fillIn_cons, splice, AV.cells, AV.one, eqsOf, idx, SO.calls, List.reduceReplicate, Nat.reduceBEq, Nat.reduceLT, Nat.reduceAdd, Nat.reduceMul, Nat.reduceSub, Nat.reduceLeDiff, Nat.reduceEqDiff, ↓reduceIte, Int.reduceLT, Int.reduceEq, Int.reduceBNe, Int.reduceBEq, aeq, Int.reduceLE, Int.reduceNeg, Int.reduceMul, Int.reduceAdd, Int.reduceSub, Int.reduceToNat, Int.reducePow, k0, k1, k2, k3, k4, k5, k6, k7, a2]

  refine gets_comes (c40 g1 g1 (by omega) (by omega)) ?_
  rintro v _ ⟨Y1, rfl, f1⟩
  obtain ⟨u1, rfl, x1, x2⟩ := num_cells f1
  simp only [AV.cells, AV.one] at x1 x2
  simp only [List.append_assoc, List.cons_append, List.nil_append] at f1
  have g1 : NumOf (H ++ (BX (.bool (decide ((A : Int) < 0))) av :: BX (.bool (decide ((B : Int) < 0))) bv :: BX (.bool false) .nils :: BX (.bool false) .nils :: BX (.bool (decide ((q : Int) + (q : Int) < 0))) u1 :: BX (.bool b2) rv :: (X ++ Y1))) _ _ := f1.kept kept6'
  have g2 : NumOf (H ++ (BX (.bool (decide ((A : Int) < 0))) av :: BX (.bool (decide ((B : Int) < 0))) bv :: BX (.bool false) .nils :: BX (.bool false) .nils :: BX (.bool (decide ((q : Int) + (q : Int) < 0))) u1 :: BX (.bool b2) rv :: (X ++ Y1))) _ _ := g2.kept kept6
  generalize decide ((q : Int) + (q : Int) < 0) = c1 at *
  simp only [R1, R2, R3, R4, R5, R6, R7, R8, AV.flat, fillIn_nil, fillIn_cons, splice, AV.cells, AV.one, eqsOf, idx, SO.calls, List.reduceReplicate, Nat.reduceBEq, Nat.reduceLT, Nat.reduceAdd, Nat.reduceMul, Nat.reduceSub, Nat.reduceLeDiff, Nat.reduceEqDiff, ↓reduceIte, Int.reduceLT, Int.reduceEq, Int.reduceBNe, Int.reduceBEq, aeq, Int.reduceLE, Int.reduceNeg, Int.reduceMul, Int.reduceAdd, Int.reduceSub, Int.reduceToNat, Int.reducePow, k0, k1, k2, k3, k4, k5, k6, k7, x1, x2]
  refine gets_comes (c40 g2 g2 (by omega) (by omega)) ?_
  rintro v _ ⟨Y2, rfl, f2⟩
  obtain ⟨u2, rfl, x3, x4⟩ := num_cells f2
  simp only [AV.cells, AV.one] at x3 x4
  simp only [List.append_assoc, List.cons_append, List.nil_append] at f2
  have g2 : NumOf (H ++ (BX (.bool (decide ((A : Int) < 0))) av :: BX (.bool (decide ((B : Int) < 0))) bv :: BX (.bool false) .nils :: BX (.bool false) .nils :: BX (.bool c1) u1 :: BX (.bool (decide ((r : Int) + (r : Int) < 0))) u2 :: (X ++ (Y1 ++ Y2)))) _ _ := f2.kept kept6'
  have g1 : NumOf (H ++ (BX (.bool (decide ((A : Int) < 0))) av :: BX (.bool (decide ((B : Int) < 0))) bv :: BX (.bool false) .nils :: BX (.bool false) .nils :: BX (.bool c1) u1 :: BX (.bool (decide ((r : Int) + (r : Int) < 0))) u2 :: (X ++ (Y1 ++ Y2)))) _ _ := g1.kept (kept6Z Y2 (by simp only [List.append_assoc]))
  generalize decide ((r : Int) + (r : Int) < 0) = c2 at *
  by_cases hb1 : sh % 2 = 1
  · have hsb := hb1
    have a3 : (((sh % 2 : Nat) : Int) == 1) = true := by rw [hb1]; rfl
    simp only [R1, R2, R3, R4, R5, R6, R7, R8, AV.flat, fillIn_nil, fillIn_cons, splice, AV.cells, AV.one, eqsOf, idx, SO.calls, List.reduceReplicate, Nat.reduceBEq, Nat.reduceLT, Nat.reduceAdd, Nat.reduceMul, Nat.reduceSub, Nat.reduceLeDiff, Nat.reduceEqDiff, ↓reduceIte, Int.reduceLT, Int.reduceEq, Int.reduceBNe, Int.reduceBEq, aeq, Int.reduceLE, Int.reduceNeg, Int.reduceMul, Int.reduceAdd, Int.reduceSub, Int.reduceToNat, Int.reducePow, k0, k1, k2, k3, k4, k5, k6, k7, gA, gL, w4, w5, m1, m2, m3, dsh, a3, x1, x2, x3, x4]
    refine gets_comesA (eO _) ?_ ?_ ?_
    · rintro v _ ⟨Y3, rfl, q⟩; simp
    · rintro v _ ⟨Y3, rfl, q⟩; simp only [R1, R2, R3, R4, R5, R6, R7, R8, AV.flat, fillIn_nil, fillIn_cons, splice, AV.cells, AV.one, eqsOf, idx, SO.calls, List.reduceReplicate, Nat.reduceBEq, Nat.reduceLT, Nat.reduceAdd, Nat.reduceMul, Nat.reduceSub, Nat.reduceLeDiff, Nat.reduceEqDiff, ↓reduceIte, Int.reduceLT, Int.reduceEq, Int.reduceBNe, Int.reduceBEq, aeq, Int.reduceLE, Int.reduceNeg, Int.reduceMul, Int.reduceAdd, Int.reduceSub, Int.reduceToNat, Int.reducePow, k0, k1, k2, k3, k4, k5, k6, k7]
    rintro v _ ⟨Y3, rfl, f3⟩
    have f3' := f3
    simp only [List.append_assoc, List.cons_append, List.nil_append] at f3'
    simp only [R1, R2, R3, R4, R5, R6, R7, R8, AV.flat, fillIn_nil, fillIn_cons, splice, AV.cells, AV.one, eqsOf, idx, SO.calls, List.reduceReplicate, Nat.reduceBEq, Nat.reduceLT, Nat.reduceAdd, Nat.reduceMul, Nat.reduceSub, Nat.reduceLeDiff, Nat.reduceEqDiff, ↓reduceIte, Int.reduceLT, Int.reduceEq, Int.reduceBNe, Int.reduceBEq, aeq, Int.reduceLE, Int.reduceNeg, Int.reduceMul, Int.reduceAdd, Int.reduceSub, Int.reduceToNat, Int.reducePow, k0, k1, k2, k3, k4, k5, k6, k7, x1, x2, x3, x4]
    refine gets_comesAll (c40 (g2.kept (kept6Z Y3 (by simp only [List.append_assoc]))) f3' (by omega) (by omega)) ?_ ?_
    · rintro v _ ⟨Y44, rfl, q⟩; simp
    rintro v _ ⟨Y44, rfl, f4⟩
    obtain ⟨u3, rfl, p5, p6⟩ := num_cells f4
    simp only [AV.cells, AV.one] at p5 p6
    simp only [List.append_assoc, List.cons_append, List.nil_append] at f4
    have g2 : NumOf (H ++ (BX (.bool (decide ((A : Int) < 0))) av :: BX (.bool (decide ((B : Int) < 0))) bv :: BX (.bool false) .nils :: BX (.bool false) .nils :: BX (.bool c1) u1 :: BX (.bool (decide ((r : Int) + (r : Int) + 1 < 0))) u3 :: (X ++ (Y1 ++ (Y2 ++ (Y3 ++ Y44)))))) _ _ := f4.kept kept6'
    have g1 : NumOf (H ++ (BX (.bool (decide ((A : Int) < 0))) av :: BX (.bool (decide ((B : Int) < 0))) bv :: BX (.bool false) .nils :: BX (.bool false) .nils :: BX (.bool c1) u1 :: BX (.bool (decide ((r : Int) + (r : Int) + 1 < 0))) u3 :: (X ++ (Y1 ++ (Y2 ++ (Y3 ++ Y44)))))) _ _ := g1.kept (kept6Z (Y3 ++ Y44) (by simp only [List.append_assoc]))
    generalize decide ((r : Int) + (r : Int) + 1 < 0) = c3 at *
    simp only [R1, R2, R3, R4, R5, R6, R7, R8, AV.flat, fillIn_nil, fillIn_cons, splice, AV.cells, AV.one, eqsOf, idx, SO.calls, List.reduceReplicate, Nat.reduceBEq, Nat.reduceLT, Nat.reduceAdd, Nat.reduceMul, Nat.reduceSub, Nat.reduceLeDiff, Nat.reduceEqDiff, ↓reduceIte, Int.reduceLT, Int.reduceEq, Int.reduceBNe, Int.reduceBEq, aeq, Int.reduceLE, Int.reduceNeg, Int.reduceMul, Int.reduceAdd, Int.reduceSub, Int.reduceToNat, Int.reducePow, k0, k1, k2, k3, k4, k5, k6, k7, x1, x2, p5, p6]
    have e6 := c36 g2 (h2.kept (.more H _)) (by omega) (by omega) []
    simp only [List.append_nil] at e6
    by_cases hc : 2 * r + 1 ≥ B
    · have a4 : (sgn (((r : Int) + (r : Int) + 1) - (B : Int)) ≥ 0) = True := eq_true (by unfold sgn; split <;> (try split) <;> omega)
      simp only [R1, R2, R3, R4, R5, R6, R7, R8, AV.flat, fillIn_nil, fillIn_cons, splice, AV.cells, AV.one, eqsOf, idx, SO.calls, List.reduceReplicate, Nat.reduceBEq, Nat.reduceLT, Nat.reduceAdd, Nat.reduceMul, Nat.reduceSub, Nat.reduceLeDiff, Nat.reduceEqDiff, ↓reduceIte, Int.reduceLT, Int.reduceEq, Int.reduceBNe, Int.reduceBEq, aeq, Int.reduceLE, Int.reduceNeg, Int.reduceMul, Int.reduceAdd, Int.reduceSub, Int.reduceToNat, Int.reducePow, k0, k1, k2, k3, k4, k5, k6, k7, e6, a4]
      refine gets_comes (c38 g2 (h2.kept (.more H _)) (by omega) (by omega)) ?_
      rintro v _ ⟨Y4, rfl, f4⟩
      obtain ⟨u4, rfl, p1, p2⟩ := num_cells f4
      simp only [AV.cells, AV.one] at p1 p2
      simp only [List.append_assoc, List.cons_append, List.nil_append] at f4
      have g2 : NumOf (H ++ (BX (.bool (decide ((A : Int) < 0))) av :: BX (.bool (decide ((B : Int) < 0))) bv :: BX (.bool false) .nils :: BX (.bool false) .nils :: BX (.bool c1) u1 :: BX (.bool (decide (((r : Int) + (r : Int) + 1) - (B : Int) < 0))) u4 :: (X ++ (Y1 ++ (Y2 ++ (Y3 ++ (Y44 ++ (Y4)))))))) _ _ := f4.kept kept6'
      have g1 : NumOf (H ++ (BX (.bool (decide ((A : Int) < 0))) av :: BX (.bool (decide ((B : Int) < 0))) bv :: BX (.bool false) .nils :: BX (.bool false) .nils :: BX (.bool c1) u1 :: BX (.bool (decide (((r : Int) + (r : Int) + 1) - (B : Int) < 0))) u4 :: (X ++ (Y1 ++ (Y2 ++ (Y3 ++ (Y44 ++ (Y4)))))))) _ _ := g1.kept (kept6Z Y4 (by simp only [List.append_assoc]))
      generalize decide (((r : Int) + (r : Int) + 1) - (B : Int) < 0) = c4 at *
      simp only [R1, R2, R3, R4, R5, R6, R7, R8, AV.flat, fillIn_nil, fillIn_cons, splice, AV.cells, AV.one, eqsOf, idx, SO.calls, List.reduceReplicate, Nat.reduceBEq, Nat.reduceLT, Nat.reduceAdd, Nat.reduceMul, Nat.reduceSub, Nat.reduceLeDiff, Nat.reduceEqDiff, ↓reduceIte, Int.reduceLT, Int.reduceEq, Int.reduceBNe, Int.reduceBEq, aeq, Int.reduceLE, Int.reduceNeg, Int.reduceMul, Int.reduceAdd, Int.reduceSub, Int.reduceToNat, Int.reducePow, k0, k1, k2, k3, k4, k5, k6, k7, p1, p2, x1, x2]
      refine gets_comesA (eO _) ?_ ?_ ?_
      · rintro v _ ⟨Y5, rfl, q⟩; simp
      · rintro v _ ⟨Y5, rfl, q⟩; simp only [R1, R2, R3, R4, R5, R6, R7, R8, AV.flat, fillIn_nil, fillIn_cons, splice, AV.cells, AV.one, eqsOf, idx, SO.calls, List.reduceReplicate, Nat.reduceBEq, Nat.reduceLT, Nat.reduceAdd, Nat.reduceMul, Nat.reduceSub, Nat.reduceLeDiff, Nat.reduceEqDiff, ↓reduceIte, Int.reduceLT, Int.reduceEq, Int.reduceBNe, Int.reduceBEq, aeq, Int.reduceLE, Int.reduceNeg, Int.reduceMul, Int.reduceAdd, Int.reduceSub, Int.reduceToNat, Int.reducePow, k0, k1, k2, k3, k4, k5, k6, k7]
      rintro v _ ⟨Y5, rfl, f5⟩
      have f5' := f5
      simp only [List.append_assoc, List.cons_append, List.nil_append] at f5'
      simp only [R1, R2, R3, R4, R5, R6, R7, R8, AV.flat, fillIn_nil, fillIn_cons, splice, AV.cells, AV.one, eqsOf, idx, SO.calls, List.reduceReplicate, Nat.reduceBEq, Nat.reduceLT, Nat.reduceAdd, Nat.reduceMul, Nat.reduceSub, Nat.reduceLeDiff, Nat.reduceEqDiff, ↓reduceIte, Int.reduceLT, Int.reduceEq, Int.reduceBNe, Int.reduceBEq, aeq, Int.reduceLE, Int.reduceNeg, Int.reduceMul, Int.reduceAdd, Int.reduceSub, Int.reduceToNat, Int.reducePow, k0, k1, k2, k3, k4, k5, k6, k7, p1, p2, x1, x2]
      refine gets_comesAll (c40 (g1.kept (kept6Z Y5 (by simp only [List.append_assoc]))) f5' (by omega) (by omega)) ?_ ?_
      · rintro v _ ⟨Y6, rfl, q⟩; simp
      rintro v _ ⟨Y6, rfl, f6⟩
      obtain ⟨u6, rfl, p3, p4⟩ := num_cells f6
      simp only [AV.cells, AV.one] at p3 p4
      simp only [List.append_assoc, List.cons_append, List.nil_append] at f6
      have g1 : NumOf (H ++ (BX (.bool (decide ((A : Int) < 0))) av :: BX (.bool (decide ((B : Int) < 0))) bv :: BX (.bool false) .nils :: BX (.bool false) .nils :: BX (.bool (decide ((q : Int) + (q : Int) + 1 < 0))) u6 :: BX (.bool c4) u4 :: (X ++ (Y1 ++ (Y2 ++ (Y3 ++ (Y44 ++ (Y4 ++ (Y5 ++ (Y6)))))))))) _ _ := f6.kept kept6'
      have g2 : NumOf (H ++ (BX (.bool (decide ((A : Int) < 0))) av :: BX (.bool (decide ((B : Int) < 0))) bv :: BX (.bool false) .nils :: BX (.bool false) .nils :: BX (.bool (decide ((q : Int) + (q : Int) + 1 < 0))) u6 :: BX (.bool c4) u4 :: (X ++ (Y1 ++ (Y2 ++ (Y3 ++ (Y44 ++ (Y4 ++ (Y5 ++ (Y6)))))))))) _ _ := g2.kept (kept6Z (Y5 ++ Y6) (by simp only [List.append_assoc]))
      generalize decide ((q : Int) + (q : Int) + 1 < 0) = c6 at *
      simp only [R1, R2, R3, R4, R5, R6, R7, R8, AV.flat, fillIn_nil, fillIn_cons, splice, AV.cells, AV.one, eqsOf, idx, SO.calls, List.reduceReplicate, Nat.reduceBEq, Nat.reduceLT, Nat.reduceAdd, Nat.reduceMul, Nat.reduceSub, Nat.reduceLeDiff, Nat.reduceEqDiff, ↓reduceIte, Int.reduceLT, Int.reduceEq, Int.reduceBNe, Int.reduceBEq, aeq, Int.reduceLE, Int.reduceNeg, Int.reduceMul, Int.reduceAdd, Int.reduceSub, Int.reduceToNat, Int.reducePow, k0, k1, k2, k3, k4, k5, k6, k7, p1, p2, p3, p4, x1, x2, w3, veil_un, shun_un]
      obtain ⟨o1, o2⟩ := st1 (by rw [hsb]; exact hc)
      refine ⟨i, by omega, by omega, rfl, c6, c4, u6, u4, _, rfl, ?_, ?_⟩
      · rw [o1, show ((2 * q + 1 : Nat) : Int) = (q : Int) + (q : Int) + 1 by omega]; exact g1
      · rw [o2, hsb, show ((2 * r + 1 - B : Nat) : Int) = ((r : Int) + (r : Int) + 1) - (B : Int) by omega]; exact g2
    · have a4 : (sgn (((r : Int) + (r : Int) + 1) - (B : Int)) ≥ 0) = False := eq_false (by unfold sgn; split <;> (try split) <;> omega)
      simp only [R1, R2, R3, R4, R5, R6, R7, R8, AV.flat, fillIn_nil, fillIn_cons, splice, AV.cells, AV.one, eqsOf, idx, SO.calls, List.reduceReplicate, Nat.reduceBEq, Nat.reduceLT, Nat.reduceAdd, Nat.reduceMul, Nat.reduceSub, Nat.reduceLeDiff, Nat.reduceEqDiff, ↓reduceIte, Int.reduceLT, Int.reduceEq, Int.reduceBNe, Int.reduceBEq, aeq, Int.reduceLE, Int.reduceNeg, Int.reduceMul, Int.reduceAdd, Int.reduceSub, Int.reduceToNat, Int.reducePow, k0, k1, k2, k3, k4, k5, k6, k7, e6, a4, w3]
      obtain ⟨o1, o2⟩ := st2 (by rw [hsb]; exact hc)
      refine ⟨i, by omega, by omega, rfl, c1, c3, u1, u3, _, rfl, ?_, ?_⟩
      · rw [o1, show ((2 * q : Nat) : Int) = (q : Int) + (q : Int) by omega]; exact g1
      · rw [o2, hsb, show ((2 * r + 1 : Nat) : Int) = ((r : Int) + (r : Int) + 1) by omega]; exact g2
  · have hsb : sh % 2 = 0 := by omega
    have a3 : (((sh % 2 : Nat) : Int) == 1) = false := by rw [hsb]; rfl
    simp only [R1, R2, R3, R4, R5, R6, R7, R8, AV.flat, fillIn_nil, fillIn_cons, splice, AV.cells, AV.one, eqsOf, idx, SO.calls, List.reduceReplicate, Nat.reduceBEq, Nat.reduceLT, Nat.reduceAdd, Nat.reduceMul, Nat.reduceSub, Nat.reduceLeDiff, Nat.reduceEqDiff, ↓reduceIte, Int.reduceLT, Int.reduceEq, Int.reduceBNe, Int.reduceBEq, aeq, Int.reduceLE, Int.reduceNeg, Int.reduceMul, Int.reduceAdd, Int.reduceSub, Int.reduceToNat, Int.reducePow, k0, k1, k2, k3, k4, k5, k6, k7, gA, gL, w4, w5, m1, m2, m3, dsh, a3, x1, x2, x3, x4]
    have e6 := c36 g2 (h2.kept (.more H _)) (by omega) (by omega) []
    simp only [List.append_nil] at e6
    by_cases hc : 2 * r + 0 ≥ B
    · have a4 : (sgn (((r : Int) + (r : Int)) - (B : Int)) ≥ 0) = True := eq_true (by unfold sgn; split <;> (try split) <;> omega)
      simp only [R1, R2, R3, R4, R5, R6, R7, R8, AV.flat, fillIn_nil, fillIn_cons, splice, AV.cells, AV.one, eqsOf, idx, SO.calls, List.reduceReplicate, Nat.reduceBEq, Nat.reduceLT, Nat.reduceAdd, Nat.reduceMul, Nat.reduceSub, Nat.reduceLeDiff, Nat.reduceEqDiff, ↓reduceIte, Int.reduceLT, Int.reduceEq, Int.reduceBNe, Int.reduceBEq, aeq, Int.reduceLE, Int.reduceNeg, Int.reduceMul, Int.reduceAdd, Int.reduceSub, Int.reduceToNat, Int.reducePow, k0, k1, k2, k3, k4, k5, k6, k7, e6, a4]
      refine gets_comes (c38 g2 (h2.kept (.more H _)) (by omega) (by omega)) ?_
      rintro v _ ⟨Y4, rfl, f4⟩
      obtain ⟨u4, rfl, p1, p2⟩ := num_cells f4
      simp only [AV.cells, AV.one] at p1 p2
      simp only [List.append_assoc, List.cons_append, List.nil_append] at f4
      have g2 : NumOf (H ++ (BX (.bool (decide ((A : Int) < 0))) av :: BX (.bool (decide ((B : Int) < 0))) bv :: BX (.bool false) .nils :: BX (.bool false) .nils :: BX (.bool c1) u1 :: BX (.bool (decide (((r : Int) + (r : Int)) - (B : Int) < 0))) u4 :: (X ++ (Y1 ++ (Y2 ++ (Y4)))))) _ _ := f4.kept kept6'
      have g1 : NumOf (H ++ (BX (.bool (decide ((A : Int) < 0))) av :: BX (.bool (decide ((B : Int) < 0))) bv :: BX (.bool false) .nils :: BX (.bool false) .nils :: BX (.bool c1) u1 :: BX (.bool (decide (((r : Int) + (r : Int)) - (B : Int) < 0))) u4 :: (X ++ (Y1 ++ (Y2 ++ (Y4)))))) _ _ := g1.kept (kept6Z Y4 (by simp only [List.append_assoc]))
      generalize decide (((r : Int) + (r : Int)) - (B : Int) < 0) = c4 at *
      simp only [R1, R2, R3, R4, R5, R6, R7, R8, AV.flat, fillIn_nil, fillIn_cons, splice, AV.cells, AV.one, eqsOf, idx, SO.calls, List.reduceReplicate, Nat.reduceBEq, Nat.reduceLT, Nat.reduceAdd, Nat.reduceMul, Nat.reduceSub, Nat.reduceLeDiff, Nat.reduceEqDiff, ↓reduceIte, Int.reduceLT, Int.reduceEq, Int.reduceBNe, Int.reduceBEq, aeq, Int.reduceLE, Int.reduceNeg, Int.reduceMul, Int.reduceAdd, Int.reduceSub, Int.reduceToNat, Int.reducePow, k0, k1, k2, k3, k4, k5, k6, k7, p1, p2, x1, x2]
      refine gets_comesA (eO _) ?_ ?_ ?_
      · rintro v _ ⟨Y5, rfl, q⟩; simp
      · rintro v _ ⟨Y5, rfl, q⟩; simp only [R1, R2, R3, R4, R5, R6, R7, R8, AV.flat, fillIn_nil, fillIn_cons, splice, AV.cells, AV.one, eqsOf, idx, SO.calls, List.reduceReplicate, Nat.reduceBEq, Nat.reduceLT, Nat.reduceAdd, Nat.reduceMul, Nat.reduceSub, Nat.reduceLeDiff, Nat.reduceEqDiff, ↓reduceIte, Int.reduceLT, Int.reduceEq, Int.reduceBNe, Int.reduceBEq, aeq, Int.reduceLE, Int.reduceNeg, Int.reduceMul, Int.reduceAdd, Int.reduceSub, Int.reduceToNat, Int.reducePow, k0, k1, k2, k3, k4, k5, k6, k7]
      rintro v _ ⟨Y5, rfl, f5⟩
      have f5' := f5
      simp only [List.append_assoc, List.cons_append, List.nil_append] at f5'
      simp only [R1, R2, R3, R4, R5, R6, R7, R8, AV.flat, fillIn_nil, fillIn_cons, splice, AV.cells, AV.one, eqsOf, idx, SO.calls, List.reduceReplicate, Nat.reduceBEq, Nat.reduceLT, Nat.reduceAdd, Nat.reduceMul, Nat.reduceSub, Nat.reduceLeDiff, Nat.reduceEqDiff, ↓reduceIte, Int.reduceLT, Int.reduceEq, Int.reduceBNe, Int.reduceBEq, aeq, Int.reduceLE, Int.reduceNeg, Int.reduceMul, Int.reduceAdd, Int.reduceSub, Int.reduceToNat, Int.reducePow, k0, k1, k2, k3, k4, k5, k6, k7, p1, p2, x1, x2]
      refine gets_comesAll (c40 (g1.kept (kept6Z Y5 (by simp only [List.append_assoc]))) f5' (by omega) (by omega)) ?_ ?_
      · rintro v _ ⟨Y6, rfl, q⟩; simp
      rintro v _ ⟨Y6, rfl, f6⟩
      obtain ⟨u6, rfl, p3, p4⟩ := num_cells f6
      simp only [AV.cells, AV.one] at p3 p4
      simp only [List.append_assoc, List.cons_append, List.nil_append] at f6
      have g1 : NumOf (H ++ (BX (.bool (decide ((A : Int) < 0))) av :: BX (.bool (decide ((B : Int) < 0))) bv :: BX (.bool false) .nils :: BX (.bool false) .nils :: BX (.bool (decide ((q : Int) + (q : Int) + 1 < 0))) u6 :: BX (.bool c4) u4 :: (X ++ (Y1 ++ (Y2 ++ (Y4 ++ (Y5 ++ (Y6)))))))) _ _ := f6.kept kept6'
      have g2 : NumOf (H ++ (BX (.bool (decide ((A : Int) < 0))) av :: BX (.bool (decide ((B : Int) < 0))) bv :: BX (.bool false) .nils :: BX (.bool false) .nils :: BX (.bool (decide ((q : Int) + (q : Int) + 1 < 0))) u6 :: BX (.bool c4) u4 :: (X ++ (Y1 ++ (Y2 ++ (Y4 ++ (Y5 ++ (Y6)))))))) _ _ := g2.kept (kept6Z (Y5 ++ Y6) (by simp only [List.append_assoc]))
      generalize decide ((q : Int) + (q : Int) + 1 < 0) = c6 at *
      simp only [R1, R2, R3, R4, R5, R6, R7, R8, AV.flat, fillIn_nil, fillIn_cons, splice, AV.cells, AV.one, eqsOf, idx, SO.calls, List.reduceReplicate, Nat.reduceBEq, Nat.reduceLT, Nat.reduceAdd, Nat.reduceMul, Nat.reduceSub, Nat.reduceLeDiff, Nat.reduceEqDiff, ↓reduceIte, Int.reduceLT, Int.reduceEq, Int.reduceBNe, Int.reduceBEq, aeq, Int.reduceLE, Int.reduceNeg, Int.reduceMul, Int.reduceAdd, Int.reduceSub, Int.reduceToNat, Int.reducePow, k0, k1, k2, k3, k4, k5, k6, k7, p1, p2, p3, p4, x1, x2, w3, veil_un, shun_un]
      obtain ⟨o1, o2⟩ := st1 (by rw [hsb]; exact hc)
      refine ⟨i, by omega, by omega, rfl, c6, c4, u6, u4, _, rfl, ?_, ?_⟩
      · rw [o1, show ((2 * q + 1 : Nat) : Int) = (q : Int) + (q : Int) + 1 by omega]; exact g1
      · rw [o2, hsb, show ((2 * r + 0 - B : Nat) : Int) = ((r : Int) + (r : Int)) - (B : Int) by omega]; exact g2
    · have a4 : (sgn (((r : Int) + (r : Int)) - (B : Int)) ≥ 0) = False := eq_false (by unfold sgn; split <;> (try split) <;> omega)
      simp only [R1, R2, R3, R4, R5, R6, R7, R8, AV.flat, fillIn_nil, fillIn_cons, splice, AV.cells, AV.one, eqsOf, idx, SO.calls, List.reduceReplicate, Nat.reduceBEq, Nat.reduceLT, Nat.reduceAdd, Nat.reduceMul, Nat.reduceSub, Nat.reduceLeDiff, Nat.reduceEqDiff, ↓reduceIte, Int.reduceLT, Int.reduceEq, Int.reduceBNe, Int.reduceBEq, aeq, Int.reduceLE, Int.reduceNeg, Int.reduceMul, Int.reduceAdd, Int.reduceSub, Int.reduceToNat, Int.reducePow, k0, k1, k2, k3, k4, k5, k6, k7, e6, a4, w3]
      obtain ⟨o1, o2⟩ := st2 (by rw [hsb]; exact hc)
      refine ⟨i, by omega, by omega, rfl, c1, c2, u1, u2, _, rfl, ?_, ?_⟩
      · rw [o1, show ((2 * q : Nat) : Int) = (q : Int) + (q : Int) by omega]; exact g1
      · rw [o2, hsb, show ((2 * r + 0 : Nat) : Int) = ((r : Int) + (r : Int)) by omega]; exact g2
end Go.Proofs.YtdlolhkeckjipaaDoor
