/- Chapter 03: a fraction of two numbers. -/
import Derived.Test.YtdlolhkeckjipaaDoorC03b
set_option linter.unusedVariables false
set_option linter.unusedSimpArgs false
set_option maxRecDepth 100000
set_option maxHeartbeats 8000000
namespace Go.Proofs.YtdlolhkeckjipaaDoor
open Go Go.Den
/-- A fraction of what two numbers are, with the first one's sign, and how it went. -/
def lowP (neg : Bool) (x y : Nat) : Int × Int × Int :=
  match fitI neg x, fitI false y with
  | some p, some q => (p, q, 0)
  | _, _ => (0, 0, 2)
theorem bft : (false == true) = false := rfl
theorem btf : (true == false) = false := rfl
theorem c26 (s1 s2 : Bool) {x y : Nat} (hx : x < 340282366920938463463374607431768211456) (hy : y < 340282366920938463463374607431768211456)
    (e1 : ∀ H, call env 44 [.agg (wcs x), .agg (wcs (Nat.gcd x y))] H = some (.agg (wcs (x / Nat.gcd x y)), H))
    (e2 : ∀ H, call env 44 [.agg (wcs y), .agg (wcs (Nat.gcd x y))] H = some (.agg (wcs (y / Nat.gcd x y)), H)) (H : Heap) :
    call env 26 [.agg (.bool s1 :: wcs x), .agg (.bool s2 :: wcs y)] H = some (.tup [.agg [.int .i64 (lowP (s1 != s2 && (x / Nat.gcd x y != 0)) (x / Nat.gcd x y) (y / Nat.gcd x y)).1, .int .i64 (lowP (s1 != s2 && (x / Nat.gcd x y != 0)) (x / Nat.gcd x y) (y / Nat.gcd x y)).2.1], .int .i64 (lowP (s1 != s2 && (x / Nat.gcd x y != 0)) (x / Nat.gcd x y) (y / Nat.gcd x y)).2.2], H) := by
  refine call_ends (fn := s26) rfl rfl (by simp [s26]) ?_
  have e0 := fun H => c31 hx hy H
  have h1 := Nat.div_le_self x (Nat.gcd x y)
  have h2 := Nat.div_le_self y (Nat.gcd x y)
  generalize Nat.gcd x y = g at *
  generalize x / g = p at *
  generalize y / g = q at *
  have q1 := wcs_eq p 0
  rw [wcs_zero] at q1
  have e3 := fun H => c45 (s1 != s2 && (p != 0)) (w := p) (by omega) H
  have e4 := fun H => c45 false (w := q) (by omega) H
  unfold lowP
  generalize hb : (s1 != s2 && (p != 0)) = b at *
  generalize fitI b p = f1 at *
  generalize fitI false q = f2 at *
  simp only [wcs] at e0 e1 e2 e3 e4 q1 ⊢
  cases s1 <;> cases s2 <;> (try (simp only [bne_self_eq_false, Bool.false_and] at hb; subst hb)) <;> (try (have hb : (!(p == 0)) = b := hb)) <;> rcases f1 with _ | f1 <;> rcases f2 with _ | f2 <;>
    simp only [Option.isSome_none, Option.isSome_some, Option.getD_some, Option.getD_none] at e3 e4 <;>
    (first | (simp only [s26, R1, R2, R3, R4, R5, R6, R7, R8, AV.flat, fillIn_nil, fillIn_cons, splice, AV.cells, AV.one, eqsOf, idx, SO.calls, List.reduceReplicate, Nat.reduceBEq, Nat.reduceLT, Nat.reduceAdd, Nat.reduceMul, Nat.reduceSub, Nat.reduceLeDiff, Nat.reduceEqDiff, ↓reduceIte, Int.reduceLT, Int.reduceEq, Int.reduceBNe, Int.reduceBEq, aeq, Int.reduceLE, Int.reduceNeg, Int.reduceMul, Int.reduceAdd, Int.reduceSub, Int.reduceToNat, Int.reducePow, e0, e1, e2, e3, e4, q1, hb, bft, btf, veil_un, shun_un]; done) | simp only [s26, R1, R2, R3, R4, R5, R6, R7, R8, AV.flat, fillIn_nil, fillIn_cons, splice, AV.cells, AV.one, eqsOf, idx, SO.calls, List.reduceReplicate, Nat.reduceBEq, Nat.reduceLT, Nat.reduceAdd, Nat.reduceMul, Nat.reduceSub, Nat.reduceLeDiff, Nat.reduceEqDiff, ↓reduceIte, Int.reduceLT, Int.reduceEq, Int.reduceBNe, Int.reduceBEq, aeq, Int.reduceLE, Int.reduceNeg, Int.reduceMul, Int.reduceAdd, Int.reduceSub, Int.reduceToNat, Int.reducePow, e0, e1, e2, e3, e4, q1, hb, bft, btf, veil_un, shun_un] | simp only [s26, R1, R2, R3, R4, R5, R6, R7, R8, AV.flat, fillIn_nil, fillIn_cons, splice, AV.cells, AV.one, eqsOf, idx, SO.calls, List.reduceReplicate, Nat.reduceBEq, Nat.reduceLT, Nat.reduceAdd, Nat.reduceMul, Nat.reduceSub, Nat.reduceLeDiff, Nat.reduceEqDiff, ↓reduceIte, Int.reduceLT, Int.reduceEq, Int.reduceBNe, Int.reduceBEq, aeq, Int.reduceLE, Int.reduceNeg, Int.reduceMul, Int.reduceAdd, Int.reduceSub, Int.reduceToNat, Int.reducePow, e0, e1, e2, e3, e4, q1, bft, btf, veil_un, shun_un]) <;> (try rw [tidy_still rfl])
/-- A fraction of two numbers. -/
def newP (n d : Int) : Int × Int × Int :=
  if d = 0 then (0, 0, 13) else lowP (decide (n < 0) != decide (d < 0) && (n.natAbs / Nat.gcd n.natAbs d.natAbs != 0)) (n.natAbs / Nat.gcd n.natAbs d.natAbs) (d.natAbs / Nat.gcd n.natAbs d.natAbs)
theorem c7 {n d : Int} (hn : I64 n) (hd : I64 d) (H : Heap) : call env 7 [.int .i64 n, .int .i64 d] H = some (.tup [.agg [.int .i64 (newP n d).1, .int .i64 (newP n d).2.1], .int .i64 (newP n d).2.2], H) := by
  refine call_ends (fn := s7) rfl rfl (by simp [s7]) ?_
  unfold newP
  by_cases h0 : d = 0
  · rw [if_pos h0]
    have c1 : (d == 0) = true := by rw [beq_iff_eq]; exact h0
    simp only [s7, R1, R2, R3, R4, R5, R6, R7, R8, AV.flat, fillIn_nil, fillIn_cons, splice, AV.cells, AV.one, eqsOf, idx, SO.calls, List.reduceReplicate, Nat.reduceBEq, Nat.reduceLT, Nat.reduceAdd, Nat.reduceMul, Nat.reduceSub, Nat.reduceLeDiff, Nat.reduceEqDiff, ↓reduceIte, Int.reduceLT, Int.reduceEq, Int.reduceBNe, Int.reduceBEq, aeq, Int.reduceLE, Int.reduceNeg, Int.reduceMul, Int.reduceAdd, Int.reduceSub, Int.reduceToNat, Int.reducePow, c1]
    rw [tidy_still rfl]
  rw [if_neg h0]
  have c1 : (d == 0) = false := by rw [beq_eq_false_iff_ne]; exact h0
  have e1 := fun H => c27 hn (b := 1) (by unfold I64; omega) H
  have e2 := fun H => c27 hd (b := 1) (by unfold I64; omega) H
  unfold I64 at hn hd
  rw [show (1 : Int).natAbs = 1 from rfl, Nat.mul_one, show decide ((1 : Int) < 0) = false from rfl, Bool.bne_false] at e1 e2
  have hd1 : 0 < d.natAbs := by omega
  have hg1 : 0 < Nat.gcd n.natAbs d.natAbs := Nat.gcd_pos_of_pos_right _ hd1
  have hg2 : Nat.gcd n.natAbs d.natAbs ≤ d.natAbs := Nat.gcd_le_right _ hd1
  have e3 := fun H => c26 (decide (n < 0)) (decide (d < 0)) (x := n.natAbs) (y := d.natAbs) (by omega) (by omega) (fun H => c44_0 (by omega) hg1 (by omega) H) (fun H => c44_0 (by omega) hg1 (by omega) H) H
  generalize lowP (decide (n < 0) != decide (d < 0) && (n.natAbs / Nat.gcd n.natAbs d.natAbs != 0)) (n.natAbs / Nat.gcd n.natAbs d.natAbs) (d.natAbs / Nat.gcd n.natAbs d.natAbs) = z at *
  rw [wcs_small (x := n.natAbs) (by omega)] at e1 e3
  rw [wcs_small (x := d.natAbs) (by omega)] at e2 e3
  generalize decide (n < 0) = s1 at *
  generalize decide (d < 0) = s2 at *
  simp only [s7, R1, R2, R3, R4, R5, R6, R7, R8, AV.flat, fillIn_nil, fillIn_cons, splice, AV.cells, AV.one, eqsOf, idx, SO.calls, List.reduceReplicate, Nat.reduceBEq, Nat.reduceLT, Nat.reduceAdd, Nat.reduceMul, Nat.reduceSub, Nat.reduceLeDiff, Nat.reduceEqDiff, ↓reduceIte, Int.reduceLT, Int.reduceEq, Int.reduceBNe, Int.reduceBEq, aeq, Int.reduceLE, Int.reduceNeg, Int.reduceMul, Int.reduceAdd, Int.reduceSub, Int.reduceToNat, Int.reducePow, c1, e1, e2, e3]
  rw [tidy_still rfl]
theorem c8 {n d : Int} (hn : I64 n) (hd : I64 d) (H : Heap) : call env 8 [.int .i64 n, .int .i64 d] H = some (.tup [.agg [.int .i64 (newP n d).1, .int .i64 (newP n d).2.1], .int .i64 (newP n d).2.2], H) := by
  refine call_ends (fn := s8) rfl rfl (by simp [s8]) ?_
  unfold newP
  by_cases h0 : d = 0
  · rw [if_pos h0]
    have c1 : (d == 0) = true := by rw [beq_iff_eq]; exact h0
    simp only [s8, R1, R2, R3, R4, R5, R6, R7, R8, AV.flat, fillIn_nil, fillIn_cons, splice, AV.cells, AV.one, eqsOf, idx, SO.calls, List.reduceReplicate, Nat.reduceBEq, Nat.reduceLT, Nat.reduceAdd, Nat.reduceMul, Nat.reduceSub, Nat.reduceLeDiff, Nat.reduceEqDiff, ↓reduceIte, Int.reduceLT, Int.reduceEq, Int.reduceBNe, Int.reduceBEq, aeq, Int.reduceLE, Int.reduceNeg, Int.reduceMul, Int.reduceAdd, Int.reduceSub, Int.reduceToNat, Int.reducePow, c1]
    rw [tidy_still rfl]
  rw [if_neg h0]
  have c1 : (d == 0) = false := by rw [beq_eq_false_iff_ne]; exact h0
  have e1 := fun H => c29 hn H
  have e2 := fun H => c29 hd H
  unfold I64 at hn hd
  have hd1 : 0 < d.natAbs := by omega
  have hg1 : 0 < Nat.gcd n.natAbs d.natAbs := Nat.gcd_pos_of_pos_right _ hd1
  have e3 := fun H => c28 n.natAbs d.natAbs (by omega) (by omega) H
  have q1 := Nat.div_le_self n.natAbs (Nat.gcd n.natAbs d.natAbs)
  have q2 := Nat.div_le_self d.natAbs (Nat.gcd n.natAbs d.natAbs)
  have hz : (n.natAbs / Nat.gcd n.natAbs d.natAbs != 0) = (n != 0) := by
    by_cases h : n = 0
    · subst h; simp
    · have h1 : n.natAbs / Nat.gcd n.natAbs d.natAbs ≠ 0 := by
        have := Nat.div_pos (Nat.gcd_le_left d.natAbs (show 0 < n.natAbs by omega)) hg1
        omega
      rw [bne_iff_ne.2 h, bne_iff_ne.2 h1]
  rw [hz]
  have c3 : ((Nat.gcd n.natAbs d.natAbs : Int) = 0) = False := eq_false (by omega)
  have t1 : IntKind.u64.wrap ((n.natAbs : Int).tdiv (Nat.gcd n.natAbs d.natAbs : Int)) = ((n.natAbs / Nat.gcd n.natAbs d.natAbs : Nat) : Int) := by
    rw [Int.tdiv_eq_ediv_of_nonneg (by omega), ← Int.natCast_ediv, wrap_u64_mod]
    generalize n.natAbs / Nat.gcd n.natAbs d.natAbs = z at *
    omega
  have t2 : IntKind.u64.wrap ((d.natAbs : Int).tdiv (Nat.gcd n.natAbs d.natAbs : Int)) = ((d.natAbs / Nat.gcd n.natAbs d.natAbs : Nat) : Int) := by
    rw [Int.tdiv_eq_ediv_of_nonneg (by omega), ← Int.natCast_ediv, wrap_u64_mod]
    generalize d.natAbs / Nat.gcd n.natAbs d.natAbs = z at *
    omega
  generalize n.natAbs / Nat.gcd n.natAbs d.natAbs = x at *
  generalize d.natAbs / Nat.gcd n.natAbs d.natAbs = y at *
  generalize Nat.gcd n.natAbs d.natAbs = g at *
  obtain ⟨v2, f2, e5⟩ := c30 false (w := y) (by omega)
  unfold lowP
  have fin : ∀ b : Bool, (decide (n < 0) != decide (d < 0) && (n != 0)) = b → ∃ v1 : Int, (∀ z, fitI b x = some z → v1 = z) ∧ ∀ H : Heap, call env 30 [.bool b, .int .u64 (x : Int)] H = some (.tup [.int .i64 v1, .bool (fitI b x).isSome], H) := fun b _ => c30 b (w := x) (by omega)
  obtain ⟨v1, f1, e4⟩ := fin _ rfl
  generalize hb : (decide (n < 0) != decide (d < 0) && (n != 0)) = b at *
  generalize hs1 : decide (n < 0) = s1 at *
  generalize hs2 : decide (d < 0) = s2 at *
  have c5 : ∀ z : Bool, (s1 != s2) = z → (s1 != s2) = z := fun _ h => h
  generalize hn0 : (n != 0) = nz at *
  generalize fitI b x = F1 at *
  generalize fitI false y = F2 at *
  rcases F1 with _ | F1 <;> rcases F2 with _ | F2 <;> simp only [Option.isSome_none, Option.isSome_some] at e4 e5 <;> (try (obtain rfl := f1 _ rfl)) <;> (try (obtain rfl := f2 _ rfl)) <;>
    cases s1 <;> cases s2 <;> cases nz <;> simp only [bne_self_eq_false, Bool.false_and, Bool.and_false, Bool.and_true, Bool.true_bne, Bool.false_bne, Bool.not_true, Bool.not_false] at hb <;> subst hb <;>
    (try simp only [s8, R1, R2, R3, R4, R5, R6, R7, R8, AV.flat, fillIn_nil, fillIn_cons, splice, AV.cells, AV.one, eqsOf, idx, SO.calls, List.reduceReplicate, Nat.reduceBEq, Nat.reduceLT, Nat.reduceAdd, Nat.reduceMul, Nat.reduceSub, Nat.reduceLeDiff, Nat.reduceEqDiff, ↓reduceIte, Int.reduceLT, Int.reduceEq, Int.reduceBNe, Int.reduceBEq, aeq, Int.reduceLE, Int.reduceNeg, Int.reduceMul, Int.reduceAdd, Int.reduceSub, Int.reduceToNat, Int.reducePow, c1, c3, e1, e2, e3, e4, e5, t1, t2, hs1, hs2, hn0, bft, btf]) <;> (try rw [tidy_still rfl])
end Go.Proofs.YtdlolhkeckjipaaDoor
