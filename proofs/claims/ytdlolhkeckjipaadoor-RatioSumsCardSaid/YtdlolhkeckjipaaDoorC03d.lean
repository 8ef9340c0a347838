/- Chapter 03: the law of new fractions. -/
import Derived.Test.YtdlolhkeckjipaaDoorC03c
set_option linter.unusedVariables false
set_option linter.unusedSimpArgs false
set_option maxRecDepth 100000
set_option maxHeartbeats 8000000
namespace Go.Proofs.YtdlolhkeckjipaaDoor
open Go Go.Den
theorem fit_ok {b : Bool} {w : Nat} {z : Int} (h : fitI b w = some z) : z.natAbs = w ∧ I64 z := by
  unfold fitI at h
  split at h
  · injection h with h
    unfold I64
    split at h <;> rename_i h1 h2 <;> simp_all <;> omega
  · cases h
theorem new_ok {n d : Int} (h : (newP n d).2.2 = 0) : OkR (newP n d).1 (newP n d).2.1 ∧ I64 (newP n d).1 ∧ I64 (newP n d).2.1 := by
  unfold newP at h ⊢
  by_cases h0 : d = 0
  · rw [if_pos h0] at h; exact absurd h (by decide)
  rw [if_neg h0] at h ⊢
  have hd1 : 0 < d.natAbs := by omega
  have hg1 : 0 < Nat.gcd n.natAbs d.natAbs := Nat.gcd_pos_of_pos_right _ hd1
  have hg := Nat.coprime_div_gcd_div_gcd (m := n.natAbs) (n := d.natAbs) hg1
  have hq := Nat.div_pos (Nat.gcd_le_right n.natAbs hd1) hg1
  generalize n.natAbs / Nat.gcd n.natAbs d.natAbs = x at *
  generalize d.natAbs / Nat.gcd n.natAbs d.natAbs = y at *
  generalize (decide (n < 0) != decide (d < 0) && (x != 0)) = b at *
  unfold lowP at h ⊢
  rcases hF1 : fitI b x with _ | F1 <;> rcases hF2 : fitI false y with _ | F2 <;> rw [hF1, hF2] at h <;> (try (exfalso; simp at h; done))
  have f1 := fit_ok hF1
  have f2 := fit_ok hF2
  have f3 : F2 = (y : Int) := by
    unfold fitI at hF2
    split at hF2
    · injection hF2 with hF2; simpa using hF2.symm
    · cases hF2
  refine ⟨⟨by show F2 > 0; omega, ?_⟩, f1.2, f2.2⟩
  show Nat.gcd F1.natAbs F2.natAbs = 1
  rw [f1.1, f2.1]
  exact hg
theorem c3 {n d : Int} (hn : I64 n) (hd : I64 d) : ∃ H', call env 3 [.int .i64 n, .int .i64 d] [] = some (.bool true, H') := by
  have e1 := fun H => c7 hn hd H
  have e2 := fun H => c8 hn hd H
  have e3 := fun H => c9 hn hd H
  have e4 := fun H => c10 hn hd H
  have e5 : (newP n d).2.2 = 0 → ∀ H, call env 9 [.agg [.int .i64 (newP n d).1, .int .i64 (newP n d).2.1]] H = some (.bool true, H) := fun h H => by
    obtain ⟨a, b, c⟩ := new_ok h
    rw [c9 b c, decide_eq_true a]
  generalize newP n d = z at *
  have q1 : aeqs [1, 1] [.int .i64 z.1, .int .i64 z.2.1] [.int .i64 z.1, .int .i64 z.2.1] = some true := by simp [aeqs]
  have c1 : ∀ z : Int, (z == z) = true := fun z => by simp
  have c2 : ∀ z : Bool, (z == z) = true := fun z => by simp
  generalize decide (OkR n d) = ok at *
  refine ⟨[], ?_⟩
  refine call_ends (fn := s3) rfl rfl (by simp [s3]) ?_
  by_cases h0 : z.2.2 = 0
  · have e5 := e5 h0
    have c3 : (z.2.2 != 0) = false := by rw [bne_eq_false_iff_eq]; exact h0
    simp only [s3, R1, R2, R3, R4, R5, R6, R7, R8, AV.flat, fillIn_nil, fillIn_cons, splice, AV.cells, AV.one, eqsOf, idx, SO.calls, List.reduceReplicate, Nat.reduceBEq, Nat.reduceLT, Nat.reduceAdd, Nat.reduceMul, Nat.reduceSub, Nat.reduceLeDiff, Nat.reduceEqDiff, ↓reduceIte, Int.reduceLT, Int.reduceEq, Int.reduceBNe, Int.reduceBEq, aeq, Int.reduceLE, Int.reduceNeg, Int.reduceMul, Int.reduceAdd, Int.reduceSub, Int.reduceToNat, Int.reducePow, w6, e1, e2, e3, e4, e5, q1, c1, c2, c3, opsd_ga, guardA_t, guardA_f, veil_un, shun_un]
  · have c3 : (z.2.2 != 0) = true := by rw [bne_iff_ne]; exact h0
    simp only [s3, R1, R2, R3, R4, R5, R6, R7, R8, AV.flat, fillIn_nil, fillIn_cons, splice, AV.cells, AV.one, eqsOf, idx, SO.calls, List.reduceReplicate, Nat.reduceBEq, Nat.reduceLT, Nat.reduceAdd, Nat.reduceMul, Nat.reduceSub, Nat.reduceLeDiff, Nat.reduceEqDiff, ↓reduceIte, Int.reduceLT, Int.reduceEq, Int.reduceBNe, Int.reduceBEq, aeq, Int.reduceLE, Int.reduceNeg, Int.reduceMul, Int.reduceAdd, Int.reduceSub, Int.reduceToNat, Int.reducePow, w6, e1, e2, e3, e4, q1, c1, c2, c3, opsd_ga, guardA_t, guardA_f, veil_un, shun_un]
end Go.Proofs.YtdlolhkeckjipaaDoor
