/- Chapter 10: whether a head may be. -/
import Derived.Test.YthfpndelfbeknaaEnv
import Derived.Test.YthfpndelfbeknaaDen38
set_option linter.unusedVariables false
set_option linter.unusedSimpArgs false
set_option maxRecDepth 100000
set_option maxHeartbeats 1000000
namespace Go.Proofs.Ythfpndelfbeknaa
open Go Go.Den
structure Hd where
  em : Int
  long : Bool
  glyphs : Int
  metrics : Int
  up : Int
  down : Int
  gap : Int
def Hd.cs (h : Hd) : List AV := [.int .i64 h.em, .bool h.long, .int .i64 h.glyphs, .int .i64 h.metrics, .int .i64 h.up, .int .i64 h.down, .int .i64 h.gap]
def Short (n : Int) : Prop := -32768 ≤ n ∧ n ≤ 32767
instance (n : Int) : Decidable (Short n) := by unfold Short; exact inferInstance
def MayH (h : Hd) : Prop := 16 ≤ h.em ∧ h.em ≤ 16384 ∧ 1 ≤ h.glyphs ∧ h.glyphs ≤ 1024 ∧ 1 ≤ h.metrics ∧ h.metrics ≤ h.glyphs ∧ Short h.up ∧ Short h.down ∧ Short h.gap
instance (h : Hd) : Decidable (MayH h) := by unfold MayH; exact inferInstance
theorem c93 (n a b : Int) (H : Heap) : call env 93 [.int .i64 n, .int .i64 a, .int .i64 b] H = some (.bool (decide (a ≤ n ∧ n ≤ b)), H) := by
  refine call_ends (fn := s93) rfl rfl (by simp [s93]) ?_
  have hh : True := trivial
  have hk : True := trivial
  have hj : True := trivial
  simp only [s93]
  repeat' (first
    | simp only [R1, R2, R3, R4, R5, R6, R7, R8, AV.flat, fillIn_nil, fillIn_cons, splice, AV.cells, AV.one, eqsOf, idx, SO.calls, List.reduceReplicate, Nat.reduceBEq, Nat.reduceLT, Nat.reduceAdd, Nat.reduceMul, Nat.reduceSub, Nat.reduceLeDiff, Nat.reduceEqDiff, ↓reduceIte, Int.reduceLT, Int.reduceEq, Int.reduceBNe, Int.reduceBEq, aeq, Int.reduceLE, Int.reduceNeg, Int.reduceMul, Int.reduceAdd, Int.reduceSub, Int.reduceToNat, Int.reducePow, hh, hk, hj, tidy_bool]
    | simp (disch := omega) only [wrap_i64]
    | (simp only [gets_guard, gets_guardd, endsIf_any]; split <;> rename_i hk <;> (try simp only [Bool.not_eq_true] at hk) <;> (have hh := hk) <;> (have hj := hk) <;> (try simp only [Bool.not_eq_true', Bool.not_eq_false'] at hj) <;> (try simp only [decide_eq_true_eq, Bool.not_eq_true, decide_eq_false_iff_not, Bool.not_eq_true', Bool.not_eq_false', Bool.and_eq_true, Bool.or_eq_true, beq_iff_eq, bne_iff_ne, ne_eq] at hh)))
  all_goals grind
theorem c94 (n : Int) (H : Heap) : call env 94 [.int .i64 n] H = some (.bool (decide (Short n)), H) := by
  refine call_ends (fn := s94) rfl rfl (by simp [s94]) ?_
  have hh : True := trivial
  have hk : True := trivial
  have hj : True := trivial
  simp only [s94]
  repeat' (first
    | simp only [R1, R2, R3, R4, R5, R6, R7, R8, AV.flat, fillIn_nil, fillIn_cons, splice, AV.cells, AV.one, eqsOf, idx, SO.calls, List.reduceReplicate, Nat.reduceBEq, Nat.reduceLT, Nat.reduceAdd, Nat.reduceMul, Nat.reduceSub, Nat.reduceLeDiff, Nat.reduceEqDiff, ↓reduceIte, Int.reduceLT, Int.reduceEq, Int.reduceBNe, Int.reduceBEq, aeq, Int.reduceLE, Int.reduceNeg, Int.reduceMul, Int.reduceAdd, Int.reduceSub, Int.reduceToNat, Int.reducePow, hh, hk, hj, c93, tidy_bool]
    | simp (disch := omega) only [wrap_i64]
    | (simp only [gets_guard, gets_guardd, endsIf_any]; split <;> rename_i hk <;> (try simp only [Bool.not_eq_true] at hk) <;> (have hh := hk) <;> (have hj := hk) <;> (try simp only [Bool.not_eq_true', Bool.not_eq_false'] at hj) <;> (try simp only [decide_eq_true_eq, Bool.not_eq_true, decide_eq_false_iff_not, Bool.not_eq_true', Bool.not_eq_false', Bool.and_eq_true, Bool.or_eq_true, beq_iff_eq, bne_iff_ne, ne_eq] at hh)))
  all_goals grind [Short]
theorem c95 (n : Int) (H : Heap) : call env 95 [.int .i64 n] H = some (.bool (decide (Short n)), H) := by
  refine call_ends (fn := s95) rfl rfl (by simp [s95]) ?_
  have hh : True := trivial
  have hk : True := trivial
  have hj : True := trivial
  simp only [s95]
  repeat' (first
    | simp only [R1, R2, R3, R4, R5, R6, R7, R8, AV.flat, fillIn_nil, fillIn_cons, splice, AV.cells, AV.one, eqsOf, idx, SO.calls, List.reduceReplicate, Nat.reduceBEq, Nat.reduceLT, Nat.reduceAdd, Nat.reduceMul, Nat.reduceSub, Nat.reduceLeDiff, Nat.reduceEqDiff, ↓reduceIte, Int.reduceLT, Int.reduceEq, Int.reduceBNe, Int.reduceBEq, aeq, Int.reduceLE, Int.reduceNeg, Int.reduceMul, Int.reduceAdd, Int.reduceSub, Int.reduceToNat, Int.reducePow, hh, hk, hj, tidy_bool]
    | simp (disch := omega) only [wrap_i64]
    | (simp only [gets_guard, gets_guardd, endsIf_any]; split <;> rename_i hk <;> (try simp only [Bool.not_eq_true] at hk) <;> (have hh := hk) <;> (have hj := hk) <;> (try simp only [Bool.not_eq_true', Bool.not_eq_false'] at hj) <;> (try simp only [decide_eq_true_eq, Bool.not_eq_true, decide_eq_false_iff_not, Bool.not_eq_true', Bool.not_eq_false', Bool.and_eq_true, Bool.or_eq_true, beq_iff_eq, bne_iff_ne, ne_eq] at hh)))
  all_goals grind [Short]
theorem c45 (h : Hd) (H : Heap) : call env 45 [.agg h.cs] H = some (.bool (decide (MayH h)), H) := by
  obtain ⟨em, long, glyphs, metrics, up, down, gap⟩ := h
  simp only [Hd.cs]
  refine call_ends (fn := s45) rfl rfl (by simp [s45]) ?_
  have hh : True := trivial
  have hk : True := trivial
  have hj : True := trivial
  simp only [s45]
  repeat' (first
    | simp only [R1, R2, R3, R4, R5, R6, R7, R8, AV.flat, fillIn_nil, fillIn_cons, splice, AV.cells, AV.one, eqsOf, idx, SO.calls, List.reduceReplicate, Nat.reduceBEq, Nat.reduceLT, Nat.reduceAdd, Nat.reduceMul, Nat.reduceSub, Nat.reduceLeDiff, Nat.reduceEqDiff, ↓reduceIte, Int.reduceLT, Int.reduceEq, Int.reduceBNe, Int.reduceBEq, aeq, Int.reduceLE, Int.reduceNeg, Int.reduceMul, Int.reduceAdd, Int.reduceSub, Int.reduceToNat, Int.reducePow, hh, hk, hj, c93, c94, tidy_bool']
    | simp (disch := omega) only [wrap_i64]
    | (simp only [gets_guard, gets_guardd, endsIf_any]; split <;> rename_i hk <;> (try simp only [Bool.not_eq_true] at hk) <;> (have hh := hk) <;> (have hj := hk) <;> (try simp only [Bool.not_eq_true', Bool.not_eq_false'] at hj) <;> (try simp only [decide_eq_true_eq, Bool.not_eq_true, decide_eq_false_iff_not, Bool.not_eq_true', Bool.not_eq_false', Bool.and_eq_true, Bool.or_eq_true, beq_iff_eq, bne_iff_ne, ne_eq] at hh)))
  all_goals grind [MayH]
theorem c46 (h : Hd) (H : Heap) : call env 46 [.agg h.cs] H = some (.bool (decide (MayH h)), H) := by
  obtain ⟨em, long, glyphs, metrics, up, down, gap⟩ := h
  simp only [Hd.cs]
  refine call_ends (fn := s46) rfl rfl (by simp [s46]) ?_
  have hh : True := trivial
  have hk : True := trivial
  have hj : True := trivial
  simp only [s46]
  repeat' (first
    | simp only [R1, R2, R3, R4, R5, R6, R7, R8, AV.flat, fillIn_nil, fillIn_cons, splice, AV.cells, AV.one, eqsOf, idx, SO.calls, List.reduceReplicate, Nat.reduceBEq, Nat.reduceLT, Nat.reduceAdd, Nat.reduceMul, Nat.reduceSub, Nat.reduceLeDiff, Nat.reduceEqDiff, ↓reduceIte, Int.reduceLT, Int.reduceEq, Int.reduceBNe, Int.reduceBEq, aeq, Int.reduceLE, Int.reduceNeg, Int.reduceMul, Int.reduceAdd, Int.reduceSub, Int.reduceToNat, Int.reducePow, hh, hk, hj, c95, tidy_bool']
    | simp (disch := omega) only [wrap_i64]
    | (simp only [gets_guard, gets_guardd, endsIf_any]; split <;> rename_i hk <;> (try simp only [Bool.not_eq_true] at hk) <;> (have hh := hk) <;> (have hj := hk) <;> (try simp only [Bool.not_eq_true', Bool.not_eq_false'] at hj) <;> (try simp only [decide_eq_true_eq, Bool.not_eq_true, decide_eq_false_iff_not, Bool.not_eq_true', Bool.not_eq_false', Bool.and_eq_true, Bool.or_eq_true, beq_iff_eq, bne_iff_ne, ne_eq] at hh)))
  all_goals grind [MayH]
end Go.Proofs.Ythfpndelfbeknaa
