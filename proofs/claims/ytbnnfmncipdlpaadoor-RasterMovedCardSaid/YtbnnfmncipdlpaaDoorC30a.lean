/- Chapter 30: what may be in an atlas. -/
import Derived.Test.YtbnnfmncipdlpaaDoorGrowX
set_option linter.unusedVariables false
set_option linter.unusedSimpArgs false
set_option maxRecDepth 100000
set_option maxHeartbeats 2000000
namespace Go.Proofs.YtbnnfmncipdlpaaDoor
open Go Go.Den
structure Cell where
  x : Int
  y : Int
  w : Int
  h : Int
  deriving DecidableEq
def MayC (c : Cell) : Prop := (c.x = 0 ∧ c.y = 0 ∧ c.w = 0 ∧ c.h = 0) ∨ (1 ≤ c.w ∧ c.w ≤ 256 ∧ 1 ≤ c.h ∧ c.h ≤ 256 ∧ -1048576 ≤ c.x ∧ c.x ≤ 1048576 ∧ -1048576 ≤ c.y ∧ c.y ≤ 1048576)
instance (c : Cell) : Decidable (MayC c) := by unfold MayC; exact inferInstance
def mayC (c : Cell) : Bool := decide (MayC c)
theorem c124 (n a b : Int) (H : Heap) : call env 124 [.int .i64 n, .int .i64 a, .int .i64 b] H = some (.bool (decide (a ≤ n ∧ n ≤ b)), H) := by
  refine call_ends (fn := s124) rfl rfl (by simp [s124]) ?_
  have hh : True := trivial
  have hk : True := trivial
  have hj : True := trivial
  simp only [s124]
  repeat' (first
    | simp only [R1, R2, R3, R4, R5, R6, R7, R8, AV.flat, fillIn_nil, fillIn_cons, splice, AV.cells, AV.one, eqsOf, idx, SO.calls, List.reduceReplicate, Nat.reduceBEq, Nat.reduceLT, Nat.reduceAdd, Nat.reduceMul, Nat.reduceSub, Nat.reduceLeDiff, Nat.reduceEqDiff, ↓reduceIte, Int.reduceLT, Int.reduceEq, Int.reduceBNe, Int.reduceBEq, aeq, Int.reduceLE, Int.reduceNeg, Int.reduceMul, Int.reduceAdd, Int.reduceSub, Int.reduceToNat, Int.reducePow, hh, hk, hj, tidy_bool]
    | simp (disch := omega) only [wrap_i64]
    | (simp only [gets_guard, gets_guardd, endsIf_any]; split <;> rename_i hk <;> (try simp only [Bool.not_eq_true] at hk) <;> (have hh := hk) <;> (have hj := hk) <;> (try simp only [Bool.not_eq_true', Bool.not_eq_false'] at hj) <;> (try simp only [decide_eq_true_eq, Bool.not_eq_true, decide_eq_false_iff_not, Bool.not_eq_true', Bool.not_eq_false', Bool.and_eq_true, Bool.or_eq_true, beq_iff_eq, bne_iff_ne, ne_eq] at hh)))
  all_goals grind
theorem c111 (x y w h : Int) (H : Heap) : call env 111 [.agg [.int .i64 x, .int .i64 y, .int .i64 w, .int .i64 h]] H = some (.bool (mayC ⟨x, y, w, h⟩), H) := by
  refine call_ends (fn := s111) rfl rfl (by simp [s111]) ?_
  have hh : True := trivial
  have hk : True := trivial
  have hj : True := trivial
  simp only [s111]
  repeat' (first
    | simp only [R1, R2, R3, R4, R5, R6, R7, R8, AV.flat, fillIn_nil, fillIn_cons, splice, AV.cells, AV.one, eqsOf, idx, SO.calls, List.reduceReplicate, Nat.reduceBEq, Nat.reduceLT, Nat.reduceAdd, Nat.reduceMul, Nat.reduceSub, Nat.reduceLeDiff, Nat.reduceEqDiff, ↓reduceIte, Int.reduceLT, Int.reduceEq, Int.reduceBNe, Int.reduceBEq, aeq, Int.reduceLE, Int.reduceNeg, Int.reduceMul, Int.reduceAdd, Int.reduceSub, Int.reduceToNat, Int.reducePow, hh, hk, hj, tidy_bool', aeqs, c124]
    | simp (disch := omega) only [wrap_i64]
    | (simp only [gets_guard, gets_guardd, endsIf_any]; split <;> rename_i hk <;> (try simp only [Bool.not_eq_true] at hk) <;> (have hh := hk) <;> (have hj := hk) <;> (try simp only [Bool.not_eq_true', Bool.not_eq_false'] at hj) <;> (try simp only [decide_eq_true_eq, Bool.not_eq_true, decide_eq_false_iff_not, Bool.not_eq_true', Bool.not_eq_false', Bool.and_eq_true, Bool.or_eq_true, beq_iff_eq, bne_iff_ne, ne_eq] at hh)))
  all_goals grind [mayC, MayC]
theorem c78 (x y w h : Int) (H : Heap) : call env 78 [.agg [.int .i64 x, .int .i64 y, .int .i64 w, .int .i64 h]] H = some (.bool (mayC ⟨x, y, w, h⟩), H) := by
  refine call_ends (fn := s78) rfl rfl (by simp [s78]) ?_
  have hh : True := trivial
  have hk : True := trivial
  have hj : True := trivial
  simp only [s78]
  repeat' (first
    | simp only [R1, R2, R3, R4, R5, R6, R7, R8, AV.flat, fillIn_nil, fillIn_cons, splice, AV.cells, AV.one, eqsOf, idx, SO.calls, List.reduceReplicate, Nat.reduceBEq, Nat.reduceLT, Nat.reduceAdd, Nat.reduceMul, Nat.reduceSub, Nat.reduceLeDiff, Nat.reduceEqDiff, ↓reduceIte, Int.reduceLT, Int.reduceEq, Int.reduceBNe, Int.reduceBEq, aeq, Int.reduceLE, Int.reduceNeg, Int.reduceMul, Int.reduceAdd, Int.reduceSub, Int.reduceToNat, Int.reducePow, hh, hk, hj, tidy_bool', aeqs]
    | simp (disch := omega) only [wrap_i64]
    | (simp only [gets_guard, gets_guardd, endsIf_any]; split <;> rename_i hk <;> (try simp only [Bool.not_eq_true] at hk) <;> (have hh := hk) <;> (have hj := hk) <;> (try simp only [Bool.not_eq_true', Bool.not_eq_false'] at hj) <;> (try simp only [decide_eq_true_eq, Bool.not_eq_true, decide_eq_false_iff_not, Bool.not_eq_true', Bool.not_eq_false', Bool.and_eq_true, Bool.or_eq_true, beq_iff_eq, bne_iff_ne, ne_eq] at hh)))
  all_goals grind [mayC, MayC]
theorem c109 (n a b : Int) (H : Heap) : call env 109 [.int .i64 n, .int .i64 a, .int .i64 b] H = some (.bool (decide (a ≤ n ∧ n ≤ b)), H) := by
  refine call_ends (fn := s109) rfl rfl (by simp [s109]) ?_
  have hh : True := trivial
  have hk : True := trivial
  have hj : True := trivial
  simp only [s109]
  repeat' (first
    | simp only [R1, R2, R3, R4, R5, R6, R7, R8, AV.flat, fillIn_nil, fillIn_cons, splice, AV.cells, AV.one, eqsOf, idx, SO.calls, List.reduceReplicate, Nat.reduceBEq, Nat.reduceLT, Nat.reduceAdd, Nat.reduceMul, Nat.reduceSub, Nat.reduceLeDiff, Nat.reduceEqDiff, ↓reduceIte, Int.reduceLT, Int.reduceEq, Int.reduceBNe, Int.reduceBEq, aeq, Int.reduceLE, Int.reduceNeg, Int.reduceMul, Int.reduceAdd, Int.reduceSub, Int.reduceToNat, Int.reducePow, hh, hk, hj, tidy_bool]
    | simp (disch := omega) only [wrap_i64]
    | (simp only [gets_guard, gets_guardd, endsIf_any]; split <;> rename_i hk <;> (try simp only [Bool.not_eq_true] at hk) <;> (have hh := hk) <;> (have hj := hk) <;> (try simp only [Bool.not_eq_true', Bool.not_eq_false'] at hj) <;> (try simp only [decide_eq_true_eq, Bool.not_eq_true, decide_eq_false_iff_not, Bool.not_eq_true', Bool.not_eq_false', Bool.and_eq_true, Bool.or_eq_true, beq_iff_eq, bne_iff_ne, ne_eq] at hh)))
  all_goals grind
theorem c49 (n a b : Int) (H : Heap) : call env 49 [.int .i64 n, .int .i64 a, .int .i64 b] H = some (.bool (decide (a ≤ n ∧ n ≤ b)), H) := by
  refine call_ends (fn := s49) rfl rfl (by simp [s49]) ?_
  have hh : True := trivial
  have hk : True := trivial
  have hj : True := trivial
  simp only [s49]
  repeat' (first
    | simp only [R1, R2, R3, R4, R5, R6, R7, R8, AV.flat, fillIn_nil, fillIn_cons, splice, AV.cells, AV.one, eqsOf, idx, SO.calls, List.reduceReplicate, Nat.reduceBEq, Nat.reduceLT, Nat.reduceAdd, Nat.reduceMul, Nat.reduceSub, Nat.reduceLeDiff, Nat.reduceEqDiff, ↓reduceIte, Int.reduceLT, Int.reduceEq, Int.reduceBNe, Int.reduceBEq, aeq, Int.reduceLE, Int.reduceNeg, Int.reduceMul, Int.reduceAdd, Int.reduceSub, Int.reduceToNat, Int.reducePow, hh, hk, hj, tidy_bool]
    | simp (disch := omega) only [wrap_i64]
    | (simp only [gets_guard, gets_guardd, endsIf_any]; split <;> rename_i hk <;> (try simp only [Bool.not_eq_true] at hk) <;> (have hh := hk) <;> (have hj := hk) <;> (try simp only [Bool.not_eq_true', Bool.not_eq_false'] at hj) <;> (try simp only [decide_eq_true_eq, Bool.not_eq_true, decide_eq_false_iff_not, Bool.not_eq_true', Bool.not_eq_false', Bool.and_eq_true, Bool.or_eq_true, beq_iff_eq, bne_iff_ne, ne_eq] at hh)))
  all_goals grind
def Short (n : Int) : Prop := -32768 ≤ n ∧ n ≤ 32767
instance (n : Int) : Decidable (Short n) := by unfold Short; exact inferInstance
theorem c110 (n : Int) (H : Heap) : call env 110 [.int .i64 n] H = some (.bool (decide (Short n)), H) := by
  refine call_ends (fn := s110) rfl rfl (by simp [s110]) ?_
  have hh : True := trivial
  have hk : True := trivial
  have hj : True := trivial
  simp only [s110]
  repeat' (first
    | simp only [R1, R2, R3, R4, R5, R6, R7, R8, AV.flat, fillIn_nil, fillIn_cons, splice, AV.cells, AV.one, eqsOf, idx, SO.calls, List.reduceReplicate, Nat.reduceBEq, Nat.reduceLT, Nat.reduceAdd, Nat.reduceMul, Nat.reduceSub, Nat.reduceLeDiff, Nat.reduceEqDiff, ↓reduceIte, Int.reduceLT, Int.reduceEq, Int.reduceBNe, Int.reduceBEq, aeq, Int.reduceLE, Int.reduceNeg, Int.reduceMul, Int.reduceAdd, Int.reduceSub, Int.reduceToNat, Int.reducePow, hh, hk, hj, c109, tidy_bool]
    | simp (disch := omega) only [wrap_i64]
    | (simp only [gets_guard, gets_guardd, endsIf_any]; split <;> rename_i hk <;> (try simp only [Bool.not_eq_true] at hk) <;> (have hh := hk) <;> (have hj := hk) <;> (try simp only [Bool.not_eq_true', Bool.not_eq_false'] at hj) <;> (try simp only [decide_eq_true_eq, Bool.not_eq_true, decide_eq_false_iff_not, Bool.not_eq_true', Bool.not_eq_false', Bool.and_eq_true, Bool.or_eq_true, beq_iff_eq, bne_iff_ne, ne_eq] at hh)))
  all_goals grind [Short]
theorem c50 (n : Int) (H : Heap) : call env 50 [.int .i64 n] H = some (.bool (decide (Short n)), H) := by
  refine call_ends (fn := s50) rfl rfl (by simp [s50]) ?_
  have hh : True := trivial
  have hk : True := trivial
  have hj : True := trivial
  simp only [s50]
  repeat' (first
    | simp only [R1, R2, R3, R4, R5, R6, R7, R8, AV.flat, fillIn_nil, fillIn_cons, splice, AV.cells, AV.one, eqsOf, idx, SO.calls, List.reduceReplicate, Nat.reduceBEq, Nat.reduceLT, Nat.reduceAdd, Nat.reduceMul, Nat.reduceSub, Nat.reduceLeDiff, Nat.reduceEqDiff, ↓reduceIte, Int.reduceLT, Int.reduceEq, Int.reduceBNe, Int.reduceBEq, aeq, Int.reduceLE, Int.reduceNeg, Int.reduceMul, Int.reduceAdd, Int.reduceSub, Int.reduceToNat, Int.reducePow, hh, hk, hj, tidy_bool]
    | simp (disch := omega) only [wrap_i64]
    | (simp only [gets_guard, gets_guardd, endsIf_any]; split <;> rename_i hk <;> (try simp only [Bool.not_eq_true] at hk) <;> (have hh := hk) <;> (have hj := hk) <;> (try simp only [Bool.not_eq_true', Bool.not_eq_false'] at hj) <;> (try simp only [decide_eq_true_eq, Bool.not_eq_true, decide_eq_false_iff_not, Bool.not_eq_true', Bool.not_eq_false', Bool.and_eq_true, Bool.or_eq_true, beq_iff_eq, bne_iff_ne, ne_eq] at hh)))
  all_goals grind [Short]
structure Ent where
  wd : Int
  c : Cell
  pg : Int
  x : Int
  y : Int
  deriving DecidableEq
def Ent.cs (e : Ent) : List AV := [.int .i64 e.wd, .int .i64 e.c.x, .int .i64 e.c.y, .int .i64 e.c.w, .int .i64 e.c.h, .int .i64 e.pg, .int .i64 e.x, .int .i64 e.y]
theorem ent_cel : Cel 8 Ent.cs := ⟨fun _ => rfl, fun _ => rfl, fun _ => rfl, by decide⟩
def ZeroC (c : Cell) : Prop := c.x = 0 ∧ c.y = 0 ∧ c.w = 0 ∧ c.h = 0
instance (c : Cell) : Decidable (ZeroC c) := by unfold ZeroC; exact inferInstance
/-- An entry that may be, on so many pages of such a size. -/
def OkE (w h n : Int) (e : Ent) : Prop := 0 ≤ e.wd ∧ e.wd ≤ 65535 ∧ MayC e.c ∧ (ZeroC e.c → e.pg = 0 ∧ e.x = 0 ∧ e.y = 0) ∧ (¬ ZeroC e.c → 0 ≤ e.pg ∧ e.pg ≤ n - 1 ∧ 0 ≤ e.x ∧ e.x ≤ w - e.c.w ∧ 0 ≤ e.y ∧ e.y ≤ h - e.c.h)
instance (w h n : Int) (e : Ent) : Decidable (OkE w h n e) := by unfold OkE; exact inferInstance
theorem c94 (e : Ent) (w h n : Int) (hw : -1000000 ≤ w ∧ w ≤ 1000000) (hh : -1000000 ≤ h ∧ h ≤ 1000000) (hn : 0 ≤ n ∧ n ≤ 1000000) (H : Heap) : call env 94 [.agg e.cs, .agg [.int .i64 w, .int .i64 h], .int .i64 n] H = some (.bool (decide (OkE w h n e)), H) := by
  obtain ⟨wd, ⟨cx, cy, cw, ch⟩, pg, x, y⟩ := e
  simp only [Ent.cs]
  have e1 := fun H => c111 cx cy cw ch H
  by_cases hm : MayC ⟨cx, cy, cw, ch⟩
  · rw [show mayC ⟨cx, cy, cw, ch⟩ = true from decide_eq_true hm] at e1
    have hb : 0 ≤ cw ∧ cw ≤ 256 ∧ 0 ≤ ch ∧ ch ≤ 256 := by
      rcases hm with h | h
      · simp only at h; omega
      · simp only at h; omega
    have w1 := wrap_i64 (x := n - 1) (by omega) (by omega)
    have w2 := wrap_i64 (x := w - cw) (by omega) (by omega)
    have w3 := wrap_i64 (x := h - ch) (by omega) (by omega)
    refine call_ends (fn := s94) rfl rfl (by simp [s94]) ?_
    have hh : True := trivial
    have hk : True := trivial
    have hj : True := trivial
    simp only [s94]
    repeat' (first
      | simp only [R1, R2, R3, R4, R5, R6, R7, R8, AV.flat, fillIn_nil, fillIn_cons, splice, AV.cells, AV.one, eqsOf, idx, SO.calls, List.reduceReplicate, Nat.reduceBEq, Nat.reduceLT, Nat.reduceAdd, Nat.reduceMul, Nat.reduceSub, Nat.reduceLeDiff, Nat.reduceEqDiff, ↓reduceIte, Int.reduceLT, Int.reduceEq, Int.reduceBNe, Int.reduceBEq, aeq, Int.reduceLE, Int.reduceNeg, Int.reduceMul, Int.reduceAdd, Int.reduceSub, Int.reduceToNat, Int.reducePow, hh, hk, hj, tidy_bool', aeqs, c109, e1, w1, w2, w3]
      | simp (disch := omega) only [wrap_i64]
      | (simp only [gets_guard, gets_guardd, endsIf_any]; split <;> rename_i hk <;> (try simp only [Bool.not_eq_true] at hk) <;> (have hh := hk) <;> (have hj := hk) <;> (try simp only [Bool.not_eq_true', Bool.not_eq_false'] at hj) <;> (try simp only [decide_eq_true_eq, Bool.not_eq_true, decide_eq_false_iff_not, Bool.not_eq_true', Bool.not_eq_false', Bool.and_eq_true, Bool.or_eq_true, beq_iff_eq, bne_iff_ne, ne_eq] at hh)))
    all_goals grind [OkE, ZeroC]
  · rw [show mayC ⟨cx, cy, cw, ch⟩ = false from decide_eq_false hm] at e1
    refine call_ends (fn := s94) rfl rfl (by simp [s94]) ?_
    have hh : True := trivial
    have hk : True := trivial
    have hj : True := trivial
    simp only [s94]
    repeat' (first
      | simp only [R1, R2, R3, R4, R5, R6, R7, R8, AV.flat, fillIn_nil, fillIn_cons, splice, AV.cells, AV.one, eqsOf, idx, SO.calls, List.reduceReplicate, Nat.reduceBEq, Nat.reduceLT, Nat.reduceAdd, Nat.reduceMul, Nat.reduceSub, Nat.reduceLeDiff, Nat.reduceEqDiff, ↓reduceIte, Int.reduceLT, Int.reduceEq, Int.reduceBNe, Int.reduceBEq, aeq, Int.reduceLE, Int.reduceNeg, Int.reduceMul, Int.reduceAdd, Int.reduceSub, Int.reduceToNat, Int.reducePow, hh, hk, hj, tidy_bool', aeqs, c109, e1]
      | simp (disch := omega) only [wrap_i64]
      | (simp only [gets_guard, gets_guardd, endsIf_any]; split <;> rename_i hk <;> (try simp only [Bool.not_eq_true] at hk) <;> (have hh := hk) <;> (have hj := hk) <;> (try simp only [Bool.not_eq_true', Bool.not_eq_false'] at hj) <;> (try simp only [decide_eq_true_eq, Bool.not_eq_true, decide_eq_false_iff_not, Bool.not_eq_true', Bool.not_eq_false', Bool.and_eq_true, Bool.or_eq_true, beq_iff_eq, bne_iff_ne, ne_eq] at hh)))
    all_goals grind [OkE]
theorem c51 (e : Ent) (w h n : Int) (hw : -1000000 ≤ w ∧ w ≤ 1000000) (hh : -1000000 ≤ h ∧ h ≤ 1000000) (hn : 0 ≤ n ∧ n ≤ 1000000) (H : Heap) : call env 51 [.agg e.cs, .agg [.int .i64 w, .int .i64 h], .int .i64 n] H = some (.bool (decide (OkE w h n e)), H) := by
  obtain ⟨wd, ⟨cx, cy, cw, ch⟩, pg, x, y⟩ := e
  simp only [Ent.cs]
  have e1 := fun H => c78 cx cy cw ch H
  by_cases hm : MayC ⟨cx, cy, cw, ch⟩
  · rw [show mayC ⟨cx, cy, cw, ch⟩ = true from decide_eq_true hm] at e1
    have hb : 0 ≤ cw ∧ cw ≤ 256 ∧ 0 ≤ ch ∧ ch ≤ 256 := by
      rcases hm with h | h
      · simp only at h; omega
      · simp only at h; omega
    have w1 := wrap_i64 (x := n - 1) (by omega) (by omega)
    have w2 := wrap_i64 (x := w - cw) (by omega) (by omega)
    have w3 := wrap_i64 (x := h - ch) (by omega) (by omega)
    refine call_ends (fn := s51) rfl rfl (by simp [s51]) ?_
    have hh : True := trivial
    have hk : True := trivial
    have hj : True := trivial
    simp only [s51]
    repeat' (first
      | simp only [R1, R2, R3, R4, R5, R6, R7, R8, AV.flat, fillIn_nil, fillIn_cons, splice, AV.cells, AV.one, eqsOf, idx, SO.calls, List.reduceReplicate, Nat.reduceBEq, Nat.reduceLT, Nat.reduceAdd, Nat.reduceMul, Nat.reduceSub, Nat.reduceLeDiff, Nat.reduceEqDiff, ↓reduceIte, Int.reduceLT, Int.reduceEq, Int.reduceBNe, Int.reduceBEq, aeq, Int.reduceLE, Int.reduceNeg, Int.reduceMul, Int.reduceAdd, Int.reduceSub, Int.reduceToNat, Int.reducePow, hh, hk, hj, tidy_bool', aeqs, c49, e1, w1, w2, w3]
      | simp (disch := omega) only [wrap_i64]
      | (simp only [gets_guard, gets_guardd, endsIf_any]; split <;> rename_i hk <;> (try simp only [Bool.not_eq_true] at hk) <;> (have hh := hk) <;> (have hj := hk) <;> (try simp only [Bool.not_eq_true', Bool.not_eq_false'] at hj) <;> (try simp only [decide_eq_true_eq, Bool.not_eq_true, decide_eq_false_iff_not, Bool.not_eq_true', Bool.not_eq_false', Bool.and_eq_true, Bool.or_eq_true, beq_iff_eq, bne_iff_ne, ne_eq] at hh)))
    all_goals grind [OkE, ZeroC]
  · rw [show mayC ⟨cx, cy, cw, ch⟩ = false from decide_eq_false hm] at e1
    refine call_ends (fn := s51) rfl rfl (by simp [s51]) ?_
    have hh : True := trivial
    have hk : True := trivial
    have hj : True := trivial
    simp only [s51]
    repeat' (first
      | simp only [R1, R2, R3, R4, R5, R6, R7, R8, AV.flat, fillIn_nil, fillIn_cons, splice, AV.cells, AV.one, eqsOf, idx, SO.calls, List.reduceReplicate, Nat.reduceBEq, Nat.reduceLT, Nat.reduceAdd, Nat.reduceMul, Nat.reduceSub, Nat.reduceLeDiff, Nat.reduceEqDiff, ↓reduceIte, Int.reduceLT, Int.reduceEq, Int.reduceBNe, Int.reduceBEq, aeq, Int.reduceLE, Int.reduceNeg, Int.reduceMul, Int.reduceAdd, Int.reduceSub, Int.reduceToNat, Int.reducePow, hh, hk, hj, tidy_bool', aeqs, c49, e1]
      | simp (disch := omega) only [wrap_i64]
      | (simp only [gets_guard, gets_guardd, endsIf_any]; split <;> rename_i hk <;> (try simp only [Bool.not_eq_true] at hk) <;> (have hh := hk) <;> (have hj := hk) <;> (try simp only [Bool.not_eq_true', Bool.not_eq_false'] at hj) <;> (try simp only [decide_eq_true_eq, Bool.not_eq_true, decide_eq_false_iff_not, Bool.not_eq_true', Bool.not_eq_false', Bool.and_eq_true, Bool.or_eq_true, beq_iff_eq, bne_iff_ne, ne_eq] at hh)))
    all_goals grind [OkE]
end Go.Proofs.YtbnnfmncipdlpaaDoor
