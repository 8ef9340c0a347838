/- Lists of rectangles. -/
import Derived.Test.YtkcbjeenoafbkaaC28c
set_option linter.unusedVariables false
set_option linter.unusedSimpArgs false
set_option maxRecDepth 100000
set_option maxHeartbeats 1000000
namespace Go.Proofs.Ytkcbjeenoafbkaa
open Go Go.Den
/-- A predicate, as a function value. -/
def Pred (f : Nat) (cap : List AV) (H : Heap) (q : Rect → Bool) (l : List Rect) : Prop := ∀ X, ∀ r ∈ l, call env f (.agg r.cs :: cap) (H ++ X) = some (.bool (q r), H ++ X)
/-- where the first one is. -/
def find (q : Rect → Bool) : List Rect → Nat
  | [] => 0
  | r :: l => if q r then 0 else find q l + 1
theorem find_le (q : Rect → Bool) : ∀ l, find q l ≤ l.length
  | [] => Nat.le_refl _
  | r :: l => by
    have := find_le q l
    simp only [find, List.length_cons]; split <;> omega
theorem find_lt (q : Rect → Bool) : ∀ {l : List Rect} {i : Nat} (h : i < l.length), i < find q l → q l[i] = false
  | [], i, h, _ => by simp at h
  | r :: l, i, h, hi => by
    simp only [find] at hi
    cases hq : q r
    · rw [hq] at hi
      cases i with
      | zero => exact hq
      | succ i =>
        simp only [Bool.false_eq_true, if_false] at hi
        exact find_lt q (l := l) (by simpa using h) (by omega)
    · rw [hq] at hi; simp at hi
theorem find_at (q : Rect → Bool) : ∀ {l : List Rect} (h : find q l < l.length), q l[find q l] = true
  | [], h => by simp at h
  | r :: l, h => by
    cases hq : q r
    · have e : find q (r :: l) = find q l + 1 := by simp [find, hq]
      have h' : find q l < l.length := by rw [e] at h; simpa using h
      have := find_at q h'
      simpa [e] using this
    · have e : find q (r :: l) = 0 := by simp [find, hq]
      simpa [e] using hq
theorem find_any (q : Rect → Bool) : ∀ l, decide (find q l < l.length) = l.any q
  | [] => by simp [find]
  | r :: l => by
    have ih := find_any q l
    cases hq : q r
    · simp only [find, hq, Bool.false_eq_true, if_false, List.length_cons, List.any_cons, Bool.false_or, ← ih]
      simp
    · simp [find, hq]
def findI (q : Rect → Bool) (l : List Rect) : Int := if find q l < l.length then (find q l : Int) else -1
/-- slices.IndexFunc. -/
theorem c129 {H : Heap} {v : AV} {l : List Rect} {f : Nat} {cap : List AV} {q : Rect → Bool} (hs : SlOf H 4 Rect.cs v l) (hp : Pred f cap H q l) (hn : l.length ≤ 100000000) :
    call env 129 [v, .fn f cap] H = some (.int .i64 (findI q l), H) := by
  have e1 := hs.lenOf
  refine call_ends (fn := s129) rfl rfl (by simp [s129]) ?_
  simp only [s129, R1, R2, R3, R4, R5, R6, R7, R8, AV.flat, fillIn_nil, fillIn_cons, splice, AV.cells, AV.one, eqsOf, idx, SO.calls, List.reduceReplicate, Nat.reduceBEq, Nat.reduceLT, Nat.reduceAdd, Nat.reduceMul, Nat.reduceSub, Nat.reduceLeDiff, Nat.reduceEqDiff, ↓reduceIte, Int.reduceLT, Int.reduceEq, Int.reduceBNe, Int.reduceBEq, aeq, Int.reduceLE, Int.reduceNeg, Int.reduceMul, Int.reduceAdd, Int.reduceSub, Int.reduceToNat, Int.reducePow, e1]
  refine ends_loop (fun k t H' => t.length = 19 ∧ H' = H ∧ t.getD 0 .undef = v ∧ t.getD 1 .undef = .fn f cap ∧ t.getD 7 .undef = .int .i64 (l.length : Int) ∧ ∃ i : Nat, i ≤ find q l ∧ k = find q l - i ∧ t.getD 8 .undef = .int .i64 (i : Int)) (find q l) ?_ ?_
  · simp only [R1, R2, R3, R4, R5, R6, R7, R8, AV.flat, fillIn_nil, fillIn_cons, splice, AV.cells, AV.one, eqsOf, idx, SO.calls, List.reduceReplicate, Nat.reduceBEq, Nat.reduceLT, Nat.reduceAdd, Nat.reduceMul, Nat.reduceSub, Nat.reduceLeDiff, Nat.reduceEqDiff, ↓reduceIte, Int.reduceLT, Int.reduceEq, Int.reduceBNe, Int.reduceBEq, aeq, Int.reduceLE, Int.reduceNeg, Int.reduceMul, Int.reduceAdd, Int.reduceSub, Int.reduceToNat, Int.reducePow]
    exact ⟨0, by omega, by omega, rfl⟩
  · rintro k t H' ⟨g1, rfl, g2, g3, g4, i, hi, rfl, g5⟩
    rw [← tm_nil t]
    have hfl := find_le q l
    by_cases hc : i < l.length
    · have e6 : ((i : Int) < (l.length : Int)) = True := eq_true (by omega)
      have e2 := fun H' => hs.addr hc .i64 H'
      have e3 := hs.load0 hc
      have e7 := wrap_i64 (x := (i : Int) + 1) (by omega) (by omega)
      have e4 := hp [] l[i] (List.getElem_mem hc)
      rw [List.append_nil] at e4
      by_cases hlt : i < find q l
      · rw [find_lt q hc hlt] at e4
        simp only [Rect.cs, R1, R2, R3, R4, R5, R6, R7, R8, AV.flat, fillIn_nil, fillIn_cons, splice, AV.cells, AV.one, eqsOf, idx, SO.calls, List.reduceReplicate, Nat.reduceBEq, Nat.reduceLT, Nat.reduceAdd, Nat.reduceMul, Nat.reduceSub, Nat.reduceLeDiff, Nat.reduceEqDiff, ↓reduceIte, Int.reduceLT, Int.reduceEq, Int.reduceBNe, Int.reduceBEq, aeq, Int.reduceLE, Int.reduceNeg, Int.reduceMul, Int.reduceAdd, Int.reduceSub, Int.reduceToNat, Int.reducePow] at e3 e4
        simp only [R1, R2, R3, R4, R5, R6, R7, R8, AV.flat, fillIn_nil, fillIn_cons, splice, AV.cells, AV.one, eqsOf, idx, SO.calls, List.reduceReplicate, Nat.reduceBEq, Nat.reduceLT, Nat.reduceAdd, Nat.reduceMul, Nat.reduceSub, Nat.reduceLeDiff, Nat.reduceEqDiff, ↓reduceIte, Int.reduceLT, Int.reduceEq, Int.reduceBNe, Int.reduceBEq, aeq, Int.reduceLE, Int.reduceNeg, Int.reduceMul, Int.reduceAdd, Int.reduceSub, Int.reduceToNat, Int.reducePow, sop_fcallv, g1, g2, g3, g4, g5, e1, e2, e3, e4, e6, e7]
        exact ⟨_, by omega, i + 1, by omega, rfl, by simp⟩
      · obtain rfl : i = find q l := by omega
        rw [find_at q hc] at e4
        simp only [Rect.cs, R1, R2, R3, R4, R5, R6, R7, R8, AV.flat, fillIn_nil, fillIn_cons, splice, AV.cells, AV.one, eqsOf, idx, SO.calls, List.reduceReplicate, Nat.reduceBEq, Nat.reduceLT, Nat.reduceAdd, Nat.reduceMul, Nat.reduceSub, Nat.reduceLeDiff, Nat.reduceEqDiff, ↓reduceIte, Int.reduceLT, Int.reduceEq, Int.reduceBNe, Int.reduceBEq, aeq, Int.reduceLE, Int.reduceNeg, Int.reduceMul, Int.reduceAdd, Int.reduceSub, Int.reduceToNat, Int.reducePow] at e3 e4
        simp only [R1, R2, R3, R4, R5, R6, R7, R8, AV.flat, fillIn_nil, fillIn_cons, splice, AV.cells, AV.one, eqsOf, idx, SO.calls, List.reduceReplicate, Nat.reduceBEq, Nat.reduceLT, Nat.reduceAdd, Nat.reduceMul, Nat.reduceSub, Nat.reduceLeDiff, Nat.reduceEqDiff, ↓reduceIte, Int.reduceLT, Int.reduceEq, Int.reduceBNe, Int.reduceBEq, aeq, Int.reduceLE, Int.reduceNeg, Int.reduceMul, Int.reduceAdd, Int.reduceSub, Int.reduceToNat, Int.reducePow, sop_fcallv, g1, g2, g3, g4, g5, e1, e2, e3, e4, e6, e7, tidy_int]
        unfold findI
        rw [if_pos hc]
    · have e6 : ((i : Int) < (l.length : Int)) = False := eq_false (by omega)
      simp only [R1, R2, R3, R4, R5, R6, R7, R8, AV.flat, fillIn_nil, fillIn_cons, splice, AV.cells, AV.one, eqsOf, idx, SO.calls, List.reduceReplicate, Nat.reduceBEq, Nat.reduceLT, Nat.reduceAdd, Nat.reduceMul, Nat.reduceSub, Nat.reduceLeDiff, Nat.reduceEqDiff, ↓reduceIte, Int.reduceLT, Int.reduceEq, Int.reduceBNe, Int.reduceBEq, aeq, Int.reduceLE, Int.reduceNeg, Int.reduceMul, Int.reduceAdd, Int.reduceSub, Int.reduceToNat, Int.reducePow, g1, g2, g3, g4, g5, e6, tidy_int]
      unfold findI
      rw [if_neg (by omega)]
/-- slices.ContainsFunc. -/
theorem c118 {H : Heap} {v : AV} {l : List Rect} {f : Nat} {cap : List AV} {q : Rect → Bool} (hs : SlOf H 4 Rect.cs v l) (hp : Pred f cap H q l) (hn : l.length ≤ 100000000) :
    call env 118 [v, .fn f cap] H = some (.bool (l.any q), H) := by
  have e1 := c129 hs hp hn
  have e2 : decide (findI q l ≥ 0) = l.any q := by
    rw [← find_any]; unfold findI
    split
    · simp [*]
    · simp [*]
  refine call_ends (fn := s118) rfl rfl (by simp [s118]) ?_
  simp only [s118, R1, R2, R3, R4, R5, R6, R7, R8, AV.flat, fillIn_nil, fillIn_cons, splice, AV.cells, AV.one, eqsOf, idx, SO.calls, List.reduceReplicate, Nat.reduceBEq, Nat.reduceLT, Nat.reduceAdd, Nat.reduceMul, Nat.reduceSub, Nat.reduceLeDiff, Nat.reduceEqDiff, ↓reduceIte, Int.reduceLT, Int.reduceEq, Int.reduceBNe, Int.reduceBEq, aeq, Int.reduceLE, Int.reduceNeg, Int.reduceMul, Int.reduceAdd, Int.reduceSub, Int.reduceToNat, Int.reducePow, e1, e2, tidy_bool]
end Go.Proofs.Ytkcbjeenoafbkaa
