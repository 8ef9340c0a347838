/- Edges that are closed. -/
import Derived.Test.YtkcbjeenoafbkaaGeo
set_option linter.unusedVariables false
set_option linter.unusedSimpArgs false
set_option maxRecDepth 100000
set_option maxHeartbeats 1000000
namespace Go.Proofs.Ytkcbjeenoafbkaa
open Go Go.Den
/-- The first edge of a contour, the last one gone over, and what follows: do they close? -/
def closedRest (first : Edge) : Edge → List Edge → Bool
  | prev, [] => decide (prev.c = first.a)
  | prev, e :: r => if e.n = prev.n then (decide (prev.c = e.a) && closedRest first e r) else (decide (prev.c = first.a) && closedRest e e r)
def closedP : List Edge → Bool
  | [] => true
  | e :: r => closedRest e e r
theorem pt_ne {p q : Pt} (h : ¬ p = q) : ((p.x == q.x) && (p.y == q.y)) = false := by
  refine Bool.eq_false_iff.2 fun hh => h ?_
  simp at hh
  exact pt_ext hh.1 hh.2
theorem pt_eq {p q : Pt} (h : p = q) : ((p.x == q.x) && (p.y == q.y)) = true := by subst h; simp
theorem cons_at {l : List Edge} {n : Nat} (h : n < l.length) : l.drop n = l[n] :: l.drop (n + 1) := List.drop_eq_getElem_cons h
theorem closed_cons {l : List Edge} (h : 0 < l.length) : closedP l = closedRest l[0] l[0] (l.drop 1) := by
  cases l with
  | nil => simp at h
  | cons e r => rfl
theorem c19 {H : Heap} {v : AV} {l : List Edge} (hs : SlOf H 8 Edge.cs v l) (hn : l.length ≤ 1000000) : call env 19 [v] H = some (.bool (closedP l), H) := by
  refine call_ends (fn := s19) rfl rfl (by simp [s19]) ?_
  simp only [s19, R1, R2, R3, R4, R5, R6, R7, R8, AV.flat, fillIn_nil, fillIn_cons, splice, AV.cells, AV.one, eqsOf, idx, SO.calls, List.reduceReplicate, Nat.reduceBEq, Nat.reduceLT, Nat.reduceAdd, Nat.reduceMul, Nat.reduceSub, Nat.reduceLeDiff, Nat.reduceEqDiff, ↓reduceIte, Int.reduceLT, Int.reduceEq, Int.reduceBNe, Int.reduceBEq, aeq, Int.reduceLE, Int.reduceNeg, Int.reduceMul, Int.reduceAdd, Int.reduceSub, Int.reduceToNat, Int.reducePow]
  refine ends_loop (fun k t H' => t.length = 51 ∧ H' = H ∧ ∃ w m, SlOf H 8 Edge.cs w m ∧ t.getD 0 .undef = w ∧ m.length = k ∧ m.length ≤ 1000000 ∧ closedP l = closedP m) l.length ?_ ?_
  · simp only [R1, R2, R3, R4, R5, R6, R7, R8, AV.flat, fillIn_nil, fillIn_cons, splice, AV.cells, AV.one, eqsOf, idx, SO.calls, List.reduceReplicate, Nat.reduceBEq, Nat.reduceLT, Nat.reduceAdd, Nat.reduceMul, Nat.reduceSub, Nat.reduceLeDiff, Nat.reduceEqDiff, ↓reduceIte, Int.reduceLT, Int.reduceEq, Int.reduceBNe, Int.reduceBEq, aeq, Int.reduceLE, Int.reduceNeg, Int.reduceMul, Int.reduceAdd, Int.reduceSub, Int.reduceToNat, Int.reducePow]
    exact ⟨v, l, hs, rfl, rfl, hn, rfl⟩
  · rintro k t H' ⟨g1, rfl, w, m, hm, g2, rfl, hmn, g3⟩
    rw [← tm_nil t]
    have e1 := hm.lenOf
    by_cases hc : 0 < m.length
    · have e2 : ((m.length : Int) > 0) = True := eq_true (by omega)
      have E0 := hm.elemz0 hc
      simp only [R1, R2, R3, R4, R5, R6, R7, R8, AV.flat, fillIn_nil, fillIn_cons, splice, AV.cells, AV.one, eqsOf, idx, SO.calls, List.reduceReplicate, Nat.reduceBEq, Nat.reduceLT, Nat.reduceAdd, Nat.reduceMul, Nat.reduceSub, Nat.reduceLeDiff, Nat.reduceEqDiff, ↓reduceIte, Int.reduceLT, Int.reduceEq, Int.reduceBNe, Int.reduceBEq, aeq, Int.reduceLE, Int.reduceNeg, Int.reduceMul, Int.reduceAdd, Int.reduceSub, Int.reduceToNat, Int.reducePow, g1, g2, e1, e2]
      refine ends_loop (fun j t H'' => t.length = 51 ∧ H'' = H' ∧ t.getD 0 .undef = w ∧ ∃ n : Nat, 1 ≤ n ∧ n ≤ m.length ∧ j = m.length - n ∧ t.getD 3 .undef = .int .i64 (n : Int) ∧ ∃ (hp : n - 1 < m.length), m[n - 1].n = m[0].n ∧ closedP m = closedRest m[0] m[n - 1] (m.drop n)) (m.length - 1) ?_ ?_
      · simp only [R1, R2, R3, R4, R5, R6, R7, R8, AV.flat, fillIn_nil, fillIn_cons, splice, AV.cells, AV.one, eqsOf, idx, SO.calls, List.reduceReplicate, Nat.reduceBEq, Nat.reduceLT, Nat.reduceAdd, Nat.reduceMul, Nat.reduceSub, Nat.reduceLeDiff, Nat.reduceEqDiff, ↓reduceIte, Int.reduceLT, Int.reduceEq, Int.reduceBNe, Int.reduceBEq, aeq, Int.reduceLE, Int.reduceNeg, Int.reduceMul, Int.reduceAdd, Int.reduceSub, Int.reduceToNat, Int.reducePow, g1, g2]
        exact ⟨1, by omega, by omega, by omega, rfl, by omega, rfl, closed_cons hc⟩
      · rintro j t H'' ⟨j1, rfl, j2, n, n1, n2, rfl, j3, hp, j4, j5⟩
        rw [← tm_nil t]
        have hw : IntKind.i64.wrap ((n : Int) - 1) = ((n - 1 : Nat) : Int) := by rw [wrap_i64 (by omega) (by omega)]; omega
        have hw2 : IntKind.i64.wrap ((n : Int) + 1) = ((n + 1 : Nat) : Int) := by rw [wrap_i64 (by omega) (by omega)]; rfl
        have E1 := hm.elem0 hp
        /- behind the contour -/
        by_cases hnl : n < m.length
        · have e3 : ((n : Int) < (m.length : Int)) = True := eq_true (by omega)
          have E2 := hm.elem0 hnl
          rw [cons_at hnl, closedRest] at j5
          by_cases hcn : m[n].n = m[0].n
          · rw [if_pos (by rw [hcn, j4])] at j5
            have e4 : (m[n].n == m[0].n) = true := by simp [hcn]
            by_cases hpt : m[n].a = m[n - 1].c
            · have e5 := pt_eq hpt
              rw [decide_eq_true hpt.symm, Bool.true_and] at j5
              simp only [R1, R2, R3, R4, R5, R6, R7, R8, AV.flat, fillIn_nil, fillIn_cons, splice, AV.cells, AV.one, eqsOf, idx, SO.calls, List.reduceReplicate, Nat.reduceBEq, Nat.reduceLT, Nat.reduceAdd, Nat.reduceMul, Nat.reduceSub, Nat.reduceLeDiff, Nat.reduceEqDiff, ↓reduceIte, Int.reduceLT, Int.reduceEq, Int.reduceBNe, Int.reduceBEq, aeq, Int.reduceLE, Int.reduceNeg, Int.reduceMul, Int.reduceAdd, Int.reduceSub, Int.reduceToNat, Int.reducePow, j1, j2, j3, e1, e3, E0, E1, E2, e4, Edge.cs, aeqs, e5, hw, hw2]
              exact ⟨_, by omega, n + 1, by omega, by omega, rfl, rfl, by omega, hcn, by simpa using j5⟩
            · have e5 := pt_ne hpt
              rw [decide_eq_false (fun h => hpt h.symm), Bool.false_and] at j5
              rw [g3, j5]
              simp only [R1, R2, R3, R4, R5, R6, R7, R8, AV.flat, fillIn_nil, fillIn_cons, splice, AV.cells, AV.one, eqsOf, idx, SO.calls, List.reduceReplicate, Nat.reduceBEq, Nat.reduceLT, Nat.reduceAdd, Nat.reduceMul, Nat.reduceSub, Nat.reduceLeDiff, Nat.reduceEqDiff, ↓reduceIte, Int.reduceLT, Int.reduceEq, Int.reduceBNe, Int.reduceBEq, aeq, Int.reduceLE, Int.reduceNeg, Int.reduceMul, Int.reduceAdd, Int.reduceSub, Int.reduceToNat, Int.reducePow, j1, j2, j3, e1, e3, E0, E1, E2, e4, Edge.cs, aeqs, e5, hw, hw2, tidy_bool]
          · rw [if_neg (by rw [j4]; exact hcn)] at j5
            have e4 : (m[n].n == m[0].n) = false := by simp [hcn]
            obtain ⟨w2, q1, q2⟩ := hm.from (n := n) (by omega)
            by_cases hpt : m[n - 1].c = m[0].a
            · have e5 := pt_eq hpt
              rw [decide_eq_true hpt, Bool.true_and] at j5
              simp only [R1, R2, R3, R4, R5, R6, R7, R8, AV.flat, fillIn_nil, fillIn_cons, splice, AV.cells, AV.one, eqsOf, idx, SO.calls, List.reduceReplicate, Nat.reduceBEq, Nat.reduceLT, Nat.reduceAdd, Nat.reduceMul, Nat.reduceSub, Nat.reduceLeDiff, Nat.reduceEqDiff, ↓reduceIte, Int.reduceLT, Int.reduceEq, Int.reduceBNe, Int.reduceBEq, aeq, Int.reduceLE, Int.reduceNeg, Int.reduceMul, Int.reduceAdd, Int.reduceSub, Int.reduceToNat, Int.reducePow, j1, j2, j3, e1, e3, E0, E1, E2, e4, Edge.cs, aeqs, e5, hw, hw2, q1]
              refine ⟨_, ?_, w2, m.drop n, q2, rfl, rfl, by simp; omega, ?_⟩
              · simp; omega
              · rw [g3, j5, cons_at hnl]; rfl
            · have e5 := pt_ne hpt
              rw [decide_eq_false hpt, Bool.false_and] at j5
              rw [g3, j5]
              simp only [R1, R2, R3, R4, R5, R6, R7, R8, AV.flat, fillIn_nil, fillIn_cons, splice, AV.cells, AV.one, eqsOf, idx, SO.calls, List.reduceReplicate, Nat.reduceBEq, Nat.reduceLT, Nat.reduceAdd, Nat.reduceMul, Nat.reduceSub, Nat.reduceLeDiff, Nat.reduceEqDiff, ↓reduceIte, Int.reduceLT, Int.reduceEq, Int.reduceBNe, Int.reduceBEq, aeq, Int.reduceLE, Int.reduceNeg, Int.reduceMul, Int.reduceAdd, Int.reduceSub, Int.reduceToNat, Int.reducePow, j1, j2, j3, e1, e3, E0, E1, E2, e4, Edge.cs, aeqs, e5, hw, hw2, tidy_bool]
        · have e3 : ((n : Int) < (m.length : Int)) = False := eq_false (by omega)
          obtain ⟨w2, q1, q2⟩ := hm.from (n := n) (by omega)
          have hd : m.drop n = [] := List.drop_eq_nil_of_le (by omega)
          rw [hd, closedRest] at j5
          by_cases hpt : m[n - 1].c = m[0].a
          · have e5 := pt_eq hpt
            rw [decide_eq_true hpt] at j5
            simp only [R1, R2, R3, R4, R5, R6, R7, R8, AV.flat, fillIn_nil, fillIn_cons, splice, AV.cells, AV.one, eqsOf, idx, SO.calls, List.reduceReplicate, Nat.reduceBEq, Nat.reduceLT, Nat.reduceAdd, Nat.reduceMul, Nat.reduceSub, Nat.reduceLeDiff, Nat.reduceEqDiff, ↓reduceIte, Int.reduceLT, Int.reduceEq, Int.reduceBNe, Int.reduceBEq, aeq, Int.reduceLE, Int.reduceNeg, Int.reduceMul, Int.reduceAdd, Int.reduceSub, Int.reduceToNat, Int.reducePow, j1, j2, j3, e1, e3, E0, E1, Edge.cs, aeqs, e5, hw, hw2, q1]
            refine ⟨_, ?_, w2, m.drop n, q2, rfl, rfl, by simp; omega, ?_⟩
            · simp; omega
            · rw [g3, j5, hd]; rfl
          · have e5 := pt_ne hpt
            rw [decide_eq_false hpt] at j5
            rw [g3, j5]
            simp only [R1, R2, R3, R4, R5, R6, R7, R8, AV.flat, fillIn_nil, fillIn_cons, splice, AV.cells, AV.one, eqsOf, idx, SO.calls, List.reduceReplicate, Nat.reduceBEq, Nat.reduceLT, Nat.reduceAdd, Nat.reduceMul, Nat.reduceSub, Nat.reduceLeDiff, Nat.reduceEqDiff, ↓reduceIte, Int.reduceLT, Int.reduceEq, Int.reduceBNe, Int.reduceBEq, aeq, Int.reduceLE, Int.reduceNeg, Int.reduceMul, Int.reduceAdd, Int.reduceSub, Int.reduceToNat, Int.reducePow, j1, j2, j3, e1, e3, E0, E1, Edge.cs, aeqs, e5, hw, hw2, tidy_bool]
    · have e2 : ((m.length : Int) > 0) = False := eq_false (by omega)
      have hm0 : m = [] := List.length_eq_zero_iff.1 (by omega)
      have hcm : closedP m = true := by rw [hm0]; rfl
      rw [g3, hcm]
      simp only [R1, R2, R3, R4, R5, R6, R7, R8, AV.flat, fillIn_nil, fillIn_cons, splice, AV.cells, AV.one, eqsOf, idx, SO.calls, List.reduceReplicate, Nat.reduceBEq, Nat.reduceLT, Nat.reduceAdd, Nat.reduceMul, Nat.reduceSub, Nat.reduceLeDiff, Nat.reduceEqDiff, ↓reduceIte, Int.reduceLT, Int.reduceEq, Int.reduceBNe, Int.reduceBEq, aeq, Int.reduceLE, Int.reduceNeg, Int.reduceMul, Int.reduceAdd, Int.reduceSub, Int.reduceToNat, Int.reducePow, g1, g2, e1, e2, tidy_bool]
end Go.Proofs.Ytkcbjeenoafbkaa
