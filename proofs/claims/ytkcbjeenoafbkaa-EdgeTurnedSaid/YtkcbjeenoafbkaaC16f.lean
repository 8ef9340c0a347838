/- Chapter 16: contours that may be; edges that are the same. -/
import Derived.Test.YtkcbjeenoafbkaaGrowX
import Derived.Test.YtkcbjeenoafbkaaPureEdge
set_option linter.unusedVariables false
set_option linter.unusedSimpArgs false
set_option maxRecDepth 100000
set_option maxHeartbeats 1000000
namespace Go.Proofs.Ytkcbjeenoafbkaa
open Go Go.Den
def Point.cs (p : Point) : List AV := [.int .i64 p.x, .int .i64 p.y, .bool p.on]
def Node.cs (m : Node) : List AV := [.int .i64 m.p.x, .int .i64 m.p.y, .bool m.on]
theorem point_cel : Cel 3 Point.cs := ⟨fun _ => rfl, fun _ => rfl, fun _ => rfl, by decide⟩
theorem node_cel : Cel 3 Node.cs := ⟨fun _ => rfl, fun _ => rfl, fun _ => rfl, by decide⟩
instance (p : Point) : Decidable (FarOk p) := by unfold FarOk; exact inferInstance
def sumL (l : List (List Point)) : Nat := (l.map List.length).sum
theorem sum_suc {l : List (List Point)} {i : Nat} (h : i < l.length) : sumL (l.take (i + 1)) = sumL (l.take i) + l[i].length := by
  unfold sumL; rw [List.take_succ_eq_append_getElem h, List.map_append, List.sum_append]; rfl
theorem sum_le (l : List (List Point)) (i : Nat) : sumL (l.take i) ≤ sumL l := by
  have : sumL l = sumL (l.take i) + sumL (l.drop i) := by unfold sumL; rw [← List.sum_append, ← List.map_append, List.take_append_drop]
  omega
def MayC (c : List Point) : Prop := c ≠ [] ∧ ∀ p ∈ c, FarOk p
def MayG (l : List (List Point)) : Prop := l.length ≤ 256 ∧ sumL l ≤ 4096 ∧ ∀ c ∈ l, MayC c
instance (c : List Point) : Decidable (MayC c) := by unfold MayC; exact inferInstance
instance (l : List (List Point)) : Decidable (MayG l) := by unfold MayG; exact inferInstance
theorem c76 (n : Int) (H : Heap) : call env 76 [.int .i64 n] H = some (.bool (decide (¬ (-32767 ≤ n ∧ n ≤ 32767))), H) := by
  refine call_ends (fn := s76) rfl rfl (by simp [s76]) ?_
  have hh : True := trivial
  have hk : True := trivial
  have hj : True := trivial
  simp only [s76]
  repeat' (first
    | simp only [R1, R2, R3, R4, R5, R6, R7, R8, AV.flat, fillIn_nil, fillIn_cons, splice, AV.cells, AV.one, eqsOf, idx, SO.calls, List.reduceReplicate, Nat.reduceBEq, Nat.reduceLT, Nat.reduceAdd, Nat.reduceMul, Nat.reduceSub, Nat.reduceLeDiff, Nat.reduceEqDiff, ↓reduceIte, Int.reduceLT, Int.reduceEq, Int.reduceBNe, Int.reduceBEq, aeq, Int.reduceLE, Int.reduceNeg, Int.reduceMul, Int.reduceAdd, Int.reduceSub, Int.reduceToNat, Int.reducePow, hh, hk, hj, tidy_bool]
    | simp (disch := omega) only [wrap_i64]
    | (simp only [gets_guard, gets_guardd, endsIf_any]; split <;> rename_i hk <;> (try simp only [Bool.not_eq_true] at hk) <;> (have hh := hk) <;> (have hj := hk) <;> (try simp only [Bool.not_eq_true', Bool.not_eq_false'] at hj) <;> (try simp only [decide_eq_true_eq, Bool.not_eq_true, decide_eq_false_iff_not, Bool.not_eq_true', Bool.not_eq_false', Bool.and_eq_true, Bool.or_eq_true, beq_iff_eq, bne_iff_ne, ne_eq] at hh)))
  all_goals grind
theorem not_far {p : Point} (h : FarOk p) : decide (¬ (-32767 ≤ p.x ∧ p.x ≤ 32767)) = false ∧ decide (¬ (-32767 ≤ p.y ∧ p.y ≤ 32767)) = false := by
  obtain ⟨a, b, c, d⟩ := h
  exact ⟨decide_eq_false fun h => h ⟨a, b⟩, decide_eq_false fun h => h ⟨c, d⟩⟩
theorem c41 {H : Heap} {v : AV} {l : List (List Point)} (hs : LsOf H 3 Point.cs v l) (hn : l.length ≤ 1000000) (hd : ∀ c ∈ l, c.length ≤ 1000000) :
    call env 41 [v] H = some (.bool (decide (MayG l)), H) := by
  have e1 := hs.lenOf
  by_cases h0 : l.length ≤ 256
  · have d0 : ((l.length : Int) > 256) = False := eq_false (by omega)
    refine call_ends (fn := s41) rfl rfl (by simp [s41]) ?_
    simp only [s41, R1, R2, R3, R4, R5, R6, R7, R8, AV.flat, fillIn_nil, fillIn_cons, splice, AV.cells, AV.one, eqsOf, idx, SO.calls, List.reduceReplicate, Nat.reduceBEq, Nat.reduceLT, Nat.reduceAdd, Nat.reduceMul, Nat.reduceSub, Nat.reduceLeDiff, Nat.reduceEqDiff, ↓reduceIte, Int.reduceLT, Int.reduceEq, Int.reduceBNe, Int.reduceBEq, aeq, Int.reduceLE, Int.reduceNeg, Int.reduceMul, Int.reduceAdd, Int.reduceSub, Int.reduceToNat, Int.reducePow, e1, d0]
    refine ends_loop (fun k t H' => t.length = 44 ∧ (∃ X, H' = H ++ X) ∧ t.getD 11 .undef = v ∧ t.getD 12 .undef = .int .i64 (l.length : Int) ∧ ∃ i : Nat, i ≤ l.length ∧ k = l.length - i ∧ t.getD 13 .undef = .int .i64 (i : Int) ∧ t.getD 3 .undef = .int .i64 (sumL (l.take i) : Nat) ∧ sumL (l.take i) ≤ 4096 ∧ ∀ c ∈ l.take i, MayC c) l.length ?_ ?_
    · simp only [R1, R2, R3, R4, R5, R6, R7, R8, AV.flat, fillIn_nil, fillIn_cons, splice, AV.cells, AV.one, eqsOf, idx, SO.calls, List.reduceReplicate, Nat.reduceBEq, Nat.reduceLT, Nat.reduceAdd, Nat.reduceMul, Nat.reduceSub, Nat.reduceLeDiff, Nat.reduceEqDiff, ↓reduceIte, Int.reduceLT, Int.reduceEq, Int.reduceBNe, Int.reduceBEq, aeq, Int.reduceLE, Int.reduceNeg, Int.reduceMul, Int.reduceAdd, Int.reduceSub, Int.reduceToNat, Int.reducePow]
      exact ⟨⟨[], by simp⟩, 0, by omega, by omega, rfl, rfl, by simp [sumL], by simp⟩
    · rintro k t _ ⟨g1, ⟨X, rfl⟩, g2, g3, i, hi, rfl, g4, g5, g6, g7⟩
      rw [← tm_nil t]
      by_cases hc : i < l.length
      · have a1 : ((i : Int) < (l.length : Int)) = True := eq_true (by omega)
        have w1 : IntKind.i64.wrap ((i : Int) + 1) = ((i + 1 : Nat) : Int) := by rw [wrap_i64 (by omega) (by omega)]; rfl
        obtain ⟨E1, w, E2, hw⟩ := hs.at hc
        have e2 := hw.lenOf
        have hcl := hd _ (List.getElem_mem hc)
        have w2 : IntKind.i64.wrap (((sumL (l.take i) : Nat) : Int) + (l[i].length : Int)) = (sumL (l.take (i + 1)) : Nat) := by rw [sum_suc hc, wrap_i64 (by omega) (by omega)]; rfl
        have hsl := sum_le l (i + 1)
        by_cases hz : l[i].length = 0
        · have b1 : ((l[i].length : Int) == 0) = true := by simp [hz]
          have hno : decide (MayG l) = false := decide_eq_false fun h => (h.2.2 _ (List.getElem_mem hc)).1 (List.length_eq_zero_iff.1 hz)
          rw [hno]
          simp only [R1, R2, R3, R4, R5, R6, R7, R8, AV.flat, fillIn_nil, fillIn_cons, splice, AV.cells, AV.one, eqsOf, idx, SO.calls, List.reduceReplicate, Nat.reduceBEq, Nat.reduceLT, Nat.reduceAdd, Nat.reduceMul, Nat.reduceSub, Nat.reduceLeDiff, Nat.reduceEqDiff, ↓reduceIte, Int.reduceLT, Int.reduceEq, Int.reduceBNe, Int.reduceBEq, aeq, Int.reduceLE, Int.reduceNeg, Int.reduceMul, Int.reduceAdd, Int.reduceSub, Int.reduceToNat, Int.reducePow, g1, g2, g3, g4, g5, a1, E1, E2, e2, w2, b1]
          rw [tidy_bool']
        · have b1 : ((l[i].length : Int) == 0) = false := by simp [hz]
          by_cases ho : sumL (l.take (i + 1)) ≤ 4096
          · have b2 : (((sumL (l.take (i + 1)) : Nat) : Int) > 4096) = False := eq_false (by omega)
            simp only [R1, R2, R3, R4, R5, R6, R7, R8, AV.flat, fillIn_nil, fillIn_cons, splice, AV.cells, AV.one, eqsOf, idx, SO.calls, List.reduceReplicate, Nat.reduceBEq, Nat.reduceLT, Nat.reduceAdd, Nat.reduceMul, Nat.reduceSub, Nat.reduceLeDiff, Nat.reduceEqDiff, ↓reduceIte, Int.reduceLT, Int.reduceEq, Int.reduceBNe, Int.reduceBEq, aeq, Int.reduceLE, Int.reduceNeg, Int.reduceMul, Int.reduceAdd, Int.reduceSub, Int.reduceToNat, Int.reducePow, g1, g2, g3, g4, g5, a1, E1, E2, e2, w2, b1, b2]
            refine ends_loop (fun k t H' => t.length = 44 ∧ (∃ X, H' = H ++ X) ∧ (t.getD 11 .undef = v ∧ t.getD 12 .undef = .int .i64 (l.length : Int) ∧ t.getD 13 .undef = .int .i64 (i : Int) ∧ t.getD 3 .undef = .int .i64 (sumL (l.take (i + 1)) : Nat)) ∧ t.getD 28 .undef = w ∧ t.getD 29 .undef = .int .i64 (l[i].length : Int) ∧ ∃ j : Nat, j ≤ l[i].length ∧ k = l[i].length - j ∧ t.getD 30 .undef = .int .i64 (j : Int) ∧ ∀ p ∈ l[i].take j, FarOk p) l[i].length ?_ ?_
            · simp only [R1, R2, R3, R4, R5, R6, R7, R8, AV.flat, fillIn_nil, fillIn_cons, splice, AV.cells, AV.one, eqsOf, idx, SO.calls, List.reduceReplicate, Nat.reduceBEq, Nat.reduceLT, Nat.reduceAdd, Nat.reduceMul, Nat.reduceSub, Nat.reduceLeDiff, Nat.reduceEqDiff, ↓reduceIte, Int.reduceLT, Int.reduceEq, Int.reduceBNe, Int.reduceBEq, aeq, Int.reduceLE, Int.reduceNeg, Int.reduceMul, Int.reduceAdd, Int.reduceSub, Int.reduceToNat, Int.reducePow, g1, g2, g3, g4]
              exact ⟨⟨X, rfl⟩, 0, by omega, by omega, rfl, by simp⟩
            · rintro k t _ ⟨g1, ⟨X, rfl⟩, ⟨g2, g3, g4, g5⟩, q1, q2, j, hj, rfl, q3, q4⟩
              rw [← tm_nil t]
              by_cases hcj : j < l[i].length
              · have a2 : ((j : Int) < (l[i].length : Int)) = True := eq_true (by omega)
                have w3 : IntKind.i64.wrap ((j : Int) + 1) = ((j + 1 : Nat) : Int) := by rw [wrap_i64 (by omega) (by omega)]; rfl
                have Ei := hw.elem hcj
                have hmem := List.getElem_mem hcj
                have htk : ∀ p ∈ l[i].take (j + 1), p ∈ l[i].take j ∨ p = l[i][j] := fun p hp => by
                  rw [List.take_succ_eq_append_getElem hcj] at hp; exact (List.mem_append.1 hp).imp _root_.id List.mem_singleton.1
                have nf := @not_far l[i][j]
                have hfx : ¬ (-32767 ≤ l[i][j].x ∧ l[i][j].x ≤ 32767) → decide (MayG l) = false := fun h => decide_eq_false fun hh => h ⟨((hh.2.2 _ (List.getElem_mem hc)).2 _ hmem).1, ((hh.2.2 _ (List.getElem_mem hc)).2 _ hmem).2.1⟩
                have hfy : ¬ (-32767 ≤ l[i][j].y ∧ l[i][j].y ≤ 32767) → decide (MayG l) = false := fun h => decide_eq_false fun hh => h ⟨((hh.2.2 _ (List.getElem_mem hc)).2 _ hmem).2.2.1, ((hh.2.2 _ (List.getElem_mem hc)).2 _ hmem).2.2.2⟩
                simp only [Point.cs] at Ei
                by_cases hx : -32767 ≤ l[i][j].x ∧ l[i][j].x ≤ 32767
                · have f1 : decide (¬ (-32767 ≤ l[i][j].x ∧ l[i][j].x ≤ 32767)) = false := decide_eq_false fun h => h hx
                  have k1 := fun H => c76 l[i][j].x H
                  have k2 := fun H => c76 l[i][j].y H
                  rw [f1] at k1
                  by_cases hy : -32767 ≤ l[i][j].y ∧ l[i][j].y ≤ 32767
                  · have f2 : decide (¬ (-32767 ≤ l[i][j].y ∧ l[i][j].y ≤ 32767)) = false := decide_eq_false fun h => h hy
                    rw [f2] at k2
                    simp only [R1, R2, R3, R4, R5, R6, R7, R8, AV.flat, fillIn_nil, fillIn_cons, splice, AV.cells, AV.one, eqsOf, idx, SO.calls, List.reduceReplicate, Nat.reduceBEq, Nat.reduceLT, Nat.reduceAdd, Nat.reduceMul, Nat.reduceSub, Nat.reduceLeDiff, Nat.reduceEqDiff, ↓reduceIte, Int.reduceLT, Int.reduceEq, Int.reduceBNe, Int.reduceBEq, aeq, Int.reduceLE, Int.reduceNeg, Int.reduceMul, Int.reduceAdd, Int.reduceSub, Int.reduceToNat, Int.reducePow, g1, g2, g3, g4, g5, q1, q2, q3, a2, w3, Ei, k1, k2]
                    exact ⟨_, by omega, ⟨_, rfl⟩, j + 1, by omega, rfl, rfl, fun p hp => by
                      rcases htk p hp with h | rfl
                      · exact q4 p h
                      · exact ⟨hx.1, hx.2, hy.1, hy.2⟩⟩
                  · have f2 : decide (¬ (-32767 ≤ l[i][j].y ∧ l[i][j].y ≤ 32767)) = true := decide_eq_true hy
                    rw [f2] at k2
                    rw [hfy hy]
                    simp only [R1, R2, R3, R4, R5, R6, R7, R8, AV.flat, fillIn_nil, fillIn_cons, splice, AV.cells, AV.one, eqsOf, idx, SO.calls, List.reduceReplicate, Nat.reduceBEq, Nat.reduceLT, Nat.reduceAdd, Nat.reduceMul, Nat.reduceSub, Nat.reduceLeDiff, Nat.reduceEqDiff, ↓reduceIte, Int.reduceLT, Int.reduceEq, Int.reduceBNe, Int.reduceBEq, aeq, Int.reduceLE, Int.reduceNeg, Int.reduceMul, Int.reduceAdd, Int.reduceSub, Int.reduceToNat, Int.reducePow, g1, g2, g3, g4, g5, q1, q2, q3, a2, w3, Ei, k1, k2]
                    rw [tidy_bool']
                · have f1 : decide (¬ (-32767 ≤ l[i][j].x ∧ l[i][j].x ≤ 32767)) = true := decide_eq_true hx
                  have k1 := fun H => c76 l[i][j].x H
                  rw [f1] at k1
                  rw [hfx hx]
                  simp only [R1, R2, R3, R4, R5, R6, R7, R8, AV.flat, fillIn_nil, fillIn_cons, splice, AV.cells, AV.one, eqsOf, idx, SO.calls, List.reduceReplicate, Nat.reduceBEq, Nat.reduceLT, Nat.reduceAdd, Nat.reduceMul, Nat.reduceSub, Nat.reduceLeDiff, Nat.reduceEqDiff, ↓reduceIte, Int.reduceLT, Int.reduceEq, Int.reduceBNe, Int.reduceBEq, aeq, Int.reduceLE, Int.reduceNeg, Int.reduceMul, Int.reduceAdd, Int.reduceSub, Int.reduceToNat, Int.reducePow, g1, g2, g3, g4, g5, q1, q2, q3, a2, w3, Ei, k1]
                  rw [tidy_bool']
              · have a2 : ((j : Int) < (l[i].length : Int)) = False := eq_false (by omega)
                obtain rfl : j = l[i].length := by omega
                rw [List.take_length] at q4
                simp only [R1, R2, R3, R4, R5, R6, R7, R8, AV.flat, fillIn_nil, fillIn_cons, splice, AV.cells, AV.one, eqsOf, idx, SO.calls, List.reduceReplicate, Nat.reduceBEq, Nat.reduceLT, Nat.reduceAdd, Nat.reduceMul, Nat.reduceSub, Nat.reduceLeDiff, Nat.reduceEqDiff, ↓reduceIte, Int.reduceLT, Int.reduceEq, Int.reduceBNe, Int.reduceBEq, aeq, Int.reduceLE, Int.reduceNeg, Int.reduceMul, Int.reduceAdd, Int.reduceSub, Int.reduceToNat, Int.reducePow, g1, g2, g3, g4, g5, q1, q2, q3, a2, w1]
                refine ⟨_, by omega, ⟨_, rfl⟩, i + 1, by omega, rfl, rfl, rfl, ho, fun c hc' => ?_⟩
                rw [List.take_succ_eq_append_getElem hc] at hc'
                rcases List.mem_append.1 hc' with h | h
                · exact g7 c h
                · simp only [List.mem_singleton] at h
                  subst h
                  exact ⟨fun h => hz (by rw [h]; rfl), q4⟩
          · have b2 : (((sumL (l.take (i + 1)) : Nat) : Int) > 4096) = True := eq_true (by omega)
            have hno : decide (MayG l) = false := decide_eq_false fun h => by have := h.2.1; omega
            rw [hno]
            simp only [R1, R2, R3, R4, R5, R6, R7, R8, AV.flat, fillIn_nil, fillIn_cons, splice, AV.cells, AV.one, eqsOf, idx, SO.calls, List.reduceReplicate, Nat.reduceBEq, Nat.reduceLT, Nat.reduceAdd, Nat.reduceMul, Nat.reduceSub, Nat.reduceLeDiff, Nat.reduceEqDiff, ↓reduceIte, Int.reduceLT, Int.reduceEq, Int.reduceBNe, Int.reduceBEq, aeq, Int.reduceLE, Int.reduceNeg, Int.reduceMul, Int.reduceAdd, Int.reduceSub, Int.reduceToNat, Int.reducePow, g1, g2, g3, g4, g5, a1, E1, E2, e2, w2, b1, b2]
            rw [tidy_bool']
      · have a1 : ((i : Int) < (l.length : Int)) = False := eq_false (by omega)
        obtain rfl : i = l.length := by omega
        rw [List.take_length] at g6 g7
        have hyes : decide (MayG l) = true := decide_eq_true ⟨h0, g6, g7⟩
        rw [hyes]
        simp only [R1, R2, R3, R4, R5, R6, R7, R8, AV.flat, fillIn_nil, fillIn_cons, splice, AV.cells, AV.one, eqsOf, idx, SO.calls, List.reduceReplicate, Nat.reduceBEq, Nat.reduceLT, Nat.reduceAdd, Nat.reduceMul, Nat.reduceSub, Nat.reduceLeDiff, Nat.reduceEqDiff, ↓reduceIte, Int.reduceLT, Int.reduceEq, Int.reduceBNe, Int.reduceBEq, aeq, Int.reduceLE, Int.reduceNeg, Int.reduceMul, Int.reduceAdd, Int.reduceSub, Int.reduceToNat, Int.reducePow, g1, g2, g3, g4, g5, a1]
        rw [tidy_bool']
  · have d0 : ((l.length : Int) > 256) = True := eq_true (by omega)
    have hno : decide (MayG l) = false := decide_eq_false fun h => h0 h.1
    rw [hno]
    refine call_ends (fn := s41) rfl rfl (by simp [s41]) ?_
    simp only [s41, R1, R2, R3, R4, R5, R6, R7, R8, AV.flat, fillIn_nil, fillIn_cons, splice, AV.cells, AV.one, eqsOf, idx, SO.calls, List.reduceReplicate, Nat.reduceBEq, Nat.reduceLT, Nat.reduceAdd, Nat.reduceMul, Nat.reduceSub, Nat.reduceLeDiff, Nat.reduceEqDiff, ↓reduceIte, Int.reduceLT, Int.reduceEq, Int.reduceBNe, Int.reduceBEq, aeq, Int.reduceLE, Int.reduceNeg, Int.reduceMul, Int.reduceAdd, Int.reduceSub, Int.reduceToNat, Int.reducePow, e1, d0]
    rw [tidy_bool]
theorem c24 {H : Heap} {v : AV} {l : List (List Point)} (hs : LsOf H 3 Point.cs v l) (hn : l.length ≤ 1000000) (hd : ∀ c ∈ l, c.length ≤ 1000000) :
    call env 24 [v] H = some (.bool (decide (MayG l)), H) := by
  have e1 := hs.lenOf
  by_cases h0 : l.length ≤ 256
  · have d0 : ((l.length : Int) > 256) = False := eq_false (by omega)
    refine call_ends (fn := s24) rfl rfl (by simp [s24]) ?_
    simp only [s24, R1, R2, R3, R4, R5, R6, R7, R8, AV.flat, fillIn_nil, fillIn_cons, splice, AV.cells, AV.one, eqsOf, idx, SO.calls, List.reduceReplicate, Nat.reduceBEq, Nat.reduceLT, Nat.reduceAdd, Nat.reduceMul, Nat.reduceSub, Nat.reduceLeDiff, Nat.reduceEqDiff, ↓reduceIte, Int.reduceLT, Int.reduceEq, Int.reduceBNe, Int.reduceBEq, aeq, Int.reduceLE, Int.reduceNeg, Int.reduceMul, Int.reduceAdd, Int.reduceSub, Int.reduceToNat, Int.reducePow, e1, d0]
    refine ends_loop (fun k t H' => t.length = 73 ∧ (∃ X, H' = H ++ X) ∧ t.getD 0 .undef = v ∧ ∃ i : Nat, i ≤ l.length ∧ k = l.length - i ∧ t.getD 4 .undef = .int .i64 (i : Int) ∧ t.getD 3 .undef = .int .i64 (sumL (l.take i) : Nat) ∧ sumL (l.take i) ≤ 4096 ∧ ∀ c ∈ l.take i, MayC c) l.length ?_ ?_
    · simp only [R1, R2, R3, R4, R5, R6, R7, R8, AV.flat, fillIn_nil, fillIn_cons, splice, AV.cells, AV.one, eqsOf, idx, SO.calls, List.reduceReplicate, Nat.reduceBEq, Nat.reduceLT, Nat.reduceAdd, Nat.reduceMul, Nat.reduceSub, Nat.reduceLeDiff, Nat.reduceEqDiff, ↓reduceIte, Int.reduceLT, Int.reduceEq, Int.reduceBNe, Int.reduceBEq, aeq, Int.reduceLE, Int.reduceNeg, Int.reduceMul, Int.reduceAdd, Int.reduceSub, Int.reduceToNat, Int.reducePow]
      exact ⟨⟨[], by simp⟩, 0, by omega, by omega, rfl, rfl, by simp [sumL], by simp⟩
    · rintro k t _ ⟨g1, ⟨X, rfl⟩, g2, i, hi, rfl, g4, g5, g6, g7⟩
      rw [← tm_nil t]
      by_cases hc : i < l.length
      · have a1 : ((i : Int) < (l.length : Int)) = True := eq_true (by omega)
        have w1 : IntKind.i64.wrap ((i : Int) + 1) = ((i + 1 : Nat) : Int) := by rw [wrap_i64 (by omega) (by omega)]; rfl
        obtain ⟨E1, w, E2, hw⟩ := hs.at hc
        have e2 := hw.lenOf
        have hcl := hd _ (List.getElem_mem hc)
        have w2 : IntKind.i64.wrap (((sumL (l.take i) : Nat) : Int) + (l[i].length : Int)) = (sumL (l.take (i + 1)) : Nat) := by rw [sum_suc hc, wrap_i64 (by omega) (by omega)]; rfl
        have hsl := sum_le l (i + 1)
        have hsi := sum_suc hc
        by_cases hz : l[i].length = 0
        · have b1 : ((l[i].length : Int) == 0) = true := by simp [hz]
          have hno : decide (MayG l) = false := decide_eq_false fun h => (h.2.2 _ (List.getElem_mem hc)).1 (List.length_eq_zero_iff.1 hz)
          rw [hno]
          simp only [R1, R2, R3, R4, R5, R6, R7, R8, AV.flat, fillIn_nil, fillIn_cons, splice, AV.cells, AV.one, eqsOf, idx, SO.calls, List.reduceReplicate, Nat.reduceBEq, Nat.reduceLT, Nat.reduceAdd, Nat.reduceMul, Nat.reduceSub, Nat.reduceLeDiff, Nat.reduceEqDiff, ↓reduceIte, Int.reduceLT, Int.reduceEq, Int.reduceBNe, Int.reduceBEq, aeq, Int.reduceLE, Int.reduceNeg, Int.reduceMul, Int.reduceAdd, Int.reduceSub, Int.reduceToNat, Int.reducePow, g1, g2, g4, g5, a1, e1, E1, E2, e2, w2, b1]
          rw [tidy_bool']
        · have b1 : ((l[i].length : Int) == 0) = false := by simp [hz]
          by_cases hb : l[i].length ≤ 4096
          · have b0 : ((l[i].length : Int) > 4096) = False := eq_false (by omega)
            by_cases ho : sumL (l.take (i + 1)) ≤ 4096
            · have b2 : (((sumL (l.take (i + 1)) : Nat) : Int) > 4096) = False := eq_false (by omega)
              simp only [R1, R2, R3, R4, R5, R6, R7, R8, AV.flat, fillIn_nil, fillIn_cons, splice, AV.cells, AV.one, eqsOf, idx, SO.calls, List.reduceReplicate, Nat.reduceBEq, Nat.reduceLT, Nat.reduceAdd, Nat.reduceMul, Nat.reduceSub, Nat.reduceLeDiff, Nat.reduceEqDiff, ↓reduceIte, Int.reduceLT, Int.reduceEq, Int.reduceBNe, Int.reduceBEq, aeq, Int.reduceLE, Int.reduceNeg, Int.reduceMul, Int.reduceAdd, Int.reduceSub, Int.reduceToNat, Int.reducePow, g1, g2, g4, g5, a1, e1, E1, E2, e2, w2, b0, b1, b2]
              refine ends_loop (fun k t H' => t.length = 73 ∧ (∃ X, H' = H ++ X) ∧ (t.getD 0 .undef = v ∧ t.getD 4 .undef = .int .i64 (i : Int) ∧ t.getD 3 .undef = .int .i64 (sumL (l.take (i + 1)) : Nat)) ∧ ∃ j : Nat, j ≤ l[i].length ∧ k = l[i].length - j ∧ t.getD 5 .undef = .int .i64 (j : Int) ∧ ∀ p ∈ l[i].take j, FarOk p) l[i].length ?_ ?_
              · simp only [R1, R2, R3, R4, R5, R6, R7, R8, AV.flat, fillIn_nil, fillIn_cons, splice, AV.cells, AV.one, eqsOf, idx, SO.calls, List.reduceReplicate, Nat.reduceBEq, Nat.reduceLT, Nat.reduceAdd, Nat.reduceMul, Nat.reduceSub, Nat.reduceLeDiff, Nat.reduceEqDiff, ↓reduceIte, Int.reduceLT, Int.reduceEq, Int.reduceBNe, Int.reduceBEq, aeq, Int.reduceLE, Int.reduceNeg, Int.reduceMul, Int.reduceAdd, Int.reduceSub, Int.reduceToNat, Int.reducePow, g1, g2, g4]
                exact ⟨⟨X, rfl⟩, 0, by omega, by omega, rfl, by simp⟩
              · rintro k t _ ⟨g1, ⟨X, rfl⟩, ⟨g2, g4, g5⟩, j, hj, rfl, q3, q4⟩
                rw [← tm_nil t]
                by_cases hcj : j < l[i].length
                · have a2 : ((j : Int) < (l[i].length : Int)) = True := eq_true (by omega)
                  have w3 : IntKind.i64.wrap ((j : Int) + 1) = ((j + 1 : Nat) : Int) := by rw [wrap_i64 (by omega) (by omega)]; rfl
                  have Ei := hw.elem hcj
                  have hmem := List.getElem_mem hcj
                  have htk : ∀ p ∈ l[i].take (j + 1), p ∈ l[i].take j ∨ p = l[i][j] := fun p hp => by
                    rw [List.take_succ_eq_append_getElem hcj] at hp; exact (List.mem_append.1 hp).imp _root_.id List.mem_singleton.1
                  have hfx : ¬ FarOk l[i][j] → decide (MayG l) = false := fun h => decide_eq_false fun hh => h ((hh.2.2 _ (List.getElem_mem hc)).2 _ hmem)
                  simp only [Point.cs] at Ei
                  by_cases hx : FarOk l[i][j]
                  · obtain ⟨x1, x2, x3, x4⟩ := id hx
                    have f1 : (l[i][j].x < -32767) = False := eq_false (by omega)
                    have f2 : (l[i][j].x > 32767) = False := eq_false (by omega)
                    have f3 : (l[i][j].y < -32767) = False := eq_false (by omega)
                    have f4 : (l[i][j].y > 32767) = False := eq_false (by omega)
                    simp only [R1, R2, R3, R4, R5, R6, R7, R8, AV.flat, fillIn_nil, fillIn_cons, splice, AV.cells, AV.one, eqsOf, idx, SO.calls, List.reduceReplicate, Nat.reduceBEq, Nat.reduceLT, Nat.reduceAdd, Nat.reduceMul, Nat.reduceSub, Nat.reduceLeDiff, Nat.reduceEqDiff, ↓reduceIte, Int.reduceLT, Int.reduceEq, Int.reduceBNe, Int.reduceBEq, aeq, Int.reduceLE, Int.reduceNeg, Int.reduceMul, Int.reduceAdd, Int.reduceSub, Int.reduceToNat, Int.reducePow, g1, g2, g4, g5, q3, e1, E1, E2, e2, a2, w3, Ei, f1, f2, f3, f4]
                    exact ⟨_, by omega, ⟨_, rfl⟩, j + 1, by omega, rfl, rfl, fun p hp => by
                      rcases htk p hp with h | rfl
                      · exact q4 p h
                      · exact hx⟩
                  · rw [hfx hx]
                    unfold FarOk at hx
                    generalize l[i][j].x = x at *
                    generalize l[i][j].y = y at *
                    have hh : True := trivial
                    have hk : True := trivial
                    have hj : True := trivial
                    repeat' (first
                      | simp only [R1, R2, R3, R4, R5, R6, R7, R8, AV.flat, fillIn_nil, fillIn_cons, splice, AV.cells, AV.one, eqsOf, idx, SO.calls, List.reduceReplicate, Nat.reduceBEq, Nat.reduceLT, Nat.reduceAdd, Nat.reduceMul, Nat.reduceSub, Nat.reduceLeDiff, Nat.reduceEqDiff, ↓reduceIte, Int.reduceLT, Int.reduceEq, Int.reduceBNe, Int.reduceBEq, aeq, Int.reduceLE, Int.reduceNeg, Int.reduceMul, Int.reduceAdd, Int.reduceSub, Int.reduceToNat, Int.reducePow, hh, hk, hj, g1, g2, g4, g5, q3, e1, E1, E2, e2, a2, w3, Ei, tidy_bool']
                      | simp (disch := omega) only [wrap_i64]
                      | (simp only [gets_guard, gets_guardd, endsIf_any]; split <;> rename_i hk <;> (try simp only [Bool.not_eq_true] at hk) <;> (have hh := hk) <;> (have hj := hk) <;> (try simp only [Bool.not_eq_true', Bool.not_eq_false'] at hj) <;> (try simp only [decide_eq_true_eq, Bool.not_eq_true, decide_eq_false_iff_not, Bool.not_eq_true', Bool.not_eq_false', Bool.and_eq_true, Bool.or_eq_true, beq_iff_eq, bne_iff_ne, ne_eq] at hh)))
                    all_goals omega
                · have a2 : ((j : Int) < (l[i].length : Int)) = False := eq_false (by omega)
                  obtain rfl : j = l[i].length := by omega
                  rw [List.take_length] at q4
                  simp only [R1, R2, R3, R4, R5, R6, R7, R8, AV.flat, fillIn_nil, fillIn_cons, splice, AV.cells, AV.one, eqsOf, idx, SO.calls, List.reduceReplicate, Nat.reduceBEq, Nat.reduceLT, Nat.reduceAdd, Nat.reduceMul, Nat.reduceSub, Nat.reduceLeDiff, Nat.reduceEqDiff, ↓reduceIte, Int.reduceLT, Int.reduceEq, Int.reduceBNe, Int.reduceBEq, aeq, Int.reduceLE, Int.reduceNeg, Int.reduceMul, Int.reduceAdd, Int.reduceSub, Int.reduceToNat, Int.reducePow, g1, g2, g4, g5, q3, e1, E1, E2, e2, a2, w1]
                  refine ⟨_, by omega, ⟨_, rfl⟩, i + 1, by omega, rfl, rfl, rfl, ho, fun c hc' => ?_⟩
                  rw [List.take_succ_eq_append_getElem hc] at hc'
                  rcases List.mem_append.1 hc' with h | h
                  · exact g7 c h
                  · simp only [List.mem_singleton] at h
                    subst h
                    exact ⟨fun h => hz (by rw [h]; rfl), q4⟩
            · have b2 : (((sumL (l.take (i + 1)) : Nat) : Int) > 4096) = True := eq_true (by omega)
              have hno : decide (MayG l) = false := decide_eq_false fun h => by have := h.2.1; omega
              rw [hno]
              simp only [R1, R2, R3, R4, R5, R6, R7, R8, AV.flat, fillIn_nil, fillIn_cons, splice, AV.cells, AV.one, eqsOf, idx, SO.calls, List.reduceReplicate, Nat.reduceBEq, Nat.reduceLT, Nat.reduceAdd, Nat.reduceMul, Nat.reduceSub, Nat.reduceLeDiff, Nat.reduceEqDiff, ↓reduceIte, Int.reduceLT, Int.reduceEq, Int.reduceBNe, Int.reduceBEq, aeq, Int.reduceLE, Int.reduceNeg, Int.reduceMul, Int.reduceAdd, Int.reduceSub, Int.reduceToNat, Int.reducePow, g1, g2, g4, g5, a1, e1, E1, E2, e2, w2, b0, b1, b2]
              rw [tidy_bool']
          · have b0 : ((l[i].length : Int) > 4096) = True := eq_true (by omega)
            have hno : decide (MayG l) = false := decide_eq_false fun h => by have := h.2.1; omega
            rw [hno]
            simp only [R1, R2, R3, R4, R5, R6, R7, R8, AV.flat, fillIn_nil, fillIn_cons, splice, AV.cells, AV.one, eqsOf, idx, SO.calls, List.reduceReplicate, Nat.reduceBEq, Nat.reduceLT, Nat.reduceAdd, Nat.reduceMul, Nat.reduceSub, Nat.reduceLeDiff, Nat.reduceEqDiff, ↓reduceIte, Int.reduceLT, Int.reduceEq, Int.reduceBNe, Int.reduceBEq, aeq, Int.reduceLE, Int.reduceNeg, Int.reduceMul, Int.reduceAdd, Int.reduceSub, Int.reduceToNat, Int.reducePow, g1, g2, g4, g5, a1, e1, E1, E2, e2, w2, b0, b1]
            rw [tidy_bool']
      · have a1 : ((i : Int) < (l.length : Int)) = False := eq_false (by omega)
        obtain rfl : i = l.length := by omega
        rw [List.take_length] at g6 g7
        have hyes : decide (MayG l) = true := decide_eq_true ⟨h0, g6, g7⟩
        rw [hyes]
        simp only [R1, R2, R3, R4, R5, R6, R7, R8, AV.flat, fillIn_nil, fillIn_cons, splice, AV.cells, AV.one, eqsOf, idx, SO.calls, List.reduceReplicate, Nat.reduceBEq, Nat.reduceLT, Nat.reduceAdd, Nat.reduceMul, Nat.reduceSub, Nat.reduceLeDiff, Nat.reduceEqDiff, ↓reduceIte, Int.reduceLT, Int.reduceEq, Int.reduceBNe, Int.reduceBEq, aeq, Int.reduceLE, Int.reduceNeg, Int.reduceMul, Int.reduceAdd, Int.reduceSub, Int.reduceToNat, Int.reducePow, g1, g2, g4, g5, a1, e1]
        rw [tidy_bool']
  · have d0 : ((l.length : Int) > 256) = True := eq_true (by omega)
    have hno : decide (MayG l) = false := decide_eq_false fun h => h0 h.1
    rw [hno]
    refine call_ends (fn := s24) rfl rfl (by simp [s24]) ?_
    simp only [s24, R1, R2, R3, R4, R5, R6, R7, R8, AV.flat, fillIn_nil, fillIn_cons, splice, AV.cells, AV.one, eqsOf, idx, SO.calls, List.reduceReplicate, Nat.reduceBEq, Nat.reduceLT, Nat.reduceAdd, Nat.reduceMul, Nat.reduceSub, Nat.reduceLeDiff, Nat.reduceEqDiff, ↓reduceIte, Int.reduceLT, Int.reduceEq, Int.reduceBNe, Int.reduceBEq, aeq, Int.reduceLE, Int.reduceNeg, Int.reduceMul, Int.reduceAdd, Int.reduceSub, Int.reduceToNat, Int.reducePow, e1, d0]
    rw [tidy_bool]
def FewL (l : List (List Point)) : Prop := (∀ c ∈ l, c.length ≤ 60) ∧ l.length ≤ 20
instance (l : List (List Point)) : Decidable (FewL l) := by unfold FewL; exact inferInstance
theorem c14 {H : Heap} {v : AV} {l : List (List Point)} (hs : LsOf H 3 Point.cs v l) (hn : l.length ≤ 9223372036854775807) :
    call env 14 [v] H = some (.bool (decide (FewL l)), H) := by
  have e1 := hs.lenOf
  refine call_ends (fn := s14) rfl rfl (by simp [s14]) ?_
  simp only [s14, R1, R2, R3, R4, R5, R6, R7, R8, AV.flat, fillIn_nil, fillIn_cons, splice, AV.cells, AV.one, eqsOf, idx, SO.calls, List.reduceReplicate, Nat.reduceBEq, Nat.reduceLT, Nat.reduceAdd, Nat.reduceMul, Nat.reduceSub, Nat.reduceLeDiff, Nat.reduceEqDiff, ↓reduceIte, Int.reduceLT, Int.reduceEq, Int.reduceBNe, Int.reduceBEq, aeq, Int.reduceLE, Int.reduceNeg, Int.reduceMul, Int.reduceAdd, Int.reduceSub, Int.reduceToNat, Int.reducePow, e1]
  refine ends_loop (fun k t H' => t.length = 18 ∧ H' = H ∧ t.getD 0 .undef = v ∧ t.getD 5 .undef = v ∧ t.getD 6 .undef = .int .i64 (l.length : Int) ∧ ∃ i : Nat, i ≤ l.length ∧ k = l.length - i ∧ t.getD 7 .undef = .int .i64 (i : Int) ∧ ∀ c ∈ l.take i, c.length ≤ 60) l.length ?_ ?_
  · simp only [R1, R2, R3, R4, R5, R6, R7, R8, AV.flat, fillIn_nil, fillIn_cons, splice, AV.cells, AV.one, eqsOf, idx, SO.calls, List.reduceReplicate, Nat.reduceBEq, Nat.reduceLT, Nat.reduceAdd, Nat.reduceMul, Nat.reduceSub, Nat.reduceLeDiff, Nat.reduceEqDiff, ↓reduceIte, Int.reduceLT, Int.reduceEq, Int.reduceBNe, Int.reduceBEq, aeq, Int.reduceLE, Int.reduceNeg, Int.reduceMul, Int.reduceAdd, Int.reduceSub, Int.reduceToNat, Int.reducePow]
    exact ⟨0, by omega, by omega, rfl, by simp⟩
  · rintro k t _ ⟨g1, rfl, g2, g3, g4, i, hi, rfl, g5, g6⟩
    rw [← tm_nil t]
    by_cases hc : i < l.length
    · have a1 : ((i : Int) < (l.length : Int)) = True := eq_true (by omega)
      have w1 : IntKind.i64.wrap ((i : Int) + 1) = ((i + 1 : Nat) : Int) := by rw [wrap_i64 (by omega) (by omega)]; rfl
      obtain ⟨E1, w, E2, hw⟩ := hs.at hc
      have e2 := hw.lenOf
      have E3 := E2 []
      rw [List.append_nil] at E3
      by_cases hz : l[i].length ≤ 60
      · have b1 : ((l[i].length : Int) > 60) = False := eq_false (by omega)
        simp only [R1, R2, R3, R4, R5, R6, R7, R8, AV.flat, fillIn_nil, fillIn_cons, splice, AV.cells, AV.one, eqsOf, idx, SO.calls, List.reduceReplicate, Nat.reduceBEq, Nat.reduceLT, Nat.reduceAdd, Nat.reduceMul, Nat.reduceSub, Nat.reduceLeDiff, Nat.reduceEqDiff, ↓reduceIte, Int.reduceLT, Int.reduceEq, Int.reduceBNe, Int.reduceBEq, aeq, Int.reduceLE, Int.reduceNeg, Int.reduceMul, Int.reduceAdd, Int.reduceSub, Int.reduceToNat, Int.reducePow, g1, g2, g3, g4, g5, a1, E1, E3, e2, w1, b1]
        refine ⟨_, by omega, i + 1, by omega, rfl, rfl, fun c hc' => ?_⟩
        rw [List.take_succ_eq_append_getElem hc] at hc'
        rcases List.mem_append.1 hc' with h | h
        · exact g6 c h
        · simp only [List.mem_singleton] at h
          subst h; exact hz
      · have b1 : ((l[i].length : Int) > 60) = True := eq_true (by omega)
        have hno : decide (FewL l) = false := decide_eq_false fun h => hz (h.1 _ (List.getElem_mem hc))
        rw [hno]
        simp only [R1, R2, R3, R4, R5, R6, R7, R8, AV.flat, fillIn_nil, fillIn_cons, splice, AV.cells, AV.one, eqsOf, idx, SO.calls, List.reduceReplicate, Nat.reduceBEq, Nat.reduceLT, Nat.reduceAdd, Nat.reduceMul, Nat.reduceSub, Nat.reduceLeDiff, Nat.reduceEqDiff, ↓reduceIte, Int.reduceLT, Int.reduceEq, Int.reduceBNe, Int.reduceBEq, aeq, Int.reduceLE, Int.reduceNeg, Int.reduceMul, Int.reduceAdd, Int.reduceSub, Int.reduceToNat, Int.reducePow, g1, g2, g3, g4, g5, a1, E1, E3, e2, b1]
        rw [tidy_bool]
    · have a1 : ((i : Int) < (l.length : Int)) = False := eq_false (by omega)
      obtain rfl : i = l.length := by omega
      rw [List.take_length] at g6
      have hd : decide ((l.length : Int) ≤ 20) = decide (FewL l) := decide_eq_decide.2 ⟨fun h => ⟨g6, by omega⟩, fun h => by have := h.2; omega⟩
      simp only [R1, R2, R3, R4, R5, R6, R7, R8, AV.flat, fillIn_nil, fillIn_cons, splice, AV.cells, AV.one, eqsOf, idx, SO.calls, List.reduceReplicate, Nat.reduceBEq, Nat.reduceLT, Nat.reduceAdd, Nat.reduceMul, Nat.reduceSub, Nat.reduceLeDiff, Nat.reduceEqDiff, ↓reduceIte, Int.reduceLT, Int.reduceEq, Int.reduceBNe, Int.reduceBEq, aeq, Int.reduceLE, Int.reduceNeg, Int.reduceMul, Int.reduceAdd, Int.reduceSub, Int.reduceToNat, Int.reducePow, g1, g2, g3, g4, g5, a1, e1, hd]
      rw [tidy_bool]
end Go.Proofs.Ytkcbjeenoafbkaa
