/- Chapter 40: pairs, glyphs that are placed. -/
import Derived.Test.YtppkggodpihfiaaGrowY
import Derived.Test.YtppkggodpihfiaaLeftX
set_option linter.unusedVariables false
set_option linter.unusedSimpArgs false
set_option maxRecDepth 100000
set_option maxHeartbeats 2000000
namespace Go.Proofs.Ytppkggodpihfiaa
open Go Go.Den
structure Kn where
  l : Int
  r : Int
  b : Int
  deriving DecidableEq
def Kn.cs (k : Kn) : List AV := [.int .i64 k.l, .int .i64 k.r, .int .i64 k.b]
theorem kn_cel : Cel 3 Kn.cs := ⟨fun _ => rfl, fun _ => rfl, fun _ => rfl, by decide⟩
structure Pc where
  g : Int
  x : Int
  y : Int
  deriving DecidableEq
def Pc.cs (k : Pc) : List AV := [.int .i64 k.g, .int .i64 k.x, .int .i64 k.y]
theorem pc_cel : Cel 3 Pc.cs := ⟨fun _ => rfl, fun _ => rfl, fun _ => rfl, by decide⟩
theorem ne_self (n : Int) : (n != n) = false := by simp
theorem c18 {H : Heap} {v w : AV} {l : List Kn} (h1 : SlOf H 3 Kn.cs v l) (h2 : SlOf H 3 Kn.cs w l) (hn : l.length ≤ 9223372036854775807) : call env 18 [v, w] H = some (.bool true, H) := by
  have l1 := h1.lenOf
  have l2 := h2.lenOf
  refine call_ends (fn := s18) rfl rfl (by simp [s18]) ?_
  simp only [s18, R1, R2, R3, R4, R5, R6, R7, R8, AV.flat, fillIn_nil, fillIn_cons, splice, AV.cells, AV.one, eqsOf, idx, SO.calls, List.reduceReplicate, Nat.reduceBEq, Nat.reduceLT, Nat.reduceAdd, Nat.reduceMul, Nat.reduceSub, Nat.reduceLeDiff, Nat.reduceEqDiff, ↓reduceIte, Int.reduceLT, Int.reduceEq, Int.reduceBNe, Int.reduceBEq, aeq, Int.reduceLE, Int.reduceNeg, Int.reduceMul, Int.reduceAdd, Int.reduceSub, Int.reduceToNat, Int.reducePow, l1, l2, ne_self]
  refine ends_loop (fun k t H' => t.length = 26 ∧ H = H' ∧ (t.getD 0 .undef = v ∧ t.getD 1 .undef = w) ∧ ∃ i : Nat, i ≤ l.length ∧ k = l.length - i ∧ t.getD 5 .undef = .int .i64 (i : Int)) l.length ?_ ?_
  · simp only [R1, R2, R3, R4, R5, R6, R7, R8, AV.flat, fillIn_nil, fillIn_cons, splice, AV.cells, AV.one, eqsOf, idx, SO.calls, List.reduceReplicate, Nat.reduceBEq, Nat.reduceLT, Nat.reduceAdd, Nat.reduceMul, Nat.reduceSub, Nat.reduceLeDiff, Nat.reduceEqDiff, ↓reduceIte, Int.reduceLT, Int.reduceEq, Int.reduceBNe, Int.reduceBEq, aeq, Int.reduceLE, Int.reduceNeg, Int.reduceMul, Int.reduceAdd, Int.reduceSub, Int.reduceToNat, Int.reducePow]
    exact ⟨0, by omega, by omega, rfl⟩
  · rintro k t _ ⟨g1, rfl, ⟨g2, g3⟩, i, hi, rfl, g4⟩
    rw [← tm_nil t]
    by_cases hc : i < l.length
    · have a1 : ((i : Int) < (l.length : Int)) = True := eq_true (by omega)
      have w1 : IntKind.i64.wrap ((i : Int) + 1) = ((i + 1 : Nat) : Int) := by rw [wrap_i64 (by omega) (by omega)]; rfl
      have E := h1.elem0 hc
      have F := h2.elem0 hc
      generalize l[i] = q at *
      obtain ⟨x, y, z⟩ := q
      simp only [Kn.cs] at E F
      simp only [R1, R2, R3, R4, R5, R6, R7, R8, AV.flat, fillIn_nil, fillIn_cons, splice, AV.cells, AV.one, eqsOf, idx, SO.calls, List.reduceReplicate, Nat.reduceBEq, Nat.reduceLT, Nat.reduceAdd, Nat.reduceMul, Nat.reduceSub, Nat.reduceLeDiff, Nat.reduceEqDiff, ↓reduceIte, Int.reduceLT, Int.reduceEq, Int.reduceBNe, Int.reduceBEq, aeq, Int.reduceLE, Int.reduceNeg, Int.reduceMul, Int.reduceAdd, Int.reduceSub, Int.reduceToNat, Int.reducePow, g1, g2, g3, g4, l1, a1, w1, E, F, aeqs]
      exact ⟨_, by omega, i + 1, by omega, rfl, rfl⟩
    · have a1 : ((i : Int) < (l.length : Int)) = False := eq_false (by omega)
      simp only [R1, R2, R3, R4, R5, R6, R7, R8, AV.flat, fillIn_nil, fillIn_cons, splice, AV.cells, AV.one, eqsOf, idx, SO.calls, List.reduceReplicate, Nat.reduceBEq, Nat.reduceLT, Nat.reduceAdd, Nat.reduceMul, Nat.reduceSub, Nat.reduceLeDiff, Nat.reduceEqDiff, ↓reduceIte, Int.reduceLT, Int.reduceEq, Int.reduceBNe, Int.reduceBEq, aeq, Int.reduceLE, Int.reduceNeg, Int.reduceMul, Int.reduceAdd, Int.reduceSub, Int.reduceToNat, Int.reducePow, g1, g2, g3, g4, l1, a1]
      try rw [tidy_bool]
theorem c20 {H : Heap} {v w : AV} {l : List Pc} (h1 : SlOf H 3 Pc.cs v l) (h2 : SlOf H 3 Pc.cs w l) (hn : l.length ≤ 9223372036854775807) : call env 20 [v, w] H = some (.bool true, H) := by
  have l1 := h1.lenOf
  have l2 := h2.lenOf
  refine call_ends (fn := s20) rfl rfl (by simp [s20]) ?_
  simp only [s20, R1, R2, R3, R4, R5, R6, R7, R8, AV.flat, fillIn_nil, fillIn_cons, splice, AV.cells, AV.one, eqsOf, idx, SO.calls, List.reduceReplicate, Nat.reduceBEq, Nat.reduceLT, Nat.reduceAdd, Nat.reduceMul, Nat.reduceSub, Nat.reduceLeDiff, Nat.reduceEqDiff, ↓reduceIte, Int.reduceLT, Int.reduceEq, Int.reduceBNe, Int.reduceBEq, aeq, Int.reduceLE, Int.reduceNeg, Int.reduceMul, Int.reduceAdd, Int.reduceSub, Int.reduceToNat, Int.reducePow, l1, l2, ne_self]
  refine ends_loop (fun k t H' => t.length = 26 ∧ H = H' ∧ (t.getD 0 .undef = v ∧ t.getD 1 .undef = w) ∧ ∃ i : Nat, i ≤ l.length ∧ k = l.length - i ∧ t.getD 5 .undef = .int .i64 (i : Int)) l.length ?_ ?_
  · simp only [R1, R2, R3, R4, R5, R6, R7, R8, AV.flat, fillIn_nil, fillIn_cons, splice, AV.cells, AV.one, eqsOf, idx, SO.calls, List.reduceReplicate, Nat.reduceBEq, Nat.reduceLT, Nat.reduceAdd, Nat.reduceMul, Nat.reduceSub, Nat.reduceLeDiff, Nat.reduceEqDiff, ↓reduceIte, Int.reduceLT, Int.reduceEq, Int.reduceBNe, Int.reduceBEq, aeq, Int.reduceLE, Int.reduceNeg, Int.reduceMul, Int.reduceAdd, Int.reduceSub, Int.reduceToNat, Int.reducePow]
    exact ⟨0, by omega, by omega, rfl⟩
  · rintro k t _ ⟨g1, rfl, ⟨g2, g3⟩, i, hi, rfl, g4⟩
    rw [← tm_nil t]
    by_cases hc : i < l.length
    · have a1 : ((i : Int) < (l.length : Int)) = True := eq_true (by omega)
      have w1 : IntKind.i64.wrap ((i : Int) + 1) = ((i + 1 : Nat) : Int) := by rw [wrap_i64 (by omega) (by omega)]; rfl
      have E := h1.elem0 hc
      have F := h2.elem0 hc
      generalize l[i] = q at *
      obtain ⟨x, y, z⟩ := q
      simp only [Pc.cs] at E F
      simp only [R1, R2, R3, R4, R5, R6, R7, R8, AV.flat, fillIn_nil, fillIn_cons, splice, AV.cells, AV.one, eqsOf, idx, SO.calls, List.reduceReplicate, Nat.reduceBEq, Nat.reduceLT, Nat.reduceAdd, Nat.reduceMul, Nat.reduceSub, Nat.reduceLeDiff, Nat.reduceEqDiff, ↓reduceIte, Int.reduceLT, Int.reduceEq, Int.reduceBNe, Int.reduceBEq, aeq, Int.reduceLE, Int.reduceNeg, Int.reduceMul, Int.reduceAdd, Int.reduceSub, Int.reduceToNat, Int.reducePow, g1, g2, g3, g4, l1, a1, w1, E, F, aeqs]
      exact ⟨_, by omega, i + 1, by omega, rfl, rfl⟩
    · have a1 : ((i : Int) < (l.length : Int)) = False := eq_false (by omega)
      simp only [R1, R2, R3, R4, R5, R6, R7, R8, AV.flat, fillIn_nil, fillIn_cons, splice, AV.cells, AV.one, eqsOf, idx, SO.calls, List.reduceReplicate, Nat.reduceBEq, Nat.reduceLT, Nat.reduceAdd, Nat.reduceMul, Nat.reduceSub, Nat.reduceLeDiff, Nat.reduceEqDiff, ↓reduceIte, Int.reduceLT, Int.reduceEq, Int.reduceBNe, Int.reduceBEq, aeq, Int.reduceLE, Int.reduceNeg, Int.reduceMul, Int.reduceAdd, Int.reduceSub, Int.reduceToNat, Int.reducePow, g1, g2, g3, g4, l1, a1]
      try rw [tidy_bool]
/-- Is it the pair of these two? -/
def isK (a b : Int) (k : Kn) : Bool := decide (k.l = a) && decide (k.r = b)
/-- What is told of two glyphs. -/
def byP (l : List Kn) (a b : Int) : Int := ((l.find? (isK a b)).map Kn.b).getD 0
theorem find_drop {l : List Kn} {a b : Int} {i : Nat} (hi : i < l.length) (h : ∀ k ∈ l.take i, isK a b k = false) : l.find? (isK a b) = (l.drop i).find? (isK a b) := by
  conv => lhs; rw [← List.take_append_drop i l]
  rw [List.find?_append, List.find?_eq_none.2 fun k hk => by rw [h k hk]; simp]
  rfl
theorem c16 {H : Heap} {v : AV} {l : List Kn} (hs : SlOf H 3 Kn.cs v l) (hn : l.length ≤ 9223372036854775807) (a b : Int) : call env 16 [v, .int .i64 a, .int .i64 b] H = some (.int .i64 (byP l a b), H) := by
  have l1 := hs.lenOf
  refine call_ends (fn := s16) rfl rfl (by simp [s16]) ?_
  simp only [s16, R1, R2, R3, R4, R5, R6, R7, R8, AV.flat, fillIn_nil, fillIn_cons, splice, AV.cells, AV.one, eqsOf, idx, SO.calls, List.reduceReplicate, Nat.reduceBEq, Nat.reduceLT, Nat.reduceAdd, Nat.reduceMul, Nat.reduceSub, Nat.reduceLeDiff, Nat.reduceEqDiff, ↓reduceIte, Int.reduceLT, Int.reduceEq, Int.reduceBNe, Int.reduceBEq, aeq, Int.reduceLE, Int.reduceNeg, Int.reduceMul, Int.reduceAdd, Int.reduceSub, Int.reduceToNat, Int.reducePow]
  refine ends_loop (fun k t H' => t.length = 35 ∧ H = H' ∧ (t.getD 0 .undef = v ∧ t.getD 1 .undef = .int .i64 a ∧ t.getD 2 .undef = .int .i64 b) ∧ ∃ i : Nat, i ≤ l.length ∧ k = l.length - i ∧ t.getD 7 .undef = .int .i64 (i : Int) ∧ ∀ k ∈ l.take i, isK a b k = false) l.length ?_ ?_
  · simp only [R1, R2, R3, R4, R5, R6, R7, R8, AV.flat, fillIn_nil, fillIn_cons, splice, AV.cells, AV.one, eqsOf, idx, SO.calls, List.reduceReplicate, Nat.reduceBEq, Nat.reduceLT, Nat.reduceAdd, Nat.reduceMul, Nat.reduceSub, Nat.reduceLeDiff, Nat.reduceEqDiff, ↓reduceIte, Int.reduceLT, Int.reduceEq, Int.reduceBNe, Int.reduceBEq, aeq, Int.reduceLE, Int.reduceNeg, Int.reduceMul, Int.reduceAdd, Int.reduceSub, Int.reduceToNat, Int.reducePow]
    exact ⟨0, by omega, by omega, rfl, by simp⟩
  · rintro k t _ ⟨g1, rfl, ⟨g2, g3, g4⟩, i, hi, rfl, g5, g6⟩
    rw [← tm_nil t]
    by_cases hc : i < l.length
    · have a1 : ((i : Int) < (l.length : Int)) = True := eq_true (by omega)
      have w1 : IntKind.i64.wrap ((i : Int) + 1) = ((i + 1 : Nat) : Int) := by rw [wrap_i64 (by omega) (by omega)]; rfl
      have E := hs.elem0 hc
      have hf := find_drop hc g6
      rw [List.drop_eq_getElem_cons hc] at hf
      have hn' : isK a b l[i] = false → ∀ k ∈ l.take (i + 1), isK a b k = false := fun h k hk => by
        rw [List.take_succ_eq_append_getElem hc] at hk
        rcases List.mem_append.1 hk with hk | hk
        · exact g6 k hk
        · simp only [List.mem_singleton] at hk; subst hk; exact h
      generalize l[i] = q at *
      obtain ⟨x, y, z⟩ := q
      simp only [Kn.cs] at E
      by_cases h1 : x = a
      · have c1 : (x == a) = true := by rw [beq_iff_eq]; exact h1
        by_cases h2 : y = b
        · have c2 : (y == b) = true := by rw [beq_iff_eq]; exact h2
          have hb : byP l a b = z := by unfold byP; rw [hf, List.find?_cons_of_pos (by simp [isK, h1, h2])]; rfl
          rw [hb]
          simp only [R1, R2, R3, R4, R5, R6, R7, R8, AV.flat, fillIn_nil, fillIn_cons, splice, AV.cells, AV.one, eqsOf, idx, SO.calls, List.reduceReplicate, Nat.reduceBEq, Nat.reduceLT, Nat.reduceAdd, Nat.reduceMul, Nat.reduceSub, Nat.reduceLeDiff, Nat.reduceEqDiff, ↓reduceIte, Int.reduceLT, Int.reduceEq, Int.reduceBNe, Int.reduceBEq, aeq, Int.reduceLE, Int.reduceNeg, Int.reduceMul, Int.reduceAdd, Int.reduceSub, Int.reduceToNat, Int.reducePow, g1, g2, g3, g4, g5, l1, a1, E, c1, c2]
          try rw [tidy_int]
        · have c2 : (y == b) = false := by rw [beq_eq_false_iff_ne]; exact h2
          simp only [R1, R2, R3, R4, R5, R6, R7, R8, AV.flat, fillIn_nil, fillIn_cons, splice, AV.cells, AV.one, eqsOf, idx, SO.calls, List.reduceReplicate, Nat.reduceBEq, Nat.reduceLT, Nat.reduceAdd, Nat.reduceMul, Nat.reduceSub, Nat.reduceLeDiff, Nat.reduceEqDiff, ↓reduceIte, Int.reduceLT, Int.reduceEq, Int.reduceBNe, Int.reduceBEq, aeq, Int.reduceLE, Int.reduceNeg, Int.reduceMul, Int.reduceAdd, Int.reduceSub, Int.reduceToNat, Int.reducePow, g1, g2, g3, g4, g5, l1, a1, w1, E, c1, c2]
          exact ⟨_, by omega, i + 1, by omega, rfl, rfl, hn' (by simp [isK, h2])⟩
      · have c1 : (x == a) = false := by rw [beq_eq_false_iff_ne]; exact h1
        simp only [R1, R2, R3, R4, R5, R6, R7, R8, AV.flat, fillIn_nil, fillIn_cons, splice, AV.cells, AV.one, eqsOf, idx, SO.calls, List.reduceReplicate, Nat.reduceBEq, Nat.reduceLT, Nat.reduceAdd, Nat.reduceMul, Nat.reduceSub, Nat.reduceLeDiff, Nat.reduceEqDiff, ↓reduceIte, Int.reduceLT, Int.reduceEq, Int.reduceBNe, Int.reduceBEq, aeq, Int.reduceLE, Int.reduceNeg, Int.reduceMul, Int.reduceAdd, Int.reduceSub, Int.reduceToNat, Int.reducePow, g1, g2, g3, g4, g5, l1, a1, w1, E, c1]
        exact ⟨_, by omega, i + 1, by omega, rfl, rfl, hn' (by simp [isK, h1])⟩
    · have a1 : ((i : Int) < (l.length : Int)) = False := eq_false (by omega)
      obtain rfl : i = l.length := by omega
      rw [List.take_length] at g6
      have hb : byP l a b = 0 := by unfold byP; rw [List.find?_eq_none.2 fun k hk => by rw [g6 k hk]; simp]; rfl
      rw [hb]
      simp only [R1, R2, R3, R4, R5, R6, R7, R8, AV.flat, fillIn_nil, fillIn_cons, splice, AV.cells, AV.one, eqsOf, idx, SO.calls, List.reduceReplicate, Nat.reduceBEq, Nat.reduceLT, Nat.reduceAdd, Nat.reduceMul, Nat.reduceSub, Nat.reduceLeDiff, Nat.reduceEqDiff, ↓reduceIte, Int.reduceLT, Int.reduceEq, Int.reduceBNe, Int.reduceBEq, aeq, Int.reduceLE, Int.reduceNeg, Int.reduceMul, Int.reduceAdd, Int.reduceSub, Int.reduceToNat, Int.reducePow, g1, g2, g3, g4, g5, l1, a1]
      try rw [tidy_int]
end Go.Proofs.Ytppkggodpihfiaa
