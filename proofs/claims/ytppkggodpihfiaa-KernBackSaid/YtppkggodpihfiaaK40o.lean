/- Chapter 40: kern.By. -/
import Derived.Test.YtppkggodpihfiaaK40m
set_option linter.unusedVariables false
set_option linter.unusedSimpArgs false
set_option maxRecDepth 100000
set_option maxHeartbeats 4000000
namespace Go.Proofs.Ytppkggodpihfiaa
open Go Go.Den
theorem c43 {H : Heap} {oa ob : Nat} {a b : Int} {w1 w2 : Bool} (ha : H[oa]? = some (.cells [.int .i64 a] 3 w1)) (hb : H[ob]? = some (.cells [.int .i64 b] 3 w2)) (k : Kn) :
    call env 43 [.agg k.cs, .ptr oa 0, .ptr ob 0] H = some (.bool (isK a b k), H) := by
  have la : ∀ X, aload (H ++ X) 1 (.ptr oa 0) = some [.int .i64 a] := fun X => by
    rw [aload_row (getElem?_keep ha)]; rfl
  have lb : ∀ X, aload (H ++ X) 1 (.ptr ob 0) = some [.int .i64 b] := fun X => by
    rw [aload_row (getElem?_keep hb)]; rfl
  obtain ⟨x, y, z⟩ := k
  simp only [Kn.cs]
  refine call_ends (fn := s43) rfl rfl (by simp [s43]) ?_
  by_cases h1 : x = a
  · have c1 : (x == a) = true := by rw [beq_iff_eq]; exact h1
    by_cases h2 : y = b
    · have c2 : (y == b) = true := by rw [beq_iff_eq]; exact h2
      rw [show isK a b ⟨x, y, z⟩ = true by simp [isK, h1, h2]]
      simp only [s43, R1, R2, R3, R4, R5, R6, R7, R8, AV.flat, fillIn_nil, fillIn_cons, splice, AV.cells, AV.one, eqsOf, idx, SO.calls, List.reduceReplicate, Nat.reduceBEq, Nat.reduceLT, Nat.reduceAdd, Nat.reduceMul, Nat.reduceSub, Nat.reduceLeDiff, Nat.reduceEqDiff, ↓reduceIte, Int.reduceLT, Int.reduceEq, Int.reduceBNe, Int.reduceBEq, aeq, Int.reduceLE, Int.reduceNeg, Int.reduceMul, Int.reduceAdd, Int.reduceSub, Int.reduceToNat, Int.reducePow, la, lb, c1, c2]
      try rw [tidy_bool']
    · have c2 : (y == b) = false := by rw [beq_eq_false_iff_ne]; exact h2
      rw [show isK a b ⟨x, y, z⟩ = false by simp [isK, h2]]
      simp only [s43, R1, R2, R3, R4, R5, R6, R7, R8, AV.flat, fillIn_nil, fillIn_cons, splice, AV.cells, AV.one, eqsOf, idx, SO.calls, List.reduceReplicate, Nat.reduceBEq, Nat.reduceLT, Nat.reduceAdd, Nat.reduceMul, Nat.reduceSub, Nat.reduceLeDiff, Nat.reduceEqDiff, ↓reduceIte, Int.reduceLT, Int.reduceEq, Int.reduceBNe, Int.reduceBEq, aeq, Int.reduceLE, Int.reduceNeg, Int.reduceMul, Int.reduceAdd, Int.reduceSub, Int.reduceToNat, Int.reducePow, la, lb, c1, c2]
      try rw [tidy_bool']
  · have c1 : (x == a) = false := by rw [beq_eq_false_iff_ne]; exact h1
    rw [show isK a b ⟨x, y, z⟩ = false by simp [isK, h1]]
    simp only [s43, R1, R2, R3, R4, R5, R6, R7, R8, AV.flat, fillIn_nil, fillIn_cons, splice, AV.cells, AV.one, eqsOf, idx, SO.calls, List.reduceReplicate, Nat.reduceBEq, Nat.reduceLT, Nat.reduceAdd, Nat.reduceMul, Nat.reduceSub, Nat.reduceLeDiff, Nat.reduceEqDiff, ↓reduceIte, Int.reduceLT, Int.reduceEq, Int.reduceBNe, Int.reduceBEq, aeq, Int.reduceLE, Int.reduceNeg, Int.reduceMul, Int.reduceAdd, Int.reduceSub, Int.reduceToNat, Int.reducePow, la, lb, c1]
    try rw [tidy_bool']
theorem more_one' {α : Type} {P : α → Prop} {l : List α} {i : Nat} (hi : i < l.length) (h : ∀ k ∈ l.take i, P k) (h1 : P l[i]) : ∀ k ∈ l.take (i + 1), P k := by
  intro k hk
  rw [List.take_succ_eq_append_getElem hi] at hk
  rcases List.mem_append.1 hk with hk | hk
  · exact h k hk
  · simp only [List.mem_singleton] at hk; subst hk; exact h1
theorem indexK {H : Heap} {v : AV} {l : List Kn} (hs : SlOf H 3 Kn.cs v l) (hn : l.length ≤ 9223372036854775807) {oa ob : Nat} {a b : Int} {w1 w2 : Bool} (ha : H[oa]? = some (.cells [.int .i64 a] 3 w1)) (hb : H[ob]? = some (.cells [.int .i64 b] 3 w2)) :
    ∃ r, call env 42 [v, .fn 43 [.ptr oa 0, .ptr ob 0]] H = some r ∧ ∃ i : Int, r = (.int .i64 i, H) ∧ ((i = -1 ∧ byP l a b = 0) ∨ ∃ (j : Nat) (h : j < l.length), i = (j : Int) ∧ byP l a b = l[j].b) := by
  have l1 := hs.lenOf
  refine call_endsE (fn := s42) rfl rfl (by simp [s42]) fun W hW => ?_
  simp only [s42, R1, R2, R3, R4, R5, R6, R7, R8, AV.flat, fillIn_nil, fillIn_cons, splice, AV.cells, AV.one, eqsOf, idx, SO.calls, List.reduceReplicate, Nat.reduceBEq, Nat.reduceLT, Nat.reduceAdd, Nat.reduceMul, Nat.reduceSub, Nat.reduceLeDiff, Nat.reduceEqDiff, ↓reduceIte, Int.reduceLT, Int.reduceEq, Int.reduceBNe, Int.reduceBEq, aeq, Int.reduceLE, Int.reduceNeg, Int.reduceMul, Int.reduceAdd, Int.reduceSub, Int.reduceToNat, Int.reducePow, l1]
  refine ends_loop (fun k t H' => t.length = 19 ∧ H = H' ∧ (t.getD 0 .undef = v ∧ t.getD 1 .undef = .fn 43 [.ptr oa 0, .ptr ob 0] ∧ t.getD 7 .undef = .int .i64 (l.length : Int)) ∧ ∃ i : Nat, i ≤ l.length ∧ k = l.length - i ∧ t.getD 8 .undef = .int .i64 (i : Int) ∧ ∀ k ∈ l.take i, isK a b k = false) l.length ?_ ?_
  · simp only [R1, R2, R3, R4, R5, R6, R7, R8, AV.flat, fillIn_nil, fillIn_cons, splice, AV.cells, AV.one, eqsOf, idx, SO.calls, List.reduceReplicate, Nat.reduceBEq, Nat.reduceLT, Nat.reduceAdd, Nat.reduceMul, Nat.reduceSub, Nat.reduceLeDiff, Nat.reduceEqDiff, ↓reduceIte, Int.reduceLT, Int.reduceEq, Int.reduceBNe, Int.reduceBEq, aeq, Int.reduceLE, Int.reduceNeg, Int.reduceMul, Int.reduceAdd, Int.reduceSub, Int.reduceToNat, Int.reducePow]
    exact ⟨0, by omega, by omega, rfl, by simp⟩
  · rintro k t _ ⟨g1, rfl, ⟨g2, g3, g4⟩, i, hi, rfl, g5, g6⟩
    rw [← tm_nil t]
    by_cases hc : i < l.length
    · have a1 : ((i : Int) < (l.length : Int)) = True := eq_true (by omega)
      have w1 : IntKind.i64.wrap ((i : Int) + 1) = ((i + 1 : Nat) : Int) := by rw [wrap_i64 (by omega) (by omega)]; rfl
      have E := hs.elem0 hc
      have e1 := c43 ha hb l[i]
      have hf := find_drop hc g6
      rw [List.drop_eq_getElem_cons hc] at hf
      by_cases hk : isK a b l[i] = true
      · rw [List.find?_cons_of_pos hk] at hf
        have hb' : byP l a b = l[i].b := by unfold byP; rw [hf]; rfl
        have hW1 := hW (.int .i64 (i : Int), H) ⟨i, rfl, .inr ⟨i, hc, rfl, hb'⟩⟩
        rw [hk] at e1
        generalize l[i] = q at *
        obtain ⟨x, y, z⟩ := q
        simp only [Kn.cs] at E e1
        simp only [R1, R2, R3, R4, R5, R6, R7, R8, AV.flat, fillIn_nil, fillIn_cons, splice, AV.cells, AV.one, eqsOf, idx, SO.calls, List.reduceReplicate, Nat.reduceBEq, Nat.reduceLT, Nat.reduceAdd, Nat.reduceMul, Nat.reduceSub, Nat.reduceLeDiff, Nat.reduceEqDiff, ↓reduceIte, Int.reduceLT, Int.reduceEq, Int.reduceBNe, Int.reduceBEq, aeq, Int.reduceLE, Int.reduceNeg, Int.reduceMul, Int.reduceAdd, Int.reduceSub, Int.reduceToNat, Int.reducePow, g1, g2, g3, g4, g5, a1, E, e1, sop_fcallv, List.map_cons, List.map_nil, leftE_ret, got_some]
        first | exact hW1 | (rw [tidy_int]; exact hW1)
      · have hk := Bool.eq_false_iff.2 hk
        have hm := more_one' hc g6 hk
        rw [hk] at e1
        generalize l[i] = q at *
        obtain ⟨x, y, z⟩ := q
        simp only [Kn.cs] at E e1
        simp only [R1, R2, R3, R4, R5, R6, R7, R8, AV.flat, fillIn_nil, fillIn_cons, splice, AV.cells, AV.one, eqsOf, idx, SO.calls, List.reduceReplicate, Nat.reduceBEq, Nat.reduceLT, Nat.reduceAdd, Nat.reduceMul, Nat.reduceSub, Nat.reduceLeDiff, Nat.reduceEqDiff, ↓reduceIte, Int.reduceLT, Int.reduceEq, Int.reduceBNe, Int.reduceBEq, aeq, Int.reduceLE, Int.reduceNeg, Int.reduceMul, Int.reduceAdd, Int.reduceSub, Int.reduceToNat, Int.reducePow, g1, g2, g3, g4, g5, a1, w1, E, e1, sop_fcallv, List.map_cons, List.map_nil]
        exact ⟨_, by omega, i + 1, by omega, rfl, rfl, hm⟩
    · have a1 : ((i : Int) < (l.length : Int)) = False := eq_false (by omega)
      obtain rfl : i = l.length := by omega
      rw [List.take_length] at g6
      have hb' : byP l a b = 0 := by unfold byP; rw [List.find?_eq_none.2 fun k hk => by rw [g6 k hk]; simp]; rfl
      have hW1 := hW (.int .i64 (-1), H) ⟨-1, rfl, .inl ⟨rfl, hb'⟩⟩
      simp only [R1, R2, R3, R4, R5, R6, R7, R8, AV.flat, fillIn_nil, fillIn_cons, splice, AV.cells, AV.one, eqsOf, idx, SO.calls, List.reduceReplicate, Nat.reduceBEq, Nat.reduceLT, Nat.reduceAdd, Nat.reduceMul, Nat.reduceSub, Nat.reduceLeDiff, Nat.reduceEqDiff, ↓reduceIte, Int.reduceLT, Int.reduceEq, Int.reduceBNe, Int.reduceBEq, aeq, Int.reduceLE, Int.reduceNeg, Int.reduceMul, Int.reduceAdd, Int.reduceSub, Int.reduceToNat, Int.reducePow, g1, g2, g3, g4, g5, a1, leftE_ret, got_some]
      first | exact hW1 | (rw [tidy_int]; exact hW1)
theorem c15 {H : Heap} {v : AV} {l : List Kn} (hs : SlOf H 3 Kn.cs v l) (hn : l.length ≤ 9223372036854775807) (a b : Int) : call env 15 [v, .int .i64 a, .int .i64 b] H = some (.int .i64 (byP l a b), H) := by
  obtain ⟨r, e1, i, rfl, hi⟩ := indexK (hs.app [.cells [.int .i64 a] 3 true, .cells [.int .i64 b] 3 true]) hn (oa := H.length) (ob := H.length + 1) (a := a) (b := b) (w1 := true) (w2 := true)
    (by rw [List.getElem?_append_right (Nat.le_refl _), Nat.sub_self]; rfl) (by rw [List.getElem?_append_right (by omega)]; simp)
  refine call_ends (fn := s15) rfl rfl (by simp [s15]) ?_
  rcases hi with ⟨rfl, hb⟩ | ⟨j, hj, rfl, hb⟩
  · rw [hb]
    simp only [s15, R1, R2, R3, R4, R5, R6, R7, R8, AV.flat, fillIn_nil, fillIn_cons, splice, AV.cells, AV.one, eqsOf, idx, SO.calls, List.reduceReplicate, Nat.reduceBEq, Nat.reduceLT, Nat.reduceAdd, Nat.reduceMul, Nat.reduceSub, Nat.reduceLeDiff, Nat.reduceEqDiff, ↓reduceIte, Int.reduceLT, Int.reduceEq, Int.reduceBNe, Int.reduceBEq, aeq, Int.reduceLE, Int.reduceNeg, Int.reduceMul, Int.reduceAdd, Int.reduceSub, Int.reduceToNat, Int.reducePow, e1]
    try rw [tidy_int']
  · rw [hb]
    have c1 : ((j : Int) < 0) = False := eq_false (by omega)
    have E := hs.elem hj
    generalize l[j] = q at *
    obtain ⟨x, y, z⟩ := q
    simp only [Kn.cs] at E
    simp only [s15, R1, R2, R3, R4, R5, R6, R7, R8, AV.flat, fillIn_nil, fillIn_cons, splice, AV.cells, AV.one, eqsOf, idx, SO.calls, List.reduceReplicate, Nat.reduceBEq, Nat.reduceLT, Nat.reduceAdd, Nat.reduceMul, Nat.reduceSub, Nat.reduceLeDiff, Nat.reduceEqDiff, ↓reduceIte, Int.reduceLT, Int.reduceEq, Int.reduceBNe, Int.reduceBEq, aeq, Int.reduceLE, Int.reduceNeg, Int.reduceMul, Int.reduceAdd, Int.reduceSub, Int.reduceToNat, Int.reducePow, e1, c1, E]
    try rw [tidy_int']
end Go.Proofs.Ytppkggodpihfiaa
