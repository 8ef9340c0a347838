/- Edges that may be. -/
import Derived.Test.YtkcbjeenoafbkaaC16b
set_option linter.unusedVariables false
set_option linter.unusedSimpArgs false
set_option maxRecDepth 100000
set_option maxHeartbeats 1000000
namespace Go.Proofs.Ytkcbjeenoafbkaa
open Go Go.Den
theorem c44 {H : Heap} {v : AV} {l : List Pt} (hs : SlOf H 2 Pt.cs v l) (hn : l.length ≤ 1000000) : call env 44 [v] H = some (.bool (l.all fine), H) := by
  have e1 := hs.lenOf
  refine call_ends (fn := s44) rfl rfl (by simp [s44]) ?_
  simp only [s44, R1, R2, R3, R4, R5, R6, R7, R8, AV.flat, fillIn_nil, fillIn_cons, splice, AV.cells, AV.one, eqsOf, idx, SO.calls, List.reduceReplicate, Nat.reduceBEq, Nat.reduceLT, Nat.reduceAdd, Nat.reduceMul, Nat.reduceSub, Nat.reduceLeDiff, Nat.reduceEqDiff, ↓reduceIte, Int.reduceLT, Int.reduceEq, Int.reduceBNe, Int.reduceBEq, aeq, Int.reduceLE, Int.reduceNeg, Int.reduceMul, Int.reduceAdd, Int.reduceSub, Int.reduceToNat, Int.reducePow, e1]
  refine ends_loop (fun k t H' => t.length = 30 ∧ (∃ X, H' = H ++ X) ∧ t.getD 5 .undef = v ∧ t.getD 6 .undef = .int .i64 (l.length : Int) ∧ ∃ i : Nat, i ≤ l.length ∧ k = l.length - i ∧ t.getD 7 .undef = .int .i64 (i : Int) ∧ (l.take i).all fine = true) l.length ?_ ?_
  · simp only [R1, R2, R3, R4, R5, R6, R7, R8, AV.flat, fillIn_nil, fillIn_cons, splice, AV.cells, AV.one, eqsOf, idx, SO.calls, List.reduceReplicate, Nat.reduceBEq, Nat.reduceLT, Nat.reduceAdd, Nat.reduceMul, Nat.reduceSub, Nat.reduceLeDiff, Nat.reduceEqDiff, ↓reduceIte, Int.reduceLT, Int.reduceEq, Int.reduceBNe, Int.reduceBEq, aeq, Int.reduceLE, Int.reduceNeg, Int.reduceMul, Int.reduceAdd, Int.reduceSub, Int.reduceToNat, Int.reducePow]
    exact ⟨⟨[], by simp⟩, 0, by omega, by omega, rfl, rfl⟩
  · rintro k t _ ⟨g1, ⟨X, rfl⟩, g2, g3, i, hi, rfl, g4, g5⟩
    rw [← tm_nil t]
    by_cases hc : i < l.length
    · have a1 : ((i : Int) < (l.length : Int)) = True := eq_true (by omega)
      have w2 : IntKind.i64.wrap ((i : Int) + 1) = ((i + 1 : Nat) : Int) := by rw [wrap_i64 (by omega) (by omega)]; rfl
      have Ei := hs.elem hc
      have h1 : (l.take (i + 1)).all fine = fine l[i] := by
        rw [List.take_succ_eq_append_getElem hc, List.all_append, g5]; simp
      have h2 : fine l[i] = false → l.all fine = false := fun h => by
        refine Bool.eq_false_iff.2 fun ha => ?_
        rw [List.all_eq_true] at ha
        rw [ha _ (List.getElem_mem hc)] at h
        cases h
      generalize l[i] = p at *
      obtain ⟨px, py⟩ := p
      by_cases hf : fine ⟨px, py⟩ = true
      · have hf' : Fine ⟨px, py⟩ := by simpa [fine] using hf
        simp only [Fine] at hf'
        have b1 : (px < -33554432) = False := eq_false (by omega)
        have b2 : (px > 33554432) = False := eq_false (by omega)
        have b3 : (py < -33554432) = False := eq_false (by omega)
        have b4 : (py > 33554432) = False := eq_false (by omega)
        simp only [Pt.cs] at Ei
        simp only [R1, R2, R3, R4, R5, R6, R7, R8, AV.flat, fillIn_nil, fillIn_cons, splice, AV.cells, AV.one, eqsOf, idx, SO.calls, List.reduceReplicate, Nat.reduceBEq, Nat.reduceLT, Nat.reduceAdd, Nat.reduceMul, Nat.reduceSub, Nat.reduceLeDiff, Nat.reduceEqDiff, ↓reduceIte, Int.reduceLT, Int.reduceEq, Int.reduceBNe, Int.reduceBEq, aeq, Int.reduceLE, Int.reduceNeg, Int.reduceMul, Int.reduceAdd, Int.reduceSub, Int.reduceToNat, Int.reducePow, g1, g2, g3, g4, a1, w2, Ei, b1, b2, b3, b4]
        exact ⟨_, by omega, ⟨_, rfl⟩, i + 1, by omega, rfl, rfl, by rw [h1]; exact hf⟩
      · have hf0 : fine ⟨px, py⟩ = false := by simpa using hf
        have hf' : ¬ Fine ⟨px, py⟩ := by simpa [fine] using hf
        simp only [Fine] at hf'
        rw [h2 hf0]
        simp only [Pt.cs] at Ei
        have hh : True := trivial
        have hk : True := trivial
        have hj : True := trivial
        repeat' (first
          | simp only [R1, R2, R3, R4, R5, R6, R7, R8, AV.flat, fillIn_nil, fillIn_cons, splice, AV.cells, AV.one, eqsOf, idx, SO.calls, List.reduceReplicate, Nat.reduceBEq, Nat.reduceLT, Nat.reduceAdd, Nat.reduceMul, Nat.reduceSub, Nat.reduceLeDiff, Nat.reduceEqDiff, ↓reduceIte, Int.reduceLT, Int.reduceEq, Int.reduceBNe, Int.reduceBEq, aeq, Int.reduceLE, Int.reduceNeg, Int.reduceMul, Int.reduceAdd, Int.reduceSub, Int.reduceToNat, Int.reducePow, hh, hk, hj, g1, g2, g3, g4, a1, w2, Ei, tidy_bool']
          | simp (disch := omega) only [wrap_i64]
          | (simp only [gets_guard, gets_guardd, endsIf_any]; split <;> rename_i hk <;> (try simp only [Bool.not_eq_true] at hk) <;> (have hh := hk) <;> (have hj := hk) <;> (try simp only [Bool.not_eq_true', Bool.not_eq_false'] at hj) <;> (try simp only [decide_eq_true_eq, Bool.not_eq_true, decide_eq_false_iff_not, Bool.not_eq_true', Bool.not_eq_false', Bool.and_eq_true, Bool.or_eq_true, beq_iff_eq, bne_iff_ne, ne_eq] at hh)))
        all_goals omega
    · have a1 : ((i : Int) < (l.length : Int)) = False := eq_false (by omega)
      have : i = l.length := by omega
      subst this
      rw [List.take_length] at g5
      rw [g5]
      simp only [R1, R2, R3, R4, R5, R6, R7, R8, AV.flat, fillIn_nil, fillIn_cons, splice, AV.cells, AV.one, eqsOf, idx, SO.calls, List.reduceReplicate, Nat.reduceBEq, Nat.reduceLT, Nat.reduceAdd, Nat.reduceMul, Nat.reduceSub, Nat.reduceLeDiff, Nat.reduceEqDiff, ↓reduceIte, Int.reduceLT, Int.reduceEq, Int.reduceBNe, Int.reduceBEq, aeq, Int.reduceLE, Int.reduceNeg, Int.reduceMul, Int.reduceAdd, Int.reduceSub, Int.reduceToNat, Int.reducePow, g1, g2, g3, g4, a1, tidy_bool']
theorem c45 (n : Int) (q : Bool) (ax ay bx by' cx cy : Int) (H : Heap) :
    call env 45 [.agg [.int .i64 n, .bool q, .int .i64 ax, .int .i64 ay, .int .i64 bx, .int .i64 by', .int .i64 cx, .int .i64 cy]] H = some (.bool (decide (Same ⟨n, q, ⟨ax, ay⟩, ⟨bx, by'⟩, ⟨cx, cy⟩⟩)), H) := by
  cases q
  · refine call_ends (fn := s45) rfl rfl (by simp [s45]) ?_
    have hh : True := trivial
    have hk : True := trivial
    have hj : True := trivial
    simp only [s45]
    repeat' (first
      | simp only [R1, R2, R3, R4, R5, R6, R7, R8, AV.flat, fillIn_nil, fillIn_cons, splice, AV.cells, AV.one, eqsOf, idx, SO.calls, List.reduceReplicate, Nat.reduceBEq, Nat.reduceLT, Nat.reduceAdd, Nat.reduceMul, Nat.reduceSub, Nat.reduceLeDiff, Nat.reduceEqDiff, ↓reduceIte, Int.reduceLT, Int.reduceEq, Int.reduceBNe, Int.reduceBEq, aeq, Int.reduceLE, Int.reduceNeg, Int.reduceMul, Int.reduceAdd, Int.reduceSub, Int.reduceToNat, Int.reducePow, hh, hk, hj, tidy_bool', aeqs]
      | simp (disch := omega) only [wrap_i64]
      | (simp only [gets_guard, gets_guardd, endsIf_any]; split <;> rename_i hk <;> (try simp only [Bool.not_eq_true] at hk) <;> (have hh := hk) <;> (have hj := hk) <;> (try simp only [Bool.not_eq_true', Bool.not_eq_false'] at hj) <;> (try simp only [decide_eq_true_eq, Bool.not_eq_true, decide_eq_false_iff_not, Bool.not_eq_true', Bool.not_eq_false', Bool.and_eq_true, Bool.or_eq_true, beq_iff_eq, bne_iff_ne, ne_eq] at hh)))
    all_goals grind [Same]
  · refine call_ends (fn := s45) rfl rfl (by simp [s45]) ?_
    have hh : True := trivial
    have hk : True := trivial
    have hj : True := trivial
    simp only [s45]
    repeat' (first
      | simp only [R1, R2, R3, R4, R5, R6, R7, R8, AV.flat, fillIn_nil, fillIn_cons, splice, AV.cells, AV.one, eqsOf, idx, SO.calls, List.reduceReplicate, Nat.reduceBEq, Nat.reduceLT, Nat.reduceAdd, Nat.reduceMul, Nat.reduceSub, Nat.reduceLeDiff, Nat.reduceEqDiff, ↓reduceIte, Int.reduceLT, Int.reduceEq, Int.reduceBNe, Int.reduceBEq, aeq, Int.reduceLE, Int.reduceNeg, Int.reduceMul, Int.reduceAdd, Int.reduceSub, Int.reduceToNat, Int.reducePow, hh, hk, hj, tidy_bool', aeqs]
      | simp (disch := omega) only [wrap_i64]
      | (simp only [gets_guard, gets_guardd, endsIf_any]; split <;> rename_i hk <;> (try simp only [Bool.not_eq_true] at hk) <;> (have hh := hk) <;> (have hj := hk) <;> (try simp only [Bool.not_eq_true', Bool.not_eq_false'] at hj) <;> (try simp only [decide_eq_true_eq, Bool.not_eq_true, decide_eq_false_iff_not, Bool.not_eq_true', Bool.not_eq_false', Bool.and_eq_true, Bool.or_eq_true, beq_iff_eq, bne_iff_ne, ne_eq] at hh)))
    all_goals grind [Same]
def mayP (l : List Edge) : Bool := decide (l.length ≤ 8192) && (closedP l && l.all one)
theorem may_not {l : List Edge} {i : Nat} (h : i < l.length) (ho : one l[i] = false) : mayP l = false := by
  have : l.all one = false := by
    refine Bool.eq_false_iff.2 fun ha => ?_
    rw [List.all_eq_true] at ha
    rw [ha _ (List.getElem_mem h)] at ho
    cases ho
  unfold mayP; rw [this]; simp
theorem one_eq (e : Edge) : one e = ((fine e.a && (fine e.b && fine e.c)) && (!decide (Same e) && (e.quad || ((e.b.x == 0) && (e.b.y == 0))))) := by
  rw [Bool.eq_iff_iff]
  have h : one e = true ↔ One e := by unfold one; exact decide_eq_true_iff
  rw [h]
  simp only [One, fine, decide_eq_true_eq, Bool.and_eq_true, Bool.or_eq_true, Bool.not_eq_true', decide_eq_false_iff_not, beq_iff_eq]
  cases e.quad <;> simp [and_assoc]
theorem c23 {H : Heap} {v : AV} {l : List Edge} (hs : SlOf H 8 Edge.cs v l) (hn : l.length ≤ 1000000) : call env 23 [v] H = some (.bool (mayP l), H) := by
  have e1 := hs.lenOf
  have e2 := c22 hs hn
  by_cases h8 : l.length > 8192
  · have a0 : ((l.length : Int) > 8192) = True := eq_true (by omega)
    have hm : mayP l = false := by unfold mayP; rw [decide_eq_false (by omega)]; rfl
    refine call_ends (fn := s23) rfl rfl (by simp [s23]) ?_
    simp only [s23, R1, R2, R3, R4, R5, R6, R7, R8, AV.flat, fillIn_nil, fillIn_cons, splice, AV.cells, AV.one, eqsOf, idx, SO.calls, List.reduceReplicate, Nat.reduceBEq, Nat.reduceLT, Nat.reduceAdd, Nat.reduceMul, Nat.reduceSub, Nat.reduceLeDiff, Nat.reduceEqDiff, ↓reduceIte, Int.reduceLT, Int.reduceEq, Int.reduceBNe, Int.reduceBEq, aeq, Int.reduceLE, Int.reduceNeg, Int.reduceMul, Int.reduceAdd, Int.reduceSub, Int.reduceToNat, Int.reducePow, e1, a0, hm, tidy_bool]
  · have a0 : ((l.length : Int) > 8192) = False := eq_false (by omega)
    refine call_ends (fn := s23) rfl rfl (by simp [s23]) ?_
    simp only [s23, R1, R2, R3, R4, R5, R6, R7, R8, AV.flat, fillIn_nil, fillIn_cons, splice, AV.cells, AV.one, eqsOf, idx, SO.calls, List.reduceReplicate, Nat.reduceBEq, Nat.reduceLT, Nat.reduceAdd, Nat.reduceMul, Nat.reduceSub, Nat.reduceLeDiff, Nat.reduceEqDiff, ↓reduceIte, Int.reduceLT, Int.reduceEq, Int.reduceBNe, Int.reduceBEq, aeq, Int.reduceLE, Int.reduceNeg, Int.reduceMul, Int.reduceAdd, Int.reduceSub, Int.reduceToNat, Int.reducePow, e1, a0]
    refine ends_loop (fun k t H' => t.length = 21 ∧ H' = H ∧ t.getD 0 .undef = v ∧ ∃ i : Nat, i ≤ l.length ∧ k = l.length - i ∧ t.getD 3 .undef = .int .i64 (i : Int) ∧ (l.take i).all one = true) l.length ?_ ?_
    · simp only [R1, R2, R3, R4, R5, R6, R7, R8, AV.flat, fillIn_nil, fillIn_cons, splice, AV.cells, AV.one, eqsOf, idx, SO.calls, List.reduceReplicate, Nat.reduceBEq, Nat.reduceLT, Nat.reduceAdd, Nat.reduceMul, Nat.reduceSub, Nat.reduceLeDiff, Nat.reduceEqDiff, ↓reduceIte, Int.reduceLT, Int.reduceEq, Int.reduceBNe, Int.reduceBEq, aeq, Int.reduceLE, Int.reduceNeg, Int.reduceMul, Int.reduceAdd, Int.reduceSub, Int.reduceToNat, Int.reducePow]
      exact ⟨0, by omega, by omega, rfl, rfl⟩
    · rintro k t H' ⟨g1, rfl, g2, i, hi, rfl, g4, g5⟩
      rw [← tm_nil t]
      by_cases hc : i < l.length
      · have a1 : ((i : Int) < (l.length : Int)) = True := eq_true (by omega)
        have w2 : IntKind.i64.wrap ((i : Int) + 1) = ((i + 1 : Nat) : Int) := by rw [wrap_i64 (by omega) (by omega)]; rfl
        have Ei := hs.elem0 hc
        have h1 : (l.take (i + 1)).all one = one l[i] := by
          rw [List.take_succ_eq_append_getElem hc, List.all_append, g5]; simp
        have e3 := fun H => c48 l[i].n l[i].quad l[i].a.x l[i].a.y l[i].b.x l[i].b.y l[i].c.x l[i].c.y H
        rcases ho : one l[i] with _ | _
        · have hno := may_not hc ho
          rw [hno]
          simp only [Edge.cs, ho] at e3 Ei
          simp only [R1, R2, R3, R4, R5, R6, R7, R8, AV.flat, fillIn_nil, fillIn_cons, splice, AV.cells, AV.one, eqsOf, idx, SO.calls, List.reduceReplicate, Nat.reduceBEq, Nat.reduceLT, Nat.reduceAdd, Nat.reduceMul, Nat.reduceSub, Nat.reduceLeDiff, Nat.reduceEqDiff, ↓reduceIte, Int.reduceLT, Int.reduceEq, Int.reduceBNe, Int.reduceBEq, aeq, Int.reduceLE, Int.reduceNeg, Int.reduceMul, Int.reduceAdd, Int.reduceSub, Int.reduceToNat, Int.reducePow, g1, g2, g4, e1, a1, w2, Ei, e3, tidy_bool]
        · simp only [Edge.cs, ho] at e3 Ei
          simp only [R1, R2, R3, R4, R5, R6, R7, R8, AV.flat, fillIn_nil, fillIn_cons, splice, AV.cells, AV.one, eqsOf, idx, SO.calls, List.reduceReplicate, Nat.reduceBEq, Nat.reduceLT, Nat.reduceAdd, Nat.reduceMul, Nat.reduceSub, Nat.reduceLeDiff, Nat.reduceEqDiff, ↓reduceIte, Int.reduceLT, Int.reduceEq, Int.reduceBNe, Int.reduceBEq, aeq, Int.reduceLE, Int.reduceNeg, Int.reduceMul, Int.reduceAdd, Int.reduceSub, Int.reduceToNat, Int.reducePow, g1, g2, g4, e1, a1, w2, Ei, e3]
          exact ⟨_, by omega, i + 1, by omega, rfl, rfl, by rw [h1]; exact ho⟩
      · have a1 : ((i : Int) < (l.length : Int)) = False := eq_false (by omega)
        have : i = l.length := by omega
        subst this
        rw [List.take_length] at g5
        have hm : mayP l = closedP l := by unfold mayP; rw [g5, decide_eq_true (by omega)]; simp
        rw [hm]
        simp only [R1, R2, R3, R4, R5, R6, R7, R8, AV.flat, fillIn_nil, fillIn_cons, splice, AV.cells, AV.one, eqsOf, idx, SO.calls, List.reduceReplicate, Nat.reduceBEq, Nat.reduceLT, Nat.reduceAdd, Nat.reduceMul, Nat.reduceSub, Nat.reduceLeDiff, Nat.reduceEqDiff, ↓reduceIte, Int.reduceLT, Int.reduceEq, Int.reduceBNe, Int.reduceBEq, aeq, Int.reduceLE, Int.reduceNeg, Int.reduceMul, Int.reduceAdd, Int.reduceSub, Int.reduceToNat, Int.reducePow, g1, g2, g4, e1, e2, a1, tidy_bool]
theorem all3 {a b c : Pt} : [a, b, c].all fine = (fine a && (fine b && fine c)) := by simp [List.all_cons]
theorem c18 {H : Heap} {v : AV} {l : List Edge} (hs : SlOf H 8 Edge.cs v l) (hn : l.length ≤ 1000000) : call env 18 [v] H = some (.bool (mayP l), H) := by
  have e1 := hs.lenOf
  have e2 := c19 hs hn
  by_cases h8 : l.length > 8192
  · have a0 : ((l.length : Int) > 8192) = True := eq_true (by omega)
    have hm : mayP l = false := by unfold mayP; rw [decide_eq_false (by omega)]; rfl
    refine call_ends (fn := s18) rfl rfl (by simp [s18]) ?_
    simp only [s18, R1, R2, R3, R4, R5, R6, R7, R8, AV.flat, fillIn_nil, fillIn_cons, splice, AV.cells, AV.one, eqsOf, idx, SO.calls, List.reduceReplicate, Nat.reduceBEq, Nat.reduceLT, Nat.reduceAdd, Nat.reduceMul, Nat.reduceSub, Nat.reduceLeDiff, Nat.reduceEqDiff, ↓reduceIte, Int.reduceLT, Int.reduceEq, Int.reduceBNe, Int.reduceBEq, aeq, Int.reduceLE, Int.reduceNeg, Int.reduceMul, Int.reduceAdd, Int.reduceSub, Int.reduceToNat, Int.reducePow, e1, a0, hm, tidy_bool]
  · have a0 : ((l.length : Int) > 8192) = False := eq_false (by omega)
    cases hcl : closedP l
    · have hm : mayP l = false := by unfold mayP; rw [hcl]; simp
      rw [hcl] at e2
      refine call_ends (fn := s18) rfl rfl (by simp [s18]) ?_
      simp only [s18, R1, R2, R3, R4, R5, R6, R7, R8, AV.flat, fillIn_nil, fillIn_cons, splice, AV.cells, AV.one, eqsOf, idx, SO.calls, List.reduceReplicate, Nat.reduceBEq, Nat.reduceLT, Nat.reduceAdd, Nat.reduceMul, Nat.reduceSub, Nat.reduceLeDiff, Nat.reduceEqDiff, ↓reduceIte, Int.reduceLT, Int.reduceEq, Int.reduceBNe, Int.reduceBEq, aeq, Int.reduceLE, Int.reduceNeg, Int.reduceMul, Int.reduceAdd, Int.reduceSub, Int.reduceToNat, Int.reducePow, e1, a0, e2, hm, tidy_bool]
    · rw [hcl] at e2
      refine call_ends (fn := s18) rfl rfl (by simp [s18]) ?_
      simp only [s18, R1, R2, R3, R4, R5, R6, R7, R8, AV.flat, fillIn_nil, fillIn_cons, splice, AV.cells, AV.one, eqsOf, idx, SO.calls, List.reduceReplicate, Nat.reduceBEq, Nat.reduceLT, Nat.reduceAdd, Nat.reduceMul, Nat.reduceSub, Nat.reduceLeDiff, Nat.reduceEqDiff, ↓reduceIte, Int.reduceLT, Int.reduceEq, Int.reduceBNe, Int.reduceBEq, aeq, Int.reduceLE, Int.reduceNeg, Int.reduceMul, Int.reduceAdd, Int.reduceSub, Int.reduceToNat, Int.reducePow, e1, e2, a0]
      refine ends_loop (fun k t H' => t.length = 44 ∧ (∃ X, H' = H ++ X) ∧ t.getD 13 .undef = v ∧ t.getD 14 .undef = .int .i64 (l.length : Int) ∧ ∃ i : Nat, i ≤ l.length ∧ k = l.length - i ∧ t.getD 15 .undef = .int .i64 (i : Int) ∧ (l.take i).all one = true) l.length ?_ ?_
      · simp only [R1, R2, R3, R4, R5, R6, R7, R8, AV.flat, fillIn_nil, fillIn_cons, splice, AV.cells, AV.one, eqsOf, idx, SO.calls, List.reduceReplicate, Nat.reduceBEq, Nat.reduceLT, Nat.reduceAdd, Nat.reduceMul, Nat.reduceSub, Nat.reduceLeDiff, Nat.reduceEqDiff, ↓reduceIte, Int.reduceLT, Int.reduceEq, Int.reduceBNe, Int.reduceBEq, aeq, Int.reduceLE, Int.reduceNeg, Int.reduceMul, Int.reduceAdd, Int.reduceSub, Int.reduceToNat, Int.reducePow]
        exact ⟨⟨[], by simp⟩, 0, by omega, by omega, rfl, rfl⟩
      · rintro k t _ ⟨g1, ⟨X, rfl⟩, g2, g3, i, hi, rfl, g4, g5⟩
        rw [← tm_nil t]
        by_cases hc : i < l.length
        · have a1 : ((i : Int) < (l.length : Int)) = True := eq_true (by omega)
          have w2 : IntKind.i64.wrap ((i : Int) + 1) = ((i + 1 : Nat) : Int) := by rw [wrap_i64 (by omega) (by omega)]; rfl
          have Ei := hs.elem hc
          have h1 : (l.take (i + 1)).all one = one l[i] := by
            rw [List.take_succ_eq_append_getElem hc, List.all_append, g5]; simp
          have h2 := fun ho => may_not hc ho
          have h3 := one_eq l[i]
          generalize l[i] = e at *
          have e3 := c44 (H := H ++ (X ++ [.cells e.cs 80 true, .cells [.int .i64 e.a.x, .int .i64 e.a.y, .int .i64 e.b.x, .int .i64 e.b.y, .int .i64 e.c.x, .int .i64 e.c.y] 35 true])) (v := .sl (H.length + (X.length + 1)) 0 3 2 (some 3)) (l := [e.a, e.b, e.c])
            ⟨rfl, fun _ _ => rfl, by decide, .inl ⟨_, _, _, [.int .i64 e.a.x, .int .i64 e.a.y, .int .i64 e.b.x, .int .i64 e.b.y, .int .i64 e.c.x, .int .i64 e.c.y], rfl, by simp only [arow]; rw [List.getElem?_append_right (by omega), Nat.add_sub_cancel_left, List.getElem?_append_right (by omega), Nat.add_sub_cancel_left]; rfl, rfl, by simp⟩⟩ (by simp)
          rw [all3] at e3
          have e4 := fun H => c45 e.n e.quad e.a.x e.a.y e.b.x e.b.y e.c.x e.c.y H
          have hfe : ∀ (P Q : Bool), True := fun _ _ => trivial
          obtain ⟨en, eq, ea, eb, ec⟩ := e
          generalize (fine ea && (fine eb && fine ec)) = F at *
          simp only at e3 e4 h3
          generalize decide (Same ⟨en, eq, ⟨ea.x, ea.y⟩, ⟨eb.x, eb.y⟩, ⟨ec.x, ec.y⟩⟩) = S at *
          simp only [Edge.cs] at Ei e3
          cases F
          · have ho : one ⟨en, eq, ea, eb, ec⟩ = false := by rw [h3]; rfl
            rw [h2 ho]
            simp only [R1, R2, R3, R4, R5, R6, R7, R8, AV.flat, fillIn_nil, fillIn_cons, splice, AV.cells, AV.one, eqsOf, idx, SO.calls, List.reduceReplicate, Nat.reduceBEq, Nat.reduceLT, Nat.reduceAdd, Nat.reduceMul, Nat.reduceSub, Nat.reduceLeDiff, Nat.reduceEqDiff, ↓reduceIte, Int.reduceLT, Int.reduceEq, Int.reduceBNe, Int.reduceBEq, aeq, Int.reduceLE, Int.reduceNeg, Int.reduceMul, Int.reduceAdd, Int.reduceSub, Int.reduceToNat, Int.reducePow, g1, g2, g3, g4, a1, w2, Ei, e3, tidy_bool']
          · cases S
            · cases eq
              · by_cases hb : ((eb.x == 0) && (eb.y == 0)) = true
                · have ho : one ⟨en, false, ea, eb, ec⟩ = true := by rw [h3, hb]; rfl
                  simp only [R1, R2, R3, R4, R5, R6, R7, R8, AV.flat, fillIn_nil, fillIn_cons, splice, AV.cells, AV.one, eqsOf, idx, SO.calls, List.reduceReplicate, Nat.reduceBEq, Nat.reduceLT, Nat.reduceAdd, Nat.reduceMul, Nat.reduceSub, Nat.reduceLeDiff, Nat.reduceEqDiff, ↓reduceIte, Int.reduceLT, Int.reduceEq, Int.reduceBNe, Int.reduceBEq, aeq, Int.reduceLE, Int.reduceNeg, Int.reduceMul, Int.reduceAdd, Int.reduceSub, Int.reduceToNat, Int.reducePow, g1, g2, g3, g4, a1, w2, Ei, e3, e4, aeqs, hb]
                  exact ⟨_, by omega, ⟨_, rfl⟩, i + 1, by omega, rfl, rfl, by rw [h1]; exact ho⟩
                · have hb' : ((eb.x == 0) && (eb.y == 0)) = false := by simpa using hb
                  have ho : one ⟨en, false, ea, eb, ec⟩ = false := by rw [h3, hb']; rfl
                  rw [h2 ho]
                  simp only [R1, R2, R3, R4, R5, R6, R7, R8, AV.flat, fillIn_nil, fillIn_cons, splice, AV.cells, AV.one, eqsOf, idx, SO.calls, List.reduceReplicate, Nat.reduceBEq, Nat.reduceLT, Nat.reduceAdd, Nat.reduceMul, Nat.reduceSub, Nat.reduceLeDiff, Nat.reduceEqDiff, ↓reduceIte, Int.reduceLT, Int.reduceEq, Int.reduceBNe, Int.reduceBEq, aeq, Int.reduceLE, Int.reduceNeg, Int.reduceMul, Int.reduceAdd, Int.reduceSub, Int.reduceToNat, Int.reducePow, g1, g2, g3, g4, a1, w2, Ei, e3, e4, aeqs, hb', tidy_bool']
              · have ho : one ⟨en, true, ea, eb, ec⟩ = true := by rw [h3]; rfl
                simp only [R1, R2, R3, R4, R5, R6, R7, R8, AV.flat, fillIn_nil, fillIn_cons, splice, AV.cells, AV.one, eqsOf, idx, SO.calls, List.reduceReplicate, Nat.reduceBEq, Nat.reduceLT, Nat.reduceAdd, Nat.reduceMul, Nat.reduceSub, Nat.reduceLeDiff, Nat.reduceEqDiff, ↓reduceIte, Int.reduceLT, Int.reduceEq, Int.reduceBNe, Int.reduceBEq, aeq, Int.reduceLE, Int.reduceNeg, Int.reduceMul, Int.reduceAdd, Int.reduceSub, Int.reduceToNat, Int.reducePow, g1, g2, g3, g4, a1, w2, Ei, e3, e4, aeqs]
                exact ⟨_, by omega, ⟨_, rfl⟩, i + 1, by omega, rfl, rfl, by rw [h1]; exact ho⟩
            · have ho : one ⟨en, eq, ea, eb, ec⟩ = false := by rw [h3]; rfl
              rw [h2 ho]
              simp only [R1, R2, R3, R4, R5, R6, R7, R8, AV.flat, fillIn_nil, fillIn_cons, splice, AV.cells, AV.one, eqsOf, idx, SO.calls, List.reduceReplicate, Nat.reduceBEq, Nat.reduceLT, Nat.reduceAdd, Nat.reduceMul, Nat.reduceSub, Nat.reduceLeDiff, Nat.reduceEqDiff, ↓reduceIte, Int.reduceLT, Int.reduceEq, Int.reduceBNe, Int.reduceBEq, aeq, Int.reduceLE, Int.reduceNeg, Int.reduceMul, Int.reduceAdd, Int.reduceSub, Int.reduceToNat, Int.reducePow, g1, g2, g3, g4, a1, w2, Ei, e3, e4, aeqs, tidy_bool']
        · have a1 : ((i : Int) < (l.length : Int)) = False := eq_false (by omega)
          have : i = l.length := by omega
          subst this
          rw [List.take_length] at g5
          have hm : mayP l = true := by unfold mayP; rw [g5, hcl, decide_eq_true (by omega)]; rfl
          rw [hm]
          simp only [R1, R2, R3, R4, R5, R6, R7, R8, AV.flat, fillIn_nil, fillIn_cons, splice, AV.cells, AV.one, eqsOf, idx, SO.calls, List.reduceReplicate, Nat.reduceBEq, Nat.reduceLT, Nat.reduceAdd, Nat.reduceMul, Nat.reduceSub, Nat.reduceLeDiff, Nat.reduceEqDiff, ↓reduceIte, Int.reduceLT, Int.reduceEq, Int.reduceBNe, Int.reduceBEq, aeq, Int.reduceLE, Int.reduceNeg, Int.reduceMul, Int.reduceAdd, Int.reduceSub, Int.reduceToNat, Int.reducePow, g1, g2, g3, g4, a1, tidy_bool']
end Go.Proofs.Ytkcbjeenoafbkaa
