/- Chapter 12: pairs that may be. -/
import Derived.Test.YtbnnfmncipdlpaaDoorGrowX
set_option linter.unusedVariables false
set_option linter.unusedSimpArgs false
set_option maxRecDepth 100000
set_option maxHeartbeats 2000000
namespace Go.Proofs.YtbnnfmncipdlpaaDoor
open Go Go.Den
structure Pr where
  code : Int
  glyph : Int
  deriving DecidableEq
def Pr.cs (p : Pr) : List AV := [.int .i64 p.code, .int .i64 p.glyph]
theorem pr_cel : Cel 2 Pr.cs := ⟨fun _ => rfl, fun _ => rfl, fun _ => rfl, by decide⟩
def OkP (g last : Int) (p : Pr) : Prop := last < p.code ∧ p.code ≤ 1114111 ∧ 1 ≤ p.glyph ∧ p.glyph < g
instance (g last : Int) (p : Pr) : Decidable (OkP g last p) := by unfold OkP; exact inferInstance
def risesB (g : Int) : Int → List Pr → Bool
  | _, [] => true
  | last, p :: r => decide (OkP g last p) && risesB g p.code r
def mayP (l : List Pr) (g : Int) : Bool := decide (1 ≤ g ∧ g ≤ 1024 ∧ l.length ≤ 4096) && risesB g (-1) l
theorem drop_suc {α : Type} {l : List α} {i : Nat} (h : i < l.length) : l.drop i = l[i] :: l.drop (i + 1) := List.drop_eq_getElem_cons h
theorem c95 {H : Heap} {v : AV} {l : List Pr} (hs : SlOf H 2 Pr.cs v l) (hn : l.length ≤ 9223372036854775807) (g : Int) : call env 95 [v, .int .i64 g] H = some (.bool (mayP l g), H) := by
  have e1 := hs.lenOf
  by_cases hg : 1 ≤ g ∧ g ≤ 1024 ∧ l.length ≤ 4096
  · have hm : mayP l g = risesB g (-1) l := by unfold mayP; rw [decide_eq_true hg, Bool.true_and]
    obtain ⟨h1, h2, h3⟩ := hg
    have b1 : (g < 1) = False := eq_false (by omega)
    have b2 : (g > 1024) = False := eq_false (by omega)
    have b3 : ((l.length : Int) > 4096) = False := eq_false (by omega)
    rw [hm]
    refine call_ends (fn := s95) rfl rfl (by simp [s95]) ?_
    simp only [s95, R1, R2, R3, R4, R5, R6, R7, R8, AV.flat, fillIn_nil, fillIn_cons, splice, AV.cells, AV.one, eqsOf, idx, SO.calls, List.reduceReplicate, Nat.reduceBEq, Nat.reduceLT, Nat.reduceAdd, Nat.reduceMul, Nat.reduceSub, Nat.reduceLeDiff, Nat.reduceEqDiff, ↓reduceIte, Int.reduceLT, Int.reduceEq, Int.reduceBNe, Int.reduceBEq, aeq, Int.reduceLE, Int.reduceNeg, Int.reduceMul, Int.reduceAdd, Int.reduceSub, Int.reduceToNat, Int.reducePow, e1, b1, b2, b3]
    refine ends_loop (fun k t H' => t.length = 48 ∧ (∃ X, H' = H ++ X) ∧ t.getD 1 .undef = .int .i64 g ∧ t.getD 19 .undef = v ∧ t.getD 20 .undef = .int .i64 (l.length : Int) ∧ ∃ (i : Nat) (last : Int), i ≤ l.length ∧ k = l.length - i ∧ t.getD 21 .undef = .int .i64 (i : Int) ∧ t.getD 5 .undef = .int .i64 last ∧ risesB g (-1) l = risesB g last (l.drop i)) l.length ?_ ?_
    · simp only [R1, R2, R3, R4, R5, R6, R7, R8, AV.flat, fillIn_nil, fillIn_cons, splice, AV.cells, AV.one, eqsOf, idx, SO.calls, List.reduceReplicate, Nat.reduceBEq, Nat.reduceLT, Nat.reduceAdd, Nat.reduceMul, Nat.reduceSub, Nat.reduceLeDiff, Nat.reduceEqDiff, ↓reduceIte, Int.reduceLT, Int.reduceEq, Int.reduceBNe, Int.reduceBEq, aeq, Int.reduceLE, Int.reduceNeg, Int.reduceMul, Int.reduceAdd, Int.reduceSub, Int.reduceToNat, Int.reducePow]
      exact ⟨⟨[], by simp⟩, 0, -1, by omega, by omega, rfl, rfl, rfl⟩
    · rintro k t _ ⟨g1, ⟨X, rfl⟩, g2, g3, g4, i, last, hi, rfl, g5, g6, g7⟩
      rw [← tm_nil t]
      by_cases hc : i < l.length
      · have a1 : ((i : Int) < (l.length : Int)) = True := eq_true (by omega)
        have w1 : IntKind.i64.wrap ((i : Int) + 1) = ((i + 1 : Nat) : Int) := by rw [wrap_i64 (by omega) (by omega)]; rfl
        have E := hs.elem hc
        rw [drop_suc hc, risesB] at g7
        generalize l[i] = p at *
        obtain ⟨pc, pg⟩ := p
        simp only [Pr.cs] at E
        by_cases hp : OkP g last ⟨pc, pg⟩
        · rw [decide_eq_true hp, Bool.true_and] at g7
          obtain ⟨q1, q2, q3, q4⟩ := hp
          simp only at q1 q2 q3 q4
          have d1 : (pc ≤ last) = False := eq_false (by omega)
          have d2 : (pc > 1114111) = False := eq_false (by omega)
          have d3 : (pg < 1) = False := eq_false (by omega)
          have d4 : (pg ≥ g) = False := eq_false (by omega)
          simp only [R1, R2, R3, R4, R5, R6, R7, R8, AV.flat, fillIn_nil, fillIn_cons, splice, AV.cells, AV.one, eqsOf, idx, SO.calls, List.reduceReplicate, Nat.reduceBEq, Nat.reduceLT, Nat.reduceAdd, Nat.reduceMul, Nat.reduceSub, Nat.reduceLeDiff, Nat.reduceEqDiff, ↓reduceIte, Int.reduceLT, Int.reduceEq, Int.reduceBNe, Int.reduceBEq, aeq, Int.reduceLE, Int.reduceNeg, Int.reduceMul, Int.reduceAdd, Int.reduceSub, Int.reduceToNat, Int.reducePow, g1, g2, g3, g4, g5, g6, a1, w1, E, d1, d2, d3, d4]
          exact ⟨_, by omega, ⟨_, rfl⟩, i + 1, pc, by omega, rfl, rfl, rfl, g7⟩
        · rw [decide_eq_false hp, Bool.false_and] at g7
          rw [g7]
          unfold OkP at hp
          simp only at hp
          clear g7
          have hh : True := trivial
          have hk : True := trivial
          have hj : True := trivial
          repeat' (first
            | simp only [R1, R2, R3, R4, R5, R6, R7, R8, AV.flat, fillIn_nil, fillIn_cons, splice, AV.cells, AV.one, eqsOf, idx, SO.calls, List.reduceReplicate, Nat.reduceBEq, Nat.reduceLT, Nat.reduceAdd, Nat.reduceMul, Nat.reduceSub, Nat.reduceLeDiff, Nat.reduceEqDiff, ↓reduceIte, Int.reduceLT, Int.reduceEq, Int.reduceBNe, Int.reduceBEq, aeq, Int.reduceLE, Int.reduceNeg, Int.reduceMul, Int.reduceAdd, Int.reduceSub, Int.reduceToNat, Int.reducePow, hh, hk, hj, g1, g2, g3, g4, g5, g6, a1, w1, E, tidy_bool']
            | simp (disch := omega) only [wrap_i64]
            | (simp only [gets_guard, gets_guardd, endsIf_any]; split <;> rename_i hk <;> (try simp only [Bool.not_eq_true] at hk) <;> (have hh := hk) <;> (have hj := hk) <;> (try simp only [Bool.not_eq_true', Bool.not_eq_false'] at hj) <;> (try simp only [decide_eq_true_eq, Bool.not_eq_true, decide_eq_false_iff_not, Bool.not_eq_true', Bool.not_eq_false', Bool.and_eq_true, Bool.or_eq_true, beq_iff_eq, bne_iff_ne, ne_eq] at hh)))
          all_goals omega
      · have a1 : ((i : Int) < (l.length : Int)) = False := eq_false (by omega)
        rw [List.drop_of_length_le (by omega), risesB] at g7
        rw [g7]
        simp only [R1, R2, R3, R4, R5, R6, R7, R8, AV.flat, fillIn_nil, fillIn_cons, splice, AV.cells, AV.one, eqsOf, idx, SO.calls, List.reduceReplicate, Nat.reduceBEq, Nat.reduceLT, Nat.reduceAdd, Nat.reduceMul, Nat.reduceSub, Nat.reduceLeDiff, Nat.reduceEqDiff, ↓reduceIte, Int.reduceLT, Int.reduceEq, Int.reduceBNe, Int.reduceBEq, aeq, Int.reduceLE, Int.reduceNeg, Int.reduceMul, Int.reduceAdd, Int.reduceSub, Int.reduceToNat, Int.reducePow, g1, g2, g3, g4, g5, g6, a1]
        rw [tidy_bool']
  · have hm : mayP l g = false := by unfold mayP; rw [decide_eq_false hg, Bool.false_and]
    rw [hm]
    clear hm
    refine call_ends (fn := s95) rfl rfl (by simp [s95]) ?_
    have hh : True := trivial
    have hk : True := trivial
    have hj : True := trivial
    simp only [s95]
    repeat' (first
      | simp only [R1, R2, R3, R4, R5, R6, R7, R8, AV.flat, fillIn_nil, fillIn_cons, splice, AV.cells, AV.one, eqsOf, idx, SO.calls, List.reduceReplicate, Nat.reduceBEq, Nat.reduceLT, Nat.reduceAdd, Nat.reduceMul, Nat.reduceSub, Nat.reduceLeDiff, Nat.reduceEqDiff, ↓reduceIte, Int.reduceLT, Int.reduceEq, Int.reduceBNe, Int.reduceBEq, aeq, Int.reduceLE, Int.reduceNeg, Int.reduceMul, Int.reduceAdd, Int.reduceSub, Int.reduceToNat, Int.reducePow, hh, hk, hj, e1, tidy_bool]
      | simp (disch := omega) only [wrap_i64]
      | (simp only [gets_guard, gets_guardd, endsIf_any]; split <;> rename_i hk <;> (try simp only [Bool.not_eq_true] at hk) <;> (have hh := hk) <;> (have hj := hk) <;> (try simp only [Bool.not_eq_true', Bool.not_eq_false'] at hj) <;> (try simp only [decide_eq_true_eq, Bool.not_eq_true, decide_eq_false_iff_not, Bool.not_eq_true', Bool.not_eq_false', Bool.and_eq_true, Bool.or_eq_true, beq_iff_eq, bne_iff_ne, ne_eq] at hh)))
    all_goals omega
theorem c52 {H : Heap} {v : AV} {l : List Pr} (hs : SlOf H 2 Pr.cs v l) (hn : l.length ≤ 9223372036854775807) (g : Int) : call env 52 [v, .int .i64 g] H = some (.bool (mayP l g), H) := by
  have e1 := hs.lenOf
  by_cases hg : 1 ≤ g ∧ g ≤ 1024 ∧ l.length ≤ 4096
  · have hm : mayP l g = risesB g (-1) l := by unfold mayP; rw [decide_eq_true hg, Bool.true_and]
    obtain ⟨h1, h2, h3⟩ := hg
    have b1 : (g < 1) = False := eq_false (by omega)
    have b2 : (g > 1024) = False := eq_false (by omega)
    have b3 : ((l.length : Int) > 4096) = False := eq_false (by omega)
    rw [hm]
    refine call_ends (fn := s52) rfl rfl (by simp [s52]) ?_
    simp only [s52, R1, R2, R3, R4, R5, R6, R7, R8, AV.flat, fillIn_nil, fillIn_cons, splice, AV.cells, AV.one, eqsOf, idx, SO.calls, List.reduceReplicate, Nat.reduceBEq, Nat.reduceLT, Nat.reduceAdd, Nat.reduceMul, Nat.reduceSub, Nat.reduceLeDiff, Nat.reduceEqDiff, ↓reduceIte, Int.reduceLT, Int.reduceEq, Int.reduceBNe, Int.reduceBEq, aeq, Int.reduceLE, Int.reduceNeg, Int.reduceMul, Int.reduceAdd, Int.reduceSub, Int.reduceToNat, Int.reducePow, e1, b1, b2, b3]
    refine ends_loop (fun k t H' => t.length = 61 ∧ H = H' ∧ t.getD 1 .undef = .int .i64 g ∧ t.getD 0 .undef = v ∧ ∃ (i : Nat) (last : Int), i ≤ l.length ∧ k = l.length - i ∧ t.getD 6 .undef = .int .i64 (i : Int) ∧ t.getD 5 .undef = .int .i64 last ∧ risesB g (-1) l = risesB g last (l.drop i)) l.length ?_ ?_
    · simp only [R1, R2, R3, R4, R5, R6, R7, R8, AV.flat, fillIn_nil, fillIn_cons, splice, AV.cells, AV.one, eqsOf, idx, SO.calls, List.reduceReplicate, Nat.reduceBEq, Nat.reduceLT, Nat.reduceAdd, Nat.reduceMul, Nat.reduceSub, Nat.reduceLeDiff, Nat.reduceEqDiff, ↓reduceIte, Int.reduceLT, Int.reduceEq, Int.reduceBNe, Int.reduceBEq, aeq, Int.reduceLE, Int.reduceNeg, Int.reduceMul, Int.reduceAdd, Int.reduceSub, Int.reduceToNat, Int.reducePow]
      exact ⟨0, -1, by omega, by omega, rfl, rfl, rfl⟩
    · rintro k t _ ⟨g1, rfl, g2, g3, i, last, hi, rfl, g5, g6, g7⟩
      rw [← tm_nil t]
      by_cases hc : i < l.length
      · have a1 : ((i : Int) < (l.length : Int)) = True := eq_true (by omega)
        have w1 : IntKind.i64.wrap ((i : Int) + 1) = ((i + 1 : Nat) : Int) := by rw [wrap_i64 (by omega) (by omega)]; rfl
        have E := hs.elem0 hc
        rw [drop_suc hc, risesB] at g7
        generalize l[i] = p at *
        obtain ⟨pc, pg⟩ := p
        simp only [Pr.cs] at E
        by_cases hp : OkP g last ⟨pc, pg⟩
        · rw [decide_eq_true hp, Bool.true_and] at g7
          obtain ⟨q1, q2, q3, q4⟩ := hp
          simp only at q1 q2 q3 q4
          have d1 : (pc ≤ last) = False := eq_false (by omega)
          have d2 : (pc > 1114111) = False := eq_false (by omega)
          have d3 : (pg < 1) = False := eq_false (by omega)
          have d4 : (pg ≥ g) = False := eq_false (by omega)
          simp only [R1, R2, R3, R4, R5, R6, R7, R8, AV.flat, fillIn_nil, fillIn_cons, splice, AV.cells, AV.one, eqsOf, idx, SO.calls, List.reduceReplicate, Nat.reduceBEq, Nat.reduceLT, Nat.reduceAdd, Nat.reduceMul, Nat.reduceSub, Nat.reduceLeDiff, Nat.reduceEqDiff, ↓reduceIte, Int.reduceLT, Int.reduceEq, Int.reduceBNe, Int.reduceBEq, aeq, Int.reduceLE, Int.reduceNeg, Int.reduceMul, Int.reduceAdd, Int.reduceSub, Int.reduceToNat, Int.reducePow, g1, g2, g3, g5, g6, e1, a1, w1, E, d1, d2, d3, d4]
          exact ⟨_, by omega, i + 1, pc, by omega, rfl, rfl, rfl, g7⟩
        · rw [decide_eq_false hp, Bool.false_and] at g7
          rw [g7]
          unfold OkP at hp
          simp only at hp
          clear g7
          have hh : True := trivial
          have hk : True := trivial
          have hj : True := trivial
          repeat' (first
            | simp only [R1, R2, R3, R4, R5, R6, R7, R8, AV.flat, fillIn_nil, fillIn_cons, splice, AV.cells, AV.one, eqsOf, idx, SO.calls, List.reduceReplicate, Nat.reduceBEq, Nat.reduceLT, Nat.reduceAdd, Nat.reduceMul, Nat.reduceSub, Nat.reduceLeDiff, Nat.reduceEqDiff, ↓reduceIte, Int.reduceLT, Int.reduceEq, Int.reduceBNe, Int.reduceBEq, aeq, Int.reduceLE, Int.reduceNeg, Int.reduceMul, Int.reduceAdd, Int.reduceSub, Int.reduceToNat, Int.reducePow, hh, hk, hj, g1, g2, g3, g5, g6, e1, a1, w1, E, tidy_bool]
            | simp (disch := omega) only [wrap_i64]
            | (simp only [gets_guard, gets_guardd, endsIf_any]; split <;> rename_i hk <;> (try simp only [Bool.not_eq_true] at hk) <;> (have hh := hk) <;> (have hj := hk) <;> (try simp only [Bool.not_eq_true', Bool.not_eq_false'] at hj) <;> (try simp only [decide_eq_true_eq, Bool.not_eq_true, decide_eq_false_iff_not, Bool.not_eq_true', Bool.not_eq_false', Bool.and_eq_true, Bool.or_eq_true, beq_iff_eq, bne_iff_ne, ne_eq] at hh)))
          all_goals omega
      · have a1 : ((i : Int) < (l.length : Int)) = False := eq_false (by omega)
        rw [List.drop_of_length_le (by omega), risesB] at g7
        rw [g7]
        simp only [R1, R2, R3, R4, R5, R6, R7, R8, AV.flat, fillIn_nil, fillIn_cons, splice, AV.cells, AV.one, eqsOf, idx, SO.calls, List.reduceReplicate, Nat.reduceBEq, Nat.reduceLT, Nat.reduceAdd, Nat.reduceMul, Nat.reduceSub, Nat.reduceLeDiff, Nat.reduceEqDiff, ↓reduceIte, Int.reduceLT, Int.reduceEq, Int.reduceBNe, Int.reduceBEq, aeq, Int.reduceLE, Int.reduceNeg, Int.reduceMul, Int.reduceAdd, Int.reduceSub, Int.reduceToNat, Int.reducePow, g1, g2, g3, g5, g6, e1, a1, tidy_bool]
  · have hm : mayP l g = false := by unfold mayP; rw [decide_eq_false hg, Bool.false_and]
    rw [hm]
    clear hm
    refine call_ends (fn := s52) rfl rfl (by simp [s52]) ?_
    have hh : True := trivial
    have hk : True := trivial
    have hj : True := trivial
    simp only [s52]
    repeat' (first
      | simp only [R1, R2, R3, R4, R5, R6, R7, R8, AV.flat, fillIn_nil, fillIn_cons, splice, AV.cells, AV.one, eqsOf, idx, SO.calls, List.reduceReplicate, Nat.reduceBEq, Nat.reduceLT, Nat.reduceAdd, Nat.reduceMul, Nat.reduceSub, Nat.reduceLeDiff, Nat.reduceEqDiff, ↓reduceIte, Int.reduceLT, Int.reduceEq, Int.reduceBNe, Int.reduceBEq, aeq, Int.reduceLE, Int.reduceNeg, Int.reduceMul, Int.reduceAdd, Int.reduceSub, Int.reduceToNat, Int.reducePow, hh, hk, hj, e1, tidy_bool]
      | simp (disch := omega) only [wrap_i64]
      | (simp only [gets_guard, gets_guardd, endsIf_any]; split <;> rename_i hk <;> (try simp only [Bool.not_eq_true] at hk) <;> (have hh := hk) <;> (have hj := hk) <;> (try simp only [Bool.not_eq_true', Bool.not_eq_false'] at hj) <;> (try simp only [decide_eq_true_eq, Bool.not_eq_true, decide_eq_false_iff_not, Bool.not_eq_true', Bool.not_eq_false', Bool.and_eq_true, Bool.or_eq_true, beq_iff_eq, bne_iff_ne, ne_eq] at hh)))
    all_goals omega
end Go.Proofs.YtbnnfmncipdlpaaDoor
