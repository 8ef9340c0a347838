/- Chapter 10: tables that are found; readers. -/
import Derived.Test.YthfpndelfbeknaaC11a
set_option linter.unusedVariables false
set_option linter.unusedSimpArgs false
set_option maxRecDepth 100000
set_option maxHeartbeats 1000000
namespace Go.Proofs.Ythfpndelfbeknaa
open Go Go.Den
structure Tab where
  tag : List UInt8
  data : List UInt8
  deriving DecidableEq
def Tab.cs (t : Tab) : List AV := [.str (mkS t.tag), .str (mkS t.data)]
def findP (tag : List UInt8) : List Tab → Option (List UInt8)
  | [] => none
  | t :: r => if t.tag = tag then some t.data else findP tag r
def foundS (o : Option (List UInt8)) : List UInt8 := o.getD []
theorem c101 {H : Heap} {v : AV} {l : List Tab} (hs : SlOf H 2 Tab.cs v l) (hn : l.length ≤ 1000000) (tag : List UInt8) :
    call env 101 [v, .str (mkS tag)] H = some (.tup [.str (mkS (foundS (findP tag l))), .bool (findP tag l).isSome], H) := by
  have e1 := hs.lenOf
  refine call_ends (fn := s101) rfl rfl (by simp [s101]) ?_
  simp only [s101, R1, R2, R3, R4, R5, R6, R7, R8, AV.flat, fillIn_nil, fillIn_cons, splice, AV.cells, AV.one, eqsOf, idx, SO.calls, List.reduceReplicate, Nat.reduceBEq, Nat.reduceLT, Nat.reduceAdd, Nat.reduceMul, Nat.reduceSub, Nat.reduceLeDiff, Nat.reduceEqDiff, ↓reduceIte, Int.reduceLT, Int.reduceEq, Int.reduceBNe, Int.reduceBEq, aeq, Int.reduceLE, Int.reduceNeg, Int.reduceMul, Int.reduceAdd, Int.reduceSub, Int.reduceToNat, Int.reducePow]
  refine ends_loop (fun k t H' => t.length = 25 ∧ H' = H ∧ t.getD 0 .undef = v ∧ t.getD 1 .undef = .str (mkS tag) ∧ ∃ i : Nat, i ≤ l.length ∧ k = l.length - i ∧ t.getD 6 .undef = .int .i64 (i : Int) ∧ findP tag l = findP tag (l.drop i)) l.length ?_ ?_
  · simp only [R1, R2, R3, R4, R5, R6, R7, R8, AV.flat, fillIn_nil, fillIn_cons, splice, AV.cells, AV.one, eqsOf, idx, SO.calls, List.reduceReplicate, Nat.reduceBEq, Nat.reduceLT, Nat.reduceAdd, Nat.reduceMul, Nat.reduceSub, Nat.reduceLeDiff, Nat.reduceEqDiff, ↓reduceIte, Int.reduceLT, Int.reduceEq, Int.reduceBNe, Int.reduceBEq, aeq, Int.reduceLE, Int.reduceNeg, Int.reduceMul, Int.reduceAdd, Int.reduceSub, Int.reduceToNat, Int.reducePow]
    exact ⟨0, by omega, by omega, rfl, rfl⟩
  · rintro k t H' ⟨g1, rfl, g2, g3, i, hi, rfl, g5, g6⟩
    rw [← tm_nil t]
    by_cases hc : i < l.length
    · have a1 : ((i : Int) < (l.length : Int)) = True := eq_true (by omega)
      have v1 := wrap_i64 (x := (i : Int) + 1) (by omega) (by omega)
      have E := hs.elem0 hc
      simp only [Tab.cs] at E
      rw [List.drop_eq_getElem_cons hc, findP] at g6
      by_cases ht : l[i].tag = tag
      · rw [if_pos ht] at g6
        have b1 : (l[i].tag == tag) = true := by simp [ht]
        rw [g6]
        simp only [R1, R2, R3, R4, R5, R6, R7, R8, AV.flat, fillIn_nil, fillIn_cons, splice, AV.cells, AV.one, eqsOf, idx, SO.calls, List.reduceReplicate, Nat.reduceBEq, Nat.reduceLT, Nat.reduceAdd, Nat.reduceMul, Nat.reduceSub, Nat.reduceLeDiff, Nat.reduceEqDiff, ↓reduceIte, Int.reduceLT, Int.reduceEq, Int.reduceBNe, Int.reduceBEq, aeq, Int.reduceLE, Int.reduceNeg, Int.reduceMul, Int.reduceAdd, Int.reduceSub, Int.reduceToNat, Int.reducePow, g1, g2, g3, g5, e1, a1, E, b1, foundS, Option.isSome]
      · rw [if_neg ht] at g6
        have b1 : (l[i].tag == tag) = false := by simp [ht]
        simp only [R1, R2, R3, R4, R5, R6, R7, R8, AV.flat, fillIn_nil, fillIn_cons, splice, AV.cells, AV.one, eqsOf, idx, SO.calls, List.reduceReplicate, Nat.reduceBEq, Nat.reduceLT, Nat.reduceAdd, Nat.reduceMul, Nat.reduceSub, Nat.reduceLeDiff, Nat.reduceEqDiff, ↓reduceIte, Int.reduceLT, Int.reduceEq, Int.reduceBNe, Int.reduceBEq, aeq, Int.reduceLE, Int.reduceNeg, Int.reduceMul, Int.reduceAdd, Int.reduceSub, Int.reduceToNat, Int.reducePow, g1, g2, g3, g5, e1, a1, v1, E, b1]
        exact ⟨l.length - (i + 1), by omega, i + 1, by omega, rfl, by simp, g6⟩
    · have a1 : ((i : Int) < (l.length : Int)) = False := eq_false (by omega)
      have : l.drop i = [] := List.drop_eq_nil_of_le (by omega)
      rw [this] at g6
      rw [g6]
      simp only [R1, R2, R3, R4, R5, R6, R7, R8, AV.flat, fillIn_nil, fillIn_cons, splice, AV.cells, AV.one, eqsOf, idx, SO.calls, List.reduceReplicate, Nat.reduceBEq, Nat.reduceLT, Nat.reduceAdd, Nat.reduceMul, Nat.reduceSub, Nat.reduceLeDiff, Nat.reduceEqDiff, ↓reduceIte, Int.reduceLT, Int.reduceEq, Int.reduceBNe, Int.reduceBEq, aeq, Int.reduceLE, Int.reduceNeg, Int.reduceMul, Int.reduceAdd, Int.reduceSub, Int.reduceToNat, Int.reducePow, g1, g2, g3, g5, e1, a1, findP, foundS, Option.isSome]
theorem c127 {H : Heap} {v : AV} {l : List Tab} (hs : SlOf H 2 Tab.cs v l) (hn : l.length ≤ 1000000) (tag : List UInt8) :
    call env 127 [v, .str (mkS tag)] H = some (.tup [.str (mkS (foundS (findP tag l))), .bool (findP tag l).isSome], H) := by
  have e1 := hs.lenOf
  refine call_ends (fn := s127) rfl rfl (by simp [s127]) ?_
  simp only [s127, R1, R2, R3, R4, R5, R6, R7, R8, AV.flat, fillIn_nil, fillIn_cons, splice, AV.cells, AV.one, eqsOf, idx, SO.calls, List.reduceReplicate, Nat.reduceBEq, Nat.reduceLT, Nat.reduceAdd, Nat.reduceMul, Nat.reduceSub, Nat.reduceLeDiff, Nat.reduceEqDiff, ↓reduceIte, Int.reduceLT, Int.reduceEq, Int.reduceBNe, Int.reduceBEq, aeq, Int.reduceLE, Int.reduceNeg, Int.reduceMul, Int.reduceAdd, Int.reduceSub, Int.reduceToNat, Int.reducePow, e1]
  refine ends_loop (fun k t H' => t.length = 21 ∧ (∃ X, H' = H ++ X) ∧ t.getD 8 .undef = v ∧ t.getD 9 .undef = .int .i64 (l.length : Int) ∧ t.getD 1 .undef = .str (mkS tag) ∧ ∃ i : Nat, i ≤ l.length ∧ k = l.length - i ∧ t.getD 10 .undef = .int .i64 (i : Int) ∧ findP tag l = findP tag (l.drop i)) l.length ?_ ?_
  · simp only [R1, R2, R3, R4, R5, R6, R7, R8, AV.flat, fillIn_nil, fillIn_cons, splice, AV.cells, AV.one, eqsOf, idx, SO.calls, List.reduceReplicate, Nat.reduceBEq, Nat.reduceLT, Nat.reduceAdd, Nat.reduceMul, Nat.reduceSub, Nat.reduceLeDiff, Nat.reduceEqDiff, ↓reduceIte, Int.reduceLT, Int.reduceEq, Int.reduceBNe, Int.reduceBEq, aeq, Int.reduceLE, Int.reduceNeg, Int.reduceMul, Int.reduceAdd, Int.reduceSub, Int.reduceToNat, Int.reducePow]
    exact ⟨⟨[], by simp⟩, 0, by omega, by omega, rfl, rfl⟩
  · rintro k t H' ⟨g1, ⟨X, rfl⟩, g2, g4, g3, i, hi, rfl, g5, g6⟩
    rw [← tm_nil t]
    by_cases hc : i < l.length
    · have a1 : ((i : Int) < (l.length : Int)) = True := eq_true (by omega)
      have v1 := wrap_i64 (x := (i : Int) + 1) (by omega) (by omega)
      have E := hs.elem hc
      simp only [Tab.cs] at E
      rw [List.drop_eq_getElem_cons hc, findP] at g6
      by_cases ht : l[i].tag = tag
      · rw [if_pos ht] at g6
        have b1 : (l[i].tag == tag) = true := by simp [ht]
        rw [g6]
        simp only [R1, R2, R3, R4, R5, R6, R7, R8, AV.flat, fillIn_nil, fillIn_cons, splice, AV.cells, AV.one, eqsOf, idx, SO.calls, List.reduceReplicate, Nat.reduceBEq, Nat.reduceLT, Nat.reduceAdd, Nat.reduceMul, Nat.reduceSub, Nat.reduceLeDiff, Nat.reduceEqDiff, ↓reduceIte, Int.reduceLT, Int.reduceEq, Int.reduceBNe, Int.reduceBEq, aeq, Int.reduceLE, Int.reduceNeg, Int.reduceMul, Int.reduceAdd, Int.reduceSub, Int.reduceToNat, Int.reducePow, g1, g2, g3, g4, g5, e1, a1, E, b1, foundS, Option.isSome]
        rw [tidy_tup' (l := [.str (mkS l[i].data), .bool true]) rfl]
      · rw [if_neg ht] at g6
        have b1 : (l[i].tag == tag) = false := by simp [ht]
        simp only [R1, R2, R3, R4, R5, R6, R7, R8, AV.flat, fillIn_nil, fillIn_cons, splice, AV.cells, AV.one, eqsOf, idx, SO.calls, List.reduceReplicate, Nat.reduceBEq, Nat.reduceLT, Nat.reduceAdd, Nat.reduceMul, Nat.reduceSub, Nat.reduceLeDiff, Nat.reduceEqDiff, ↓reduceIte, Int.reduceLT, Int.reduceEq, Int.reduceBNe, Int.reduceBEq, aeq, Int.reduceLE, Int.reduceNeg, Int.reduceMul, Int.reduceAdd, Int.reduceSub, Int.reduceToNat, Int.reducePow, g1, g2, g3, g4, g5, e1, a1, v1, E, b1]
        exact ⟨l.length - (i + 1), by omega, ⟨_, rfl⟩, i + 1, by omega, rfl, by simp, g6⟩
    · have a1 : ((i : Int) < (l.length : Int)) = False := eq_false (by omega)
      have : l.drop i = [] := List.drop_eq_nil_of_le (by omega)
      rw [this] at g6
      rw [g6]
      simp only [R1, R2, R3, R4, R5, R6, R7, R8, AV.flat, fillIn_nil, fillIn_cons, splice, AV.cells, AV.one, eqsOf, idx, SO.calls, List.reduceReplicate, Nat.reduceBEq, Nat.reduceLT, Nat.reduceAdd, Nat.reduceMul, Nat.reduceSub, Nat.reduceLeDiff, Nat.reduceEqDiff, ↓reduceIte, Int.reduceLT, Int.reduceEq, Int.reduceBNe, Int.reduceBEq, aeq, Int.reduceLE, Int.reduceNeg, Int.reduceMul, Int.reduceAdd, Int.reduceSub, Int.reduceToNat, Int.reducePow, g1, g2, g3, g4, g5, e1, a1, findP, foundS, Option.isSome]
      rw [tidy_tup' (l := [.str (mkS []), .bool false]) rfl]
theorem c120 (b : Bool) (H : Heap) : call env 120 [.bool b] H = some (.int .i64 (if b then 0 else 4), H) := by
  cases b
  · refine call_ends (fn := s120) rfl rfl (by simp [s120]) ?_
    have hh : True := trivial
    have hk : True := trivial
    have hj : True := trivial
    simp only [s120]
    repeat' (first
      | simp only [R1, R2, R3, R4, R5, R6, R7, R8, AV.flat, fillIn_nil, fillIn_cons, splice, AV.cells, AV.one, eqsOf, idx, SO.calls, List.reduceReplicate, Nat.reduceBEq, Nat.reduceLT, Nat.reduceAdd, Nat.reduceMul, Nat.reduceSub, Nat.reduceLeDiff, Nat.reduceEqDiff, ↓reduceIte, Int.reduceLT, Int.reduceEq, Int.reduceBNe, Int.reduceBEq, aeq, Int.reduceLE, Int.reduceNeg, Int.reduceMul, Int.reduceAdd, Int.reduceSub, Int.reduceToNat, Int.reducePow, hh, hk, hj, tidy_int]
      | simp (disch := omega) only [wrap_i64]
      | (simp only [gets_guard, gets_guardd, endsIf_any]; split <;> rename_i hk <;> (try simp only [Bool.not_eq_true] at hk) <;> (have hh := hk) <;> (have hj := hk) <;> (try simp only [Bool.not_eq_true', Bool.not_eq_false'] at hj) <;> (try simp only [decide_eq_true_eq, Bool.not_eq_true, decide_eq_false_iff_not, Bool.not_eq_true', Bool.not_eq_false', Bool.and_eq_true, Bool.or_eq_true, beq_iff_eq, bne_iff_ne, ne_eq] at hh)))
    all_goals rfl
  · refine call_ends (fn := s120) rfl rfl (by simp [s120]) ?_
    have hh : True := trivial
    have hk : True := trivial
    have hj : True := trivial
    simp only [s120]
    repeat' (first
      | simp only [R1, R2, R3, R4, R5, R6, R7, R8, AV.flat, fillIn_nil, fillIn_cons, splice, AV.cells, AV.one, eqsOf, idx, SO.calls, List.reduceReplicate, Nat.reduceBEq, Nat.reduceLT, Nat.reduceAdd, Nat.reduceMul, Nat.reduceSub, Nat.reduceLeDiff, Nat.reduceEqDiff, ↓reduceIte, Int.reduceLT, Int.reduceEq, Int.reduceBNe, Int.reduceBEq, aeq, Int.reduceLE, Int.reduceNeg, Int.reduceMul, Int.reduceAdd, Int.reduceSub, Int.reduceToNat, Int.reducePow, hh, hk, hj, tidy_int]
      | simp (disch := omega) only [wrap_i64]
      | (simp only [gets_guard, gets_guardd, endsIf_any]; split <;> rename_i hk <;> (try simp only [Bool.not_eq_true] at hk) <;> (have hh := hk) <;> (have hj := hk) <;> (try simp only [Bool.not_eq_true', Bool.not_eq_false'] at hj) <;> (try simp only [decide_eq_true_eq, Bool.not_eq_true, decide_eq_false_iff_not, Bool.not_eq_true', Bool.not_eq_false', Bool.and_eq_true, Bool.or_eq_true, beq_iff_eq, bne_iff_ne, ne_eq] at hh)))
    all_goals rfl
end Go.Proofs.Ythfpndelfbeknaa
