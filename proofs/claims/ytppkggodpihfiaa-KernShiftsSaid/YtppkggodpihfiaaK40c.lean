/- Chapter 40: kern.Shift. -/
import Derived.Test.YtppkggodpihfiaaK40b
set_option linter.unusedVariables false
set_option linter.unusedSimpArgs false
set_option maxRecDepth 100000
set_option maxHeartbeats 4000000
namespace Go.Proofs.Ytppkggodpihfiaa
open Go Go.Den
theorem clone_pc {H : Heap} {v : AV} {l : List Pc} (hs : SlOf H 3 Pc.cs v l) (hn : l.length ≤ 1000000) :
    (v = .nils ∧ l = [] ∧ call env 51 [v] H = some (.nils, H)) ∨
    ∃ c, call env 51 [v] H = some (.sl H.length 0 l.length 3 c, H ++ [.cells (l.flatMap Pc.cs) 43 true]) := by
  have hrow : (H ++ [AO.cells (([] : List Pc).flatMap Pc.cs) 43 true])[H.length]? = some (.cells (([] : List Pc).flatMap Pc.cs) 43 true) := by simp
  have fl : (l.flatMap Pc.cs).all AV.flat = true := by
    simp only [List.all_flatMap, List.all_eq_true]
    exact fun a _ => by simpa using pc_cel.flat a
  have hlf : (l.flatMap Pc.cs).length = l.length * 3 := flat_len fun a _ => pc_cel.size a
  have nonnil : (∀ H', eqsOf 2 [] false v .nils H' = some (.bool false, H')) → ∃ c, call env 51 [v] H = some (.sl H.length 0 l.length 3 c, H ++ [.cells (l.flatMap Pc.cs) 43 true]) := by
    intro he
    by_cases h0 : l = []
    · subst h0
      have e1 : aapp (H ++ [AO.cells [] 43 true]) 43 3 (.sl H.length 0 0 3 (some 0)) v = some (.sl H.length 0 0 3 (some 0), H ++ [AO.cells [] 43 true]) := by
        have h1 := hs.len
        have h2 := slof_new hs [AO.cells [] 43 true]
        simp only [aapp, h1, h2, List.length_nil, if_true]
      have ti := @tidy_sl1 H [.cells [] 43 true] 0 0 0 3 (some 0) [] 43 true rfl rfl (by simp) (by decide)
      simp only [Nat.add_zero] at ti
      refine ⟨some 0, ?_⟩
      refine call_ends (fn := s51) rfl rfl (by simp [s51]) ?_
      simp only [R1, R2, R3, R4, R5, R6, R7, R8, AV.flat, fillIn_nil, fillIn_cons, splice, AV.cells, AV.one, eqsOf, idx, SO.calls, List.reduceReplicate, Nat.reduceBEq, Nat.reduceLT, Nat.reduceAdd, Nat.reduceMul, Nat.reduceSub, Nat.reduceLeDiff, Nat.reduceEqDiff, ↓reduceIte, Int.reduceLT, Int.reduceEq, Int.reduceBNe, Int.reduceBEq, aeq, Int.reduceLE, Int.reduceNeg, Int.reduceMul, Int.reduceAdd, Int.reduceSub, Int.reduceToNat, Int.reducePow] at he e1
      simp only [s51, R1, R2, R3, R4, R5, R6, R7, R8, AV.flat, fillIn_nil, fillIn_cons, splice, AV.cells, AV.one, eqsOf, idx, SO.calls, List.reduceReplicate, Nat.reduceBEq, Nat.reduceLT, Nat.reduceAdd, Nat.reduceMul, Nat.reduceSub, Nat.reduceLeDiff, Nat.reduceEqDiff, ↓reduceIte, Int.reduceLT, Int.reduceEq, Int.reduceBNe, Int.reduceBEq, aeq, Int.reduceLE, Int.reduceNeg, Int.reduceMul, Int.reduceAdd, Int.reduceSub, Int.reduceToNat, Int.reducePow, he, e1]
      rw [ti]; rfl
    · have e1 := app_full (H := H ++ [AO.cells (([] : List Pc).flatMap Pc.cs) 43 true]) (e := 43) (l := []) (m := l) (x := v) pc_cel hrow h0 hs.len (slof_new hs _) (by simp; omega)
      have ti := @tidy_sl1 H [.cells [] 43 true, .cells (l.flatMap Pc.cs) 43 true] 1 0 l.length 3 none _ 43 true rfl fl (by omega) (by decide)
      rw [List.drop_zero, List.take_of_length_le (by omega)] at ti
      simp only [List.flatMap_nil, List.length_nil, Nat.zero_add, List.nil_append, List.length_append, List.length_cons, List.append_assoc, List.cons_append] at e1
      refine ⟨none, ?_⟩
      generalize l.flatMap Pc.cs = R at *
      refine call_ends (fn := s51) rfl rfl (by simp [s51]) ?_
      simp only [R1, R2, R3, R4, R5, R6, R7, R8, AV.flat, fillIn_nil, fillIn_cons, splice, AV.cells, AV.one, eqsOf, idx, SO.calls, List.reduceReplicate, Nat.reduceBEq, Nat.reduceLT, Nat.reduceAdd, Nat.reduceMul, Nat.reduceSub, Nat.reduceLeDiff, Nat.reduceEqDiff, ↓reduceIte, Int.reduceLT, Int.reduceEq, Int.reduceBNe, Int.reduceBEq, aeq, Int.reduceLE, Int.reduceNeg, Int.reduceMul, Int.reduceAdd, Int.reduceSub, Int.reduceToNat, Int.reducePow] at he
      simp only [s51, R1, R2, R3, R4, R5, R6, R7, R8, AV.flat, fillIn_nil, fillIn_cons, splice, AV.cells, AV.one, eqsOf, idx, SO.calls, List.reduceReplicate, Nat.reduceBEq, Nat.reduceLT, Nat.reduceAdd, Nat.reduceMul, Nat.reduceSub, Nat.reduceLeDiff, Nat.reduceEqDiff, ↓reduceIte, Int.reduceLT, Int.reduceEq, Int.reduceBNe, Int.reduceBEq, aeq, Int.reduceLE, Int.reduceNeg, Int.reduceMul, Int.reduceAdd, Int.reduceSub, Int.reduceToNat, Int.reducePow, he, e1]
      rw [ti]
  rcases hs.kind with ⟨o, off, cap, row, h1, _⟩ | ⟨m, h1⟩ | ⟨h1, h2⟩
  · exact .inr (nonnil fun H' => by rw [h1]; rfl)
  · exact .inr (nonnil fun H' => by rw [h1]; rfl)
  · refine .inl ⟨h1, h2, ?_⟩
    subst h1
    refine call_ends (fn := s51) rfl rfl (by simp [s51]) ?_
    simp only [s51, R1, R2, R3, R4, R5, R6, R7, R8, AV.flat, fillIn_nil, fillIn_cons, splice, AV.cells, AV.one, eqsOf, idx, SO.calls, List.reduceReplicate, Nat.reduceBEq, Nat.reduceLT, Nat.reduceAdd, Nat.reduceMul, Nat.reduceSub, Nat.reduceLeDiff, Nat.reduceEqDiff, ↓reduceIte, Int.reduceLT, Int.reduceEq, Int.reduceBNe, Int.reduceBEq, aeq, Int.reduceLE, Int.reduceNeg, Int.reduceMul, Int.reduceAdd, Int.reduceSub, Int.reduceToNat, Int.reducePow]
    try rw [tidy_flat0 rfl]
/-- Of so many it is known where they are now. -/
def mixP (l : List Kn) (p : List Pc) (i : Nat) : List Pc := (shiftP l p).take i ++ p.drop i
theorem mixP_len (l : List Kn) (p : List Pc) {i : Nat} (h : i ≤ p.length) : (mixP l p i).length = p.length := by
  unfold mixP; rw [List.length_append, List.length_take, shiftP_len, List.length_drop]; omega
theorem flat_take3 (l : List Pc) : ∀ i, (l.flatMap Pc.cs).take (i * 3) = (l.take i).flatMap Pc.cs := by
  induction l with
  | nil => intro i; simp
  | cons a l ih =>
    intro i
    cases i with
    | zero => simp
    | succ i => rw [List.flatMap_cons, List.take_succ_cons, List.flatMap_cons, ← ih i, show (i + 1) * 3 = i * 3 + 3 by omega]; rfl
theorem flat_drop3 (l : List Pc) : ∀ i, (l.flatMap Pc.cs).drop (i * 3) = (l.drop i).flatMap Pc.cs := by
  induction l with
  | nil => intro i; simp
  | cons a l ih =>
    intro i
    cases i with
    | zero => simp
    | succ i => rw [List.flatMap_cons, List.drop_succ_cons, ← ih i, show (i + 1) * 3 = i * 3 + 3 by omega]; rfl
theorem drop_app {A B : List AV} {n k : Nat} (h : A.length = n) : (A ++ B).drop (n + k) = B.drop k := by rw [← List.drop_drop, List.drop_left' h]
theorem take_app {A B : List AV} {n k : Nat} (h : A.length = n) : (A ++ B).take (n + k) = A ++ B.take k := by rw [List.take_append, List.take_of_length_le (by omega), h, Nat.add_sub_cancel_left]
theorem mix_at {l : List Kn} {p : List Pc} {i : Nat} (h : i < p.length) : ((mixP l p i).flatMap Pc.cs).length = p.length * 3 ∧ (((mixP l p i).flatMap Pc.cs).drop (i * 3 + 1)).take 1 = [.int .i64 p[i].x] ∧
    ((mixP l p i).flatMap Pc.cs).take (i * 3 + 1) ++ AV.int .i64 (p[i].x + mvP l p i) :: ((mixP l p i).flatMap Pc.cs).drop (i * 3 + 1 + 1) = (mixP l p (i + 1)).flatMap Pc.cs := by
  have hS : i < (shiftP l p).length := by rw [shiftP_len]; exact h
  have e1 : (mixP l p i).flatMap Pc.cs = ((shiftP l p).take i).flatMap Pc.cs ++ (.int .i64 p[i].g :: .int .i64 p[i].x :: .int .i64 p[i].y :: (p.drop (i + 1)).flatMap Pc.cs) := by
    unfold mixP
    rw [List.flatMap_append, List.drop_eq_getElem_cons h, List.flatMap_cons]
    rfl
  have e2 : (mixP l p (i + 1)).flatMap Pc.cs = ((shiftP l p).take i).flatMap Pc.cs ++ (.int .i64 p[i].g :: .int .i64 (p[i].x + mvP l p i) :: .int .i64 p[i].y :: (p.drop (i + 1)).flatMap Pc.cs) := by
    unfold mixP
    rw [List.flatMap_append, List.take_succ_eq_append_getElem hS, List.flatMap_append, shiftP_at l p h]
    simp [shOne, Pc.cs]
  have hl : (((shiftP l p).take i).flatMap Pc.cs).length = i * 3 := by rw [flat_len fun a _ => pc_cel.size a, List.length_take]; omega
  refine ⟨by rw [flat_len fun a _ => pc_cel.size a, mixP_len _ _ (by omega)], ?_, ?_⟩
  · rw [e1, drop_app hl]; rfl
  · rw [e1, e2, take_app hl, Nat.add_assoc, drop_app hl]
    simp
end Go.Proofs.Ytppkggodpihfiaa
