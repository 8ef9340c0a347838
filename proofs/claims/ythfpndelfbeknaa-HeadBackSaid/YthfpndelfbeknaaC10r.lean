/- Chapter 10: tables that are the same; HeadBack, in the machine. -/
import Derived.Test.YthfpndelfbeknaaC10q
import Derived.Test.YthfpndelfbeknaaC10j
set_option linter.unusedVariables false
set_option linter.unusedSimpArgs false
set_option maxRecDepth 100000
set_option maxHeartbeats 1000000
namespace Go.Proofs.Ythfpndelfbeknaa
open Go Go.Den
theorem mkS_beq (a : List UInt8) : (mkS a == mkS a) = true := by show (mkS a).data == (mkS a).data; simp
theorem tabs_same {H : Heap} {v w : AV} {l : List Tab} (hs : SlOf H 2 Tab.cs v l) (hw : SlOf H 2 Tab.cs w l) (hn : l.length ≤ 1000000) :
    call env 48 [v, w] H = some (.bool true, H) := by
  have e1 := hs.lenOf
  have e2 := hw.lenOf
  refine call_ends (fn := s48) rfl rfl (by simp [s48]) ?_
  simp only [s48, R1, R2, R3, R4, R5, R6, R7, R8, AV.flat, fillIn_nil, fillIn_cons, splice, AV.cells, AV.one, eqsOf, idx, SO.calls, List.reduceReplicate, Nat.reduceBEq, Nat.reduceLT, Nat.reduceAdd, Nat.reduceMul, Nat.reduceSub, Nat.reduceLeDiff, Nat.reduceEqDiff, ↓reduceIte, Int.reduceLT, Int.reduceEq, Int.reduceBNe, Int.reduceBEq, aeq, Int.reduceLE, Int.reduceNeg, Int.reduceMul, Int.reduceAdd, Int.reduceSub, Int.reduceToNat, Int.reducePow, e1, e2, bne_self_eq_false]
  refine ends_loop (fun k t H' => t.length = 26 ∧ H' = H ∧ t.getD 0 .undef = v ∧ t.getD 1 .undef = w ∧ ∃ i : Nat, i ≤ l.length ∧ k = l.length - i ∧ t.getD 5 .undef = .int .i64 (i : Int)) l.length ?_ ?_
  · simp only [R1, R2, R3, R4, R5, R6, R7, R8, AV.flat, fillIn_nil, fillIn_cons, splice, AV.cells, AV.one, eqsOf, idx, SO.calls, List.reduceReplicate, Nat.reduceBEq, Nat.reduceLT, Nat.reduceAdd, Nat.reduceMul, Nat.reduceSub, Nat.reduceLeDiff, Nat.reduceEqDiff, ↓reduceIte, Int.reduceLT, Int.reduceEq, Int.reduceBNe, Int.reduceBEq, aeq, Int.reduceLE, Int.reduceNeg, Int.reduceMul, Int.reduceAdd, Int.reduceSub, Int.reduceToNat, Int.reducePow]
    exact ⟨0, by omega, by omega, rfl⟩
  · rintro k t H' ⟨g1, rfl, g2, g3, i, hi, rfl, g5⟩
    rw [← tm_nil t]
    by_cases hc : i < l.length
    · have a1 : ((i : Int) < (l.length : Int)) = True := eq_true (by omega)
      have v1 := wrap_i64 (x := (i : Int) + 1) (by omega) (by omega)
      have E := hs.elem0 hc
      have F := hw.elem0 hc
      simp only [Tab.cs] at E F
      simp only [R1, R2, R3, R4, R5, R6, R7, R8, AV.flat, fillIn_nil, fillIn_cons, splice, AV.cells, AV.one, eqsOf, idx, SO.calls, List.reduceReplicate, Nat.reduceBEq, Nat.reduceLT, Nat.reduceAdd, Nat.reduceMul, Nat.reduceSub, Nat.reduceLeDiff, Nat.reduceEqDiff, ↓reduceIte, Int.reduceLT, Int.reduceEq, Int.reduceBNe, Int.reduceBEq, aeq, Int.reduceLE, Int.reduceNeg, Int.reduceMul, Int.reduceAdd, Int.reduceSub, Int.reduceToNat, Int.reducePow, g1, g2, g3, g5, e1, a1, v1, E, F, shun_un, veil_un, aeqs, mkS_beq, Bool.and_self, Bool.not_true]
      exact ⟨l.length - (i + 1), by omega, i + 1, by omega, rfl, by simp⟩
    · have a1 : ((i : Int) < (l.length : Int)) = False := eq_false (by omega)
      simp only [R1, R2, R3, R4, R5, R6, R7, R8, AV.flat, fillIn_nil, fillIn_cons, splice, AV.cells, AV.one, eqsOf, idx, SO.calls, List.reduceReplicate, Nat.reduceBEq, Nat.reduceLT, Nat.reduceAdd, Nat.reduceMul, Nat.reduceSub, Nat.reduceLeDiff, Nat.reduceEqDiff, ↓reduceIte, Int.reduceLT, Int.reduceEq, Int.reduceBNe, Int.reduceBEq, aeq, Int.reduceLE, Int.reduceNeg, Int.reduceMul, Int.reduceAdd, Int.reduceSub, Int.reduceToNat, Int.reducePow, g1, g2, g3, g5, e1, a1, tidy_bool]

theorem make_cs (h : Hd) : ∀ a ∈ MakeH h, (Tab.cs a).length = 2 := fun a _ => rfl
theorem back_parse {h : Hd} (m : MayH h) (b : AO) (X : Heap) : call env 47 [.sl 1 0 3 2 (some 3)] ([b, rowT (MakeH h)] ++ X) = some (.tup [.agg h.cs, .int .i64 0], [b, rowT (MakeH h)] ++ X) := by
  have hs : SlOf ([b] ++ [rowT (MakeH h)]) 2 Tab.cs (.sl 1 0 3 2 (some 3)) (MakeH h) := SlOf.row (H := [b]) (l := MakeH h) (make_cs h) (by decide)
  have := c47 (hs.app X) (by simp [MakeH]) (fun t ht => by simp only [MakeH, List.mem_cons, List.not_mem_nil, or_false] at ht; rcases ht with rfl | rfl | rfl <;> exact Nat.le_of_ble_eq_true rfl)
  rwa [make_back m] at this
theorem back_same {h : Hd} (b c : AO) : call env 48 [.sl 1 0 3 2 (some 3), .sl 3 0 3 2 (some 3)] [b, rowT (MakeH h), c, rowT (MakeH h)] = some (.bool true, [b, rowT (MakeH h), c, rowT (MakeH h)]) := by
  have hs : SlOf ([b] ++ [rowT (MakeH h)]) 2 Tab.cs (.sl 1 0 3 2 (some 3)) (MakeH h) := SlOf.row (H := [b]) (l := MakeH h) (make_cs h) (by decide)
  have hw : SlOf ([b, rowT (MakeH h), c] ++ [rowT (MakeH h)]) 2 Tab.cs (.sl 3 0 3 2 (some 3)) (MakeH h) := SlOf.row (H := [b, rowT (MakeH h), c]) (l := MakeH h) (make_cs h) (by decide)
  exact tabs_same (hs.app [c, rowT (MakeH h)]) hw (by simp [MakeH])
theorem c11 (h : Hd) : call env 11 [.agg h.cs] [] = some (.bool true, []) := by
  have e0 := fun H => w43 H
  have e1 := fun H => c45 h H
  have e2 := fun H => c46 h H
  by_cases m : MayH h
  · rw [decide_eq_true m] at e1 e2
    have q1 := fun H => is_make m H
    have q2 := fun b X => back_parse m b X
    have q3 := fun H => made_ref h H
    have q4 := fun b c => @back_same h b c
    generalize rowT (MakeH h) = row at *
    simp only [Hd.cs, List.cons_append, List.nil_append] at e1 e2 q1 q2 q3 ⊢
    refine call_ends (fn := s11) rfl rfl (by simp [s11]) ?_
    simp only [s11, R1, R2, R3, R4, R5, R6, R7, R8, AV.flat, fillIn_nil, fillIn_cons, splice, AV.cells, AV.one, eqsOf, idx, SO.calls, List.reduceReplicate, Nat.reduceBEq, Nat.reduceLT, Nat.reduceAdd, Nat.reduceMul, Nat.reduceSub, Nat.reduceLeDiff, Nat.reduceEqDiff, ↓reduceIte, Int.reduceLT, Int.reduceEq, Int.reduceBNe, Int.reduceBEq, aeq, Int.reduceLE, Int.reduceNeg, Int.reduceMul, Int.reduceAdd, Int.reduceSub, Int.reduceToNat, Int.reducePow, e0, e1, e2, q1, q2, q3, q4, aeqs, bne_self_eq_false, shun_un, veil_un, beq_self_eq_true, Bool.and_self]
  · rw [decide_eq_false m] at e1 e2
    have q1 := fun H => no_make m H
    simp only [Hd.cs] at e1 e2 q1 ⊢
    refine call_ends (fn := s11) rfl rfl (by simp [s11]) ?_
    simp only [s11, R1, R2, R3, R4, R5, R6, R7, R8, AV.flat, fillIn_nil, fillIn_cons, splice, AV.cells, AV.one, eqsOf, idx, SO.calls, List.reduceReplicate, Nat.reduceBEq, Nat.reduceLT, Nat.reduceAdd, Nat.reduceMul, Nat.reduceSub, Nat.reduceLeDiff, Nat.reduceEqDiff, ↓reduceIte, Int.reduceLT, Int.reduceEq, Int.reduceBNe, Int.reduceBEq, aeq, Int.reduceLE, Int.reduceNeg, Int.reduceMul, Int.reduceAdd, Int.reduceSub, Int.reduceToNat, Int.reducePow, e0, e1, e2, q1, aeqs, bne_self_eq_false, shun_un, veil_un, beq_self_eq_true, Bool.and_self]
end Go.Proofs.Ythfpndelfbeknaa
