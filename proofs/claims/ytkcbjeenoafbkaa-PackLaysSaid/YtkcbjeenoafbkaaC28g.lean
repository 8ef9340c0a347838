/- Those that may be; parts of slices. -/
import Derived.Test.YtkcbjeenoafbkaaC28f
set_option linter.unusedVariables false
set_option linter.unusedSimpArgs false
set_option maxRecDepth 100000
set_option maxHeartbeats 1000000
namespace Go.Proofs.Ytkcbjeenoafbkaa
open Go Go.Den
theorem row_app28 {H X : Heap} {o : Nat} {x : AO} (h : H[o]? = some x) : (H ++ X)[o]? = some x := getElem?_keep h
theorem c128 : PredAll 128 [] (fun r => !may r) := by
  intro H r
  have e1 := fun H => c99 r H
  refine call_ends (fn := s128) rfl rfl (by simp [s128]) ?_
  simp only [Rect.cs] at e1
  simp only [s128, Rect.cs, R1, R2, R3, R4, R5, R6, R7, R8, AV.flat, fillIn_nil, fillIn_cons, splice, AV.cells, AV.one, eqsOf, idx, SO.calls, List.reduceReplicate, Nat.reduceBEq, Nat.reduceLT, Nat.reduceAdd, Nat.reduceMul, Nat.reduceSub, Nat.reduceLeDiff, Nat.reduceEqDiff, ↓reduceIte, Int.reduceLT, Int.reduceEq, Int.reduceBNe, Int.reduceBEq, aeq, Int.reduceLE, Int.reduceNeg, Int.reduceMul, Int.reduceAdd, Int.reduceSub, Int.reduceToNat, Int.reducePow, e1, tidy_bool']
theorem c126_n {f : Nat} {cp : List AV} (H : Heap) (hp : PredAll f cp (fun r => !may r)) : call env 126 [.nils, .fn f cp] H = some (.nils, H) := by
  have hs : SlOf H 4 Rect.cs .nils ([] : List Rect) := SlOf.nils (by decide)
  have e1 := c129 hs (f := f) (cap := cp) (q := fun r => !may r) (fun X r hr => hp _ r) (by simp)
  have hfi : findI (fun r => !may r) [] = -1 := rfl
  have tn0 : tidy H .nils H = (.nils, H) := tidy_flat0 rfl
  rw [hfi] at e1
  refine call_ends (fn := s126) rfl rfl (by simp [s126]) ?_
  simp only [s126, R1, R2, R3, R4, R5, R6, R7, R8, AV.flat, fillIn_nil, fillIn_cons, splice, AV.cells, AV.one, eqsOf, idx, SO.calls, List.reduceReplicate, Nat.reduceBEq, Nat.reduceLT, Nat.reduceAdd, Nat.reduceMul, Nat.reduceSub, Nat.reduceLeDiff, Nat.reduceEqDiff, ↓reduceIte, Int.reduceLT, Int.reduceEq, Int.reduceBNe, Int.reduceBEq, aeq, Int.reduceLE, Int.reduceNeg, Int.reduceMul, Int.reduceAdd, Int.reduceSub, Int.reduceToNat, Int.reducePow, e1, tn0]
/-- rect.those. -/
theorem c117 {H : Heap} {v : AV} {l : List Rect} (hs : SlOf H 4 Rect.cs v l) (hn : l.length ≤ 100000000) :
    ∃ w X, call env 117 [v] H = some (w, H ++ X) ∧ SlOf (H ++ X) 4 Rect.cs w (l.filter may) := by
  have hff : (l.filter fun r => !(!may r)) = l.filter may := by congr 1; funext r; simp
  rcases c127 hs hn with ⟨h0, e1⟩ | ⟨cap, e1⟩
  · subst h0
    refine ⟨.nils, [], ?_, SlOf.nils (by decide)⟩
    have e2 := c126_n H c128
    have tn0 : tidy H .nils H = (.nils, H) := tidy_flat0 rfl
    refine call_ends (fn := s117) rfl rfl (by simp [s117]) ?_
    simp only [s117, R1, R2, R3, R4, R5, R6, R7, R8, AV.flat, fillIn_nil, fillIn_cons, splice, AV.cells, AV.one, eqsOf, idx, SO.calls, List.reduceReplicate, Nat.reduceBEq, Nat.reduceLT, Nat.reduceAdd, Nat.reduceMul, Nat.reduceSub, Nat.reduceLeDiff, Nat.reduceEqDiff, ↓reduceIte, Int.reduceLT, Int.reduceEq, Int.reduceBNe, Int.reduceBEq, aeq, Int.reduceLE, Int.reduceNeg, Int.reduceMul, Int.reduceAdd, Int.reduceSub, Int.reduceToNat, Int.reducePow, e1, e2, tn0]
  · obtain ⟨cap', row, e2, h1, h2, h3⟩ := c126 (H := H) (cap := cap) (l := l) c128 hn
    rw [hff] at e2 h1 h2
    have ht := carry_one (H := H) (X := [.cells row 112 true]) (o := 0) (l := l.filter may) (n := (l.filter may).length) (cap := cap') rfl rfl h1 h2
    rw [Nat.add_zero] at ht
    refine ⟨_, _, ?_, SlOf.row (H := H) (e := 112) (w := true) (cap := cap') (rect_size (l.filter may)) (by decide)⟩
    refine call_ends (fn := s117) rfl rfl (by simp [s117]) ?_
    simp only [s117, R1, R2, R3, R4, R5, R6, R7, R8, AV.flat, fillIn_nil, fillIn_cons, splice, AV.cells, AV.one, eqsOf, idx, SO.calls, List.reduceReplicate, Nat.reduceBEq, Nat.reduceLT, Nat.reduceAdd, Nat.reduceMul, Nat.reduceSub, Nat.reduceLeDiff, Nat.reduceEqDiff, ↓reduceIte, Int.reduceLT, Int.reduceEq, Int.reduceBNe, Int.reduceBEq, aeq, Int.reduceLE, Int.reduceNeg, Int.reduceMul, Int.reduceAdd, Int.reduceSub, Int.reduceToNat, Int.reducePow, e1, e2, ht]
theorem flat_takeMul {l : List Rect} (i : Nat) : (l.flatMap Rect.cs).take (i * 4) = (l.take i).flatMap Rect.cs := by
  by_cases h : i ≤ l.length
  · have e : l = l.take i ++ l.drop i := (List.take_append_drop i l).symm
    conv => lhs; rw [e]
    rw [List.flatMap_append, List.take_left']
    rw [flat_len (rect_size _), List.length_take]; omega
  · rw [List.take_of_length_le (by rw [flat_len (rect_size _)]; omega), List.take_of_length_le (by omega)]
theorem flat_dropMul {l : List Rect} (i : Nat) : (l.flatMap Rect.cs).drop (i * 4) = (l.drop i).flatMap Rect.cs := by
  by_cases h : i ≤ l.length
  · have e : l = l.take i ++ l.drop i := (List.take_append_drop i l).symm
    conv => lhs; rw [e]
    rw [List.flatMap_append, List.drop_left']
    rw [flat_len (rect_size _), List.length_take]; omega
  · rw [List.drop_of_length_le (by rw [flat_len (rect_size _)]; omega), List.drop_of_length_le (by omega)]; rfl
theorem cut_hi {H : Heap} {v : AV} {l : List Rect} (h : SlOf H 4 Rect.cs v l) {i : Nat} (hi : i ≤ l.length) (hne : l ≠ []) :
    ∃ v', (∀ H', slcOf 4 v (some none) (some (some i)) (some none) H' = some (v', H')) ∧ SlOf H 4 Rect.cs v' (l.take i) := by
  have hlt : (l.take i).length = i := by rw [List.length_take]; omega
  rcases h.kind with ⟨o, off, cap, row, h1, h2, h3, h4⟩ | ⟨n, h1⟩ | ⟨h1, h2⟩
  · subst h1
    refine ⟨_, fun H' => slc_hi hi, by simp [alen, hlt], rect_size _, by decide, .inl ⟨o, off, _, row, by rw [hlt], h2, ?_, by rw [hlt]; omega⟩⟩
    rw [hlt, ← flat_takeMul, ← h3, List.take_take, Nat.min_eq_left (by omega)]
  · subst h1
    have hn : n = l.length := by have := h.len; simpa [alen] using this
    subst hn
    refine ⟨.vs ((l.take i).flatMap Rect.cs) i, fun H' => ?_, by simp [alen, hlt], rect_size _, by decide, .inr (.inl ⟨i, rfl⟩)⟩
    simp only [slcOf, alen, Option.bind_some, acut, Option.getD_some, Option.getD_none]
    rw [if_pos ⟨Nat.zero_le _, hi⟩]
    simp [flat_takeMul]
  · exact absurd h2 hne
theorem cut_lo {H : Heap} {v : AV} {l : List Rect} (h : SlOf H 4 Rect.cs v l) {i : Nat} (hi : i ≤ l.length) (hne : l ≠ []) :
    ∃ v', (∀ H', slcOf 4 v (some (some i)) (some none) (some none) H' = some (v', H')) ∧ SlOf H 4 Rect.cs v' (l.drop i) := by
  have hlt : (l.drop i).length = l.length - i := by rw [List.length_drop]
  rcases h.kind with ⟨o, off, cap, row, h1, h2, h3, h4⟩ | ⟨n, h1⟩ | ⟨h1, h2⟩
  · subst h1
    refine ⟨_, fun H' => slc_lo hi, by simp [alen, hlt], rect_size _, by decide, .inl ⟨o, off + i * 4, _, row, by rw [hlt], h2, ?_, by rw [hlt]; omega⟩⟩
    rw [hlt, ← flat_dropMul, ← h3, List.drop_take, List.drop_drop]
    congr 1
    omega
  · subst h1
    have hn : n = l.length := by have := h.len; simpa [alen] using this
    subst hn
    refine ⟨.vs ((l.drop i).flatMap Rect.cs) (l.length - i), fun H' => ?_, by simp [alen, hlt], rect_size _, by decide, .inr (.inl ⟨_, rfl⟩)⟩
    simp only [slcOf, alen, Option.bind_some, acut, Option.getD_some, Option.getD_none]
    rw [if_pos ⟨hi, Nat.le_refl _⟩]
    rw [flat_dropMul, List.take_of_length_le (by rw [flat_len (rect_size _), hlt]; exact Nat.le_refl _)]
    rfl
  · exact absurd h2 hne
/-- the closures of Prune. -/
theorem c119 {H : Heap} {o : Nat} (r a : Rect) (hr : May r) (ha : May a) (h : H[o]? = some (.cells a.cs 112 true)) : call env 119 [.agg r.cs, .ptr o 0] H = some (.bool (has r a), H) := by
  have e1 := fun H => c100 r a H hr ha
  have e2 := fun n off X => aload_row (n := n) (off := off) (row_app28 (X := X) h)
  refine call_ends (fn := s119) rfl rfl (by simp [s119]) ?_
  simp only [Rect.cs] at e1 e2
  simp only [s119, Rect.cs, R1, R2, R3, R4, R5, R6, R7, R8, AV.flat, fillIn_nil, fillIn_cons, splice, AV.cells, AV.one, eqsOf, idx, SO.calls, List.reduceReplicate, Nat.reduceBEq, Nat.reduceLT, Nat.reduceAdd, Nat.reduceMul, Nat.reduceSub, Nat.reduceLeDiff, Nat.reduceEqDiff, ↓reduceIte, Int.reduceLT, Int.reduceEq, Int.reduceBNe, Int.reduceBEq, aeq, Int.reduceLE, Int.reduceNeg, Int.reduceMul, Int.reduceAdd, Int.reduceSub, Int.reduceToNat, Int.reducePow, e1, e2, tidy_bool']
theorem c120 {H : Heap} {o : Nat} (r a : Rect) (hr : May r) (ha : May a) (h : H[o]? = some (.cells a.cs 112 true)) : call env 120 [.agg r.cs, .ptr o 0] H = some (.bool (decide (r ≠ a) && has r a), H) := by
  have e1 := fun H => c100 r a H hr ha
  have e2 := fun n off X => aload_row (n := n) (off := off) (row_app28 (X := X) h)
  refine call_ends (fn := s120) rfl rfl (by simp [s120]) ?_
  simp only [Rect.cs] at e1 e2
  have e3 : aeqs [1, 1, 1, 1] [.int .i64 r.x, .int .i64 r.y, .int .i64 r.w, .int .i64 r.h] [.int .i64 a.x, .int .i64 a.y, .int .i64 a.w, .int .i64 a.h] = some (decide (r = a)) := by
    simp only [aeqs, if_true, Option.map_some, Option.some.injEq]
    rw [Bool.eq_iff_iff]
    cases r; cases a
    simp
  by_cases hra : r = a
  · rw [decide_eq_true hra] at e3
    have e4 : decide (r ≠ a) = false := by simp [hra]
    simp only [s120, Rect.cs, R1, R2, R3, R4, R5, R6, R7, R8, AV.flat, fillIn_nil, fillIn_cons, splice, AV.cells, AV.one, eqsOf, idx, SO.calls, List.reduceReplicate, Nat.reduceBEq, Nat.reduceLT, Nat.reduceAdd, Nat.reduceMul, Nat.reduceSub, Nat.reduceLeDiff, Nat.reduceEqDiff, ↓reduceIte, Int.reduceLT, Int.reduceEq, Int.reduceBNe, Int.reduceBEq, aeq, Int.reduceLE, Int.reduceNeg, Int.reduceMul, Int.reduceAdd, Int.reduceSub, Int.reduceToNat, Int.reducePow, e1, e2, e3, e4, tidy_bool']
  · rw [decide_eq_false hra] at e3
    have e4 : decide (r ≠ a) = true := by simp [hra]
    simp only [s120, Rect.cs, R1, R2, R3, R4, R5, R6, R7, R8, AV.flat, fillIn_nil, fillIn_cons, splice, AV.cells, AV.one, eqsOf, idx, SO.calls, List.reduceReplicate, Nat.reduceBEq, Nat.reduceLT, Nat.reduceAdd, Nat.reduceMul, Nat.reduceSub, Nat.reduceLeDiff, Nat.reduceEqDiff, ↓reduceIte, Int.reduceLT, Int.reduceEq, Int.reduceBNe, Int.reduceBEq, aeq, Int.reduceLE, Int.reduceNeg, Int.reduceMul, Int.reduceAdd, Int.reduceSub, Int.reduceToNat, Int.reducePow, e1, e2, e3, e4, tidy_bool']
end Go.Proofs.Ytkcbjeenoafbkaa
