/- The reference's Cut; RectLists, in the machine. -/
import Derived.Test.YtkcbjeenoafbkaaC28j
set_option linter.unusedVariables false
set_option linter.unusedSimpArgs false
set_option maxRecDepth 100000
set_option maxHeartbeats 1000000
namespace Go.Proofs.Ytkcbjeenoafbkaa
open Go Go.Den
theorem acc_newSl (H : Heap) (l : List Rect) : Acc H (H ++ (newSl H 112 4 Rect.cs l).2) 112 4 Rect.cs (newSl H 112 4 Rect.cs l).1 l := by
  refine ⟨rect_size l, rect_one l, _, rfl, ?_⟩
  unfold newSl
  by_cases h : l = []
  · rw [if_pos h]; exact .inl ⟨h, rfl⟩
  · rw [if_neg h]; exact .inr ⟨h, 0, rfl, rfl⟩
theorem push_any {H H' : Heap} {v x : AV} {l m : List Rect} (h : Acc H H' 112 4 Rect.cs v l) (hs : SlOf H' 4 Rect.cs x m) (hr : l.length + m.length ≤ 4294967296) :
    ∃ v' H'', aapp H' 112 4 v x = some (v', H'') ∧ Acc H H'' 112 4 Rect.cs v' (l ++ m) ∧ H'.length ≤ H''.length := by
  have hc := sl_cells hs []
  rw [List.append_nil] at hc
  have hn : newOf H' 4 x = some (m.flatMap Rect.cs) := by
    rcases hs.kind with ⟨o, off, cap, row, h1, _⟩ | ⟨n, h1⟩ | ⟨h1, _⟩ <;> subst h1 <;> exact hc
  by_cases hm : m = []
  · subst hm
    refine ⟨v, H', ?_, by rw [List.append_nil]; exact h, Nat.le_refl _⟩
    obtain ⟨X, rfl, hx⟩ := h.heap
    simp only [aapp, hs.len, hn, List.length_nil, if_true]
    rcases hx with ⟨_, h2⟩ | ⟨_, o, h2, _⟩ <;> rw [h2]
  · obtain ⟨v', H'', h1, h2⟩ := h.push hm (rect_size m) (rect_one m) hs.len hn hr
    refine ⟨v', H'', h1, h2, ?_⟩
    have hl : m.length ≠ 0 := by simpa using hm
    have hf := flat_len (rect_size m)
    have ho := all_flatMap_one (rect_one m)
    obtain ⟨X, rfl, hx⟩ := h.heap
    simp only [aapp, hs.len, hn, if_neg hl, hf, ho, and_self, if_true] at h1
    rcases hx with ⟨_, h3⟩ | ⟨_, o, h3, _⟩
    · subst h3
      simp only at h1
      split at h1
      · injection h1 with h1; injection h1 with _ h1; rw [← h1]; simp
      · cases h1
    · subst h3
      simp only at h1
      split at h1
      · split at h1
        · split at h1
          · injection h1 with h1; injection h1 with _ h1; rw [← h1]; simp
          · cases h1
        · cases h1
      · cases h1
/-- The reference's Cut. -/
theorem c67 {H : Heap} {v : AV} {l : List Rect} (r : Rect) (hs : SlOf H 4 Rect.cs v l) (hn : l.length ≤ 10000000) :
    ∃ w X, call env 67 [v, .agg r.cs] H = some (w, H ++ X) ∧ SlOf (H ++ X) 4 Rect.cs w (cutAll (l.filter may) r) := by
  have e0 := c96 (hs.app [.cells r.cs 112 true]) (by omega)
  have hw := newSl_of (H := H ++ [.cells r.cs 112 true]) (e := 112) (rect_size (l.filter may)) (by decide)
  have ha0 := acc_newSl (H ++ [.cells r.cs 112 true]) (l.filter may)
  have hml : (l.filter may).length ≤ 10000000 := Nat.le_trans (List.length_filter_le _ _) hn
  have hmay : ∀ r ∈ l.filter may, May r := by
    intro r hr
    have := (List.mem_filter.1 hr).2
    exact of_decide_eq_true this
  generalize l.filter may = m at e0 hw ha0 hml hmay
  generalize (newSl (H ++ [.cells r.cs 112 true]) 112 4 Rect.cs m).1 = w at e0 hw ha0
  generalize (newSl (H ++ [.cells r.cs 112 true]) 112 4 Rect.cs m).2 = X at e0 hw ha0
  have hK : (H ++ [.cells r.cs 112 true]) ++ X = H ++ (.cells r.cs 112 true :: X) := by simp
  rw [hK] at e0 hw ha0
  have e1 := hw.lenOf
  have er := fun H => c74 r H
  refine ⟨_, _, ?_, newSl_of (e := 112) (rect_size (cutAll m r)) (by decide)⟩
  refine call_ends (fn := s67) rfl rfl (by simp [s67]) ?_
  by_cases hr : May r
  · rw [may_true hr] at er
    have hcut : cutAll m r = m.flatMap fun a => left a r := by unfold cutAll; rw [if_pos hr]
    simp only [Rect.cs, R1, R2, R3, R4, R5, R6, R7, R8, AV.flat, fillIn_nil, fillIn_cons, splice, AV.cells, AV.one, eqsOf, idx, SO.calls, List.reduceReplicate, Nat.reduceBEq, Nat.reduceLT, Nat.reduceAdd, Nat.reduceMul, Nat.reduceSub, Nat.reduceLeDiff, Nat.reduceEqDiff, ↓reduceIte, Int.reduceLT, Int.reduceEq, Int.reduceBNe, Int.reduceBEq, aeq, Int.reduceLE, Int.reduceNeg, Int.reduceMul, Int.reduceAdd, Int.reduceSub, Int.reduceToNat, Int.reducePow] at e0 er
    simp only [s67, Rect.cs, R1, R2, R3, R4, R5, R6, R7, R8, AV.flat, fillIn_nil, fillIn_cons, splice, AV.cells, AV.one, eqsOf, idx, SO.calls, List.reduceReplicate, Nat.reduceBEq, Nat.reduceLT, Nat.reduceAdd, Nat.reduceMul, Nat.reduceSub, Nat.reduceLeDiff, Nat.reduceEqDiff, ↓reduceIte, Int.reduceLT, Int.reduceEq, Int.reduceBNe, Int.reduceBEq, aeq, Int.reduceLE, Int.reduceNeg, Int.reduceMul, Int.reduceAdd, Int.reduceSub, Int.reduceToNat, Int.reducePow, e0, er, e1]
    refine ends_loop (fun k t H' => t.length = 28 ∧ t.getD 0 .undef = w ∧ t.getD 3 .undef = .ptr H.length 0 ∧ ∃ i : Nat, i ≤ m.length ∧ k = m.length - i ∧ t.getD 6 .undef = .int .i64 (i : Int) ∧
      ∃ o, t.getD 5 .undef = o ∧ Acc (H ++ (.cells r.cs 112 true :: X)) H' 112 4 Rect.cs o ((m.take i).flatMap fun a => left a r)) m.length ?_ ?_
    · simp only [R1, R2, R3, R4, R5, R6, R7, R8, AV.flat, fillIn_nil, fillIn_cons, splice, AV.cells, AV.one, eqsOf, idx, SO.calls, List.reduceReplicate, Nat.reduceBEq, Nat.reduceLT, Nat.reduceAdd, Nat.reduceMul, Nat.reduceSub, Nat.reduceLeDiff, Nat.reduceEqDiff, ↓reduceIte, Int.reduceLT, Int.reduceEq, Int.reduceBNe, Int.reduceBEq, aeq, Int.reduceLE, Int.reduceNeg, Int.reduceMul, Int.reduceAdd, Int.reduceSub, Int.reduceToNat, Int.reducePow]
      exact ⟨0, by omega, by omega, rfl, _, rfl, by
        have := Acc.start (H := H ++ (.cells r.cs 112 true :: X)) (e := 112) (sz := 4) (g := Rect.cs)
        simp only [Rect.cs] at this
        exact this⟩
    · rintro k t H' ⟨g1, g2, g4, i, hi, rfl, g5, o, g6, hacc⟩
      rw [← tm_nil t]
      obtain ⟨Y, rfl⟩ := hacc.above
      by_cases hc : i < m.length
      · have e6 : ((i : Int) < (m.length : Int)) = True := eq_true (by omega)
        have e7 := wrap_i64 (x := (i : Int) + 1) (by omega) (by omega)
        have e2 := fun H' => hw.addr hc .i64 H'
        have e3 := fun Z => hw.load hc Z
        have hma := hmay _ (List.getElem_mem hc)
        have hcl := cutTo_len r (m.take i)
        rw [List.length_take] at hcl
        have hll := left_len m[i] r
        obtain ⟨x, X2, e8, h8⟩ := c98 m[i] r (H ++ (.cells r.cs 112 true :: X) ++ Y) hma hr
        obtain ⟨v', H2, e9, ha', hge⟩ := push_any (hacc.junk X2) h8 (by omega)
        rw [← cutTo_succ hc] at ha'
        generalize m[i] = a at e3 e8
        have b1 : (H.length + (X.length + Y.length + 1) ≤ H.length + (X.length + (Y.length + X2.length) + 1)) = True := eq_true (by omega)
        have b2 : (H.length + (X.length + (Y.length + X2.length) + 1) ≤ H2.length) = True := eq_true (by simp at hge; omega)
        simp only [Rect.cs, R1, R2, R3, R4, R5, R6, R7, R8, AV.flat, fillIn_nil, fillIn_cons, splice, AV.cells, AV.one, eqsOf, idx, SO.calls, List.reduceReplicate, Nat.reduceBEq, Nat.reduceLT, Nat.reduceAdd, Nat.reduceMul, Nat.reduceSub, Nat.reduceLeDiff, Nat.reduceEqDiff, ↓reduceIte, Int.reduceLT, Int.reduceEq, Int.reduceBNe, Int.reduceBEq, aeq, Int.reduceLE, Int.reduceNeg, Int.reduceMul, Int.reduceAdd, Int.reduceSub, Int.reduceToNat, Int.reducePow] at e3 e8 e9
        simp only [Rect.cs, R1, R2, R3, R4, R5, R6, R7, R8, AV.flat, fillIn_nil, fillIn_cons, splice, AV.cells, AV.one, eqsOf, idx, SO.calls, List.reduceReplicate, Nat.reduceBEq, Nat.reduceLT, Nat.reduceAdd, Nat.reduceMul, Nat.reduceSub, Nat.reduceLeDiff, Nat.reduceEqDiff, ↓reduceIte, Int.reduceLT, Int.reduceEq, Int.reduceBNe, Int.reduceBEq, aeq, Int.reduceLE, Int.reduceNeg, Int.reduceMul, Int.reduceAdd, Int.reduceSub, Int.reduceToNat, Int.reducePow, g1, g2, g4, g5, g6, e1, e2, e3, e6, e7, e8, e9, b1, b2, veil_none, shun_none, all_skip]
        exact ⟨_, by omega, i + 1, by omega, rfl, by simp, _, rfl, by simpa only [Rect.cs] using ha'⟩
      · have e6 : ((i : Int) < (m.length : Int)) = False := eq_false (by omega)
        have : i = m.length := by omega
        subst this
        rw [List.take_length, ← hcut] at hacc
        have hacc2 := acc_weak (X := .cells r.cs 112 true :: X) hacc
        have ht := hacc2.tidy (rect_flat _)
        simp only [Rect.cs, R1, R2, R3, R4, R5, R6, R7, R8, AV.flat, fillIn_nil, fillIn_cons, splice, AV.cells, AV.one, eqsOf, idx, SO.calls, List.reduceReplicate, Nat.reduceBEq, Nat.reduceLT, Nat.reduceAdd, Nat.reduceMul, Nat.reduceSub, Nat.reduceLeDiff, Nat.reduceEqDiff, ↓reduceIte, Int.reduceLT, Int.reduceEq, Int.reduceBNe, Int.reduceBEq, aeq, Int.reduceLE, Int.reduceNeg, Int.reduceMul, Int.reduceAdd, Int.reduceSub, Int.reduceToNat, Int.reducePow] at ht
        simp only [Rect.cs, R1, R2, R3, R4, R5, R6, R7, R8, AV.flat, fillIn_nil, fillIn_cons, splice, AV.cells, AV.one, eqsOf, idx, SO.calls, List.reduceReplicate, Nat.reduceBEq, Nat.reduceLT, Nat.reduceAdd, Nat.reduceMul, Nat.reduceSub, Nat.reduceLeDiff, Nat.reduceEqDiff, ↓reduceIte, Int.reduceLT, Int.reduceEq, Int.reduceBNe, Int.reduceBEq, aeq, Int.reduceLE, Int.reduceNeg, Int.reduceMul, Int.reduceAdd, Int.reduceSub, Int.reduceToNat, Int.reducePow, g1, g2, g4, g5, g6, e1, e6, ht]
  · rw [may_false hr] at er
    have hcut : cutAll m r = m := by unfold cutAll; rw [if_neg hr]
    rw [hcut]
    have hacc2 := acc_weak (X := [.cells r.cs 112 true]) ha0
    have ht := hacc2.tidy (rect_flat _)
    simp only [Rect.cs, R1, R2, R3, R4, R5, R6, R7, R8, AV.flat, fillIn_nil, fillIn_cons, splice, AV.cells, AV.one, eqsOf, idx, SO.calls, List.reduceReplicate, Nat.reduceBEq, Nat.reduceLT, Nat.reduceAdd, Nat.reduceMul, Nat.reduceSub, Nat.reduceLeDiff, Nat.reduceEqDiff, ↓reduceIte, Int.reduceLT, Int.reduceEq, Int.reduceBNe, Int.reduceBEq, aeq, Int.reduceLE, Int.reduceNeg, Int.reduceMul, Int.reduceAdd, Int.reduceSub, Int.reduceToNat, Int.reducePow] at e0 er ht
    simp only [s67, Rect.cs, R1, R2, R3, R4, R5, R6, R7, R8, AV.flat, fillIn_nil, fillIn_cons, splice, AV.cells, AV.one, eqsOf, idx, SO.calls, List.reduceReplicate, Nat.reduceBEq, Nat.reduceLT, Nat.reduceAdd, Nat.reduceMul, Nat.reduceSub, Nat.reduceLeDiff, Nat.reduceEqDiff, ↓reduceIte, Int.reduceLT, Int.reduceEq, Int.reduceBNe, Int.reduceBEq, aeq, Int.reduceLE, Int.reduceNeg, Int.reduceMul, Int.reduceAdd, Int.reduceSub, Int.reduceToNat, Int.reducePow, e0, er, ht]
end Go.Proofs.Ytkcbjeenoafbkaa
