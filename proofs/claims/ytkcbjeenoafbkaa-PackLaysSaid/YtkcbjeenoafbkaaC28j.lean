/- Cut. -/
import Derived.Test.YtkcbjeenoafbkaaC28i
set_option linter.unusedVariables false
set_option linter.unusedSimpArgs false
set_option maxRecDepth 100000
set_option maxHeartbeats 1000000
namespace Go.Proofs.Ytkcbjeenoafbkaa
open Go Go.Den
/-- Of each what is left. -/
def cutAll (m : List Rect) (r : Rect) : List Rect := if May r then m.flatMap fun a => left a r else m
theorem cutTo_succ {m : List Rect} {r : Rect} {i : Nat} (h : i < m.length) : (m.take (i + 1)).flatMap (fun a => left a r) = (m.take i).flatMap (fun a => left a r) ++ left m[i] r := by
  rw [List.take_succ_eq_append_getElem h, List.flatMap_append]; simp
theorem cutTo_len (r : Rect) : ∀ m : List Rect, (m.flatMap fun a => left a r).length ≤ 4 * m.length
  | [] => by simp
  | a :: m => by
    have := cutTo_len r m
    have := left_len a r
    simp only [List.flatMap_cons, List.length_append, List.length_cons]; omega
theorem acc_weak {H X H' : Heap} {v : AV} {l : List Rect} (h : Acc (H ++ X) H' 112 4 Rect.cs v l) : Acc H H' 112 4 Rect.cs v l := by
  obtain ⟨Z, rfl, hx⟩ := h.heap
  refine ⟨h.size, h.ones, X ++ Z, by simp, ?_⟩
  rcases hx with hx | ⟨h0, o, h1, h2⟩
  · exact .inl hx
  · refine .inr ⟨h0, X.length + o, by rw [h1]; simp [Nat.add_assoc], ?_⟩
    rw [List.getElem?_append_right (by omega), Nat.add_sub_cancel_left]; exact h2
/-- rect.those. -/
theorem c117_x {H : Heap} {v : AV} {l : List Rect} (hs : SlOf H 4 Rect.cs v l) (hn : l.length ≤ 100000000) :
    (l.filter may = [] ∧ call env 117 [v] H = some (.nils, H)) ∨ ∃ cap, call env 117 [v] H = some (.sl H.length 0 (l.filter may).length 4 cap, H ++ [.cells ((l.filter may).flatMap Rect.cs) 112 true]) := by
  have hff : (l.filter fun r => !(!may r)) = l.filter may := by congr 1; funext r; simp
  rcases c127 hs hn with ⟨h0, e1⟩ | ⟨cap, e1⟩
  · subst h0
    refine .inl ⟨rfl, ?_⟩
    have e2 := c126_n H c128
    have tn0 : tidy H .nils H = (.nils, H) := tidy_flat0 rfl
    refine call_ends (fn := s117) rfl rfl (by simp [s117]) ?_
    simp only [s117, R1, R2, R3, R4, R5, R6, R7, R8, AV.flat, fillIn_nil, fillIn_cons, splice, AV.cells, AV.one, eqsOf, idx, SO.calls, List.reduceReplicate, Nat.reduceBEq, Nat.reduceLT, Nat.reduceAdd, Nat.reduceMul, Nat.reduceSub, Nat.reduceLeDiff, Nat.reduceEqDiff, ↓reduceIte, Int.reduceLT, Int.reduceEq, Int.reduceBNe, Int.reduceBEq, aeq, Int.reduceLE, Int.reduceNeg, Int.reduceMul, Int.reduceAdd, Int.reduceSub, Int.reduceToNat, Int.reducePow, e1, e2, tn0]
  · obtain ⟨cap', row, e2, h1, h2, h3⟩ := c126 (H := H) (cap := cap) (l := l) c128 hn
    rw [hff] at e2 h1 h2
    have ht := carry_one (H := H) (X := [.cells row 112 true]) (o := 0) (l := l.filter may) (n := (l.filter may).length) (cap := cap') rfl rfl h1 h2
    rw [Nat.add_zero] at ht
    refine .inr ⟨cap', ?_⟩
    refine call_ends (fn := s117) rfl rfl (by simp [s117]) ?_
    simp only [s117, R1, R2, R3, R4, R5, R6, R7, R8, AV.flat, fillIn_nil, fillIn_cons, splice, AV.cells, AV.one, eqsOf, idx, SO.calls, List.reduceReplicate, Nat.reduceBEq, Nat.reduceLT, Nat.reduceAdd, Nat.reduceMul, Nat.reduceSub, Nat.reduceLeDiff, Nat.reduceEqDiff, ↓reduceIte, Int.reduceLT, Int.reduceEq, Int.reduceBNe, Int.reduceBEq, aeq, Int.reduceLE, Int.reduceNeg, Int.reduceMul, Int.reduceAdd, Int.reduceSub, Int.reduceToNat, Int.reducePow, e1, e2, ht]
theorem c94_n {H : Heap} {v : AV} {l : List Rect} (r : Rect) (hs : SlOf H 4 Rect.cs v l) (hn : l.length ≤ 10000000) (hr : ¬ May r) :
    ∃ w X, call env 94 [v, .agg r.cs] H = some (w, H ++ X) ∧ SlOf (H ++ X) 4 Rect.cs w (cutAll (l.filter may) r) := by
  have er := fun H => c99 r H
  rw [may_false hr] at er
  have hcut : cutAll (l.filter may) r = l.filter may := by unfold cutAll; rw [if_neg hr]
  rw [hcut]
  have tn : ∀ X, tidy H .nils (H ++ X) = (.nils, H) := fun X => tidy_flat rfl
  rcases c117_x (hs.app [.cells r.cs 112 true]) (by omega) with ⟨h0, e0⟩ | ⟨cap, e0⟩
  · refine ⟨.nils, [], ?_, by rw [h0]; exact SlOf.nils (by decide)⟩
    refine call_ends (fn := s94) rfl rfl (by simp [s94]) ?_
    simp only [Rect.cs, R1, R2, R3, R4, R5, R6, R7, R8, AV.flat, fillIn_nil, fillIn_cons, splice, AV.cells, AV.one, eqsOf, idx, SO.calls, List.reduceReplicate, Nat.reduceBEq, Nat.reduceLT, Nat.reduceAdd, Nat.reduceMul, Nat.reduceSub, Nat.reduceLeDiff, Nat.reduceEqDiff, ↓reduceIte, Int.reduceLT, Int.reduceEq, Int.reduceBNe, Int.reduceBEq, aeq, Int.reduceLE, Int.reduceNeg, Int.reduceMul, Int.reduceAdd, Int.reduceSub, Int.reduceToNat, Int.reducePow] at e0 er
    simp only [s94, Rect.cs, R1, R2, R3, R4, R5, R6, R7, R8, AV.flat, fillIn_nil, fillIn_cons, splice, AV.cells, AV.one, eqsOf, idx, SO.calls, List.reduceReplicate, Nat.reduceBEq, Nat.reduceLT, Nat.reduceAdd, Nat.reduceMul, Nat.reduceSub, Nat.reduceLeDiff, Nat.reduceEqDiff, ↓reduceIte, Int.reduceLT, Int.reduceEq, Int.reduceBNe, Int.reduceBEq, aeq, Int.reduceLE, Int.reduceNeg, Int.reduceMul, Int.reduceAdd, Int.reduceSub, Int.reduceToNat, Int.reducePow, e0, er, tn]
  · refine ⟨_, _, ?_, SlOf.row (H := H) (e := 112) (w := true) (cap := cap) (rect_size (l.filter may)) (by decide)⟩
    have ht := carry_one (H := H) (X := [.cells r.cs 112 true, .cells ((l.filter may).flatMap Rect.cs) 112 true]) (o := 1) (l := l.filter may) (n := (l.filter may).length) (cap := cap) (row := (l.filter may).flatMap Rect.cs) rfl rfl (List.take_of_length_le (by rw [flat_len (rect_size _)]; exact Nat.le_refl _)) (by rw [flat_len (rect_size _)]; exact Nat.le_refl _)
    refine call_ends (fn := s94) rfl rfl (by simp [s94]) ?_
    generalize (l.filter may).flatMap Rect.cs = row at e0 ht
    simp only [Rect.cs, R1, R2, R3, R4, R5, R6, R7, R8, AV.flat, fillIn_nil, fillIn_cons, splice, AV.cells, AV.one, eqsOf, idx, SO.calls, List.reduceReplicate, Nat.reduceBEq, Nat.reduceLT, Nat.reduceAdd, Nat.reduceMul, Nat.reduceSub, Nat.reduceLeDiff, Nat.reduceEqDiff, ↓reduceIte, Int.reduceLT, Int.reduceEq, Int.reduceBNe, Int.reduceBEq, aeq, Int.reduceLE, Int.reduceNeg, Int.reduceMul, Int.reduceAdd, Int.reduceSub, Int.reduceToNat, Int.reducePow] at e0 er ht
    simp only [s94, Rect.cs, R1, R2, R3, R4, R5, R6, R7, R8, AV.flat, fillIn_nil, fillIn_cons, splice, AV.cells, AV.one, eqsOf, idx, SO.calls, List.reduceReplicate, Nat.reduceBEq, Nat.reduceLT, Nat.reduceAdd, Nat.reduceMul, Nat.reduceSub, Nat.reduceLeDiff, Nat.reduceEqDiff, ↓reduceIte, Int.reduceLT, Int.reduceEq, Int.reduceBNe, Int.reduceBEq, aeq, Int.reduceLE, Int.reduceNeg, Int.reduceMul, Int.reduceAdd, Int.reduceSub, Int.reduceToNat, Int.reducePow, e0, er, ht]
/-- rect.Cut. -/
theorem c94 {H : Heap} {v : AV} {l : List Rect} (r : Rect) (hs : SlOf H 4 Rect.cs v l) (hn : l.length ≤ 10000000) :
    ∃ w X, call env 94 [v, .agg r.cs] H = some (w, H ++ X) ∧ SlOf (H ++ X) 4 Rect.cs w (cutAll (l.filter may) r) := by
  obtain ⟨w, X, e0, hw⟩ := c117 (hs.app [.cells r.cs 112 true]) (by omega)
  have hml : (l.filter may).length ≤ 10000000 := Nat.le_trans (List.length_filter_le _ _) hn
  have hmay : ∀ r ∈ l.filter may, May r := by
    intro r hr
    have := (List.mem_filter.1 hr).2
    exact of_decide_eq_true this
  have hK : (H ++ [.cells r.cs 112 true]) ++ X = H ++ (.cells r.cs 112 true :: X) := by simp
  by_cases hr : May r
  case neg => exact c94_n r hs hn hr
  generalize l.filter may = m at hw hml hmay
  rw [hK] at hw
  have e1 := hw.lenOf
  have er := fun H => c99 r H
  · rw [may_true hr] at er
    have hcut : cutAll m r = m.flatMap fun a => left a r := by unfold cutAll; rw [if_pos hr]
    refine ⟨_, _, ?_, newSl_of (e := 112) (rect_size (cutAll m r)) (by decide)⟩
    refine call_ends (fn := s94) rfl rfl (by simp [s94]) ?_
    simp only [Rect.cs, R1, R2, R3, R4, R5, R6, R7, R8, AV.flat, fillIn_nil, fillIn_cons, splice, AV.cells, AV.one, eqsOf, idx, SO.calls, List.reduceReplicate, Nat.reduceBEq, Nat.reduceLT, Nat.reduceAdd, Nat.reduceMul, Nat.reduceSub, Nat.reduceLeDiff, Nat.reduceEqDiff, ↓reduceIte, Int.reduceLT, Int.reduceEq, Int.reduceBNe, Int.reduceBEq, aeq, Int.reduceLE, Int.reduceNeg, Int.reduceMul, Int.reduceAdd, Int.reduceSub, Int.reduceToNat, Int.reducePow] at e0 er
    simp only [s94, Rect.cs, R1, R2, R3, R4, R5, R6, R7, R8, AV.flat, fillIn_nil, fillIn_cons, splice, AV.cells, AV.one, eqsOf, idx, SO.calls, List.reduceReplicate, Nat.reduceBEq, Nat.reduceLT, Nat.reduceAdd, Nat.reduceMul, Nat.reduceSub, Nat.reduceLeDiff, Nat.reduceEqDiff, ↓reduceIte, Int.reduceLT, Int.reduceEq, Int.reduceBNe, Int.reduceBEq, aeq, Int.reduceLE, Int.reduceNeg, Int.reduceMul, Int.reduceAdd, Int.reduceSub, Int.reduceToNat, Int.reducePow, e0, er, e1]
    refine ends_loop (fun k t H' => t.length = 26 ∧ t.getD 14 .undef = w ∧ t.getD 15 .undef = .int .i64 (m.length : Int) ∧ t.getD 3 .undef = .ptr H.length 0 ∧ ∃ i : Nat, i ≤ m.length ∧ k = m.length - i ∧ t.getD 16 .undef = .int .i64 (i : Int) ∧
      ∃ o, t.getD 5 .undef = o ∧ Acc (H ++ (.cells r.cs 112 true :: X)) H' 112 4 Rect.cs o ((m.take i).flatMap fun a => left a r)) m.length ?_ ?_
    · simp only [R1, R2, R3, R4, R5, R6, R7, R8, AV.flat, fillIn_nil, fillIn_cons, splice, AV.cells, AV.one, eqsOf, idx, SO.calls, List.reduceReplicate, Nat.reduceBEq, Nat.reduceLT, Nat.reduceAdd, Nat.reduceMul, Nat.reduceSub, Nat.reduceLeDiff, Nat.reduceEqDiff, ↓reduceIte, Int.reduceLT, Int.reduceEq, Int.reduceBNe, Int.reduceBEq, aeq, Int.reduceLE, Int.reduceNeg, Int.reduceMul, Int.reduceAdd, Int.reduceSub, Int.reduceToNat, Int.reducePow]
      exact ⟨0, by omega, by omega, rfl, _, rfl, by
        have := Acc.start (H := H ++ (.cells r.cs 112 true :: X)) (e := 112) (sz := 4) (g := Rect.cs)
        simp only [Rect.cs] at this
        exact this⟩
    · rintro k t H' ⟨g1, g2, g3, g4, i, hi, rfl, g5, o, g6, hacc⟩
      rw [← tm_nil t]
      obtain ⟨Y, rfl⟩ := hacc.above
      by_cases hc : i < m.length
      · have e6 : ((i : Int) < (m.length : Int)) = True := eq_true (by omega)
        have e7 := wrap_i64 (x := (i : Int) + 1) (by omega) (by omega)
        have e2 := fun H' => hw.addr hc .i64 H'
        have e3 := fun Z => hw.load hc Z
        have hma := hmay _ (List.getElem_mem hc)
        have hcl := cutTo_len r (m.take i)
        rw [List.length_take] at hcl
        obtain ⟨v', H2, e9, ha'⟩ := c121 (H0 := H ++ (.cells r.cs 112 true :: X)) (H := H ++ (.cells r.cs 112 true :: X) ++ Y ++ [.cells m[i].cs 112 true]) (l := (m.take i).flatMap fun a => left a r) m[i] r hma hr (hacc.junk _) (by omega)
        rw [← cutTo_succ hc] at ha'
        generalize m[i] = a at e3 e9
        simp only [Rect.cs, R1, R2, R3, R4, R5, R6, R7, R8, AV.flat, fillIn_nil, fillIn_cons, splice, AV.cells, AV.one, eqsOf, idx, SO.calls, List.reduceReplicate, Nat.reduceBEq, Nat.reduceLT, Nat.reduceAdd, Nat.reduceMul, Nat.reduceSub, Nat.reduceLeDiff, Nat.reduceEqDiff, ↓reduceIte, Int.reduceLT, Int.reduceEq, Int.reduceBNe, Int.reduceBEq, aeq, Int.reduceLE, Int.reduceNeg, Int.reduceMul, Int.reduceAdd, Int.reduceSub, Int.reduceToNat, Int.reducePow] at e3 e9
        simp only [Rect.cs, R1, R2, R3, R4, R5, R6, R7, R8, AV.flat, fillIn_nil, fillIn_cons, splice, AV.cells, AV.one, eqsOf, idx, SO.calls, List.reduceReplicate, Nat.reduceBEq, Nat.reduceLT, Nat.reduceAdd, Nat.reduceMul, Nat.reduceSub, Nat.reduceLeDiff, Nat.reduceEqDiff, ↓reduceIte, Int.reduceLT, Int.reduceEq, Int.reduceBNe, Int.reduceBEq, aeq, Int.reduceLE, Int.reduceNeg, Int.reduceMul, Int.reduceAdd, Int.reduceSub, Int.reduceToNat, Int.reducePow, g1, g2, g3, g4, g5, g6, e2, e3, e6, e7, e9]
        exact ⟨_, by omega, i + 1, by omega, rfl, by simp, _, rfl, by simpa only [Rect.cs] using ha'⟩
      · have e6 : ((i : Int) < (m.length : Int)) = False := eq_false (by omega)
        have : i = m.length := by omega
        subst this
        rw [List.take_length, ← hcut] at hacc
        have hacc2 := acc_weak (X := .cells r.cs 112 true :: X) hacc
        have ht := hacc2.tidy (rect_flat _)
        simp only [Rect.cs, R1, R2, R3, R4, R5, R6, R7, R8, AV.flat, fillIn_nil, fillIn_cons, splice, AV.cells, AV.one, eqsOf, idx, SO.calls, List.reduceReplicate, Nat.reduceBEq, Nat.reduceLT, Nat.reduceAdd, Nat.reduceMul, Nat.reduceSub, Nat.reduceLeDiff, Nat.reduceEqDiff, ↓reduceIte, Int.reduceLT, Int.reduceEq, Int.reduceBNe, Int.reduceBEq, aeq, Int.reduceLE, Int.reduceNeg, Int.reduceMul, Int.reduceAdd, Int.reduceSub, Int.reduceToNat, Int.reducePow] at ht
        simp only [Rect.cs, R1, R2, R3, R4, R5, R6, R7, R8, AV.flat, fillIn_nil, fillIn_cons, splice, AV.cells, AV.one, eqsOf, idx, SO.calls, List.reduceReplicate, Nat.reduceBEq, Nat.reduceLT, Nat.reduceAdd, Nat.reduceMul, Nat.reduceSub, Nat.reduceLeDiff, Nat.reduceEqDiff, ↓reduceIte, Int.reduceLT, Int.reduceEq, Int.reduceBNe, Int.reduceBEq, aeq, Int.reduceLE, Int.reduceNeg, Int.reduceMul, Int.reduceAdd, Int.reduceSub, Int.reduceToNat, Int.reducePow, g1, g2, g3, g4, g5, g6, e6, ht]
end Go.Proofs.Ytkcbjeenoafbkaa
