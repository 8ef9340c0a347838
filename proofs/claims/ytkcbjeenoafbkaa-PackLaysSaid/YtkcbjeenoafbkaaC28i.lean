/- The reference's Prune. -/
import Derived.Test.YtkcbjeenoafbkaaC28h
set_option linter.unusedVariables false
set_option linter.unusedSimpArgs false
set_option maxRecDepth 100000
set_option maxHeartbeats 1000000
namespace Go.Proofs.Ytkcbjeenoafbkaa
open Go Go.Den
def bad (m : List Rect) (i k : Nat) : Bool := decide (k ≠ i) && (has (nth m k) (nth m i) && (decide (nth m k ≠ nth m i) || decide (k < i)))
def keepTo (m : List Rect) (i k : Nat) : Bool := (List.range k).all fun j => !bad m i j
theorem keepTo_succ (m : List Rect) (i k : Nat) : keepTo m i (k + 1) = (keepTo m i k && !bad m i k) := by
  simp [keepTo, List.range_succ]
theorem has_self (a : Rect) : has a a = true := has_true ⟨Int.le_refl _, Int.le_refl _, Int.le_refl _, Int.le_refl _⟩
theorem keepTo_stay (m : List Rect) (i : Nat) (hi : i < m.length) : keepTo m i m.length = stay m i := by
  rw [Bool.eq_iff_iff]
  simp only [keepTo, stay, lower, upper, List.all_eq_true, List.mem_range, Bool.not_eq_true', Bool.and_eq_true, List.any_eq_false]
  constructor
  · intro h
    refine ⟨fun b hb => ?_, fun b hb => ?_⟩
    · obtain ⟨k, hk, rfl⟩ := List.mem_iff_getElem.1 hb
      rw [List.length_take] at hk
      have hkm : k < m.length := by omega
      have := h k hkm
      simp only [bad] at this
      rw [List.getElem_take, ← nth_eq hkm]
      intro hh
      rw [hh] at this
      have h1 : decide (k ≠ i) = true := by simp; omega
      have h2 : decide (k < i) = true := by simp; omega
      rw [h1, h2] at this
      simp at this
    · obtain ⟨k, hk, rfl⟩ := List.mem_iff_getElem.1 hb
      rw [List.length_drop] at hk
      have hkm : i + 1 + k < m.length := by omega
      have := h (i + 1 + k) hkm
      simp only [bad] at this
      rw [List.getElem_drop, ← nth_eq hkm]
      have h1 : decide (i + 1 + k ≠ i) = true := by simp; omega
      have h2 : decide (i + 1 + k < i) = false := by simp; omega
      rw [h1, h2] at this
      cases hr : decide (nth m (i + 1 + k) ≠ nth m i)
      · simp
      · rw [hr] at this
        simpa using this
  · rintro ⟨h1, h2⟩ k hk
    unfold bad
    by_cases hki : k = i
    · subst hki; simp
    · by_cases hlt : k < i
      · have := h1 (nth m k) (by
          rw [nth_eq hk]
          exact List.mem_iff_getElem.2 ⟨k, by rw [List.length_take]; omega, by rw [List.getElem_take]⟩)
        simp [this]
      · have := h2 (nth m k) (by
          rw [nth_eq hk]
          exact List.mem_iff_getElem.2 ⟨k - (i + 1), by rw [List.length_drop]; omega, by rw [List.getElem_drop]; congr 1; omega⟩)
        have h4 : decide (k < i) = false := by simp; omega
        rw [h4, Bool.or_false]
        rw [Bool.and_comm (has _ _)]
        have h5 : (decide (nth m k ≠ nth m i) && has (nth m k) (nth m i)) = false := by
          rw [Bool.eq_false_iff]
          intro hh
          rw [Bool.and_eq_true] at hh
          exact this hh
        rw [h5]; simp
theorem rect_eq (r a : Rect) : aeqs [1, 1, 1, 1] [.int .i64 r.x, .int .i64 r.y, .int .i64 r.w, .int .i64 r.h] [.int .i64 a.x, .int .i64 a.y, .int .i64 a.w, .int .i64 a.h] = some (decide (r = a)) := by
  simp only [aeqs, if_true, Option.map_some, Option.some.injEq]
  rw [Bool.eq_iff_iff]
  cases r; cases a
  simp
theorem wantsV_undef {b : Bool} : wantsV .undef b = false := _root_.id rfl
theorem c66 {H : Heap} {v : AV} {l : List Rect} (hs : SlOf H 4 Rect.cs v l) (hn : l.length ≤ 100000000) :
    call env 66 [v] H = some ((newSl H 112 4 Rect.cs (prune (l.filter may))).1, H ++ (newSl H 112 4 Rect.cs (prune (l.filter may))).2) := by
  have e0 := c96 hs hn
  have hw := newSl_of (H := H) (e := 112) (rect_size (l.filter may)) (by decide)
  have hml : (l.filter may).length ≤ 100000000 := Nat.le_trans (List.length_filter_le _ _) hn
  have hmay : ∀ r ∈ l.filter may, May r := by
    intro r hr
    have := (List.mem_filter.1 hr).2
    exact of_decide_eq_true this
  generalize l.filter may = m at e0 hw hml hmay
  generalize (newSl H 112 4 Rect.cs m).1 = w at e0 hw
  generalize (newSl H 112 4 Rect.cs m).2 = X at e0 hw
  have e1 := hw.lenOf
  refine call_ends (fn := s66) rfl rfl (by simp [s66]) ?_
  simp only [s66, R1, R2, R3, R4, R5, R6, R7, R8, AV.flat, fillIn_nil, fillIn_cons, splice, AV.cells, AV.one, eqsOf, idx, SO.calls, List.reduceReplicate, Nat.reduceBEq, Nat.reduceLT, Nat.reduceAdd, Nat.reduceMul, Nat.reduceSub, Nat.reduceLeDiff, Nat.reduceEqDiff, ↓reduceIte, Int.reduceLT, Int.reduceEq, Int.reduceBNe, Int.reduceBEq, aeq, Int.reduceLE, Int.reduceNeg, Int.reduceMul, Int.reduceAdd, Int.reduceSub, Int.reduceToNat, Int.reducePow, e0, e1]
  refine ends_loop (fun k t H' => t.length = 60 ∧ t.getD 0 .undef = w ∧ ∃ i : Nat, i ≤ m.length ∧ k = m.length - i ∧ t.getD 4 .undef = .int .i64 (i : Int) ∧
    ∃ o Y, t.getD 3 .undef = o ∧ H' = H ++ (X ++ Y) ∧ Pushed H H X 112 4 Rect.cs .nils [] H Y o (pruneTo m i)) m.length ?_ ?_
  · simp only [R1, R2, R3, R4, R5, R6, R7, R8, AV.flat, fillIn_nil, fillIn_cons, splice, AV.cells, AV.one, eqsOf, idx, SO.calls, List.reduceReplicate, Nat.reduceBEq, Nat.reduceLT, Nat.reduceAdd, Nat.reduceMul, Nat.reduceSub, Nat.reduceLeDiff, Nat.reduceEqDiff, ↓reduceIte, Int.reduceLT, Int.reduceEq, Int.reduceBNe, Int.reduceBEq, aeq, Int.reduceLE, Int.reduceNeg, Int.reduceMul, Int.reduceAdd, Int.reduceSub, Int.reduceToNat, Int.reducePow]
    exact ⟨0, by omega, by omega, rfl, _, [], rfl, by simp, Pushed.start Acc.start⟩
  · rintro k t H' ⟨g1, g2, i, hi, rfl, g5, o, Y, g6, rfl, hacc⟩
    rw [← tm_nil t]
    by_cases hc : i < m.length
    · have e6 : ((i : Int) < (m.length : Int)) = True := eq_true (by omega)
      simp only [R1, R2, R3, R4, R5, R6, R7, R8, AV.flat, fillIn_nil, fillIn_cons, splice, AV.cells, AV.one, eqsOf, idx, SO.calls, List.reduceReplicate, Nat.reduceBEq, Nat.reduceLT, Nat.reduceAdd, Nat.reduceMul, Nat.reduceSub, Nat.reduceLeDiff, Nat.reduceEqDiff, ↓reduceIte, Int.reduceLT, Int.reduceEq, Int.reduceBNe, Int.reduceBEq, aeq, Int.reduceLE, Int.reduceNeg, Int.reduceMul, Int.reduceAdd, Int.reduceSub, Int.reduceToNat, Int.reducePow, g1, g2, g5, g6, e1, e6]
      refine ends_loop (fun k t H' => t.length = 60 ∧ t.getD 0 .undef = w ∧ t.getD 4 .undef = .int .i64 (i : Int) ∧ t.getD 3 .undef = o ∧ H' = H ++ (X ++ Y) ∧ ∃ j : Nat, j ≤ m.length ∧ k = m.length - j ∧ t.getD 6 .undef = .int .i64 (j : Int) ∧
        t.getD 5 .undef = .bool (keepTo m i j)) m.length ?_ ?_
      · simp only [R1, R2, R3, R4, R5, R6, R7, R8, AV.flat, fillIn_nil, fillIn_cons, splice, AV.cells, AV.one, eqsOf, idx, SO.calls, List.reduceReplicate, Nat.reduceBEq, Nat.reduceLT, Nat.reduceAdd, Nat.reduceMul, Nat.reduceSub, Nat.reduceLeDiff, Nat.reduceEqDiff, ↓reduceIte, Int.reduceLT, Int.reduceEq, Int.reduceBNe, Int.reduceBEq, aeq, Int.reduceLE, Int.reduceNeg, Int.reduceMul, Int.reduceAdd, Int.reduceSub, Int.reduceToNat, Int.reducePow, g1, g2, g5, g6]
        exact ⟨0, by omega, by omega, rfl, rfl⟩
      · rintro k t H' ⟨f1, f2, f3, f4, rfl, j, hj, rfl, f5, f6⟩
        rw [← tm_nil t]
        have e2i := fun H' => hw.addr hc .i64 H'
        have e3i := fun Z => hw.load hc Z
        rw [← nth_eq hc] at e3i
        have hmi := hmay _ (List.getElem_mem hc)
        rw [← nth_eq hc] at hmi
        by_cases hd : j < m.length
        · have d6 : ((j : Int) < (m.length : Int)) = True := eq_true (by omega)
          have d7 := wrap_i64 (x := (j : Int) + 1) (by omega) (by omega)
          have e2j := fun H' => hw.addr hd .i64 H'
          have e3j := fun Z => hw.load hd Z
          rw [← nth_eq hd] at e3j
          have hmj := hmay _ (List.getElem_mem hd)
          rw [← nth_eq hd] at hmj
          have hks := keepTo_succ m i j
          have hb : bad m i j = (decide (j ≠ i) && (has (nth m j) (nth m i) && (decide (nth m j ≠ nth m i) || decide (j < i)))) := rfl
          have ec := fun H => c97 (nth m j) (nth m i) H hmj hmi
          have er := rect_eq (nth m j) (nth m i)
          simp only [List.append_assoc] at e3i e3j
          by_cases hji : j = i
          · have n1 : ((j : Int) != (i : Int)) = false := by subst hji; simp
            have hbf : bad m i j = false := by rw [hb]; simp [hji]
            rw [hbf, Bool.not_false, Bool.and_true] at hks
            simp only [R1, R2, R3, R4, R5, R6, R7, R8, AV.flat, fillIn_nil, fillIn_cons, splice, AV.cells, AV.one, eqsOf, idx, SO.calls, List.reduceReplicate, Nat.reduceBEq, Nat.reduceLT, Nat.reduceAdd, Nat.reduceMul, Nat.reduceSub, Nat.reduceLeDiff, Nat.reduceEqDiff, ↓reduceIte, Int.reduceLT, Int.reduceEq, Int.reduceBNe, Int.reduceBEq, aeq, Int.reduceLE, Int.reduceNeg, Int.reduceMul, Int.reduceAdd, Int.reduceSub, Int.reduceToNat, Int.reducePow, wantsV_undef, f1, f2, f3, f4, f5, f6, e1, d6, d7, n1]
            exact ⟨_, by omega, j + 1, by omega, rfl, by simp, by rw [hks]⟩
          · have n1 : ((j : Int) != (i : Int)) = true := by rw [bne_iff_ne]; omega
            cases hh : has (nth m j) (nth m i)
            · have hbf : bad m i j = false := by rw [hb, hh]; simp
              rw [hbf, Bool.not_false, Bool.and_true] at hks
              rw [hh] at ec
              generalize nth m j = rj at e3j ec
              generalize nth m i = ri at e3i ec
              simp only [Rect.cs, R1, R2, R3, R4, R5, R6, R7, R8, AV.flat, fillIn_nil, fillIn_cons, splice, AV.cells, AV.one, eqsOf, idx, SO.calls, List.reduceReplicate, Nat.reduceBEq, Nat.reduceLT, Nat.reduceAdd, Nat.reduceMul, Nat.reduceSub, Nat.reduceLeDiff, Nat.reduceEqDiff, ↓reduceIte, Int.reduceLT, Int.reduceEq, Int.reduceBNe, Int.reduceBEq, aeq, Int.reduceLE, Int.reduceNeg, Int.reduceMul, Int.reduceAdd, Int.reduceSub, Int.reduceToNat, Int.reducePow] at e3j e3i ec
              simp only [R1, R2, R3, R4, R5, R6, R7, R8, AV.flat, fillIn_nil, fillIn_cons, splice, AV.cells, AV.one, eqsOf, idx, SO.calls, List.reduceReplicate, Nat.reduceBEq, Nat.reduceLT, Nat.reduceAdd, Nat.reduceMul, Nat.reduceSub, Nat.reduceLeDiff, Nat.reduceEqDiff, ↓reduceIte, Int.reduceLT, Int.reduceEq, Int.reduceBNe, Int.reduceBEq, aeq, Int.reduceLE, Int.reduceNeg, Int.reduceMul, Int.reduceAdd, Int.reduceSub, Int.reduceToNat, Int.reducePow, Rect.cs, wantsV_undef, f1, f2, f3, f4, f5, f6, e1, d6, d7, n1, e2i, e2j, e3i, e3j, ec]
              exact ⟨_, by omega, j + 1, by omega, rfl, by simp, by rw [hks]⟩
            · rw [hh] at ec
              by_cases hr : nth m j = nth m i
              · rw [decide_eq_true hr] at er
                by_cases hlt : j < i
                · have n2 : ((j : Int) < (i : Int)) = True := eq_true (by omega)
                  have hbf : bad m i j = true := by rw [hb, hh]; simp [hji, hlt]
                  rw [hbf, Bool.not_true, Bool.and_false] at hks
                  clear hb hbf hr hh
                  generalize nth m j = rj at e3j ec er
                  generalize nth m i = ri at e3i ec er
                  simp only [Rect.cs, R1, R2, R3, R4, R5, R6, R7, R8, AV.flat, fillIn_nil, fillIn_cons, splice, AV.cells, AV.one, eqsOf, idx, SO.calls, List.reduceReplicate, Nat.reduceBEq, Nat.reduceLT, Nat.reduceAdd, Nat.reduceMul, Nat.reduceSub, Nat.reduceLeDiff, Nat.reduceEqDiff, ↓reduceIte, Int.reduceLT, Int.reduceEq, Int.reduceBNe, Int.reduceBEq, aeq, Int.reduceLE, Int.reduceNeg, Int.reduceMul, Int.reduceAdd, Int.reduceSub, Int.reduceToNat, Int.reducePow] at e3j e3i ec
                  simp only [R1, R2, R3, R4, R5, R6, R7, R8, AV.flat, fillIn_nil, fillIn_cons, splice, AV.cells, AV.one, eqsOf, idx, SO.calls, List.reduceReplicate, Nat.reduceBEq, Nat.reduceLT, Nat.reduceAdd, Nat.reduceMul, Nat.reduceSub, Nat.reduceLeDiff, Nat.reduceEqDiff, ↓reduceIte, Int.reduceLT, Int.reduceEq, Int.reduceBNe, Int.reduceBEq, aeq, Int.reduceLE, Int.reduceNeg, Int.reduceMul, Int.reduceAdd, Int.reduceSub, Int.reduceToNat, Int.reducePow, Rect.cs, f1, f2, f3, f4, f5, f6, e1, d6, d7, n1, n2, e2i, e2j, e3i, e3j, ec, er]
                  exact ⟨_, by omega, j + 1, by omega, rfl, by simp, by rw [hks]⟩
                · have n2 : ((j : Int) < (i : Int)) = False := eq_false (by omega)
                  have hbf : bad m i j = false := by rw [hb, hh]; simp [hr, hlt]
                  rw [hbf, Bool.not_false, Bool.and_true] at hks
                  clear hb hbf hr hh
                  generalize nth m j = rj at e3j ec er
                  generalize nth m i = ri at e3i ec er
                  simp only [Rect.cs, R1, R2, R3, R4, R5, R6, R7, R8, AV.flat, fillIn_nil, fillIn_cons, splice, AV.cells, AV.one, eqsOf, idx, SO.calls, List.reduceReplicate, Nat.reduceBEq, Nat.reduceLT, Nat.reduceAdd, Nat.reduceMul, Nat.reduceSub, Nat.reduceLeDiff, Nat.reduceEqDiff, ↓reduceIte, Int.reduceLT, Int.reduceEq, Int.reduceBNe, Int.reduceBEq, aeq, Int.reduceLE, Int.reduceNeg, Int.reduceMul, Int.reduceAdd, Int.reduceSub, Int.reduceToNat, Int.reducePow] at e3j e3i ec
                  simp only [R1, R2, R3, R4, R5, R6, R7, R8, AV.flat, fillIn_nil, fillIn_cons, splice, AV.cells, AV.one, eqsOf, idx, SO.calls, List.reduceReplicate, Nat.reduceBEq, Nat.reduceLT, Nat.reduceAdd, Nat.reduceMul, Nat.reduceSub, Nat.reduceLeDiff, Nat.reduceEqDiff, ↓reduceIte, Int.reduceLT, Int.reduceEq, Int.reduceBNe, Int.reduceBEq, aeq, Int.reduceLE, Int.reduceNeg, Int.reduceMul, Int.reduceAdd, Int.reduceSub, Int.reduceToNat, Int.reducePow, Rect.cs, f1, f2, f3, f4, f5, f6, e1, d6, d7, n1, n2, e2i, e2j, e3i, e3j, ec, er]
                  exact ⟨_, by omega, j + 1, by omega, rfl, by simp, by rw [hks]⟩
              · rw [decide_eq_false hr] at er
                have hbf : bad m i j = true := by rw [hb, hh]; simp [hji, hr]
                rw [hbf, Bool.not_true, Bool.and_false] at hks
                clear hb hbf hr hh
                generalize nth m j = rj at e3j ec er
                generalize nth m i = ri at e3i ec er
                simp only [Rect.cs, R1, R2, R3, R4, R5, R6, R7, R8, AV.flat, fillIn_nil, fillIn_cons, splice, AV.cells, AV.one, eqsOf, idx, SO.calls, List.reduceReplicate, Nat.reduceBEq, Nat.reduceLT, Nat.reduceAdd, Nat.reduceMul, Nat.reduceSub, Nat.reduceLeDiff, Nat.reduceEqDiff, ↓reduceIte, Int.reduceLT, Int.reduceEq, Int.reduceBNe, Int.reduceBEq, aeq, Int.reduceLE, Int.reduceNeg, Int.reduceMul, Int.reduceAdd, Int.reduceSub, Int.reduceToNat, Int.reducePow] at e3j e3i ec
                simp only [R1, R2, R3, R4, R5, R6, R7, R8, AV.flat, fillIn_nil, fillIn_cons, splice, AV.cells, AV.one, eqsOf, idx, SO.calls, List.reduceReplicate, Nat.reduceBEq, Nat.reduceLT, Nat.reduceAdd, Nat.reduceMul, Nat.reduceSub, Nat.reduceLeDiff, Nat.reduceEqDiff, ↓reduceIte, Int.reduceLT, Int.reduceEq, Int.reduceBNe, Int.reduceBEq, aeq, Int.reduceLE, Int.reduceNeg, Int.reduceMul, Int.reduceAdd, Int.reduceSub, Int.reduceToNat, Int.reducePow, Rect.cs, f1, f2, f3, f4, f5, f6, e1, d6, d7, n1, e2i, e2j, e3i, e3j, ec, er]
                exact ⟨_, by omega, j + 1, by omega, rfl, by simp, by rw [hks]⟩
        · have d6 : ((j : Int) < (m.length : Int)) = False := eq_false (by omega)
          have : j = m.length := by omega
          subst this
          rw [keepTo_stay m i hc] at f6
          have e7 := wrap_i64 (x := (i : Int) + 1) (by omega) (by omega)
          have hst : pruneTo m (i + 1) = pruneTo m i ++ (if stay m i then [nth m i] else []) := rfl
          have hpl := pruneTo_len m i
          simp only [List.append_assoc] at e3i
          cases hsy : stay m i
          · rw [hsy] at hst f6
            simp only [Bool.false_eq_true, if_false, List.append_nil] at hst
            simp only [R1, R2, R3, R4, R5, R6, R7, R8, AV.flat, fillIn_nil, fillIn_cons, splice, AV.cells, AV.one, eqsOf, idx, SO.calls, List.reduceReplicate, Nat.reduceBEq, Nat.reduceLT, Nat.reduceAdd, Nat.reduceMul, Nat.reduceSub, Nat.reduceLeDiff, Nat.reduceEqDiff, ↓reduceIte, Int.reduceLT, Int.reduceEq, Int.reduceBNe, Int.reduceBEq, aeq, Int.reduceLE, Int.reduceNeg, Int.reduceMul, Int.reduceAdd, Int.reduceSub, Int.reduceToNat, Int.reducePow, f1, f2, f3, f4, f5, f6, e1, d6, e7]
            exact ⟨_, by omega, i + 1, by omega, rfl, by simp, _, _, rfl, rfl, by rw [hst]; exact hacc⟩
          · rw [hsy] at hst f6
            simp only [if_true] at hst
            obtain ⟨v', K', Y', e9, ha'⟩ := (hacc.junk [.cells (nth m i).cs 112 true]).push (n := [nth m i]) (x := .sl (H.length + (X.length + Y.length)) 0 1 4 (some 1)) (by simp) (rect_size _) (rect_one _) rfl
              (by
                simp only [newOf, acells, List.append_assoc]
                rw [← Nat.add_zero Y.length, aload_end, aload_end, aload_end]
                simp [aload, arow, Rect.cs]) (by simp; omega)
            obtain rfl := pushed_same ha'
            rw [← hst] at ha'
            generalize nth m i = r at e3i e9
            simp only [Rect.cs, R1, R2, R3, R4, R5, R6, R7, R8, AV.flat, fillIn_nil, fillIn_cons, splice, AV.cells, AV.one, eqsOf, idx, SO.calls, List.reduceReplicate, Nat.reduceBEq, Nat.reduceLT, Nat.reduceAdd, Nat.reduceMul, Nat.reduceSub, Nat.reduceLeDiff, Nat.reduceEqDiff, ↓reduceIte, Int.reduceLT, Int.reduceEq, Int.reduceBNe, Int.reduceBEq, aeq, Int.reduceLE, Int.reduceNeg, Int.reduceMul, Int.reduceAdd, Int.reduceSub, Int.reduceToNat, Int.reducePow] at e3i e9
            simp only [Rect.cs, R1, R2, R3, R4, R5, R6, R7, R8, AV.flat, fillIn_nil, fillIn_cons, splice, AV.cells, AV.one, eqsOf, idx, SO.calls, List.reduceReplicate, Nat.reduceBEq, Nat.reduceLT, Nat.reduceAdd, Nat.reduceMul, Nat.reduceSub, Nat.reduceLeDiff, Nat.reduceEqDiff, ↓reduceIte, Int.reduceLT, Int.reduceEq, Int.reduceBNe, Int.reduceBEq, aeq, Int.reduceLE, Int.reduceNeg, Int.reduceMul, Int.reduceAdd, Int.reduceSub, Int.reduceToNat, Int.reducePow, f1, f2, f3, f4, f5, f6, e1, e2i, e3i, d6, e7, e9]
            exact ⟨_, by omega, i + 1, by omega, rfl, by simp, _, Y', rfl, rfl, ha'⟩
    · have e6 : ((i : Int) < (m.length : Int)) = False := eq_false (by omega)
      have : i = m.length := by omega
      subst this
      simp only [R1, R2, R3, R4, R5, R6, R7, R8, AV.flat, fillIn_nil, fillIn_cons, splice, AV.cells, AV.one, eqsOf, idx, SO.calls, List.reduceReplicate, Nat.reduceBEq, Nat.reduceLT, Nat.reduceAdd, Nat.reduceMul, Nat.reduceSub, Nat.reduceLeDiff, Nat.reduceEqDiff, ↓reduceIte, Int.reduceLT, Int.reduceEq, Int.reduceBNe, Int.reduceBEq, aeq, Int.reduceLE, Int.reduceNeg, Int.reduceMul, Int.reduceAdd, Int.reduceSub, Int.reduceToNat, Int.reducePow, g1, g2, g5, g6, e1, e6]
      have hacc2 := pushed_acc hacc
      rw [hacc2.tidy (rect_flat _)]
      rfl
end Go.Proofs.Ytkcbjeenoafbkaa
