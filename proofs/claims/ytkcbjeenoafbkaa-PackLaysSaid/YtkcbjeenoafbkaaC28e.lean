/- Those that may be. -/
import Derived.Test.YtkcbjeenoafbkaaC28d
set_option linter.unusedVariables false
set_option linter.unusedSimpArgs false
set_option maxRecDepth 100000
set_option maxHeartbeats 1000000
namespace Go.Proofs.Ytkcbjeenoafbkaa
open Go Go.Den
theorem sl_cells {H : Heap} {v : AV} {l : List Rect} (h : SlOf H 4 Rect.cs v l) (X : Heap) : acells (H ++ X) v = some (l.flatMap Rect.cs) := by
  rcases h.kind with ⟨o, off, cap, row, h1, h2, h3, h4⟩ | ⟨n, h1⟩ | ⟨h1, h2⟩
  · subst h1
    simp only [acells, aload, arow_app h2, if_pos h4, h3]
  · subst h1; rfl
  · subst h1 h2; rfl
/-- The reference's those. -/
theorem c96 {H : Heap} {v : AV} {l : List Rect} (hs : SlOf H 4 Rect.cs v l) (hn : l.length ≤ 100000000) :
    call env 96 [v] H = some ((newSl H 112 4 Rect.cs (l.filter may)).1, H ++ (newSl H 112 4 Rect.cs (l.filter may)).2) := by
  have e1 := hs.lenOf
  refine call_ends (fn := s96) rfl rfl (by simp [s96]) ?_
  simp only [s96, R1, R2, R3, R4, R5, R6, R7, R8, AV.flat, fillIn_nil, fillIn_cons, splice, AV.cells, AV.one, eqsOf, idx, SO.calls, List.reduceReplicate, Nat.reduceBEq, Nat.reduceLT, Nat.reduceAdd, Nat.reduceMul, Nat.reduceSub, Nat.reduceLeDiff, Nat.reduceEqDiff, ↓reduceIte, Int.reduceLT, Int.reduceEq, Int.reduceBNe, Int.reduceBEq, aeq, Int.reduceLE, Int.reduceNeg, Int.reduceMul, Int.reduceAdd, Int.reduceSub, Int.reduceToNat, Int.reducePow, e1]
  refine ends_loop (fun k t H' => t.length = 24 ∧ t.getD 0 .undef = v ∧ ∃ i : Nat, i ≤ l.length ∧ k = l.length - i ∧ t.getD 4 .undef = .int .i64 (i : Int) ∧ ∃ o, t.getD 3 .undef = o ∧ Acc H H' 112 4 Rect.cs o ((l.take i).filter may)) l.length ?_ ?_
  · simp only [R1, R2, R3, R4, R5, R6, R7, R8, AV.flat, fillIn_nil, fillIn_cons, splice, AV.cells, AV.one, eqsOf, idx, SO.calls, List.reduceReplicate, Nat.reduceBEq, Nat.reduceLT, Nat.reduceAdd, Nat.reduceMul, Nat.reduceSub, Nat.reduceLeDiff, Nat.reduceEqDiff, ↓reduceIte, Int.reduceLT, Int.reduceEq, Int.reduceBNe, Int.reduceBEq, aeq, Int.reduceLE, Int.reduceNeg, Int.reduceMul, Int.reduceAdd, Int.reduceSub, Int.reduceToNat, Int.reducePow]
    exact ⟨0, by omega, by omega, rfl, _, rfl, Acc.start⟩
  · rintro k t H' ⟨g1, g2, i, hi, rfl, g3, o, g4, hacc⟩
    rw [← tm_nil t]
    obtain ⟨X, rfl⟩ := hacc.above
    by_cases hc : i < l.length
    · have e6 : ((i : Int) < (l.length : Int)) = True := eq_true (by omega)
      have e2 := fun H' => hs.addr hc .i64 H'
      have e3 := fun X => hs.load hc X
      have e7 := wrap_i64 (x := (i : Int) + 1) (by omega) (by omega)
      have e8 := fun H => c74 l[i] H
      have htk : (l.take (i + 1)).filter may = (l.take i).filter may ++ (if may l[i] then [l[i]] else []) := by
        rw [List.take_succ_eq_append_getElem hc, List.filter_append]
        cases hq : may l[i] <;> simp [hq]
      have hlen : ((l.take i).filter may).length ≤ l.length := by
        have := List.length_filter_le may (l.take i)
        rw [List.length_take] at this; omega
      cases hmy : may l[i]
      · rw [hmy] at e8 htk
        simp only [Bool.false_eq_true, if_false, List.append_nil] at htk
        generalize l[i] = r at e3 e8
        simp only [Rect.cs, R1, R2, R3, R4, R5, R6, R7, R8, AV.flat, fillIn_nil, fillIn_cons, splice, AV.cells, AV.one, eqsOf, idx, SO.calls, List.reduceReplicate, Nat.reduceBEq, Nat.reduceLT, Nat.reduceAdd, Nat.reduceMul, Nat.reduceSub, Nat.reduceLeDiff, Nat.reduceEqDiff, ↓reduceIte, Int.reduceLT, Int.reduceEq, Int.reduceBNe, Int.reduceBEq, aeq, Int.reduceLE, Int.reduceNeg, Int.reduceMul, Int.reduceAdd, Int.reduceSub, Int.reduceToNat, Int.reducePow] at e3 e8
        simp only [Rect.cs, R1, R2, R3, R4, R5, R6, R7, R8, AV.flat, fillIn_nil, fillIn_cons, splice, AV.cells, AV.one, eqsOf, idx, SO.calls, List.reduceReplicate, Nat.reduceBEq, Nat.reduceLT, Nat.reduceAdd, Nat.reduceMul, Nat.reduceSub, Nat.reduceLeDiff, Nat.reduceEqDiff, ↓reduceIte, Int.reduceLT, Int.reduceEq, Int.reduceBNe, Int.reduceBEq, aeq, Int.reduceLE, Int.reduceNeg, Int.reduceMul, Int.reduceAdd, Int.reduceSub, Int.reduceToNat, Int.reducePow, g1, g2, g3, g4, e1, e2, e3, e6, e7, e8]
        exact ⟨_, by omega, i + 1, by omega, rfl, by simp, _, rfl, by rw [htk]; exact hacc⟩
      · rw [hmy] at e8 htk
        simp only [if_true] at htk
        obtain ⟨v', H'', e9, ha'⟩ := (hacc.junk [.cells l[i].cs 112 true]).push (m := [l[i]]) (x := .sl (H.length + X.length) 0 1 4 (some 1)) (by simp) (rect_size _) (rect_one _) rfl
          (by simp only [newOf, acells, R1, R2, R3, R4, R5, R6, R7, R8, AV.flat, fillIn_nil, fillIn_cons, splice, AV.cells, AV.one, eqsOf, idx, SO.calls, List.reduceReplicate, Nat.reduceBEq, Nat.reduceLT, Nat.reduceAdd, Nat.reduceMul, Nat.reduceSub, Nat.reduceLeDiff, Nat.reduceEqDiff, ↓reduceIte, Int.reduceLT, Int.reduceEq, Int.reduceBNe, Int.reduceBEq, aeq, Int.reduceLE, Int.reduceNeg, Int.reduceMul, Int.reduceAdd, Int.reduceSub, Int.reduceToNat, Int.reducePow]; simp [Rect.cs]) (by simp; omega)
        rw [← htk] at ha'
        generalize l[i] = r at e3 e8 e9
        simp only [Rect.cs, R1, R2, R3, R4, R5, R6, R7, R8, AV.flat, fillIn_nil, fillIn_cons, splice, AV.cells, AV.one, eqsOf, idx, SO.calls, List.reduceReplicate, Nat.reduceBEq, Nat.reduceLT, Nat.reduceAdd, Nat.reduceMul, Nat.reduceSub, Nat.reduceLeDiff, Nat.reduceEqDiff, ↓reduceIte, Int.reduceLT, Int.reduceEq, Int.reduceBNe, Int.reduceBEq, aeq, Int.reduceLE, Int.reduceNeg, Int.reduceMul, Int.reduceAdd, Int.reduceSub, Int.reduceToNat, Int.reducePow] at e3 e8 e9
        simp only [Rect.cs, R1, R2, R3, R4, R5, R6, R7, R8, AV.flat, fillIn_nil, fillIn_cons, splice, AV.cells, AV.one, eqsOf, idx, SO.calls, List.reduceReplicate, Nat.reduceBEq, Nat.reduceLT, Nat.reduceAdd, Nat.reduceMul, Nat.reduceSub, Nat.reduceLeDiff, Nat.reduceEqDiff, ↓reduceIte, Int.reduceLT, Int.reduceEq, Int.reduceBNe, Int.reduceBEq, aeq, Int.reduceLE, Int.reduceNeg, Int.reduceMul, Int.reduceAdd, Int.reduceSub, Int.reduceToNat, Int.reducePow, g1, g2, g3, g4, e1, e2, e3, e6, e7, e8, e9]
        exact ⟨_, by omega, i + 1, by omega, rfl, by simp, _, rfl, ha'⟩
    · have e6 : ((i : Int) < (l.length : Int)) = False := eq_false (by omega)
      have : i = l.length := by omega
      subst this
      rw [List.take_length] at hacc
      simp only [R1, R2, R3, R4, R5, R6, R7, R8, AV.flat, fillIn_nil, fillIn_cons, splice, AV.cells, AV.one, eqsOf, idx, SO.calls, List.reduceReplicate, Nat.reduceBEq, Nat.reduceLT, Nat.reduceAdd, Nat.reduceMul, Nat.reduceSub, Nat.reduceLeDiff, Nat.reduceEqDiff, ↓reduceIte, Int.reduceLT, Int.reduceEq, Int.reduceBNe, Int.reduceBEq, aeq, Int.reduceLE, Int.reduceNeg, Int.reduceMul, Int.reduceAdd, Int.reduceSub, Int.reduceToNat, Int.reducePow, g1, g2, g3, g4, e1, e6]
      rw [hacc.tidy (rect_flat _)]
theorem carry_one {H X : Heap} {o : Nat} {l : List Rect} {n : Nat} {cap : Option Nat} {row : List AV} (hx : X[o]? = some (.cells row 112 true)) (hn : n = l.length) (hr : row.take (n * 4) = l.flatMap Rect.cs) (hle : n * 4 ≤ row.length) :
    tidy H (.sl (H.length + o) 0 n 4 cap) (H ++ X) = (.sl H.length 0 n 4 cap, H ++ [.cells (l.flatMap Rect.cs) 112 true]) := by
  have hfl : (l.flatMap Rect.cs).all AV.flat = true := by
    simp only [List.all_flatMap, List.all_eq_true]
    intro r _ a ha
    simp [Rect.cs] at ha
    rcases ha with rfl | rfl | rfl | rfl <;> rfl
  have hH : (H ++ X)[H.length + o]? = some (.cells row 112 true) := by
    rw [List.getElem?_append_right (by omega), Nat.add_sub_cancel_left]; exact hx
  have hc : (AV.sl (H.length + o) 0 n 4 cap).carry H.length (H ++ X) ([], []) = some (.sl (H.length + 0) 0 n 4 cap, [H.length + o], [.cells (l.flatMap Rect.cs) 112 true]) := by
    simp only [AV.carry]
    rw [if_neg (by omega)]
    simp only [hH, List.drop_zero, hr, unders, leadss_flat hfl, Nat.zero_add, hle, show whole 112 = false by decide, Bool.true_or, List.contains_nil, and_self, if_true, List.length_nil, List.nil_append]
  simp only [tidy, keepOld_append, if_true, hc, Nat.add_zero, List.take_left]
/-- slices.Clone. -/
theorem c127 {H : Heap} {v : AV} {l : List Rect} (hs : SlOf H 4 Rect.cs v l) (hn : l.length ≤ 100000000) :
    (l = [] ∧ call env 127 [v] H = some (.nils, H)) ∨ ∃ cap, call env 127 [v] H = some (.sl H.length 0 l.length 4 cap, H ++ [.cells (l.flatMap Rect.cs) 112 true]) := by
  have hfl := flat_len (rect_size l)
  have hcl := sl_cells hs
  have hlen := hs.len
  have tn : ∀ X, tidy H .nils (H ++ X) = (.nils, H) := fun X => tidy_flat rfl
  have tn0 : tidy H .nils H = (.nils, H) := tidy_flat0 rfl
  by_cases hv : v = .nils
  · subst hv
    have hl : l = [] := by
      simp only [alen, Option.some.injEq] at hlen
      exact List.length_eq_zero_iff.1 hlen.symm
    refine .inl ⟨hl, ?_⟩
    refine call_ends (fn := s127) rfl rfl (by simp [s127]) ?_
    simp only [s127, R1, R2, R3, R4, R5, R6, R7, R8, AV.flat, fillIn_nil, fillIn_cons, splice, AV.cells, AV.one, eqsOf, idx, SO.calls, List.reduceReplicate, Nat.reduceBEq, Nat.reduceLT, Nat.reduceAdd, Nat.reduceMul, Nat.reduceSub, Nat.reduceLeDiff, Nat.reduceEqDiff, ↓reduceIte, Int.reduceLT, Int.reduceEq, Int.reduceBNe, Int.reduceBEq, aeq, Int.reduceLE, Int.reduceNeg, Int.reduceMul, Int.reduceAdd, Int.reduceSub, Int.reduceToNat, Int.reducePow, tn0]
  · have hk : (∃ o off len sz c, v = .sl o off len sz c) ∨ (∃ c n, v = .vs c n) := by
      rcases hs.kind with ⟨o, off, cap, row, h1, _⟩ | ⟨n, h1⟩ | ⟨h1, _⟩
      · exact .inl ⟨_, _, _, _, _, h1⟩
      · exact .inr ⟨_, _, h1⟩
      · exact absurd h1 hv
    have hnew : newOf (H ++ [.cells [] 112 true]) 4 v = some (l.flatMap Rect.cs) := by
      have := hcl [.cells [] 112 true]
      rcases hs.kind with ⟨o, off, cap, row, h1, _⟩ | ⟨n, h1⟩ | ⟨h1, _⟩
      · subst h1; exact this
      · subst h1; exact this
      · subst h1; exact this
    by_cases h0 : l = []
    · refine .inr ⟨some 0, ?_⟩
      have ha : aapp (H ++ [.cells [] 112 true]) 112 4 (.sl H.length 0 0 4 (some 0)) v = some (.sl H.length 0 0 4 (some 0), H ++ [.cells [] 112 true]) := by
        simp only [aapp, hlen, hnew]
        rw [if_pos (by rw [h0]; rfl)]
      have ht := carry_one (H := H) (X := [.cells [] 112 true]) (o := 0) (l := []) (n := 0) (cap := some 0) (row := []) rfl rfl rfl (by simp)
      subst h0
      refine call_ends (fn := s127) rfl rfl (by simp [s127]) ?_
      simp only [Nat.add_zero] at ht
      rcases hk with ⟨o, off, len, sz, c, rfl⟩ | ⟨c, n, rfl⟩ <;> simp only [s127, R1, R2, R3, R4, R5, R6, R7, R8, AV.flat, fillIn_nil, fillIn_cons, splice, AV.cells, AV.one, eqsOf, idx, SO.calls, List.reduceReplicate, Nat.reduceBEq, Nat.reduceLT, Nat.reduceAdd, Nat.reduceMul, Nat.reduceSub, Nat.reduceLeDiff, Nat.reduceEqDiff, ↓reduceIte, Int.reduceLT, Int.reduceEq, Int.reduceBNe, Int.reduceBEq, aeq, Int.reduceLE, Int.reduceNeg, Int.reduceMul, Int.reduceAdd, Int.reduceSub, Int.reduceToNat, Int.reducePow, ha, ht]
    · refine .inr ⟨none, ?_⟩
      have hl0 : l.length ≠ 0 := by simpa using h0
      have hone : (l.flatMap Rect.cs).all AV.one = true := all_flatMap_one (rect_one l)
      have hr' : roomy (0 + l.length) = true := by simp [roomy]; omega
      have ha : aapp (H ++ [.cells [] 112 true]) 112 4 (.sl H.length 0 0 4 (some 0)) v = some (.sl (H.length + 1) 0 l.length 4 none, H ++ [.cells [] 112 true, .cells (l.flatMap Rect.cs) 112 true]) := by
        have hrow : (H ++ [AO.cells [] 112 true])[H.length]? = some (.cells [] 112 true) := by simp
        have hgt : 0 + l.length > 0 := by omega
        simp only [aapp, hlen, hnew, if_neg hl0, hfl, hone, and_self, if_true, hrow, hr', hgt]
        simp
      have ht := carry_one (H := H) (X := [.cells [] 112 true, .cells (l.flatMap Rect.cs) 112 true]) (o := 1) (l := l) (n := l.length) (cap := none) (row := l.flatMap Rect.cs) rfl rfl (List.take_of_length_le (by omega)) (by omega)
      refine call_ends (fn := s127) rfl rfl (by simp [s127]) ?_
      rcases hk with ⟨o, off, len, sz, c, rfl⟩ | ⟨c, n, rfl⟩ <;> simp only [s127, R1, R2, R3, R4, R5, R6, R7, R8, AV.flat, fillIn_nil, fillIn_cons, splice, AV.cells, AV.one, eqsOf, idx, SO.calls, List.reduceReplicate, Nat.reduceBEq, Nat.reduceLT, Nat.reduceAdd, Nat.reduceMul, Nat.reduceSub, Nat.reduceLeDiff, Nat.reduceEqDiff, ↓reduceIte, Int.reduceLT, Int.reduceEq, Int.reduceBNe, Int.reduceBEq, aeq, Int.reduceLE, Int.reduceNeg, Int.reduceMul, Int.reduceAdd, Int.reduceSub, Int.reduceToNat, Int.reducePow, ha, ht]
end Go.Proofs.Ytkcbjeenoafbkaa
