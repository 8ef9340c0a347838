/- Chapter 29: the best piece. -/
import Derived.Test.YtkcbjeenoafbkaaC29d
import Derived.Test.YtkcbjeenoafbkaaLeftX
set_option linter.unusedVariables false
set_option linter.unusedSimpArgs false
set_option maxRecDepth 100000
set_option maxHeartbeats 4000000
namespace Go.Proofs.Ytkcbjeenoafbkaa
open Go Go.Den
def bestV (f : List Rect) (w h : Int) : Rect := match best f w h with | none => z4 | some j => nth f j
theorem c92 {H : Heap} {v : AV} {f : List Rect} (hs : SlOf H 4 Rect.cs v f) (hn : f.length ≤ 100000000) (hsm : ∀ r ∈ f, SmallR r) {w h : Int} (hw : -2000000 ≤ w ∧ w ≤ 2000000) (hh : -2000000 ≤ h ∧ h ≤ 2000000) :
    call env 92 [v, .agg [.int .i64 w, .int .i64 h]] H = some (.tup [.agg (bestV f w h).cs, .bool (best f w h).isSome], H) := by
  have l1 := hs.lenOf
  refine call_ends (fn := s92) rfl rfl (by simp [s92]) ?_
  simp only [s92, R1, R2, R3, R4, R5, R6, R7, R8, AV.flat, fillIn_nil, fillIn_cons, splice, AV.cells, AV.one, eqsOf, idx, SO.calls, List.reduceReplicate, Nat.reduceBEq, Nat.reduceLT, Nat.reduceAdd, Nat.reduceMul, Nat.reduceSub, Nat.reduceLeDiff, Nat.reduceEqDiff, ↓reduceIte, Int.reduceLT, Int.reduceEq, Int.reduceBNe, Int.reduceBEq, aeq, Int.reduceLE, Int.reduceNeg, Int.reduceMul, Int.reduceAdd, Int.reduceSub, Int.reduceToNat, Int.reducePow, l1]
  refine ends_loop (fun k t H' => t.length = 34 ∧ (t.getD 3 .undef = .ptr H.length 0 ∧ t.getD 4 .undef = .ptr (H.length + 1) 0 ∧ t.getD 6 .undef = .ptr (H.length + 2) 0 ∧ t.getD 10 .undef = v ∧ t.getD 11 .undef = .int .i64 (f.length : Int)) ∧
    ∃ (i : Nat) (o : Rect) (b : Bool) (X : Heap), i ≤ f.length ∧ k = f.length - i ∧ t.getD 12 .undef = .int .i64 (i : Int) ∧ t.getD 7 .undef = .bool b ∧
      H' = H ++ (.cells [.int .i64 w, .int .i64 h] 61 true :: .cells [.int .i64 0, .int .i64 0, .int .i64 0, .int .i64 0] 112 true :: .cells o.cs 112 true :: X) ∧
      ((bestAt f w h i = none ∧ b = false ∧ o = z4) ∨ ∃ j, bestAt f w h i = some j ∧ b = true ∧ o = nth f j)) f.length ?_ ?_
  · simp only [R1, R2, R3, R4, R5, R6, R7, R8, AV.flat, fillIn_nil, fillIn_cons, splice, AV.cells, AV.one, eqsOf, idx, SO.calls, List.reduceReplicate, Nat.reduceBEq, Nat.reduceLT, Nat.reduceAdd, Nat.reduceMul, Nat.reduceSub, Nat.reduceLeDiff, Nat.reduceEqDiff, ↓reduceIte, Int.reduceLT, Int.reduceEq, Int.reduceBNe, Int.reduceBEq, aeq, Int.reduceLE, Int.reduceNeg, Int.reduceMul, Int.reduceAdd, Int.reduceSub, Int.reduceToNat, Int.reducePow]
    exact ⟨0, z4, false, [], by omega, by omega, rfl, rfl, rfl, .inl ⟨rfl, rfl, rfl⟩⟩
  · rintro k t _ ⟨g1, ⟨g2, g3, g4, g5, g6⟩, i, o, b, X, hi, rfl, g7, g8, rfl, hb⟩
    rw [← tm_nil t]
    by_cases hc : i < f.length
    · have a1 : ((i : Int) < (f.length : Int)) = True := eq_true (by omega)
      have w1 : IntKind.i64.wrap ((i : Int) + 1) = ((i + 1 : Nat) : Int) := by rw [wrap_i64 (by omega) (by omega)]; rfl
      have E := hs.elem hc
      have hnth : nth f i = f[i] := nth_eq hc
      have hsi := hsm _ (List.getElem_mem hc)
      have hsj : ∀ j, bestAt f w h i = some j → SmallR (nth f j) := fun j hj => hsm _ (by rw [nth_eq (by have := bestAt_lt hj; omega)]; exact List.getElem_mem _)
      have hb1 : bestAt f w h (i + 1) = match bestAt f w h i with
        | none => if fitR (nth f i) w h then some i else none
        | some j => if fitR (nth f i) w h && betR (nth f i) (nth f j) w h then some i else some j := rfl
      have e1 := fun H => c115 (nth f i) w h H
      rw [← hnth] at E hsi
      generalize hq : nth f i = q at *
      by_cases hf : fitR q w h = true
      · rw [hf] at e1 hb1
        rcases hb with ⟨hb, rfl, rfl⟩ | ⟨j, hb, rfl, rfl⟩
        · rw [hb] at hb1
          simp only [if_true] at hb1
          obtain ⟨q1, q2, q3, q4⟩ := q
          simp only [Rect.cs, z4] at E e1 ⊢
          simp only [R1, R2, R3, R4, R5, R6, R7, R8, AV.flat, fillIn_nil, fillIn_cons, splice, AV.cells, AV.one, eqsOf, idx, SO.calls, List.reduceReplicate, Nat.reduceBEq, Nat.reduceLT, Nat.reduceAdd, Nat.reduceMul, Nat.reduceSub, Nat.reduceLeDiff, Nat.reduceEqDiff, ↓reduceIte, Int.reduceLT, Int.reduceEq, Int.reduceBNe, Int.reduceBEq, aeq, Int.reduceLE, Int.reduceNeg, Int.reduceMul, Int.reduceAdd, Int.reduceSub, Int.reduceToNat, Int.reducePow, g1, g2, g3, g4, g5, g6, g7, g8, a1, w1, E, e1]
          exact ⟨_, by omega, i + 1, ⟨q1, q2, q3, q4⟩, true, _, by omega, rfl, rfl, rfl, rfl, .inr ⟨i, hb1, rfl, by rw [hq]⟩⟩
        · rw [hb] at hb1
          simp only [Bool.true_and] at hb1
          have e2 := fun H => c116 q (nth f j) w h H hsi (hsj j hb) hw hh
          have hcb := cmpR_bet q (nth f j) w h
          generalize hp : nth f j = p at *
          generalize cmpR q p w h = z at *
          by_cases hbt : betR q p w h = true
          · rw [hbt] at hb1
            simp only [if_true] at hb1
            have c1 := eq_true (hcb.2 hbt)
            obtain ⟨q1, q2, q3, q4⟩ := q
            obtain ⟨p1, p2, p3, p4⟩ := p
            simp only [Rect.cs] at E e1 e2 ⊢
            simp only [R1, R2, R3, R4, R5, R6, R7, R8, AV.flat, fillIn_nil, fillIn_cons, splice, AV.cells, AV.one, eqsOf, idx, SO.calls, List.reduceReplicate, Nat.reduceBEq, Nat.reduceLT, Nat.reduceAdd, Nat.reduceMul, Nat.reduceSub, Nat.reduceLeDiff, Nat.reduceEqDiff, ↓reduceIte, Int.reduceLT, Int.reduceEq, Int.reduceBNe, Int.reduceBEq, aeq, Int.reduceLE, Int.reduceNeg, Int.reduceMul, Int.reduceAdd, Int.reduceSub, Int.reduceToNat, Int.reducePow, g1, g2, g3, g4, g5, g6, g7, g8, a1, w1, E, e1, e2, c1]
            exact ⟨_, by omega, i + 1, ⟨q1, q2, q3, q4⟩, true, _, by omega, rfl, rfl, rfl, rfl, .inr ⟨i, hb1, rfl, by rw [hq]⟩⟩
          · have c1 := eq_false (fun hz => hbt (hcb.1 hz))
            rw [if_neg hbt] at hb1
            obtain ⟨q1, q2, q3, q4⟩ := q
            obtain ⟨p1, p2, p3, p4⟩ := p
            simp only [Rect.cs] at E e1 e2 ⊢
            simp only [R1, R2, R3, R4, R5, R6, R7, R8, AV.flat, fillIn_nil, fillIn_cons, splice, AV.cells, AV.one, eqsOf, idx, SO.calls, List.reduceReplicate, Nat.reduceBEq, Nat.reduceLT, Nat.reduceAdd, Nat.reduceMul, Nat.reduceSub, Nat.reduceLeDiff, Nat.reduceEqDiff, ↓reduceIte, Int.reduceLT, Int.reduceEq, Int.reduceBNe, Int.reduceBEq, aeq, Int.reduceLE, Int.reduceNeg, Int.reduceMul, Int.reduceAdd, Int.reduceSub, Int.reduceToNat, Int.reducePow, g1, g2, g3, g4, g5, g6, g7, g8, a1, w1, E, e1, e2, c1]
            exact ⟨_, by omega, i + 1, ⟨p1, p2, p3, p4⟩, true, _, by omega, rfl, rfl, rfl, rfl, .inr ⟨j, hb1, rfl, by rw [hp]⟩⟩
      · have hf := Bool.eq_false_iff.2 hf
        rw [hf] at e1 hb1
        have hb2 : bestAt f w h (i + 1) = bestAt f w h i := by rw [hb1]; cases bestAt f w h i <;> rfl
        rw [← hb2] at hb
        obtain ⟨q1, q2, q3, q4⟩ := q
        obtain ⟨o1, o2, o3, o4⟩ := o
        simp only [Rect.cs] at E e1 ⊢
        simp only [R1, R2, R3, R4, R5, R6, R7, R8, AV.flat, fillIn_nil, fillIn_cons, splice, AV.cells, AV.one, eqsOf, idx, SO.calls, List.reduceReplicate, Nat.reduceBEq, Nat.reduceLT, Nat.reduceAdd, Nat.reduceMul, Nat.reduceSub, Nat.reduceLeDiff, Nat.reduceEqDiff, ↓reduceIte, Int.reduceLT, Int.reduceEq, Int.reduceBNe, Int.reduceBEq, aeq, Int.reduceLE, Int.reduceNeg, Int.reduceMul, Int.reduceAdd, Int.reduceSub, Int.reduceToNat, Int.reducePow, g1, g2, g3, g4, g5, g6, g7, g8, a1, w1, E, e1]
        exact ⟨_, by omega, i + 1, ⟨o1, o2, o3, o4⟩, b, _, by omega, rfl, rfl, rfl, rfl, hb⟩
    · have a1 : ((i : Int) < (f.length : Int)) = False := eq_false (by omega)
      obtain rfl : i = f.length := by omega
      have hv : bestV f w h = o ∧ (best f w h).isSome = b := by
        unfold bestV best
        rcases hb with ⟨hb, rfl, rfl⟩ | ⟨j, hb, rfl, rfl⟩ <;> rw [hb] <;> exact ⟨rfl, rfl⟩
      rw [hv.1, hv.2]
      obtain ⟨o1, o2, o3, o4⟩ := o
      simp only [Rect.cs]
      simp only [R1, R2, R3, R4, R5, R6, R7, R8, AV.flat, fillIn_nil, fillIn_cons, splice, AV.cells, AV.one, eqsOf, idx, SO.calls, List.reduceReplicate, Nat.reduceBEq, Nat.reduceLT, Nat.reduceAdd, Nat.reduceMul, Nat.reduceSub, Nat.reduceLeDiff, Nat.reduceEqDiff, ↓reduceIte, Int.reduceLT, Int.reduceEq, Int.reduceBNe, Int.reduceBEq, aeq, Int.reduceLE, Int.reduceNeg, Int.reduceMul, Int.reduceAdd, Int.reduceSub, Int.reduceToNat, Int.reducePow, g1, g2, g3, g4, g5, g6, g7, g8, a1]
      first | rw [tidy_still rfl] | rw [tidy_tup rfl]
def lexP : List Int → List Int → Bool
  | a :: l, b :: m => if a ≠ b then decide (a < b) else lexP l m
  | _, _ => false
theorem betR_lex (a b : Rect) (w h : Int) : betR a b w h = lexP [min (a.w - w) (a.h - h), max (a.w - w) (a.h - h), a.y, a.x] [min (b.w - w) (b.h - h), max (b.w - w) (b.h - h), b.y, b.x] := by
  unfold betR
  simp only [lexP]
  have hl : (decide (a.x < b.x)) = if a.x ≠ b.x then decide (a.x < b.x) else false := by
    by_cases h : a.x = b.x <;> simp [h]
  rw [← hl]
theorem c95 (a b : Rect) (w h : Int) (H : Heap) (ha : SmallR a) (hb : SmallR b) (hw : -2000000 ≤ w ∧ w ≤ 2000000) (hh : -2000000 ≤ h ∧ h ≤ 2000000) :
    call env 95 [.agg a.cs, .agg b.cs, .int .i64 w, .int .i64 h] H = some (.bool (betR a b w h), H) := by
  rw [betR_lex]
  obtain ⟨a1, a2, a3, a4⟩ := a
  obtain ⟨b1, b2, b3, b4⟩ := b
  unfold SmallR at ha hb
  simp only at ha hb
  have w1 := wrap_i64 (x := a3 - w) (by omega) (by omega)
  have w2 := wrap_i64 (x := a4 - h) (by omega) (by omega)
  have w3 := wrap_i64 (x := b3 - w) (by omega) (by omega)
  have w4 := wrap_i64 (x := b4 - h) (by omega) (by omega)
  simp only [Rect.cs]
  have sx := (@slrow (H ++ [.cells [.int .i64 a1, .int .i64 a2, .int .i64 a3, .int .i64 a4] 112 true, .cells [.int .i64 b1, .int .i64 b2, .int .i64 b3, .int .i64 b4] 112 true]) [min (a3 - w) (a4 - h), max (a3 - w) (a4 - h), a2, a1] (some 4)).app [.cells ([min (b3 - w) (b4 - h), max (b3 - w) (b4 - h), b2, b1].flatMap IntC) 3 true]
  have sy := @slrow (H ++ [.cells [.int .i64 a1, .int .i64 a2, .int .i64 a3, .int .i64 a4] 112 true, .cells [.int .i64 b1, .int .i64 b2, .int .i64 b3, .int .i64 b4] 112 true] ++ [.cells ([min (a3 - w) (a4 - h), max (a3 - w) (a4 - h), a2, a1].flatMap IntC) 3 true]) [min (b3 - w) (b4 - h), max (b3 - w) (b4 - h), b2, b1] (some 4)
  simp only [List.flatMap_cons, List.flatMap_nil, IntC, List.cons_append, List.nil_append, List.length_cons, List.length_nil, Nat.zero_add, Nat.reduceAdd, List.length_append, List.append_assoc, Nat.add_assoc] at sx sy
  refine call_ends (fn := s95) rfl rfl (by simp [s95]) ?_
  simp only [s95, R1, R2, R3, R4, R5, R6, R7, R8, AV.flat, fillIn_nil, fillIn_cons, splice, AV.cells, AV.one, eqsOf, idx, SO.calls, List.reduceReplicate, Nat.reduceBEq, Nat.reduceLT, Nat.reduceAdd, Nat.reduceMul, Nat.reduceSub, Nat.reduceLeDiff, Nat.reduceEqDiff, ↓reduceIte, Int.reduceLT, Int.reduceEq, Int.reduceBNe, Int.reduceBEq, aeq, Int.reduceLE, Int.reduceNeg, Int.reduceMul, Int.reduceAdd, Int.reduceSub, Int.reduceToNat, Int.reducePow, w1, w2, w3, w4]
  generalize hlx : [min (a3 - w) (a4 - h), max (a3 - w) (a4 - h), a2, a1] = xs at *
  generalize hly : [min (b3 - w) (b4 - h), max (b3 - w) (b4 - h), b2, b1] = ys at *
  have hx4 : xs.length = 4 := by rw [← hlx]; rfl
  have hy4 : ys.length = 4 := by rw [← hly]; rfl
  generalize [AO.cells [.int .i64 a1, .int .i64 a2, .int .i64 a3, .int .i64 a4] 112 true, .cells [.int .i64 b1, .int .i64 b2, .int .i64 b3, .int .i64 b4] 112 true, .cells [.int .i64 (min (a3 - w) (a4 - h)), .int .i64 (max (a3 - w) (a4 - h)), .int .i64 a2, .int .i64 a1] 3 true,
    .cells [.int .i64 (min (b3 - w) (b4 - h)), .int .i64 (max (b3 - w) (b4 - h)), .int .i64 b2, .int .i64 b1] 3 true] = X at *
  refine ends_loop (fun k t H' => t.length = 80 ∧ H ++ X = H' ∧ (t.getD 9 .undef = .sl (H.length + 2) 0 4 1 (some 4) ∧ t.getD 10 .undef = .sl (H.length + 3) 0 4 1 (some 4)) ∧
    ∃ i : Nat, i ≤ 4 ∧ k = 4 - i ∧ t.getD 11 .undef = .int .i64 (i : Int) ∧ lexP xs ys = lexP (xs.drop i) (ys.drop i)) 4 ?_ ?_
  · simp only [R1, R2, R3, R4, R5, R6, R7, R8, AV.flat, fillIn_nil, fillIn_cons, splice, AV.cells, AV.one, eqsOf, idx, SO.calls, List.reduceReplicate, Nat.reduceBEq, Nat.reduceLT, Nat.reduceAdd, Nat.reduceMul, Nat.reduceSub, Nat.reduceLeDiff, Nat.reduceEqDiff, ↓reduceIte, Int.reduceLT, Int.reduceEq, Int.reduceBNe, Int.reduceBEq, aeq, Int.reduceLE, Int.reduceNeg, Int.reduceMul, Int.reduceAdd, Int.reduceSub, Int.reduceToNat, Int.reducePow]
    exact ⟨0, by omega, by omega, rfl, rfl⟩
  · rintro k t _ ⟨g1, rfl, ⟨g2, g3⟩, i, hi, rfl, g4, hl⟩
    rw [← tm_nil t]
    by_cases hc : i < 4
    · have c1 : ((i : Int) < 4) = True := eq_true (by omega)
      have w5 : IntKind.i64.wrap ((i : Int) + 1) = ((i + 1 : Nat) : Int) := by rw [wrap_i64 (by omega) (by omega)]; rfl
      have E := sx.elem0 (i := i) (by omega)
      have F := sy.elem0 (i := i) (by omega)
      rw [List.drop_eq_getElem_cons (show i < xs.length by omega), List.drop_eq_getElem_cons (show i < ys.length by omega)] at hl
      generalize xs[i]'(by omega) = p at *
      generalize ys[i]'(by omega) = q at *
      simp only [IntC, Nat.mul_one] at E F
      by_cases hpq : p = q
      · have c2 : (p != q) = false := by rw [bne_eq_false_iff_eq]; exact hpq
        simp only [R1, R2, R3, R4, R5, R6, R7, R8, AV.flat, fillIn_nil, fillIn_cons, splice, AV.cells, AV.one, eqsOf, idx, SO.calls, List.reduceReplicate, Nat.reduceBEq, Nat.reduceLT, Nat.reduceAdd, Nat.reduceMul, Nat.reduceSub, Nat.reduceLeDiff, Nat.reduceEqDiff, ↓reduceIte, Int.reduceLT, Int.reduceEq, Int.reduceBNe, Int.reduceBEq, aeq, Int.reduceLE, Int.reduceNeg, Int.reduceMul, Int.reduceAdd, Int.reduceSub, Int.reduceToNat, Int.reducePow, g1, g2, g3, g4, c1, w5, E, F, c2]
        exact ⟨_, by omega, i + 1, by omega, rfl, rfl, by rw [hl]; simp [lexP, hpq]⟩
      · have c2 : (p != q) = true := by rw [bne_iff_ne]; exact hpq
        have hr : lexP xs ys = decide (p < q) := by rw [hl]; simp [lexP, hpq]
        rw [hr]
        simp only [R1, R2, R3, R4, R5, R6, R7, R8, AV.flat, fillIn_nil, fillIn_cons, splice, AV.cells, AV.one, eqsOf, idx, SO.calls, List.reduceReplicate, Nat.reduceBEq, Nat.reduceLT, Nat.reduceAdd, Nat.reduceMul, Nat.reduceSub, Nat.reduceLeDiff, Nat.reduceEqDiff, ↓reduceIte, Int.reduceLT, Int.reduceEq, Int.reduceBNe, Int.reduceBEq, aeq, Int.reduceLE, Int.reduceNeg, Int.reduceMul, Int.reduceAdd, Int.reduceSub, Int.reduceToNat, Int.reducePow, g1, g2, g3, g4, c1, w5, E, F, c2]
        try rw [tidy_bool']
    · have c1 : ((i : Int) < 4) = False := eq_false (by omega)
      have hr : lexP xs ys = false := by rw [hl, List.drop_of_length_le (by omega)]; rfl
      rw [hr]
      simp only [R1, R2, R3, R4, R5, R6, R7, R8, AV.flat, fillIn_nil, fillIn_cons, splice, AV.cells, AV.one, eqsOf, idx, SO.calls, List.reduceReplicate, Nat.reduceBEq, Nat.reduceLT, Nat.reduceAdd, Nat.reduceMul, Nat.reduceSub, Nat.reduceLeDiff, Nat.reduceEqDiff, ↓reduceIte, Int.reduceLT, Int.reduceEq, Int.reduceBNe, Int.reduceBEq, aeq, Int.reduceLE, Int.reduceNeg, Int.reduceMul, Int.reduceAdd, Int.reduceSub, Int.reduceToNat, Int.reducePow, g1, g2, g3, g4, c1]
      try rw [tidy_bool']
def bestI (f : List Rect) (w h : Int) : Int := match best f w h with | none => -1 | some j => (j : Int)
theorem c65 {H : Heap} {v : AV} {f : List Rect} (hs : SlOf H 4 Rect.cs v f) (hn : f.length ≤ 100000000) (hsm : ∀ r ∈ f, SmallR r) {w h : Int} (hw : -2000000 ≤ w ∧ w ≤ 2000000) (hh : -2000000 ≤ h ∧ h ≤ 2000000) :
    call env 65 [v, .int .i64 w, .int .i64 h] H = some (.int .i64 (bestI f w h), H) := by
  have l1 := hs.lenOf
  refine call_ends (fn := s65) rfl rfl (by simp [s65]) ?_
  simp only [s65, R1, R2, R3, R4, R5, R6, R7, R8, AV.flat, fillIn_nil, fillIn_cons, splice, AV.cells, AV.one, eqsOf, idx, SO.calls, List.reduceReplicate, Nat.reduceBEq, Nat.reduceLT, Nat.reduceAdd, Nat.reduceMul, Nat.reduceSub, Nat.reduceLeDiff, Nat.reduceEqDiff, ↓reduceIte, Int.reduceLT, Int.reduceEq, Int.reduceBNe, Int.reduceBEq, aeq, Int.reduceLE, Int.reduceNeg, Int.reduceMul, Int.reduceAdd, Int.reduceSub, Int.reduceToNat, Int.reducePow, l1]
  refine ends_loop (fun k t H' => t.length = 50 ∧ H = H' ∧ (t.getD 0 .undef = v ∧ t.getD 1 .undef = .int .i64 w ∧ t.getD 2 .undef = .int .i64 h) ∧
    ∃ i : Nat, i ≤ f.length ∧ k = f.length - i ∧ t.getD 8 .undef = .int .i64 (i : Int) ∧
      ((bestAt f w h i = none ∧ t.getD 7 .undef = .int .i64 (-1)) ∨ ∃ j : Nat, bestAt f w h i = some j ∧ t.getD 7 .undef = .int .i64 (j : Int))) f.length ?_ ?_
  · simp only [R1, R2, R3, R4, R5, R6, R7, R8, AV.flat, fillIn_nil, fillIn_cons, splice, AV.cells, AV.one, eqsOf, idx, SO.calls, List.reduceReplicate, Nat.reduceBEq, Nat.reduceLT, Nat.reduceAdd, Nat.reduceMul, Nat.reduceSub, Nat.reduceLeDiff, Nat.reduceEqDiff, ↓reduceIte, Int.reduceLT, Int.reduceEq, Int.reduceBNe, Int.reduceBEq, aeq, Int.reduceLE, Int.reduceNeg, Int.reduceMul, Int.reduceAdd, Int.reduceSub, Int.reduceToNat, Int.reducePow]
    exact ⟨0, by omega, by omega, rfl, .inl rfl⟩
  · rintro k t _ ⟨g1, rfl, ⟨g2, g3, g4⟩, i, hi, rfl, g5, hb⟩
    rw [← tm_nil t]
    by_cases hc : i < f.length
    · have a1 : ((i : Int) < (f.length : Int)) = True := eq_true (by omega)
      have w1 : IntKind.i64.wrap ((i : Int) + 1) = ((i + 1 : Nat) : Int) := by rw [wrap_i64 (by omega) (by omega)]; rfl
      have E := hs.elem0 hc
      have hnth : nth f i = f[i] := nth_eq hc
      have hsi := hsm _ (List.getElem_mem hc)
      have hb1 : bestAt f w h (i + 1) = match bestAt f w h i with
        | none => if fitR (nth f i) w h then some i else none
        | some j => if fitR (nth f i) w h && betR (nth f i) (nth f j) w h then some i else some j := rfl
      rw [← hnth] at E hsi
      have hfi := fitR_iff (r := nth f i) (w := w) (h := h)
      generalize hq : nth f i = q at *
      rcases hb with ⟨hb, g6⟩ | ⟨j, hb, g6⟩
      · rw [hb] at hb1
        simp only at hb1
        obtain ⟨q1, q2, q3, q4⟩ := q
        simp only [Rect.cs] at E hfi
        by_cases f1 : q3 ≥ w
        · by_cases f2 : q4 ≥ h
          · rw [if_pos (hfi.2 ⟨f1, f2⟩)] at hb1
            simp only [R1, R2, R3, R4, R5, R6, R7, R8, AV.flat, fillIn_nil, fillIn_cons, splice, AV.cells, AV.one, eqsOf, idx, SO.calls, List.reduceReplicate, Nat.reduceBEq, Nat.reduceLT, Nat.reduceAdd, Nat.reduceMul, Nat.reduceSub, Nat.reduceLeDiff, Nat.reduceEqDiff, ↓reduceIte, Int.reduceLT, Int.reduceEq, Int.reduceBNe, Int.reduceBEq, aeq, Int.reduceLE, Int.reduceNeg, Int.reduceMul, Int.reduceAdd, Int.reduceSub, Int.reduceToNat, Int.reducePow, g1, g2, g3, g4, g5, g6, l1, a1, w1, E, eq_true f1, eq_true f2]
            exact ⟨_, by omega, i + 1, by omega, rfl, rfl, .inr ⟨i, hb1, rfl⟩⟩
          · rw [if_neg (fun hh => f2 (hfi.1 hh).2)] at hb1
            simp only [R1, R2, R3, R4, R5, R6, R7, R8, AV.flat, fillIn_nil, fillIn_cons, splice, AV.cells, AV.one, eqsOf, idx, SO.calls, List.reduceReplicate, Nat.reduceBEq, Nat.reduceLT, Nat.reduceAdd, Nat.reduceMul, Nat.reduceSub, Nat.reduceLeDiff, Nat.reduceEqDiff, ↓reduceIte, Int.reduceLT, Int.reduceEq, Int.reduceBNe, Int.reduceBEq, aeq, Int.reduceLE, Int.reduceNeg, Int.reduceMul, Int.reduceAdd, Int.reduceSub, Int.reduceToNat, Int.reducePow, g1, g2, g3, g4, g5, g6, l1, a1, w1, E, eq_true f1, eq_false f2]
            exact ⟨_, by omega, i + 1, by omega, rfl, rfl, .inl hb1⟩
        · rw [if_neg (fun hh => f1 (hfi.1 hh).1)] at hb1
          simp only [R1, R2, R3, R4, R5, R6, R7, R8, AV.flat, fillIn_nil, fillIn_cons, splice, AV.cells, AV.one, eqsOf, idx, SO.calls, List.reduceReplicate, Nat.reduceBEq, Nat.reduceLT, Nat.reduceAdd, Nat.reduceMul, Nat.reduceSub, Nat.reduceLeDiff, Nat.reduceEqDiff, ↓reduceIte, Int.reduceLT, Int.reduceEq, Int.reduceBNe, Int.reduceBEq, aeq, Int.reduceLE, Int.reduceNeg, Int.reduceMul, Int.reduceAdd, Int.reduceSub, Int.reduceToNat, Int.reducePow, g1, g2, g3, g4, g5, g6, l1, a1, w1, E, eq_false f1]
          exact ⟨_, by omega, i + 1, by omega, rfl, rfl, .inl hb1⟩
      · rw [hb] at hb1
        simp only at hb1
        have hjl : j < f.length := by have := bestAt_lt hb; omega
        have F := hs.elem0 hjl
        have hsj := hsm _ (List.getElem_mem hjl)
        rw [← nth_eq hjl] at F hsj
        have c0 : ((j : Int) < 0) = False := eq_false (by omega)
        have e2 := fun H => c95 q (nth f j) w h H hsi hsj hw hh
        generalize hp : nth f j = p at *
        generalize betR q p w h = z at *
        obtain ⟨q1, q2, q3, q4⟩ := q
        obtain ⟨p1, p2, p3, p4⟩ := p
        simp only [Rect.cs] at E F e2 hfi
        by_cases f1 : q3 ≥ w
        · by_cases f2 : q4 ≥ h
          · rw [hfi.2 ⟨f1, f2⟩] at hb1
            cases z
            · simp only [Bool.true_and, Bool.false_eq_true, if_false] at hb1
              simp only [R1, R2, R3, R4, R5, R6, R7, R8, AV.flat, fillIn_nil, fillIn_cons, splice, AV.cells, AV.one, eqsOf, idx, SO.calls, List.reduceReplicate, Nat.reduceBEq, Nat.reduceLT, Nat.reduceAdd, Nat.reduceMul, Nat.reduceSub, Nat.reduceLeDiff, Nat.reduceEqDiff, ↓reduceIte, Int.reduceLT, Int.reduceEq, Int.reduceBNe, Int.reduceBEq, aeq, Int.reduceLE, Int.reduceNeg, Int.reduceMul, Int.reduceAdd, Int.reduceSub, Int.reduceToNat, Int.reducePow, g1, g2, g3, g4, g5, g6, l1, a1, w1, E, F, eq_true f1, eq_true f2, c0, e2]
              exact ⟨_, by omega, i + 1, by omega, rfl, rfl, .inr ⟨j, hb1, rfl⟩⟩
            · simp only [Bool.true_and, if_true] at hb1
              simp only [R1, R2, R3, R4, R5, R6, R7, R8, AV.flat, fillIn_nil, fillIn_cons, splice, AV.cells, AV.one, eqsOf, idx, SO.calls, List.reduceReplicate, Nat.reduceBEq, Nat.reduceLT, Nat.reduceAdd, Nat.reduceMul, Nat.reduceSub, Nat.reduceLeDiff, Nat.reduceEqDiff, ↓reduceIte, Int.reduceLT, Int.reduceEq, Int.reduceBNe, Int.reduceBEq, aeq, Int.reduceLE, Int.reduceNeg, Int.reduceMul, Int.reduceAdd, Int.reduceSub, Int.reduceToNat, Int.reducePow, g1, g2, g3, g4, g5, g6, l1, a1, w1, E, F, eq_true f1, eq_true f2, c0, e2]
              exact ⟨_, by omega, i + 1, by omega, rfl, rfl, .inr ⟨i, hb1, rfl⟩⟩
          · rw [Bool.eq_false_iff.2 (fun hh => f2 (hfi.1 hh).2)] at hb1
            simp only [Bool.false_and, Bool.false_eq_true, if_false] at hb1
            simp only [R1, R2, R3, R4, R5, R6, R7, R8, AV.flat, fillIn_nil, fillIn_cons, splice, AV.cells, AV.one, eqsOf, idx, SO.calls, List.reduceReplicate, Nat.reduceBEq, Nat.reduceLT, Nat.reduceAdd, Nat.reduceMul, Nat.reduceSub, Nat.reduceLeDiff, Nat.reduceEqDiff, ↓reduceIte, Int.reduceLT, Int.reduceEq, Int.reduceBNe, Int.reduceBEq, aeq, Int.reduceLE, Int.reduceNeg, Int.reduceMul, Int.reduceAdd, Int.reduceSub, Int.reduceToNat, Int.reducePow, g1, g2, g3, g4, g5, g6, l1, a1, w1, E, eq_true f1, eq_false f2]
            exact ⟨_, by omega, i + 1, by omega, rfl, rfl, .inr ⟨j, hb1, rfl⟩⟩
        · rw [Bool.eq_false_iff.2 (fun hh => f1 (hfi.1 hh).1)] at hb1
          simp only [Bool.false_and, Bool.false_eq_true, if_false] at hb1
          simp only [R1, R2, R3, R4, R5, R6, R7, R8, AV.flat, fillIn_nil, fillIn_cons, splice, AV.cells, AV.one, eqsOf, idx, SO.calls, List.reduceReplicate, Nat.reduceBEq, Nat.reduceLT, Nat.reduceAdd, Nat.reduceMul, Nat.reduceSub, Nat.reduceLeDiff, Nat.reduceEqDiff, ↓reduceIte, Int.reduceLT, Int.reduceEq, Int.reduceBNe, Int.reduceBEq, aeq, Int.reduceLE, Int.reduceNeg, Int.reduceMul, Int.reduceAdd, Int.reduceSub, Int.reduceToNat, Int.reducePow, g1, g2, g3, g4, g5, g6, l1, a1, w1, E, eq_false f1]
          exact ⟨_, by omega, i + 1, by omega, rfl, rfl, .inr ⟨j, hb1, rfl⟩⟩
    · have a1 : ((i : Int) < (f.length : Int)) = False := eq_false (by omega)
      obtain rfl : i = f.length := by omega
      unfold bestI best
      rcases hb with ⟨hb, g6⟩ | ⟨j, hb, g6⟩
      · rw [hb]
        simp only [R1, R2, R3, R4, R5, R6, R7, R8, AV.flat, fillIn_nil, fillIn_cons, splice, AV.cells, AV.one, eqsOf, idx, SO.calls, List.reduceReplicate, Nat.reduceBEq, Nat.reduceLT, Nat.reduceAdd, Nat.reduceMul, Nat.reduceSub, Nat.reduceLeDiff, Nat.reduceEqDiff, ↓reduceIte, Int.reduceLT, Int.reduceEq, Int.reduceBNe, Int.reduceBEq, aeq, Int.reduceLE, Int.reduceNeg, Int.reduceMul, Int.reduceAdd, Int.reduceSub, Int.reduceToNat, Int.reducePow, g1, g2, g3, g4, g5, g6, l1, a1]
        try rw [tidy_int]
      · rw [hb]
        simp only [R1, R2, R3, R4, R5, R6, R7, R8, AV.flat, fillIn_nil, fillIn_cons, splice, AV.cells, AV.one, eqsOf, idx, SO.calls, List.reduceReplicate, Nat.reduceBEq, Nat.reduceLT, Nat.reduceAdd, Nat.reduceMul, Nat.reduceSub, Nat.reduceLeDiff, Nat.reduceEqDiff, ↓reduceIte, Int.reduceLT, Int.reduceEq, Int.reduceBNe, Int.reduceBEq, aeq, Int.reduceLE, Int.reduceNeg, Int.reduceMul, Int.reduceAdd, Int.reduceSub, Int.reduceToNat, Int.reducePow, g1, g2, g3, g4, g5, g6, l1, a1]
        try rw [tidy_int]
end Go.Proofs.Ytkcbjeenoafbkaa
