/- RectTwo, in the machine. -/
import Derived.Test.YtkcbjeenoafbkaaC28b
set_option linter.unusedVariables false
set_option linter.unusedSimpArgs false
set_option maxRecDepth 100000
set_option maxHeartbeats 1000000
namespace Go.Proofs.Ytkcbjeenoafbkaa
open Go Go.Den
def four (a b : Rect) : List Rect := [⟨a.x, a.y, b.x - a.x, a.h⟩, ⟨b.x + b.w, a.y, a.x + a.w - b.x - b.w, a.h⟩, ⟨a.x, a.y, a.w, b.y - a.y⟩, ⟨a.x, b.y + b.h, a.w, a.y + a.h - b.y - b.h⟩]
theorem four_left {a b : Rect} (ha : May a) (hb : May b) (hm : meet a b = true) : (four a b).filter may = left a b := by
  have hm' : Meet a b := of_decide_eq_true hm
  unfold left
  rw [hm]
  unfold May at ha hb
  unfold Meet at hm'
  have m1 : a.x < b.x + b.w ∧ b.x < a.x + a.w ∧ a.y < b.y + b.h ∧ b.y < a.y + a.h := by omega
  clear hm'
  have q1 : may ⟨a.x, a.y, b.x - a.x, a.h⟩ = decide (b.x > a.x) := by
    rw [Bool.eq_iff_iff]
    simp only [may, decide_eq_true_eq]
    simp only [May]
    constructor
    · rintro ⟨_, _, _, _, _, _, _, _⟩; omega
    · intro hh; refine ⟨?_, ?_, ?_, ?_, ?_, ?_, ?_, ?_⟩ <;> omega
  have q2 : may ⟨b.x + b.w, a.y, a.x + a.w - b.x - b.w, a.h⟩ = decide (a.x + a.w - (b.x + b.w) > 0) := by
    rw [Bool.eq_iff_iff]
    simp only [may, decide_eq_true_eq]
    simp only [May]
    constructor
    · rintro ⟨_, _, _, _, _, _, _, _⟩; omega
    · intro hh; refine ⟨?_, ?_, ?_, ?_, ?_, ?_, ?_, ?_⟩ <;> omega
  have q3 : may ⟨a.x, a.y, a.w, b.y - a.y⟩ = decide (b.y > a.y) := by
    rw [Bool.eq_iff_iff]
    simp only [may, decide_eq_true_eq]
    simp only [May]
    constructor
    · rintro ⟨_, _, _, _, _, _, _, _⟩; omega
    · intro hh; refine ⟨?_, ?_, ?_, ?_, ?_, ?_, ?_, ?_⟩ <;> omega
  have q4 : may ⟨a.x, b.y + b.h, a.w, a.y + a.h - b.y - b.h⟩ = decide (a.y + a.h - (b.y + b.h) > 0) := by
    rw [Bool.eq_iff_iff]
    simp only [may, decide_eq_true_eq]
    simp only [May]
    constructor
    · rintro ⟨_, _, _, _, _, _, _, _⟩; omega
    · intro hh; refine ⟨?_, ?_, ?_, ?_, ?_, ?_, ?_, ?_⟩ <;> omega
  have z1 : a.x + a.w - (b.x + b.w) = a.x + a.w - b.x - b.w := by omega
  have z2 : a.y + a.h - (b.y + b.h) = a.y + a.h - b.y - b.h := by omega
  unfold four p1 p2 p3 p4
  simp only [List.filter_cons, q1, q2, q3, q4, List.filter_nil, decide_eq_true_eq, if_true, z1, z2]
  by_cases c1 : b.x > a.x <;> by_cases c2 : a.x + a.w - b.x - b.w > 0 <;> by_cases c3 : b.y > a.y <;> by_cases c4 : a.y + a.h - b.y - b.h > 0 <;> simp only [c1, c2, c3, c4, if_true, if_false, List.append_nil, List.nil_append, List.cons_append]
theorem pushed_same {α : Type} {H B K X : Heap} {e : TypeId} {sz : Nat} {g : α → List AV} {v v1 : AV} {l m : List α} (h : Pushed H H B e sz g v l K X v1 m) : K = H := by
  obtain ⟨Y, hY⟩ := h.old
  have hl := h.klen
  rw [hY, List.length_append] at hl
  have : Y = [] := List.length_eq_zero_iff.1 (by omega)
  rw [hY, this, List.append_nil]
theorem pushed_acc {α : Type} {H B X : Heap} {e : TypeId} {sz : Nat} {g : α → List AV} {v1 : AV} {m : List α} (h : Pushed H H B e sz g .nils [] H X v1 m) : Acc H (H ++ (B ++ X)) e sz g v1 m := by
  refine ⟨h.size, h.ones, B ++ X, rfl, ?_⟩
  rcases h.case with ⟨h1, h2, h3⟩ | ⟨h0, o, h1, h2⟩
  · exact .inl ⟨h1, h2⟩
  · refine .inr ⟨h0, B.length + o, by rw [h1]; simp [Nat.add_assoc], ?_⟩
    rw [List.getElem?_append_right (by omega), Nat.add_sub_cancel_left, h2, List.nil_append]
/-- The reference's Left. -/
theorem c98 (a b : Rect) (H : Heap) (ha : May a) (hb : May b) : ∃ v X, call env 98 [.agg a.cs, .agg b.cs] H = some (v, H ++ X) ∧ SlOf (H ++ X) 4 Rect.cs v (left a b) := by
  have eM := fun H => c75 a b H ha hb
  simp only [Rect.cs] at eM
  cases hm : meet a b
  · have hl : left a b = [a] := by unfold left; rw [hm]; rfl
    rw [hm] at eM
    have hs := SlOf.row (H := H) (g := Rect.cs) (l := [a]) (sz := 4) (e := 112) (w := true) (cap := some 1) (rect_size _) (by decide)
    refine ⟨_, _, ?_, by rw [hl]; exact hs⟩
    have ht : tidy H (.sl (H.length + 2) 0 1 4 (some 1)) (H ++ [.cells a.cs 112 true, .cells b.cs 112 true, .cells a.cs 112 true]) = (.sl H.length 0 1 4 (some 1), H ++ [.cells a.cs 112 true]) := by
      have hu : unders H.length a.cs = true := leadss_flat rfl
      have : (AV.sl (H.length + 2) 0 1 4 (some 1)).carry H.length (H ++ [.cells a.cs 112 true, .cells b.cs 112 true, .cells a.cs 112 true]) ([], []) = some (.sl H.length 0 1 4 (some 1), [H.length + 2], [.cells a.cs 112 true]) := by
        simp only [AV.carry]
        rw [if_neg (by omega), List.getElem?_append_right (by omega), Nat.add_sub_cancel_left]
        simp [Rect.cs, unders, leadss, AV.leads, show whole 112 = false by decide]
      simp [tidy, keepOld_append, this]
    refine call_ends (fn := s98) rfl rfl (by simp [s98]) ?_
    simp only [Rect.cs] at ht
    simp only [s98, Rect.cs, R1, R2, R3, R4, R5, R6, R7, R8, AV.flat, fillIn_nil, fillIn_cons, splice, AV.cells, AV.one, eqsOf, idx, SO.calls, List.reduceReplicate, Nat.reduceBEq, Nat.reduceLT, Nat.reduceAdd, Nat.reduceMul, Nat.reduceSub, Nat.reduceLeDiff, Nat.reduceEqDiff, ↓reduceIte, Int.reduceLT, Int.reduceEq, Int.reduceBNe, Int.reduceBEq, aeq, Int.reduceLE, Int.reduceNeg, Int.reduceMul, Int.reduceAdd, Int.reduceSub, Int.reduceToNat, Int.reducePow, eM, ht]
    rfl
  · have hl := four_left ha hb hm
    rw [hm] at eM
    unfold May at ha hb
    have w1 := wrap_i64 (x := a.x + a.w) (by omega) (by omega)
    have w2 := wrap_i64 (x := b.x + b.w) (by omega) (by omega)
    have w3 := wrap_i64 (x := a.y + a.h) (by omega) (by omega)
    have w4 := wrap_i64 (x := b.y + b.h) (by omega) (by omega)
    have w5 := wrap_i64 (x := b.x - a.x) (by omega) (by omega)
    have w6 := wrap_i64 (x := b.y - a.y) (by omega) (by omega)
    have w7 := wrap_i64 (x := a.x + a.w - b.x) (by omega) (by omega)
    have w8 := wrap_i64 (x := a.y + a.h - b.y) (by omega) (by omega)
    have w9 := wrap_i64 (x := a.x + a.w - b.x - b.w) (by omega) (by omega)
    have w10 := wrap_i64 (x := a.y + a.h - b.y - b.h) (by omega) (by omega)
    have h4 := SlOf.row (H := H ++ [.cells a.cs 112 true, .cells b.cs 112 true]) (g := Rect.cs) (l := four a b) (sz := 4) (e := 112) (w := true) (cap := some 4) (rect_size _) (by decide)
    simp only [List.append_assoc, List.cons_append, List.nil_append, List.length_append, List.length_cons, List.length_nil, Nat.zero_add, Nat.reduceAdd] at h4
    have h4l : (four a b).length = 4 := rfl
    rw [h4l] at h4
    generalize hf : four a b = f at h4 hl h4l
    refine ⟨_, _, ?_, newSl_of (e := 112) (rect_size (left a b)) (by decide)⟩
    refine call_ends (fn := s98) rfl rfl (by simp [s98]) ?_
    have hfc : f.flatMap Rect.cs = [.int .i64 a.x, .int .i64 a.y, .int .i64 (b.x - a.x), .int .i64 a.h, .int .i64 (b.x + b.w), .int .i64 a.y, .int .i64 (a.x + a.w - b.x - b.w), .int .i64 a.h, .int .i64 a.x, .int .i64 a.y, .int .i64 a.w, .int .i64 (b.y - a.y), .int .i64 a.x, .int .i64 (b.y + b.h), .int .i64 a.w, .int .i64 (a.y + a.h - b.y - b.h)] := by rw [← hf]; rfl
    simp only [s98, Rect.cs, R1, R2, R3, R4, R5, R6, R7, R8, AV.flat, fillIn_nil, fillIn_cons, splice, AV.cells, AV.one, eqsOf, idx, SO.calls, List.reduceReplicate, Nat.reduceBEq, Nat.reduceLT, Nat.reduceAdd, Nat.reduceMul, Nat.reduceSub, Nat.reduceLeDiff, Nat.reduceEqDiff, ↓reduceIte, Int.reduceLT, Int.reduceEq, Int.reduceBNe, Int.reduceBEq, aeq, Int.reduceLE, Int.reduceNeg, Int.reduceMul, Int.reduceAdd, Int.reduceSub, Int.reduceToNat, Int.reducePow, eM, w1, w2, w3, w4, w5, w6, w7, w8, w9, w10]
    refine ends_loop (fun k t H' => t.length = 98 ∧ t.getD 5 .undef = .sl (H.length + 2) 0 4 4 (some 4) ∧ ∃ i : Nat, i ≤ 4 ∧ k = 4 - i ∧ t.getD 7 .undef = .int .i64 (i : Int) ∧
      ∃ o X, t.getD 6 .undef = o ∧ H' = H ++ (.cells a.cs 112 true :: .cells b.cs 112 true :: .cells (f.flatMap Rect.cs) 112 true :: X) ∧
      Pushed H H [.cells a.cs 112 true, .cells b.cs 112 true, .cells (f.flatMap Rect.cs) 112 true] 112 4 Rect.cs .nils [] H X o ((f.take i).filter may)) 4 ?_ ?_
    · simp only [R1, R2, R3, R4, R5, R6, R7, R8, AV.flat, fillIn_nil, fillIn_cons, splice, AV.cells, AV.one, eqsOf, idx, SO.calls, List.reduceReplicate, Nat.reduceBEq, Nat.reduceLT, Nat.reduceAdd, Nat.reduceMul, Nat.reduceSub, Nat.reduceLeDiff, Nat.reduceEqDiff, ↓reduceIte, Int.reduceLT, Int.reduceEq, Int.reduceBNe, Int.reduceBEq, aeq, Int.reduceLE, Int.reduceNeg, Int.reduceMul, Int.reduceAdd, Int.reduceSub, Int.reduceToNat, Int.reducePow]
      refine ⟨0, by omega, by omega, rfl, _, [], rfl, by rw [hfc]; rfl, ?_⟩
      exact Pushed.start Acc.start
    · rintro k t H' ⟨g1, g2, i, hi, rfl, g3, o, X, g4, rfl, hacc⟩
      rw [← tm_nil t]
      by_cases hc : i < 4
      · have hcf : i < f.length := by omega
        have e1 : ((i : Int) < 4) = True := eq_true (by omega)
        have e2 := fun H' => h4.addr hcf .i64 H'
        have e3 := fun X => h4.load hcf X
        have e7 := wrap_i64 (x := (i : Int) + 1) (by omega) (by omega)
        have e8 := fun H => c74 f[i] H
        have htk : (f.take (i + 1)).filter may = (f.take i).filter may ++ (if may f[i] then [f[i]] else []) := by
          rw [List.take_succ_eq_append_getElem hcf, List.filter_append]
          cases hq : may f[i] <;> simp [hq]
        have hlen : ((f.take i).filter may).length ≤ 4 := by
          have := List.length_filter_le may (f.take i)
          rw [List.length_take] at this; omega
        cases hmy : may f[i]
        · rw [hmy] at e8 htk
          simp only [Bool.false_eq_true, if_false, List.append_nil] at htk
          generalize f[i] = r at e3 e8
          simp only [Rect.cs, R1, R2, R3, R4, R5, R6, R7, R8, AV.flat, fillIn_nil, fillIn_cons, splice, AV.cells, AV.one, eqsOf, idx, SO.calls, List.reduceReplicate, Nat.reduceBEq, Nat.reduceLT, Nat.reduceAdd, Nat.reduceMul, Nat.reduceSub, Nat.reduceLeDiff, Nat.reduceEqDiff, ↓reduceIte, Int.reduceLT, Int.reduceEq, Int.reduceBNe, Int.reduceBEq, aeq, Int.reduceLE, Int.reduceNeg, Int.reduceMul, Int.reduceAdd, Int.reduceSub, Int.reduceToNat, Int.reducePow] at e3 e8
          simp only [Rect.cs, R1, R2, R3, R4, R5, R6, R7, R8, AV.flat, fillIn_nil, fillIn_cons, splice, AV.cells, AV.one, eqsOf, idx, SO.calls, List.reduceReplicate, Nat.reduceBEq, Nat.reduceLT, Nat.reduceAdd, Nat.reduceMul, Nat.reduceSub, Nat.reduceLeDiff, Nat.reduceEqDiff, ↓reduceIte, Int.reduceLT, Int.reduceEq, Int.reduceBNe, Int.reduceBEq, aeq, Int.reduceLE, Int.reduceNeg, Int.reduceMul, Int.reduceAdd, Int.reduceSub, Int.reduceToNat, Int.reducePow, g1, g2, g3, g4, e1, e2, e3, e7, e8]
          exact ⟨_, by omega, i + 1, by omega, rfl, by simp, _, X, rfl, rfl, by rw [htk]; exact hacc⟩
        · rw [hmy] at e8 htk
          simp only [if_true] at htk
          obtain ⟨v', K', X', e9, ha'⟩ := (hacc.junk [.cells f[i].cs 112 true]).push (n := [f[i]]) (x := .sl (H.length + (X.length + 1 + 1 + 1)) 0 1 4 (some 1)) (by simp) (rect_size _) (rect_one _) rfl
            (by
              simp only [newOf, acells, List.cons_append, List.nil_append, List.append_assoc]
              rw [aload_end, aload_suc, aload_suc, aload_suc, ← Nat.add_zero X.length, aload_end, aload_zero]
              simp [Rect.cs]) (by simp; omega)
          obtain rfl := pushed_same ha'
          rw [← htk] at ha'
          generalize f[i] = r at e3 e8 e9
          simp only [Rect.cs, R1, R2, R3, R4, R5, R6, R7, R8, AV.flat, fillIn_nil, fillIn_cons, splice, AV.cells, AV.one, eqsOf, idx, SO.calls, List.reduceReplicate, Nat.reduceBEq, Nat.reduceLT, Nat.reduceAdd, Nat.reduceMul, Nat.reduceSub, Nat.reduceLeDiff, Nat.reduceEqDiff, ↓reduceIte, Int.reduceLT, Int.reduceEq, Int.reduceBNe, Int.reduceBEq, aeq, Int.reduceLE, Int.reduceNeg, Int.reduceMul, Int.reduceAdd, Int.reduceSub, Int.reduceToNat, Int.reducePow] at e3 e8 e9
          simp only [Rect.cs, R1, R2, R3, R4, R5, R6, R7, R8, AV.flat, fillIn_nil, fillIn_cons, splice, AV.cells, AV.one, eqsOf, idx, SO.calls, List.reduceReplicate, Nat.reduceBEq, Nat.reduceLT, Nat.reduceAdd, Nat.reduceMul, Nat.reduceSub, Nat.reduceLeDiff, Nat.reduceEqDiff, ↓reduceIte, Int.reduceLT, Int.reduceEq, Int.reduceBNe, Int.reduceBEq, aeq, Int.reduceLE, Int.reduceNeg, Int.reduceMul, Int.reduceAdd, Int.reduceSub, Int.reduceToNat, Int.reducePow, g1, g2, g3, g4, e1, e2, e3, e7, e8, e9]
          exact ⟨_, by omega, i + 1, by omega, rfl, by simp, _, X', rfl, rfl, ha'⟩
      · have e1 : ((i : Int) < 4) = False := eq_false (by omega)
        have : i = 4 := by omega
        subst this
        rw [List.take_of_length_le (by omega), hl] at hacc
        simp only [R1, R2, R3, R4, R5, R6, R7, R8, AV.flat, fillIn_nil, fillIn_cons, splice, AV.cells, AV.one, eqsOf, idx, SO.calls, List.reduceReplicate, Nat.reduceBEq, Nat.reduceLT, Nat.reduceAdd, Nat.reduceMul, Nat.reduceSub, Nat.reduceLeDiff, Nat.reduceEqDiff, ↓reduceIte, Int.reduceLT, Int.reduceEq, Int.reduceBNe, Int.reduceBEq, aeq, Int.reduceLE, Int.reduceNeg, Int.reduceMul, Int.reduceAdd, Int.reduceSub, Int.reduceToNat, Int.reducePow, g1, g2, g3, g4, e1]
        have hacc2 : Acc H (H ++ (.cells a.cs 112 true :: .cells b.cs 112 true :: .cells (f.flatMap Rect.cs) 112 true :: X)) 112 4 Rect.cs o (left a b) := pushed_acc hacc
        rw [hacc2.tidy (rect_flat _)]
theorem veil_none (H : Heap) : ∀ m, veil [] m H = H
  | [] => rfl
  | p :: m => by rw [veil_cons]; simp [veil_none H m]
theorem all_skip (m : List (Nat × Nat × Nat)) (f : Nat × Nat × Nat → Bool) : (m.all fun p => !([] : List Nat).contains p.1 || f p) = true := by simp
theorem all_true (m : List (Nat × Nat × Nat)) : (m.all fun p => true) = true := by simp
theorem shun_none (m : List (Nat × Nat × Nat)) (v : AV) (X : List AO) : shun [] m v X = true := by simp [shun]
end Go.Proofs.Ytkcbjeenoafbkaa
