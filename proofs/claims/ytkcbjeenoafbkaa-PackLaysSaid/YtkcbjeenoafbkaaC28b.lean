/- What is left of rectangles. -/
import Derived.Test.YtkcbjeenoafbkaaC28
set_option linter.unusedVariables false
set_option linter.unusedSimpArgs false
set_option maxRecDepth 100000
set_option maxHeartbeats 1000000
namespace Go.Proofs.Ytkcbjeenoafbkaa
open Go Go.Den
theorem rect_size (l : List Rect) : ∀ a ∈ l, a.cs.length = 4 := fun a _ => rfl
theorem rect_one (l : List Rect) : ∀ a ∈ l, a.cs.all AV.one = true := fun a _ => rfl
theorem rect_flat (l : List Rect) : ∀ a ∈ l, a.cs.all AV.flat = true := fun a _ => rfl
/-- The four pieces. -/
def p1 (a b : Rect) : List Rect := if b.x > a.x then [⟨a.x, a.y, b.x - a.x, a.h⟩] else []
def p2 (a b : Rect) : List Rect := if a.x + a.w - (b.x + b.w) > 0 then [⟨b.x + b.w, a.y, a.x + a.w - (b.x + b.w), a.h⟩] else []
def p3 (a b : Rect) : List Rect := if b.y > a.y then [⟨a.x, a.y, a.w, b.y - a.y⟩] else []
def p4 (a b : Rect) : List Rect := if a.y + a.h - (b.y + b.h) > 0 then [⟨a.x, b.y + b.h, a.w, a.y + a.h - (b.y + b.h)⟩] else []
def left (a b : Rect) : List Rect := if meet a b then p1 a b ++ (p2 a b ++ (p3 a b ++ p4 a b)) else [a]
theorem left_len (a b : Rect) : (left a b).length ≤ 4 := by
  unfold left p1 p2 p3 p4
  repeat' split
  all_goals simp
/-- One piece, if there is one. -/
theorem piece {H0 H : Heap} {x1 x2 : AO} {v : AV} {l m : List Rect} {K X : Heap} {v1 : AV} (h : Pushed H0 H [x1, x2] 112 4 Rect.cs v l K X v1 m) (c : Prop) [Decidable c] (r : Rect) (hr : l.length + (m.length + 1) ≤ 4294967296) :
    ∃ v2 K2 X2, Pushed H0 H [x1, x2] 112 4 Rect.cs v l K2 X2 v2 (m ++ if c then [r] else []) ∧
      ((c = True ∧ aapp (K ++ (x1 :: x2 :: (X ++ [.cells [.int .i64 r.x, .int .i64 r.y, .int .i64 r.w, .int .i64 r.h] 112 true]))) 112 4 v1 (.sl (K.length + (X.length + 1 + 1)) 0 1 4 (some 1)) = some (v2, K2 ++ (x1 :: x2 :: X2))) ∨ (c = False ∧ v2 = v1 ∧ K2 = K ∧ X2 = X)) := by
  by_cases hc : c
  · obtain ⟨v2, K2, X2, e9, hP2⟩ := (h.junk [.cells r.cs 112 true]).push (n := [r]) (x := .sl (K.length + (X.length + 1 + 1)) 0 1 4 (some 1)) (by simp) (rect_size _) (rect_one _) rfl
      (by
        simp only [newOf, acells, List.cons_append, List.nil_append]
        rw [aload_end, aload_suc, aload_suc, ← Nat.add_zero X.length, aload_end, aload_zero]
        simp [Rect.cs]) (by simpa using hr)
    exact ⟨v2, K2, X2, by rw [if_pos hc]; exact hP2, .inl ⟨eq_true hc, e9⟩⟩
  · exact ⟨v1, K, X, by rw [if_neg hc, List.append_nil]; exact h, .inr ⟨eq_false hc, rfl, rfl, rfl⟩⟩
theorem aload_as {K H X : Heap} {n o off : Nat} (h : K.length = H.length) : aload (K ++ X) n (.ptr (H.length + o) off) = aload X n (.ptr o off) := by
  rw [← h, aload_end]
theorem aload_as0 {K H X : Heap} {n off : Nat} (h : K.length = H.length) : aload (K ++ X) n (.ptr H.length off) = aload X n (.ptr 0 off) := by
  rw [← h, aload_end0]
theorem c121 {H0 H : Heap} {v : AV} {l : List Rect} (a b : Rect) (ha : May a) (hb : May b) (hv : Acc H0 H 112 4 Rect.cs v l) (hn : l.length ≤ 100000000) :
    ∃ v' H', call env 121 [v, .agg a.cs, .agg b.cs] H = some (v', H') ∧ Acc H0 H' 112 4 Rect.cs v' (l ++ left a b) := by
  suffices hh : ∃ v1 K X, Pushed H0 H [.cells a.cs 112 true, .cells b.cs 112 true] 112 4 Rect.cs v l K X v1 (left a b) ∧
      Den.Ends (call env) s121.body (tm (Den.blank s121.ntmps) (idx 0 [v, .agg a.cs, .agg b.cs])) H (fun x t H1 => x = .ret ∧ t.length = 108 ∧ t.getD 6 .undef = v1 ∧ H1 = K ++ ([.cells a.cs 112 true, .cells b.cs 112 true] ++ X)) by
    obtain ⟨v1, K, X, hp, he⟩ := hh
    obtain ⟨v2, H2, ht, hacc⟩ := hp.tidy (rect_flat _)
    refine ⟨v2, H2, call_ends (fn := s121) rfl rfl (by simp [s121]) (he.mono ?_), hacc⟩
    rintro x t H1 ⟨rfl, g1, g2, rfl⟩
    rw [← tm_nil t]
    simp only [s121, R1, R2, R3, R4, R5, R6, R7, R8, AV.flat, fillIn_nil, fillIn_cons, splice, AV.cells, AV.one, eqsOf, idx, SO.calls, List.reduceReplicate, Nat.reduceBEq, Nat.reduceLT, Nat.reduceAdd, Nat.reduceMul, Nat.reduceSub, Nat.reduceLeDiff, Nat.reduceEqDiff, ↓reduceIte, Int.reduceLT, Int.reduceEq, Int.reduceBNe, Int.reduceBEq, aeq, Int.reduceLE, Int.reduceNeg, Int.reduceMul, Int.reduceAdd, Int.reduceSub, Int.reduceToNat, Int.reducePow, g1, g2]
    rw [← ht]
    rfl
  have eM := fun H => c101 a b H ha hb
  have hP := Pushed.start (B := [.cells a.cs 112 true, .cells b.cs 112 true]) hv
  have ha' := ha
  have hb' := hb
  unfold May at ha hb
  have w1 := wrap_i64 (x := a.x + a.w) (by omega) (by omega)
  have w2 := wrap_i64 (x := b.x + b.w) (by omega) (by omega)
  have w3 := wrap_i64 (x := a.y + a.h) (by omega) (by omega)
  have w4 := wrap_i64 (x := b.y + b.h) (by omega) (by omega)
  have w5 := wrap_i64 (x := b.x - a.x) (by omega) (by omega)
  have w6 := wrap_i64 (x := b.y - a.y) (by omega) (by omega)
  have w7 := wrap_i64 (x := a.x + a.w - (b.x + b.w)) (by omega) (by omega)
  have w8 := wrap_i64 (x := a.y + a.h - (b.y + b.h)) (by omega) (by omega)
  cases hm : meet a b
  · have hl : left a b = [a] := by unfold left; rw [hm]; rfl
    obtain ⟨v2, K2, X2, e9, hP2⟩ := (hP.junk [.cells a.cs 112 true]).push (n := [a]) (x := .sl (H.length + 2) 0 1 4 (some 1)) (by simp) (rect_size _) (rect_one _) rfl
      (by simp only [newOf, acells, R1, R2, R3, R4, R5, R6, R7, R8, AV.flat, fillIn_nil, fillIn_cons, splice, AV.cells, AV.one, eqsOf, idx, SO.calls, List.reduceReplicate, Nat.reduceBEq, Nat.reduceLT, Nat.reduceAdd, Nat.reduceMul, Nat.reduceSub, Nat.reduceLeDiff, Nat.reduceEqDiff, ↓reduceIte, Int.reduceLT, Int.reduceEq, Int.reduceBNe, Int.reduceBEq, aeq, Int.reduceLE, Int.reduceNeg, Int.reduceMul, Int.reduceAdd, Int.reduceSub, Int.reduceToNat, Int.reducePow]; simp [Rect.cs]) (by simp; omega)
    rw [List.nil_append] at hP2
    refine ⟨v2, K2, X2, by rw [hl]; exact hP2, ?_⟩
    rw [hm] at eM
    simp only [Rect.cs, R1, R2, R3, R4, R5, R6, R7, R8, AV.flat, fillIn_nil, fillIn_cons, splice, AV.cells, AV.one, eqsOf, idx, SO.calls, List.reduceReplicate, Nat.reduceBEq, Nat.reduceLT, Nat.reduceAdd, Nat.reduceMul, Nat.reduceSub, Nat.reduceLeDiff, Nat.reduceEqDiff, ↓reduceIte, Int.reduceLT, Int.reduceEq, Int.reduceBNe, Int.reduceBEq, aeq, Int.reduceLE, Int.reduceNeg, Int.reduceMul, Int.reduceAdd, Int.reduceSub, Int.reduceToNat, Int.reducePow] at e9 eM
    simp only [s121, Rect.cs, R1, R2, R3, R4, R5, R6, R7, R8, AV.flat, fillIn_nil, fillIn_cons, splice, AV.cells, AV.one, eqsOf, idx, SO.calls, List.reduceReplicate, Nat.reduceBEq, Nat.reduceLT, Nat.reduceAdd, Nat.reduceMul, Nat.reduceSub, Nat.reduceLeDiff, Nat.reduceEqDiff, ↓reduceIte, Int.reduceLT, Int.reduceEq, Int.reduceBNe, Int.reduceBEq, aeq, Int.reduceLE, Int.reduceNeg, Int.reduceMul, Int.reduceAdd, Int.reduceSub, Int.reduceToNat, Int.reducePow, eM, e9]
  · have hl : left a b = p1 a b ++ (p2 a b ++ (p3 a b ++ p4 a b)) := by unfold left; rw [hm]; rfl
    rw [hm] at eM
    simp only [Rect.cs] at eM
    obtain ⟨v2, K2, X2, hP2, s2⟩ := piece hP (b.x > a.x) ⟨a.x, a.y, b.x - a.x, a.h⟩ (by simp; omega)
    have hl2 : (p1 a b).length ≤ 1 := by unfold p1; split <;> simp
    rw [List.nil_append] at hP2
    obtain ⟨v3, K3, X3, hP3, s3⟩ := piece hP2 (a.x + a.w - (b.x + b.w) > 0) ⟨b.x + b.w, a.y, a.x + a.w - (b.x + b.w), a.h⟩ (by have := hl2; unfold p1 at this; omega)
    have hl3 : (p2 a b).length ≤ 1 := by unfold p2; split <;> simp
    obtain ⟨v4, K4, X4, hP4, s4⟩ := piece hP3 (b.y > a.y) ⟨a.x, a.y, a.w, b.y - a.y⟩ (by have := hl2; have := hl3; unfold p1 at *; unfold p2 at *; rw [List.length_append]; omega)
    have hl4 : (p3 a b).length ≤ 1 := by unfold p3; split <;> simp
    obtain ⟨v5, K5, X5, hP5, s5⟩ := piece hP4 (a.y + a.h - (b.y + b.h) > 0) ⟨a.x, b.y + b.h, a.w, a.y + a.h - (b.y + b.h)⟩ (by have := hl2; have := hl3; have := hl4; unfold p1 at *; unfold p2 at *; unfold p3 at *; rw [List.length_append, List.length_append]; omega)
    refine ⟨v5, K5, X5, ?_, ?_⟩
    · rw [hl]
      unfold p1 p2 p3 p4
      simpa only [List.append_assoc] using hP5
    have k2 := hP2.klen
    have k3 := hP3.klen
    have k4 := hP4.klen
    have f2 := fun n off X => aload_as0 (n := n) (off := off) (X := X) hP2.klen
    have f3 := fun n off X => aload_as0 (n := n) (off := off) (X := X) hP3.klen
    have f4 := fun n off X => aload_as0 (n := n) (off := off) (X := X) hP4.klen
    have f2' := fun n o off X => aload_as (n := n) (o := o) (off := off) (X := X) hP2.klen
    have f3' := fun n o off X => aload_as (n := n) (o := o) (off := off) (X := X) hP3.klen
    have f4' := fun n o off X => aload_as (n := n) (o := o) (off := off) (X := X) hP4.klen
    clear hP hP2 hP3 hP4 hP5 hl2 hl3 hl4 hl k2 k3 k4 hn hv ha hb ha' hb' hm
    simp only [s121, R1, R2, R3, R4, R5, R6, R7, R8, AV.flat, fillIn_nil, fillIn_cons, splice, AV.cells, AV.one, eqsOf, idx, SO.calls, List.reduceReplicate, Nat.reduceBEq, Nat.reduceLT, Nat.reduceAdd, Nat.reduceMul, Nat.reduceSub, Nat.reduceLeDiff, Nat.reduceEqDiff, ↓reduceIte, Int.reduceLT, Int.reduceEq, Int.reduceBNe, Int.reduceBEq, aeq, Int.reduceLE, Int.reduceNeg, Int.reduceMul, Int.reduceAdd, Int.reduceSub, Int.reduceToNat, Int.reducePow, Rect.cs, eM, w1, w2, w3, w4, w5, w6, w7, w8]
    simp only [Rect.cs, R1, R2, R3, R4, R5, R6, R7, R8, AV.flat, fillIn_nil, fillIn_cons, splice, AV.cells, AV.one, eqsOf, idx, SO.calls, List.reduceReplicate, Nat.reduceBEq, Nat.reduceLT, Nat.reduceAdd, Nat.reduceMul, Nat.reduceSub, Nat.reduceLeDiff, Nat.reduceEqDiff, ↓reduceIte, Int.reduceLT, Int.reduceEq, Int.reduceBNe, Int.reduceBEq, aeq, Int.reduceLE, Int.reduceNeg, Int.reduceMul, Int.reduceAdd, Int.reduceSub, Int.reduceToNat, Int.reducePow] at s2 s3 s4 s5
    rcases s2 with ⟨b2, e2⟩ | ⟨b2, rfl, rfl, rfl⟩ <;> rcases s3 with ⟨b3, e3⟩ | ⟨b3, rfl, rfl, rfl⟩ <;> rcases s4 with ⟨b4, e4⟩ | ⟨b4, rfl, rfl, rfl⟩ <;> rcases s5 with ⟨b5, e5⟩ | ⟨b5, rfl, rfl, rfl⟩
    all_goals (try simp only [List.nil_append, List.length_nil, Nat.zero_add, Nat.reduceAdd] at e3)
    all_goals (try simp only [List.nil_append, List.length_nil, Nat.zero_add, Nat.reduceAdd] at e4)
    all_goals (try simp only [List.nil_append, List.length_nil, Nat.zero_add, Nat.reduceAdd] at e5)
    all_goals (simp only [R1, R2, R3, R4, R5, R6, R7, R8, AV.flat, fillIn_nil, fillIn_cons, splice, AV.cells, AV.one, eqsOf, idx, SO.calls, List.reduceReplicate, Nat.reduceBEq, Nat.reduceLT, Nat.reduceAdd, Nat.reduceMul, Nat.reduceSub, Nat.reduceLeDiff, Nat.reduceEqDiff, ↓reduceIte, Int.reduceLT, Int.reduceEq, Int.reduceBNe, Int.reduceBEq, aeq, Int.reduceLE, Int.reduceNeg, Int.reduceMul, Int.reduceAdd, Int.reduceSub, Int.reduceToNat, Int.reducePow, *])
/-- A slice that grew from nothing since the call began, as an answer. -/
theorem acc_sl {H H1 : Heap} {v : AV} {l : List Rect} (h : Acc H H1 112 4 Rect.cs v l) : SlOf H1 4 Rect.cs v l := by
  obtain ⟨X, rfl, hx⟩ := h.heap
  rcases hx with ⟨h1, h2⟩ | ⟨h0, o, h1, h2⟩
  · subst h1 h2; exact SlOf.nils (by decide)
  · refine ⟨by rw [h1]; rfl, rect_size _, by decide, .inl ⟨H.length + o, 0, none, l.flatMap Rect.cs, h1, ?_, ?_, ?_⟩⟩
    · simp only [arow, List.getElem?_append_right (Nat.le_add_right ..), Nat.add_sub_cancel_left, h2]
    · rw [List.drop_zero, List.take_of_length_le (by rw [flat_len (rect_size l)]; exact Nat.le_refl _)]
    · rw [flat_len (rect_size l)]; omega
def left2 (a b : Rect) : List Rect := if May a ∧ May b then left a b else []
end Go.Proofs.Ytkcbjeenoafbkaa
