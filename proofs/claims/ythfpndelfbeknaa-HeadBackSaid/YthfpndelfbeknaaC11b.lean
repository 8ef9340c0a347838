/- Chapter 11: Widths. -/
import Derived.Test.YthfpndelfbeknaaC11a
set_option linter.unusedVariables false
set_option linter.unusedSimpArgs false
set_option maxRecDepth 100000
set_option maxHeartbeats 1000000
namespace Go.Proofs.Ythfpndelfbeknaa
open Go Go.Den
/-- A row of numbers that is filled from its head on. -/
def rowF (f : Nat → Int) (n i : Nat) : List AV := (List.range n).map fun j => .int .i64 (if j < i then f j else 0)
theorem rowF_len (f : Nat → Int) (n i : Nat) : (rowF f n i).length = n := by simp [rowF]
theorem rowF_zero (f : Nat → Int) (n : Nat) : (List.replicate n [AV.int .i64 0]).flatten = rowF f n 0 := by
  simp only [rowF, Nat.not_lt_zero, if_false]
  induction n with
  | zero => rfl
  | succ n ih => rw [List.replicate_succ', List.flatten_append, ih, List.range_succ, List.map_append]; rfl
theorem rowF_set {f : Nat → Int} {n i : Nat} (hi : i < n) : splice (rowF f n i) i [.int .i64 (f i)] = rowF f n (i + 1) := by
  apply List.ext_getElem?
  intro j
  rw [splice_get (by rw [rowF_len]; exact hi)]
  simp only [rowF, List.getElem?_map, List.length_cons, List.length_nil]
  by_cases hj : j < n
  · rw [List.getElem?_range hj]
    by_cases h : i ≤ j ∧ j < i + (0 + 1)
    · obtain rfl : j = i := by omega
      simp
    · rw [if_neg h]
      by_cases h2 : j < i
      · simp [h2, show j < i + 1 by omega]
      · simp [h2, show ¬ j < i + 1 by omega]
  · have : (List.range n)[j]? = none := List.getElem?_eq_none (by simp; omega)
    rw [this]
    by_cases h : i ≤ j ∧ j < i + (0 + 1)
    · omega
    · rw [if_neg h]; rfl
theorem rowF_get {f : Nat → Int} {n i j : Nat} (h : j < i) (hn : j < n) : ((rowF f n i).drop j).take 1 = [.int .i64 (f j)] := by
  have hl : j < (rowF f n i).length := by rw [rowF_len]; exact hn
  rw [List.drop_eq_getElem_cons hl]
  simp [rowF, h]
theorem rowF_end (f : Nat → Int) (n : Nat) : rowF f n n = ((List.range n).map f).flatMap IntC := by
  rw [List.flatMap_map, rowF, List.flatMap_def]
  have : ∀ j ∈ List.range n, AV.int .i64 (if j < n then f j else 0) = AV.int .i64 (f j) := by
    intro j hj
    rw [if_pos (List.mem_range.1 hj)]
  rw [List.map_congr_left this]
  generalize List.range n = l
  induction l with
  | nil => rfl
  | cons a l ih => simp [IntC, ih]
theorem set1 {H : Heap} {a b x : AO} {r : Heap} : (H ++ a :: b :: r).set (H.length + 1) x = H ++ a :: x :: r := by
  rw [List.set_append_right _ _ (by omega)]
  simp
theorem at1 {H : Heap} {a b : AO} {r : Heap} : (H ++ a :: b :: r)[H.length + 1]? = some b := by
  rw [List.getElem?_append_right (by omega)]
  simp
theorem mk_row (f : Nat → Int) (n : Nat) (hn : n ≤ 100000) (H : Heap) : mkslOf 3 [.int .i64 0] (.int .i64 (n : Int)) (.int .i64 (n : Int)) H = some (.sl H.length 0 n 1 (some n), H ++ [.cells (rowF f n 0) 3 true]) := by
  have hr : roomy n = true := by simp [roomy]; omega
  simp [mkslOf, hr, ← rowF_zero f n]
theorem filled (f : Nat → Int) (n : Nat) (H : Heap) (cap : Option Nat) (e : TypeId) (w : Bool) : SlOf (H ++ [.cells (((List.range n).map f).flatMap IntC) e w]) 1 IntC (.sl H.length 0 n 1 cap) ((List.range n).map f) := by
  have hl : (((List.range n).map f).flatMap IntC).length = n := by rw [flat_len fun a _ => int_cel.size a]; simp
  refine ⟨by simp [alen], fun a _ => rfl, by decide, .inl ⟨H.length, 0, cap, ((List.range n).map f).flatMap IntC, by simp, by simp [arow], ?_, ?_⟩⟩
  · rw [List.drop_zero, List.take_of_length_le (by rw [hl]; simp)]
  · rw [hl]; simp
def widthP (s : List UInt8) (m i : Nat) : Int := (num ((s.drop (4 * min i (m - 1))).take 2) : Nat)
def WidthsR (h : Hd) (s : List UInt8) : List Int × Int :=
  if MayH h then (if (s.length : Int) < 2 * (h.glyphs + h.metrics) then ([], 3) else ((List.range h.glyphs.toNat).map (widthP s h.metrics.toNat), 0)) else ([], 1)
theorem c36 (h : Hd) {s : List UInt8} (hs : s.length ≤ 1000000) (H : Heap) :
    ∃ v X, call env 36 [.agg h.cs, .str (mkS s)] H = some (.tup [v, .int .i64 (WidthsR h s).2], H ++ X) ∧ SlOf (H ++ X) 1 IntC v (WidthsR h s).1 := by
  have e1 := fun H => c45 h H
  unfold WidthsR
  by_cases hm : MayH h
  · rw [decide_eq_true hm] at e1
    rw [if_pos hm]
    obtain ⟨m1, m2, m3, m4, m5, m6, m7, m8, m9⟩ := hm
    have w1 : IntKind.i64.wrap (h.glyphs + h.metrics) = h.glyphs + h.metrics := wrap_i64 (by omega) (by omega)
    have w2 : IntKind.i64.wrap (2 * (h.glyphs + h.metrics)) = 2 * (h.glyphs + h.metrics) := wrap_i64 (by omega) (by omega)
    by_cases hl : (s.length : Int) < 2 * (h.glyphs + h.metrics)
    · rw [if_pos hl]
      refine ⟨.nils, [], ?_, SlOf.nils (by decide)⟩
      simp only [Hd.cs] at e1 ⊢
      refine call_ends (fn := s36) rfl rfl (by simp [s36]) ?_
      simp only [s36, R1, R2, R3, R4, R5, R6, R7, R8, AV.flat, fillIn_nil, fillIn_cons, splice, AV.cells, AV.one, eqsOf, idx, SO.calls, List.reduceReplicate, Nat.reduceBEq, Nat.reduceLT, Nat.reduceAdd, Nat.reduceMul, Nat.reduceSub, Nat.reduceLeDiff, Nat.reduceEqDiff, ↓reduceIte, Int.reduceLT, Int.reduceEq, Int.reduceBNe, Int.reduceBEq, aeq, Int.reduceLE, Int.reduceNeg, Int.reduceMul, Int.reduceAdd, Int.reduceSub, Int.reduceToNat, Int.reducePow, e1, w1, w2, eq_true hl]
      rw [tidy_tup' (l := [.nils, .int .i64 3]) rfl]
    · rw [if_neg hl]
      obtain ⟨n, hn⟩ : ∃ n : Nat, h.glyphs = n := ⟨h.glyphs.toNat, by omega⟩
      obtain ⟨m, hmm⟩ : ∃ m : Nat, h.metrics = m := ⟨h.metrics.toNat, by omega⟩
      rw [hn] at m3 m4 m6 w1 w2 hl ⊢
      rw [hmm] at m5 m6 w1 w2 hl ⊢
      simp only [Int.toNat_natCast]
      let f := widthP s m
      have e2 := fun H => c80 s H
      have e3 := fun H => mk_row f n (by omega) H
      refine ⟨.sl H.length 0 n 1 (some n), [.cells (((List.range n).map f).flatMap IntC) 3 true], ?_, filled f n H _ _ _⟩
      simp only [Hd.cs, hn, hmm, RD] at e1 e2 ⊢
      refine call_ends (fn := s36) rfl rfl (by simp [s36]) ?_
      simp only [s36, R1, R2, R3, R4, R5, R6, R7, R8, AV.flat, fillIn_nil, fillIn_cons, splice, AV.cells, AV.one, eqsOf, idx, SO.calls, List.reduceReplicate, Nat.reduceBEq, Nat.reduceLT, Nat.reduceAdd, Nat.reduceMul, Nat.reduceSub, Nat.reduceLeDiff, Nat.reduceEqDiff, ↓reduceIte, Int.reduceLT, Int.reduceEq, Int.reduceBNe, Int.reduceBEq, aeq, Int.reduceLE, Int.reduceNeg, Int.reduceMul, Int.reduceAdd, Int.reduceSub, Int.reduceToNat, Int.reducePow, e1, e2, e3, w1, w2, eq_false hl]
      refine ends_loop (fun k t H' => t.length = 55 ∧ t.getD 2 .undef = .ptr H.length 0 ∧ t.getD 6 .undef = .ptr (H.length + 1) 0 ∧ t.getD 7 .undef = .sl (H.length + 2) 0 n 1 (some n) ∧ t.getD 29 .undef = .int .i64 (n : Int) ∧
        ∃ i : Nat, i ≤ n ∧ k = n - i ∧ t.getD 30 .undef = .int .i64 (i : Int) ∧ H' = H ++ [.cells h.cs 71 true, .cells (RD s (4 * min i m) false) 155 true, .cells (rowF f n i) 3 true]) n ?_ ?_
      · simp only [R1, R2, R3, R4, R5, R6, R7, R8, AV.flat, fillIn_nil, fillIn_cons, splice, AV.cells, AV.one, eqsOf, idx, SO.calls, List.reduceReplicate, Nat.reduceBEq, Nat.reduceLT, Nat.reduceAdd, Nat.reduceMul, Nat.reduceSub, Nat.reduceLeDiff, Nat.reduceEqDiff, ↓reduceIte, Int.reduceLT, Int.reduceEq, Int.reduceBNe, Int.reduceBEq, aeq, Int.reduceLE, Int.reduceNeg, Int.reduceMul, Int.reduceAdd, Int.reduceSub, Int.reduceToNat, Int.reducePow]
        exact ⟨0, by omega, by omega, rfl, by simp [Hd.cs, hn, hmm, RD]⟩
      · rintro k t H' ⟨g1, g2, g3, g4, g5, i, hi, rfl, g6, rfl⟩
        rw [← tm_nil t]
        simp only [Hd.cs, hn, hmm]
        by_cases hc : i < n
        · have a1 : ((i : Int) < (n : Int)) = True := eq_true (by omega)
          have v1 := wrap_i64 (x := (i : Int) + 1) (by omega) (by omega)
          have r1 : (i + 1 ≤ (rowF f n i).length) = True := eq_true (by rw [rowF_len]; omega)
          have r2 := rowF_set (f := f) hc
          have r3 : (i < n) = True := eq_true hc
          by_cases hmi : i < m
          · have a2 : ((i : Int) ≥ (m : Int)) = False := eq_false (by omega)
            have hp : min i m = i := by omega
            have hp1 : min (i + 1) m = i + 1 := by omega
            have e4 := c81 (H := H ++ [.cells h.cs 71 true, .cells (RD s (4 * i) false) 155 true, .cells (rowF f n i) 3 true]) (o := H.length + 1) at1 (l := s) (by omega) hs
            have e5 := c82 (H := H ++ [.cells h.cs 71 true, .cells (RD s (4 * i + 2) false) 155 true, .cells (rowF f n (i + 1)) 3 true]) (o := H.length + 1) at1 (l := s) (by omega) hs
            rw [set1] at e4 e5
            have hf : ((num ((s.drop (4 * i)).take 2) : Nat) : Int) = f i := by
              show _ = widthP s m i
              unfold widthP
              rw [show min i (m - 1) = i by omega]
            rw [hf] at e4
            have hb : f i < 65536 ∧ 0 ≤ f i := by rw [← hf]; have := num_byte (l := (s.drop (4 * i)).take 2) (by simp; omega); omega
            have v2 : IntKind.i64.wrap (f i) = f i := wrap_i64 (by omega) (by omega)
            rw [hp]
            generalize hrow : rowF f n i = row at r1 r2 e4 ⊢
            generalize hrow2 : rowF f n (i + 1) = row2 at r2 e5
            simp only [splice, Hd.cs, hn, hmm, R1, R2, R3, R4, R5, R6, R7, R8, AV.flat, fillIn_nil, fillIn_cons, splice, AV.cells, AV.one, eqsOf, idx, SO.calls, List.reduceReplicate, Nat.reduceBEq, Nat.reduceLT, Nat.reduceAdd, Nat.reduceMul, Nat.reduceSub, Nat.reduceLeDiff, Nat.reduceEqDiff, ↓reduceIte, Int.reduceLT, Int.reduceEq, Int.reduceBNe, Int.reduceBEq, aeq, Int.reduceLE, Int.reduceNeg, Int.reduceMul, Int.reduceAdd, Int.reduceSub, Int.reduceToNat, Int.reducePow] at r2 e4 e5
            simp only [R1, R2, R3, R4, R5, R6, R7, R8, AV.flat, fillIn_nil, fillIn_cons, splice, AV.cells, AV.one, eqsOf, idx, SO.calls, List.reduceReplicate, Nat.reduceBEq, Nat.reduceLT, Nat.reduceAdd, Nat.reduceMul, Nat.reduceSub, Nat.reduceLeDiff, Nat.reduceEqDiff, ↓reduceIte, Int.reduceLT, Int.reduceEq, Int.reduceBNe, Int.reduceBEq, aeq, Int.reduceLE, Int.reduceNeg, Int.reduceMul, Int.reduceAdd, Int.reduceSub, Int.reduceToNat, Int.reducePow, g1, g2, g3, g4, g5, g6, a1, a2, v1, v2, e4, e5, r1, r2, r3]
            exact ⟨n - (i + 1), by omega, i + 1, by omega, rfl, by simp, by rw [hp1, hrow2]; rfl⟩
          · have a2 : ((i : Int) ≥ (m : Int)) = True := eq_true (by omega)
            have hp : min (i + 1) m = min i m := by omega
            have v2 : IntKind.i64.wrap ((i : Int) - 1) = ((i - 1 : Nat) : Int) := by rw [wrap_i64 (by omega) (by omega)]; omega
            have r4 : (((i - 1 : Nat) : Int) < (n : Int)) = True := eq_true (by omega)
            have r5 : (i - 1 + 1 ≤ (rowF f n i).length) = True := eq_true (by rw [rowF_len]; omega)
            have r6 := rowF_get (f := f) (n := n) (i := i) (j := i - 1) (by omega) (by omega)
            have hf : f (i - 1) = f i := by
              show widthP s m (i - 1) = widthP s m i
              unfold widthP
              rw [show min (i - 1) (m - 1) = min i (m - 1) by omega]
            rw [hf] at r6
            rw [← hp]
            generalize hrow : rowF f n i = row at r1 r2 r5 r6 ⊢
            generalize hrow2 : rowF f n (i + 1) = row2 at r2
            generalize hrd : RD s (4 * min (i + 1) m) false = rd
            simp only [splice, R1, R2, R3, R4, R5, R6, R7, R8, AV.flat, fillIn_nil, fillIn_cons, splice, AV.cells, AV.one, eqsOf, idx, SO.calls, List.reduceReplicate, Nat.reduceBEq, Nat.reduceLT, Nat.reduceAdd, Nat.reduceMul, Nat.reduceSub, Nat.reduceLeDiff, Nat.reduceEqDiff, ↓reduceIte, Int.reduceLT, Int.reduceEq, Int.reduceBNe, Int.reduceBEq, aeq, Int.reduceLE, Int.reduceNeg, Int.reduceMul, Int.reduceAdd, Int.reduceSub, Int.reduceToNat, Int.reducePow] at r2 
            simp only [R1, R2, R3, R4, R5, R6, R7, R8, AV.flat, fillIn_nil, fillIn_cons, splice, AV.cells, AV.one, eqsOf, idx, SO.calls, List.reduceReplicate, Nat.reduceBEq, Nat.reduceLT, Nat.reduceAdd, Nat.reduceMul, Nat.reduceSub, Nat.reduceLeDiff, Nat.reduceEqDiff, ↓reduceIte, Int.reduceLT, Int.reduceEq, Int.reduceBNe, Int.reduceBEq, aeq, Int.reduceLE, Int.reduceNeg, Int.reduceMul, Int.reduceAdd, Int.reduceSub, Int.reduceToNat, Int.reducePow, g1, g2, g3, g4, g5, g6, a1, a2, v1, v2, r1, r2, r3, r4, r5, r6]
            exact ⟨n - (i + 1), by omega, i + 1, by omega, rfl, by simp, by rw [hrow2, hrd]⟩
        · have a1 : ((i : Int) < (n : Int)) = False := eq_false (by omega)
          obtain rfl : i = n := by omega
          simp only [R1, R2, R3, R4, R5, R6, R7, R8, AV.flat, fillIn_nil, fillIn_cons, splice, AV.cells, AV.one, eqsOf, idx, SO.calls, List.reduceReplicate, Nat.reduceBEq, Nat.reduceLT, Nat.reduceAdd, Nat.reduceMul, Nat.reduceSub, Nat.reduceLeDiff, Nat.reduceEqDiff, ↓reduceIte, Int.reduceLT, Int.reduceEq, Int.reduceBNe, Int.reduceBEq, aeq, Int.reduceLE, Int.reduceNeg, Int.reduceMul, Int.reduceAdd, Int.reduceSub, Int.reduceToNat, Int.reducePow, g1, g2, g3, g4, g5, g6, a1]
          rw [tidy_sl (k := 2) rfl (by rw [rowF_end]; simp [IntC, AV.flat]) (by rw [rowF_len]; omega) rfl]
          rw [List.drop_zero, List.take_of_length_le (by rw [rowF_len]; omega), rowF_end]
  · rw [decide_eq_false hm] at e1
    rw [if_neg hm]
    refine ⟨.nils, [], ?_, SlOf.nils (by decide)⟩
    simp only [Hd.cs] at e1 ⊢
    refine call_ends (fn := s36) rfl rfl (by simp [s36]) ?_
    simp only [s36, R1, R2, R3, R4, R5, R6, R7, R8, AV.flat, fillIn_nil, fillIn_cons, splice, AV.cells, AV.one, eqsOf, idx, SO.calls, List.reduceReplicate, Nat.reduceBEq, Nat.reduceLT, Nat.reduceAdd, Nat.reduceMul, Nat.reduceSub, Nat.reduceLeDiff, Nat.reduceEqDiff, ↓reduceIte, Int.reduceLT, Int.reduceEq, Int.reduceBNe, Int.reduceBEq, aeq, Int.reduceLE, Int.reduceNeg, Int.reduceMul, Int.reduceAdd, Int.reduceSub, Int.reduceToNat, Int.reducePow, e1]
    rw [tidy_tup' (l := [.nils, .int .i64 1]) rfl]
end Go.Proofs.Ythfpndelfbeknaa
