/- Chapter 11: the reference's Widths. -/
import Derived.Test.YthfpndelfbeknaaC11b
set_option linter.unusedVariables false
set_option linter.unusedSimpArgs false
set_option maxRecDepth 100000
set_option maxHeartbeats 1000000
namespace Go.Proofs.Ythfpndelfbeknaa
open Go Go.Den
theorem int_one (n : Int) : (IntC n).all AV.one = true := rfl
/-- Two bytes of a text, by the reference. -/
theorem ref_u16 {s : List UInt8} (hs : s.length ≤ 1000000) {a : Nat} (ha : a + 2 ≤ s.length) (H : Heap) : call env 83 [.str (mkS s), .int .i64 (a : Int)] H = some (.tup [.int .u16 (num ((s.drop a).take 2) : Nat), .int .i64 0], H) := by
  have e := c83 s a H hs
  have : cut s a 2 = some ((s.drop a).take 2) := by unfold cut; rw [if_neg (by omega)]; simp
  have hb : num ((s.drop a).take 2) < 65536 := num_byte (by simp; omega)
  rw [this] at e
  simp only [cutS, cutE, Option.getD_some, Option.isSome, if_true, Nat.mod_eq_of_lt hb] at e
  exact e
theorem ref_u32 {s : List UInt8} (hs : s.length ≤ 1000000) {a : Nat} (ha : a + 4 ≤ s.length) (H : Heap) : call env 85 [.str (mkS s), .int .i64 (a : Int)] H = some (.tup [.int .u32 (num ((s.drop a).take 4) : Nat), .int .i64 0], H) := by
  have e := c85 s a H hs
  have : cut s a 4 = some ((s.drop a).take 4) := by unfold cut; rw [if_neg (by omega)]; simp
  rw [this] at e
  simp only [cutS, cutE, Option.getD_some, Option.isSome, if_true] at e
  exact e
/-- Behind a call: a slice that grew behind rows of its own. -/
theorem acc_tidy {α : Type} {H B H' : Heap} {e : TypeId} {sz : Nat} {g : α → List AV} {v : AV} {l : List α} (h : Acc (H ++ B) H' e sz g v l) (hg : Cel sz g) {r : List AV} (hr : r.all AV.still = true) (hw : whole e = false := by decide) :
    tidy H (.tup (v :: r)) H' = (.tup ((newSl H e sz g l).1 :: r), H ++ (newSl H e sz g l).2) := by
  obtain ⟨X, rfl, hx⟩ := h.heap
  rcases hx with ⟨h1, h2⟩ | ⟨h0, o, h1, h2⟩
  · subst h1 h2
    have := tidy_still (H := H) (X := B ++ X) (l := AV.nils :: r) (by simp only [List.all_cons, hr, Bool.and_true]; rfl)
    rw [List.append_assoc, this]
    simp [newSl]
  · subst h1
    have hfl : (l.flatMap g).all AV.flat = true := by
      simp only [List.all_flatMap, List.all_eq_true]
      exact fun a _ => by simpa using hg.flat a
    have hlf : (l.flatMap g).length = l.length * sz := flat_len fun a _ => hg.size a
    have := tidy_sl (H := H) (X := B ++ X) (k := B.length + o) (off := 0) (len := l.length) (sz := sz) (cap := none) (l := l.flatMap g) (e := e) (w := true) (r := r) (by rw [List.getElem?_append_right (by omega), Nat.add_sub_cancel_left]; exact h2) hfl (by omega) hr hw
    rw [List.append_assoc, List.length_append, Nat.add_assoc, this]
    simp only [newSl, if_neg h0, List.drop_zero]
    rw [List.take_of_length_le (by omega)]
theorem c37 (h : Hd) {s : List UInt8} (hs : s.length ≤ 1000000) (H : Heap) :
    ∃ v X, call env 37 [.agg h.cs, .str (mkS s)] H = some (.tup [v, .int .i64 (WidthsR h s).2], H ++ X) ∧ SlOf (H ++ X) 1 IntC v (WidthsR h s).1 := by
  have e1 := fun H => c46 h H
  unfold WidthsR
  by_cases hm : MayH h
  · rw [decide_eq_true hm] at e1
    rw [if_pos hm]
    obtain ⟨m1, m2, m3, m4, m5, m6, m7, m8, m9⟩ := hm
    obtain ⟨n, hn⟩ : ∃ n : Nat, h.glyphs = n := ⟨h.glyphs.toNat, by omega⟩
    obtain ⟨m, hmm⟩ : ∃ m : Nat, h.metrics = m := ⟨h.metrics.toNat, by omega⟩
    rw [hn] at m3 m4 m6 ⊢
    rw [hmm] at m5 m6 ⊢
    have w1 : IntKind.i64.wrap (4 * (m : Int)) = 4 * m := wrap_i64 (by omega) (by omega)
    have w2 : IntKind.i64.wrap ((n : Int) - m) = n - m := wrap_i64 (by omega) (by omega)
    have w3 : IntKind.i64.wrap (2 * ((n : Int) - m)) = 2 * (n - m) := wrap_i64 (by omega) (by omega)
    have w4 : IntKind.i64.wrap (4 * (m : Int) + 2 * ((n : Int) - m)) = 2 * (n + m) := by rw [wrap_i64 (by omega) (by omega)]; omega
    by_cases hl : (s.length : Int) < 2 * (n + m)
    · rw [if_pos hl]
      refine ⟨.nils, [], ?_, SlOf.nils (by decide)⟩
      simp only [Hd.cs, hn, hmm] at e1 ⊢
      refine call_ends (fn := s37) rfl rfl (by simp [s37]) ?_
      simp only [s37, R1, R2, R3, R4, R5, R6, R7, R8, AV.flat, fillIn_nil, fillIn_cons, splice, AV.cells, AV.one, eqsOf, idx, SO.calls, List.reduceReplicate, Nat.reduceBEq, Nat.reduceLT, Nat.reduceAdd, Nat.reduceMul, Nat.reduceSub, Nat.reduceLeDiff, Nat.reduceEqDiff, ↓reduceIte, Int.reduceLT, Int.reduceEq, Int.reduceBNe, Int.reduceBEq, aeq, Int.reduceLE, Int.reduceNeg, Int.reduceMul, Int.reduceAdd, Int.reduceSub, Int.reduceToNat, Int.reducePow, e1, w1, w2, w3, w4, eq_true hl]
      rw [tidy_tup' (l := [.nils, .int .i64 3]) rfl]
    · rw [if_neg hl]
      simp only [Int.toNat_natCast]
      let f := widthP s m
      have hcs : h.cs = [.int .i64 h.em, .bool h.long, .int .i64 n, .int .i64 m, .int .i64 h.up, .int .i64 h.down, .int .i64 h.gap] := by simp only [Hd.cs, hn, hmm]
      refine ⟨_, _, ?_, newSl_of (e := 3) (l := (List.range n).map f) (fun a _ => rfl) (by decide)⟩
      simp only [Hd.cs, hn, hmm] at e1 ⊢
      refine call_ends (fn := s37) rfl rfl (by simp [s37]) ?_
      simp only [s37, R1, R2, R3, R4, R5, R6, R7, R8, AV.flat, fillIn_nil, fillIn_cons, splice, AV.cells, AV.one, eqsOf, idx, SO.calls, List.reduceReplicate, Nat.reduceBEq, Nat.reduceLT, Nat.reduceAdd, Nat.reduceMul, Nat.reduceSub, Nat.reduceLeDiff, Nat.reduceEqDiff, ↓reduceIte, Int.reduceLT, Int.reduceEq, Int.reduceBNe, Int.reduceBEq, aeq, Int.reduceLE, Int.reduceNeg, Int.reduceMul, Int.reduceAdd, Int.reduceSub, Int.reduceToNat, Int.reducePow, e1, w1, w2, w3, w4, eq_false hl]
      refine ends_loop (fun k t H' => t.length = 54 ∧ t.getD 1 .undef = .str (mkS s) ∧ t.getD 2 .undef = .ptr H.length 0 ∧ ∃ i v, i ≤ n ∧ k = n - i ∧ t.getD 6 .undef = v ∧ t.getD 7 .undef = .int .i64 ((i : Nat) : Int) ∧
        Acc (H ++ [.cells h.cs 71 true]) H' 3 1 IntC v ((List.range i).map f)) n ?_ ?_
      · simp only [R1, R2, R3, R4, R5, R6, R7, R8, AV.flat, fillIn_nil, fillIn_cons, splice, AV.cells, AV.one, eqsOf, idx, SO.calls, List.reduceReplicate, Nat.reduceBEq, Nat.reduceLT, Nat.reduceAdd, Nat.reduceMul, Nat.reduceSub, Nat.reduceLeDiff, Nat.reduceEqDiff, ↓reduceIte, Int.reduceLT, Int.reduceEq, Int.reduceBNe, Int.reduceBEq, aeq, Int.reduceLE, Int.reduceNeg, Int.reduceMul, Int.reduceAdd, Int.reduceSub, Int.reduceToNat, Int.reducePow]
        exact ⟨0, .nils, by omega, by omega, rfl, rfl, by rw [hcs]; exact Acc.start⟩
      · rintro k t H' ⟨g1, g2, g3, i, v, hi, rfl, rfl, g5, ha⟩
        rw [← tm_nil t]
        obtain ⟨X, hX⟩ := ha.above
        have hX' : H' = H ++ (.cells h.cs 71 true :: X) := by rw [hX]; simp
        simp only [Hd.cs, hn, hmm] at hX'
        by_cases hc : i < n
        · have a1 : ((i : Int) < (n : Int)) = True := eq_true (by omega)
          have v1 := wrap_i64 (x := (i : Int) + 1) (by omega) (by omega)
          have hb : f i < 65536 ∧ 0 ≤ f i := by
            show widthP s m i < 65536 ∧ 0 ≤ widthP s m i
            unfold widthP
            have := num_byte (l := (s.drop (4 * min i (m - 1))).take 2) (by simp; omega)
            omega
          have v2 : IntKind.i64.wrap (f i) = f i := wrap_i64 (by omega) (by omega)
          obtain ⟨v', H'', e9, ha'⟩ := (ha.junk [.cells (IntC (f i)) 3 true]).push (m := [f i]) (x := .sl H'.length 0 1 1 (some 1)) (by simp) (fun _ _ => rfl) (fun _ _ => rfl) rfl
            (show acells (H' ++ [.cells (IntC (f i)) 3 true]) (.sl H'.length 0 1 1 (some 1)) = _ by simp [acells, aload, arow, IntC]) (by simp; omega)
          have hr : (List.range (i + 1)).map f = (List.range i).map f ++ [f i] := by rw [List.range_succ, List.map_append]; rfl
          rw [← hr] at ha'
          by_cases hmi : i < m
          · have a2 : ((i : Int) ≥ (m : Int)) = False := eq_false (by omega)
            have v3 : IntKind.i64.wrap (4 * (i : Int)) = ((4 * i : Nat) : Int) := by rw [wrap_i64 (by omega) (by omega)]; omega
            have e2 := fun H => ref_u16 hs (a := 4 * i) (by omega) H
            have hf : ((num ((s.drop (4 * i)).take 2) : Nat) : Int) = f i := by
              show _ = widthP s m i
              unfold widthP
              rw [show min i (m - 1) = i by omega]
            rw [hf] at e2
            subst hX'
            simp only [IntC, R1, R2, R3, R4, R5, R6, R7, R8, AV.flat, fillIn_nil, fillIn_cons, splice, AV.cells, AV.one, eqsOf, idx, SO.calls, List.reduceReplicate, Nat.reduceBEq, Nat.reduceLT, Nat.reduceAdd, Nat.reduceMul, Nat.reduceSub, Nat.reduceLeDiff, Nat.reduceEqDiff, ↓reduceIte, Int.reduceLT, Int.reduceEq, Int.reduceBNe, Int.reduceBEq, aeq, Int.reduceLE, Int.reduceNeg, Int.reduceMul, Int.reduceAdd, Int.reduceSub, Int.reduceToNat, Int.reducePow] at e9 
            simp only [R1, R2, R3, R4, R5, R6, R7, R8, AV.flat, fillIn_nil, fillIn_cons, splice, AV.cells, AV.one, eqsOf, idx, SO.calls, List.reduceReplicate, Nat.reduceBEq, Nat.reduceLT, Nat.reduceAdd, Nat.reduceMul, Nat.reduceSub, Nat.reduceLeDiff, Nat.reduceEqDiff, ↓reduceIte, Int.reduceLT, Int.reduceEq, Int.reduceBNe, Int.reduceBEq, aeq, Int.reduceLE, Int.reduceNeg, Int.reduceMul, Int.reduceAdd, Int.reduceSub, Int.reduceToNat, Int.reducePow, g1, g2, g3, g5, a1, a2, v1, v2, v3, e2, e9]
            exact ⟨n - (i + 1), by omega, i + 1, v', by omega, rfl, rfl, by simp, ha'⟩
          · have a2 : ((i : Int) ≥ (m : Int)) = True := eq_true (by omega)
            have v4 : IntKind.i64.wrap ((m : Int) - 1) = ((m - 1 : Nat) : Int) := by rw [wrap_i64 (by omega) (by omega)]; omega
            have v3 : IntKind.i64.wrap (4 * ((m - 1 : Nat) : Int)) = ((4 * (m - 1) : Nat) : Int) := by rw [wrap_i64 (by omega) (by omega)]; omega
            have e2 := fun H => ref_u16 hs (a := 4 * (m - 1)) (by omega) H
            have hf : ((num ((s.drop (4 * (m - 1))).take 2) : Nat) : Int) = f i := by
              show _ = widthP s m i
              unfold widthP
              rw [show min i (m - 1) = m - 1 by omega]
            rw [hf] at e2
            subst hX'
            simp only [IntC, R1, R2, R3, R4, R5, R6, R7, R8, AV.flat, fillIn_nil, fillIn_cons, splice, AV.cells, AV.one, eqsOf, idx, SO.calls, List.reduceReplicate, Nat.reduceBEq, Nat.reduceLT, Nat.reduceAdd, Nat.reduceMul, Nat.reduceSub, Nat.reduceLeDiff, Nat.reduceEqDiff, ↓reduceIte, Int.reduceLT, Int.reduceEq, Int.reduceBNe, Int.reduceBEq, aeq, Int.reduceLE, Int.reduceNeg, Int.reduceMul, Int.reduceAdd, Int.reduceSub, Int.reduceToNat, Int.reducePow] at e9 
            simp only [R1, R2, R3, R4, R5, R6, R7, R8, AV.flat, fillIn_nil, fillIn_cons, splice, AV.cells, AV.one, eqsOf, idx, SO.calls, List.reduceReplicate, Nat.reduceBEq, Nat.reduceLT, Nat.reduceAdd, Nat.reduceMul, Nat.reduceSub, Nat.reduceLeDiff, Nat.reduceEqDiff, ↓reduceIte, Int.reduceLT, Int.reduceEq, Int.reduceBNe, Int.reduceBEq, aeq, Int.reduceLE, Int.reduceNeg, Int.reduceMul, Int.reduceAdd, Int.reduceSub, Int.reduceToNat, Int.reducePow, g1, g2, g3, g5, a1, a2, v1, v2, v3, v4, e2, e9]
            exact ⟨n - (i + 1), by omega, i + 1, v', by omega, rfl, rfl, by simp, ha'⟩
        · have a1 : ((i : Int) < (n : Int)) = False := eq_false (by omega)
          obtain rfl : i = n := by omega
          have e9 := acc_tidy ha int_cel (r := [.int .i64 0]) rfl
          subst hX'
          simp only [R1, R2, R3, R4, R5, R6, R7, R8, AV.flat, fillIn_nil, fillIn_cons, splice, AV.cells, AV.one, eqsOf, idx, SO.calls, List.reduceReplicate, Nat.reduceBEq, Nat.reduceLT, Nat.reduceAdd, Nat.reduceMul, Nat.reduceSub, Nat.reduceLeDiff, Nat.reduceEqDiff, ↓reduceIte, Int.reduceLT, Int.reduceEq, Int.reduceBNe, Int.reduceBEq, aeq, Int.reduceLE, Int.reduceNeg, Int.reduceMul, Int.reduceAdd, Int.reduceSub, Int.reduceToNat, Int.reducePow, g1, g2, g3, g5, a1]
          rw [e9]
  · rw [decide_eq_false hm] at e1
    rw [if_neg hm]
    refine ⟨.nils, [], ?_, SlOf.nils (by decide)⟩
    simp only [Hd.cs] at e1 ⊢
    refine call_ends (fn := s37) rfl rfl (by simp [s37]) ?_
    simp only [s37, R1, R2, R3, R4, R5, R6, R7, R8, AV.flat, fillIn_nil, fillIn_cons, splice, AV.cells, AV.one, eqsOf, idx, SO.calls, List.reduceReplicate, Nat.reduceBEq, Nat.reduceLT, Nat.reduceAdd, Nat.reduceMul, Nat.reduceSub, Nat.reduceLeDiff, Nat.reduceEqDiff, ↓reduceIte, Int.reduceLT, Int.reduceEq, Int.reduceBNe, Int.reduceBEq, aeq, Int.reduceLE, Int.reduceNeg, Int.reduceMul, Int.reduceAdd, Int.reduceSub, Int.reduceToNat, Int.reducePow, e1]
    rw [tidy_tup' (l := [.nils, .int .i64 1]) rfl]
end Go.Proofs.Ythfpndelfbeknaa
