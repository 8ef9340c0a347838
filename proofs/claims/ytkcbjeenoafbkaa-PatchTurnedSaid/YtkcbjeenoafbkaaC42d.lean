/- Chapter 42: what steps make. -/
import Derived.Test.YtkcbjeenoafbkaaC42c
import Derived.Test.YtkcbjeenoafbkaaBld
set_option linter.unusedVariables false
set_option linter.unusedSimpArgs false
set_option maxRecDepth 100000
set_option maxHeartbeats 2000000
namespace Go.Proofs.Ytkcbjeenoafbkaa
open Go Go.Den
theorem drop_suc {α : Type} {l : List α} {i : Nat} (h : i < l.length) : l.drop i = l[i] :: l.drop (i + 1) := List.drop_eq_getElem_cons h
theorem Bld.junk {K R : Heap} {bs : List UInt8} (h : Bld K R bs) (X : Heap) : Bld K (R ++ X) bs := by
  obtain ⟨a, b, Z, rfl, ha, hb⟩ := h
  refine ⟨a, b, Z ++ X, rfl, ha, ?_⟩
  rcases hb with hb | ⟨k, h1, h2, h3⟩
  · exact .inl hb
  · exact .inr ⟨k, h1, getElem?_keep h2, h3⟩
theorem c88 {K R : Heap} {bs : List UInt8} (h : Bld K R bs) : call env 88 [.ptr K.length 0] (K ++ R) = some (.int .i64 (bs.length : Int), K ++ R) := by
  obtain ⟨a, b, Z, rfl, ha, hb⟩ := h
  rcases hb with ⟨rfl, rfl⟩ | ⟨k, rfl, hk, h0⟩
  all_goals
    refine call_ends (fn := s88) rfl rfl (by simp [s88]) ?_
    simp only [s88, R1, R2, R3, R4, R5, R6, R7, R8, AV.flat, fillIn_nil, fillIn_cons, splice, AV.cells, AV.one, eqsOf, idx, SO.calls, List.reduceReplicate, Nat.reduceBEq, Nat.reduceLT, Nat.reduceAdd, Nat.reduceMul, Nat.reduceSub, Nat.reduceLeDiff, Nat.reduceEqDiff, ↓reduceIte, Int.reduceLT, Int.reduceEq, Int.reduceBNe, Int.reduceBEq, aeq, Int.reduceLE, Int.reduceNeg, Int.reduceMul, Int.reduceAdd, Int.reduceSub, Int.reduceToNat, Int.reducePow, tidy_int, Int.cast_ofNat_Int]
theorem c87 (s : Stp) {old : List UInt8} (ho : old.length ≤ 1000000) (H : Heap) :
    call env 87 [.agg (Stp.cs s), .str (mkS old)] H = some (.tup [.str (mkS ((partP old s).getD [])), .int .i64 (if (partP old s).isSome then 0 else 3)], H) := by
  obtain ⟨so, ss, sn, sw⟩ := s
  have eC := fun H => c112 old (ss : Int) (sn : Int) H ho
  unfold partP
  simp only [Stp.cs]
  cases so
  · refine call_ends (fn := s87) rfl rfl (by simp [s87]) ?_
    simp only [s87, R1, R2, R3, R4, R5, R6, R7, R8, AV.flat, fillIn_nil, fillIn_cons, splice, AV.cells, AV.one, eqsOf, idx, SO.calls, List.reduceReplicate, Nat.reduceBEq, Nat.reduceLT, Nat.reduceAdd, Nat.reduceMul, Nat.reduceSub, Nat.reduceLeDiff, Nat.reduceEqDiff, ↓reduceIte, Int.reduceLT, Int.reduceEq, Int.reduceBNe, Int.reduceBEq, aeq, Int.reduceLE, Int.reduceNeg, Int.reduceMul, Int.reduceAdd, Int.reduceSub, Int.reduceToNat, Int.reducePow]
    rw [tidy_tup' (l := [.str (mkS sw), .int .i64 0]) rfl]; rfl
  · simp only [if_true]
    cases hc : cut old (ss : Int) (sn : Int) with
    | none =>
      rw [hc] at eC
      simp only [cutS, cutE, Option.getD_none, Option.isSome_none, Bool.false_eq_true, if_false] at eC ⊢
      refine call_ends (fn := s87) rfl rfl (by simp [s87]) ?_
      simp only [s87, R1, R2, R3, R4, R5, R6, R7, R8, AV.flat, fillIn_nil, fillIn_cons, splice, AV.cells, AV.one, eqsOf, idx, SO.calls, List.reduceReplicate, Nat.reduceBEq, Nat.reduceLT, Nat.reduceAdd, Nat.reduceMul, Nat.reduceSub, Nat.reduceLeDiff, Nat.reduceEqDiff, ↓reduceIte, Int.reduceLT, Int.reduceEq, Int.reduceBNe, Int.reduceBEq, aeq, Int.reduceLE, Int.reduceNeg, Int.reduceMul, Int.reduceAdd, Int.reduceSub, Int.reduceToNat, Int.reducePow, eC]
      rw [tidy_tup' (l := [.str (mkS []), .int .i64 3]) rfl]
    | some b =>
      rw [hc] at eC
      simp only [cutS, cutE, Option.getD_some, Option.isSome_some, if_true] at eC ⊢
      refine call_ends (fn := s87) rfl rfl (by simp [s87]) ?_
      simp only [s87, R1, R2, R3, R4, R5, R6, R7, R8, AV.flat, fillIn_nil, fillIn_cons, splice, AV.cells, AV.one, eqsOf, idx, SO.calls, List.reduceReplicate, Nat.reduceBEq, Nat.reduceLT, Nat.reduceAdd, Nat.reduceMul, Nat.reduceSub, Nat.reduceLeDiff, Nat.reduceEqDiff, ↓reduceIte, Int.reduceLT, Int.reduceEq, Int.reduceBNe, Int.reduceBEq, aeq, Int.reduceLE, Int.reduceNeg, Int.reduceMul, Int.reduceAdd, Int.reduceSub, Int.reduceToNat, Int.reducePow, eC]
      rw [tidy_tup' (l := [.str (mkS b), .int .i64 0]) rfl]
theorem part_len {old : List UInt8} {s : Stp} {b : List UInt8} (h : partP old s = some b) (ho : old.length ≤ 1000000) (hs : s.own.length ≤ 1000000) : b.length ≤ 1000000 := by
  unfold partP at h
  split at h
  · unfold cut at h
    split at h
    · cases h
    · injection h with h; subst h
      rw [List.length_take, List.length_drop]; omega
  · injection h with h; subst h; exact hs
theorem c56 {H : Heap} {v : AV} {l : List Stp} (hs : SlOf H 4 Stp.cs v l) (hn : l.length ≤ 1000000) (hw : ∀ s ∈ l, s.own.length ≤ 1000000) {old : List UInt8} (ho : old.length ≤ 1000000) {most : Nat} (hm : most ≤ 1000000) :
    call env 56 [.str (mkS old), v, .int .i64 (most : Int)] H = some (.tup [.str (mkS (madeP old most [] l).1), .int .i64 (madeP old most [] l).2], H) := by
  have e1 := hs.lenOf
  have hlt : ∀ R bs, Bld H R bs → (H ++ R).length = H.length + R.length := fun R bs _ => List.length_append
  refine call_ends (fn := s56) rfl rfl (by simp [s56]) ?_
  simp only [s56, R1, R2, R3, R4, R5, R6, R7, R8, AV.flat, fillIn_nil, fillIn_cons, splice, AV.cells, AV.one, eqsOf, idx, SO.calls, List.reduceReplicate, Nat.reduceBEq, Nat.reduceLT, Nat.reduceAdd, Nat.reduceMul, Nat.reduceSub, Nat.reduceLeDiff, Nat.reduceEqDiff, ↓reduceIte, Int.reduceLT, Int.reduceEq, Int.reduceBNe, Int.reduceBEq, aeq, Int.reduceLE, Int.reduceNeg, Int.reduceMul, Int.reduceAdd, Int.reduceSub, Int.reduceToNat, Int.reducePow, e1]
  refine ends_loop (fun k t H' => t.length = 40 ∧ (t.getD 0 .undef = .str (mkS old) ∧ t.getD 2 .undef = .int .i64 (most : Int) ∧ t.getD 8 .undef = .ptr H.length 0 ∧ t.getD 13 .undef = v ∧ t.getD 14 .undef = .int .i64 (l.length : Int)) ∧ ∃ (i : Nat) (R : Heap) (acc : List UInt8), i ≤ l.length ∧ k = l.length - i ∧ t.getD 15 .undef = .int .i64 (i : Int) ∧ H' = H ++ R ∧ Bld H R acc ∧ acc.length ≤ most ∧
    madeP old most [] l = madeP old most acc (l.drop i)) l.length ?_ ?_
  · simp only [R1, R2, R3, R4, R5, R6, R7, R8, AV.flat, fillIn_nil, fillIn_cons, splice, AV.cells, AV.one, eqsOf, idx, SO.calls, List.reduceReplicate, Nat.reduceBEq, Nat.reduceLT, Nat.reduceAdd, Nat.reduceMul, Nat.reduceSub, Nat.reduceLeDiff, Nat.reduceEqDiff, ↓reduceIte, Int.reduceLT, Int.reduceEq, Int.reduceBNe, Int.reduceBEq, aeq, Int.reduceLE, Int.reduceNeg, Int.reduceMul, Int.reduceAdd, Int.reduceSub, Int.reduceToNat, Int.reducePow]
    exact ⟨0, _, [], by omega, by omega, rfl, rfl, Bld.fresh H, by simp, rfl⟩
  · rintro k t _ ⟨g1, ⟨g2, g3, g4, g5, g6⟩, i, R, acc, hi, rfl, g7, rfl, hb, hal, hmd⟩
    rw [← tm_nil t]
    by_cases hc : i < l.length
    · have a1 : ((i : Int) < (l.length : Int)) = True := eq_true (by omega)
      have w1 : IntKind.i64.wrap ((i : Int) + 1) = ((i + 1 : Nat) : Int) := by rw [wrap_i64 (by omega) (by omega)]; rfl
      have E := hs.elem hc
      have hwi := hw _ (List.getElem_mem hc)
      rw [drop_suc hc, madeP] at hmd
      have eB := fun H => c87 l[i] ho H
      generalize l[i] = s at *
      cases hpt : partP old s with
      | none =>
        rw [hpt] at hmd eB
        simp only [Option.getD_none, Option.isSome_none, Bool.false_eq_true, if_false] at hmd eB
        rw [hmd]
        simp only [Stp.cs] at E eB
        simp only [R1, R2, R3, R4, R5, R6, R7, R8, AV.flat, fillIn_nil, fillIn_cons, splice, AV.cells, AV.one, eqsOf, idx, SO.calls, List.reduceReplicate, Nat.reduceBEq, Nat.reduceLT, Nat.reduceAdd, Nat.reduceMul, Nat.reduceSub, Nat.reduceLeDiff, Nat.reduceEqDiff, ↓reduceIte, Int.reduceLT, Int.reduceEq, Int.reduceBNe, Int.reduceBEq, aeq, Int.reduceLE, Int.reduceNeg, Int.reduceMul, Int.reduceAdd, Int.reduceSub, Int.reduceToNat, Int.reducePow, g1, g2, g3, g4, g5, g6, g7, a1, E, eB]
        rw [tidy_tup' (l := [.str (mkS []), .int .i64 3]) rfl]
      | some b =>
        rw [hpt] at hmd eB
        simp only [Option.getD_some, Option.isSome_some, if_true] at hmd eB
        have hbl := part_len hpt ho hwi
        have hj := hb.junk [.cells (Stp.cs s) 140 true]
        have eL := c88 hj
        have w2 : IntKind.i64.wrap ((acc.length : Int) + (b.length : Int)) = ((acc.length + b.length : Nat) : Int) := by rw [wrap_i64 (by omega) (by omega)]; rfl
        by_cases hgt : acc.length + b.length > most
        · have b1 : (((acc.length + b.length : Nat) : Int) > (most : Int)) = True := eq_true (by omega)
          rw [if_pos hgt] at hmd
          rw [hmd]
          simp only [Stp.cs] at E eB eL
          simp only [R1, R2, R3, R4, R5, R6, R7, R8, AV.flat, fillIn_nil, fillIn_cons, splice, AV.cells, AV.one, eqsOf, idx, SO.calls, List.reduceReplicate, Nat.reduceBEq, Nat.reduceLT, Nat.reduceAdd, Nat.reduceMul, Nat.reduceSub, Nat.reduceLeDiff, Nat.reduceEqDiff, ↓reduceIte, Int.reduceLT, Int.reduceEq, Int.reduceBNe, Int.reduceBEq, aeq, Int.reduceLE, Int.reduceNeg, Int.reduceMul, Int.reduceAdd, Int.reduceSub, Int.reduceToNat, Int.reducePow, g1, g2, g3, g4, g5, g6, g7, a1, E, eB, eL, w2, b1]
          rw [tidy_tup' (l := [.str (mkS []), .int .i64 6]) rfl]
        · have b1 : (((acc.length + b.length : Nat) : Int) > (most : Int)) = False := eq_false (by omega)
          rw [if_neg hgt] at hmd
          obtain ⟨R', eW, hb'⟩ := c89 hj b (by omega)
          simp only [Stp.cs] at E eB eL eW
          simp only [R1, R2, R3, R4, R5, R6, R7, R8, AV.flat, fillIn_nil, fillIn_cons, splice, AV.cells, AV.one, eqsOf, idx, SO.calls, List.reduceReplicate, Nat.reduceBEq, Nat.reduceLT, Nat.reduceAdd, Nat.reduceMul, Nat.reduceSub, Nat.reduceLeDiff, Nat.reduceEqDiff, ↓reduceIte, Int.reduceLT, Int.reduceEq, Int.reduceBNe, Int.reduceBEq, aeq, Int.reduceLE, Int.reduceNeg, Int.reduceMul, Int.reduceAdd, Int.reduceSub, Int.reduceToNat, Int.reducePow, g1, g2, g3, g4, g5, g6, g7, a1, w1, E, eB, eL, eW, w2, b1]
          exact ⟨_, by omega, i + 1, R', acc ++ b, by omega, rfl, rfl, rfl, hb', by rw [List.length_append]; omega, hmd⟩
    · have a1 : ((i : Int) < (l.length : Int)) = False := eq_false (by omega)
      obtain rfl : i = l.length := by omega
      rw [List.drop_length, madeP] at hmd
      rw [hmd]
      obtain ⟨R', eS⟩ := c90 hb (by omega)
      simp only [R1, R2, R3, R4, R5, R6, R7, R8, AV.flat, fillIn_nil, fillIn_cons, splice, AV.cells, AV.one, eqsOf, idx, SO.calls, List.reduceReplicate, Nat.reduceBEq, Nat.reduceLT, Nat.reduceAdd, Nat.reduceMul, Nat.reduceSub, Nat.reduceLeDiff, Nat.reduceEqDiff, ↓reduceIte, Int.reduceLT, Int.reduceEq, Int.reduceBNe, Int.reduceBEq, aeq, Int.reduceLE, Int.reduceNeg, Int.reduceMul, Int.reduceAdd, Int.reduceSub, Int.reduceToNat, Int.reducePow, g1, g2, g3, g4, g5, g6, g7, a1, eS]
      rw [tidy_tup' (l := [.str (mkS acc), .int .i64 0]) rfl]
end Go.Proofs.Ytkcbjeenoafbkaa
