/- Chapter 42: the reference's Apply and Steps. -/
import Derived.Test.YtkcbjeenoafbkaaC42f
set_option linter.unusedVariables false
set_option linter.unusedSimpArgs false
set_option maxRecDepth 100000
set_option maxHeartbeats 2000000
namespace Go.Proofs.Ytkcbjeenoafbkaa
open Go Go.Den
theorem extract_4 {a b c d e : AV} {l : List AV} {H : Heap} : extractOf (.tup (a :: b :: c :: d :: e :: l)) 4 H = some (e, H) := _root_.id rfl
theorem cnt_part {old p b : List UInt8} {a : Nat} (hE : stepE p a = 0) (ha : a < p.length) (h : partP old (stepS p a) = some b) : b.length = cnt p a := by
  have hN := stepN_le hE ha
  unfold partP stepS at h
  unfold stepN at hN
  by_cases h0 : kd p a = 0
  · rw [if_pos h0] at h
    simp only [if_true] at h
    obtain ⟨_, _, h3⟩ := cut_some h
    simpa using h3
  · rw [if_neg h0] at h hN
    injection h with h
    subst h
    rw [List.length_take, List.length_drop]
    omega
theorem ref_cut {old p : List UInt8} {a : Nat} (ho : old.length ≤ 1000000) (hp : p.length ≤ 1000000) (hE : stepE p a = 0) (ha : a < p.length) (H : Heap) :
    call env 59 [.str (mkS (if kd p a = 0 then old else p)), .int .i64 (if kd p a = 0 then (n4 p (a + 1) : Nat) else (a + 5 : Nat) : Int), .int .i64 (cnt p a : Nat)] H = some (.tup [.str (mkS ((partP old (stepS p a)).getD [])), .int .i64 (if (partP old (stepS p a)).isSome then 0 else 3)], H) := by
  have hN := stepN_le hE ha
  unfold partP stepS
  unfold stepN at hN
  by_cases h0 : kd p a = 0
  · simp only [h0, if_true]
    exact c59 old _ _ H ho
  · simp only [if_neg h0, Bool.false_eq_true, if_false] at hN ⊢
    have := c59 p ((a + 5 : Nat) : Int) ((cnt p a : Nat) : Int) H hp
    rw [cut_ok (by omega)] at this
    simp only [cutS, cutE, Option.getD_some, Option.isSome_some, if_true] at this ⊢
    exact this
theorem c30 {p : List UInt8} (hp : p.length ≤ 1000000) (H : Heap) : call env 30 [.str (mkS p)] H = some (.tup [.int .i64 (StepsN p).1, .int .i64 (StepsN p).2], H) := by
  by_cases h16 : p.length < 16
  · have b1 : ((p.length : Int) < 16) = True := eq_true (by omega)
    have hR : StepsN p = (0, 3) := if_pos h16
    rw [hR]
    refine call_ends (fn := s30) rfl rfl (by simp [s30]) ?_
    simp only [s30, R1, R2, R3, R4, R5, R6, R7, R8, AV.flat, fillIn_nil, fillIn_cons, splice, AV.cells, AV.one, eqsOf, idx, SO.calls, List.reduceReplicate, Nat.reduceBEq, Nat.reduceLT, Nat.reduceAdd, Nat.reduceMul, Nat.reduceSub, Nat.reduceLeDiff, Nat.reduceEqDiff, ↓reduceIte, Int.reduceLT, Int.reduceEq, Int.reduceBNe, Int.reduceBEq, aeq, Int.reduceLE, Int.reduceNeg, Int.reduceMul, Int.reduceAdd, Int.reduceSub, Int.reduceToNat, Int.reducePow, b1]
  have b1 : ((p.length : Int) < 16) = False := eq_false (by omega)
  have e1 := fun H => c57 hp (a := 8) (by omega) H
  simp only [Int.cast_ofNat_Int] at e1
  by_cases hlong : n4 p 8 > 65536
  · have hR : StepsN p = (0, 6) := by unfold StepsN; rw [if_neg h16, if_pos hlong]
    have b2 : (((n4 p 8 : Nat) : Int) > 65536) = True := eq_true (by omega)
    rw [hR]
    refine call_ends (fn := s30) rfl rfl (by simp [s30]) ?_
    simp only [s30, R1, R2, R3, R4, R5, R6, R7, R8, AV.flat, fillIn_nil, fillIn_cons, splice, AV.cells, AV.one, eqsOf, idx, SO.calls, List.reduceReplicate, Nat.reduceBEq, Nat.reduceLT, Nat.reduceAdd, Nat.reduceMul, Nat.reduceSub, Nat.reduceLeDiff, Nat.reduceEqDiff, ↓reduceIte, Int.reduceLT, Int.reduceEq, Int.reduceBNe, Int.reduceBEq, aeq, Int.reduceLE, Int.reduceNeg, Int.reduceMul, Int.reduceAdd, Int.reduceSub, Int.reduceToNat, Int.reducePow, b1, e1, b2]
  have b2 : (((n4 p 8 : Nat) : Int) > 65536) = False := eq_false (by omega)
  have hR : StepsN p = if (stepsP p 16).2 ≠ 0 then (0, (stepsP p 16).2) else (((stepsP p 16).1.length : Int), 0) := by unfold StepsN; rw [if_neg h16, if_neg hlong]
  rw [hR]
  generalize hq : stepsP p 16 = q at *
  refine call_ends (fn := s30) rfl rfl (by simp [s30]) ?_
  simp only [s30, R1, R2, R3, R4, R5, R6, R7, R8, AV.flat, fillIn_nil, fillIn_cons, splice, AV.cells, AV.one, eqsOf, idx, SO.calls, List.reduceReplicate, Nat.reduceBEq, Nat.reduceLT, Nat.reduceAdd, Nat.reduceMul, Nat.reduceSub, Nat.reduceLeDiff, Nat.reduceEqDiff, ↓reduceIte, Int.reduceLT, Int.reduceEq, Int.reduceBNe, Int.reduceBEq, aeq, Int.reduceLE, Int.reduceNeg, Int.reduceMul, Int.reduceAdd, Int.reduceSub, Int.reduceToNat, Int.reducePow, b1, e1, b2]
  refine ends_loop (fun k t H' => t.length = 37 ∧ H = H' ∧ t.getD 0 .undef = .str (mkS p) ∧ ∃ (a c : Nat), a ≤ p.length ∧ k = p.length - a ∧ t.getD 5 .undef = .int .i64 (a : Int) ∧ t.getD 4 .undef = .int .i64 (c : Int) ∧ c ≤ a ∧ q.2 = (stepsP p a).2 ∧ q.1.length = c + (stepsP p a).1.length) (p.length - 16) ?_ ?_
  · simp only [R1, R2, R3, R4, R5, R6, R7, R8, AV.flat, fillIn_nil, fillIn_cons, splice, AV.cells, AV.one, eqsOf, idx, SO.calls, List.reduceReplicate, Nat.reduceBEq, Nat.reduceLT, Nat.reduceAdd, Nat.reduceMul, Nat.reduceSub, Nat.reduceLeDiff, Nat.reduceEqDiff, ↓reduceIte, Int.reduceLT, Int.reduceEq, Int.reduceBNe, Int.reduceBEq, aeq, Int.reduceLE, Int.reduceNeg, Int.reduceMul, Int.reduceAdd, Int.reduceSub, Int.reduceToNat, Int.reducePow]
    exact ⟨16, 0, by omega, by omega, rfl, rfl, by omega, by rw [hq], by rw [hq, Nat.zero_add]⟩
  · rintro k t _ ⟨g1, rfl, g2, a, c, hi, rfl, g3, g4, hca, hq2, hq1⟩
    rw [← tm_nil t]
    by_cases hc : a < p.length
    · have a1 : ((a : Int) < (p.length : Int)) = True := eq_true (by omega)
      have w1 : IntKind.i64.wrap ((c : Int) + 1) = ((c + 1 : Nat) : Int) := by rw [wrap_i64 (by omega) (by omega)]; rfl
      have eS := fun H => c58 hp hc H
      by_cases hE : stepE p a = 0
      · rw [steps_ok hc hE] at hq1 hq2
        have hg := stepN_gt p a
        have hle := stepN_le hE hc
        simp only [refT, if_pos hE] at eS
        generalize stepN p a = b at *
        simp only [R1, R2, R3, R4, R5, R6, R7, R8, AV.flat, fillIn_nil, fillIn_cons, splice, AV.cells, AV.one, eqsOf, idx, SO.calls, List.reduceReplicate, Nat.reduceBEq, Nat.reduceLT, Nat.reduceAdd, Nat.reduceMul, Nat.reduceSub, Nat.reduceLeDiff, Nat.reduceEqDiff, ↓reduceIte, Int.reduceLT, Int.reduceEq, Int.reduceBNe, Int.reduceBEq, aeq, Int.reduceLE, Int.reduceNeg, Int.reduceMul, Int.reduceAdd, Int.reduceSub, Int.reduceToNat, Int.reducePow, g1, g2, g3, g4, a1, w1, eS, extract_4]
        exact ⟨_, by omega, b, c + 1, hle, rfl, rfl, rfl, by omega, hq2, by simp only [List.length_cons] at hq1; omega⟩
      · rw [steps_bad hc hE] at hq2
        have b3 : (stepE p a != 0) = true := by simp [hE]
        simp only [refT, if_neg hE] at eS
        simp only at hq2
        rw [if_pos (by rw [hq2]; exact hE), hq2]
        generalize stepE p a = e at *
        simp only [R1, R2, R3, R4, R5, R6, R7, R8, AV.flat, fillIn_nil, fillIn_cons, splice, AV.cells, AV.one, eqsOf, idx, SO.calls, List.reduceReplicate, Nat.reduceBEq, Nat.reduceLT, Nat.reduceAdd, Nat.reduceMul, Nat.reduceSub, Nat.reduceLeDiff, Nat.reduceEqDiff, ↓reduceIte, Int.reduceLT, Int.reduceEq, Int.reduceBNe, Int.reduceBEq, aeq, Int.reduceLE, Int.reduceNeg, Int.reduceMul, Int.reduceAdd, Int.reduceSub, Int.reduceToNat, Int.reducePow, g1, g2, g3, g4, a1, eS, b3, extract_4]
    · have a1 : ((a : Int) < (p.length : Int)) = False := eq_false (by omega)
      rw [steps_end (p := p) (a := a) (by omega)] at hq1 hq2
      rw [if_neg (by rw [hq2]; simp), show (q.1.length : Int) = (c : Int) by rw [hq1]; simp]
      simp only [R1, R2, R3, R4, R5, R6, R7, R8, AV.flat, fillIn_nil, fillIn_cons, splice, AV.cells, AV.one, eqsOf, idx, SO.calls, List.reduceReplicate, Nat.reduceBEq, Nat.reduceLT, Nat.reduceAdd, Nat.reduceMul, Nat.reduceSub, Nat.reduceLeDiff, Nat.reduceEqDiff, ↓reduceIte, Int.reduceLT, Int.reduceEq, Int.reduceBNe, Int.reduceBEq, aeq, Int.reduceLE, Int.reduceNeg, Int.reduceMul, Int.reduceAdd, Int.reduceSub, Int.reduceToNat, Int.reducePow, g1, g2, g3, g4, a1]
theorem c28 {old p : List UInt8} (ho : old.length ≤ 1000000) (hp : p.length ≤ 1000000) (H : Heap) : call env 28 [.str (mkS old), .str (mkS p)] H = some (.tup [.str (mkS (ApplyP old p).1), .int .i64 (ApplyP old p).2], H) := by
  unfold ApplyP
  by_cases hol : old.length > 65536
  · have b0 : ((old.length : Int) > 65536) = True := eq_true (by omega)
    rw [if_pos hol]
    refine call_ends (fn := s28) rfl rfl (by simp [s28]) ?_
    simp only [s28, R1, R2, R3, R4, R5, R6, R7, R8, AV.flat, fillIn_nil, fillIn_cons, splice, AV.cells, AV.one, eqsOf, idx, SO.calls, List.reduceReplicate, Nat.reduceBEq, Nat.reduceLT, Nat.reduceAdd, Nat.reduceMul, Nat.reduceSub, Nat.reduceLeDiff, Nat.reduceEqDiff, ↓reduceIte, Int.reduceLT, Int.reduceEq, Int.reduceBNe, Int.reduceBEq, aeq, Int.reduceLE, Int.reduceNeg, Int.reduceMul, Int.reduceAdd, Int.reduceSub, Int.reduceToNat, Int.reducePow, b0]
  rw [if_neg hol]
  have b0 : ((old.length : Int) > 65536) = False := eq_false (by omega)
  by_cases h16 : p.length < 16
  · have b1 : ((p.length : Int) < 16) = True := eq_true (by omega)
    rw [if_pos h16]
    refine call_ends (fn := s28) rfl rfl (by simp [s28]) ?_
    simp only [s28, R1, R2, R3, R4, R5, R6, R7, R8, AV.flat, fillIn_nil, fillIn_cons, splice, AV.cells, AV.one, eqsOf, idx, SO.calls, List.reduceReplicate, Nat.reduceBEq, Nat.reduceLT, Nat.reduceAdd, Nat.reduceMul, Nat.reduceSub, Nat.reduceLeDiff, Nat.reduceEqDiff, ↓reduceIte, Int.reduceLT, Int.reduceEq, Int.reduceBNe, Int.reduceBEq, aeq, Int.reduceLE, Int.reduceNeg, Int.reduceMul, Int.reduceAdd, Int.reduceSub, Int.reduceToNat, Int.reducePow, b0, b1]
  rw [if_neg h16]
  have b1 : ((p.length : Int) < 16) = False := eq_false (by omega)
  have u0 := fun H => c57 hp (a := 0) (by omega) H
  have u4 := fun H => c57 hp (a := 4) (by omega) H
  have u8 := fun H => c57 hp (a := 8) (by omega) H
  have u12 := fun H => c57 hp (a := 12) (by omega) H
  simp only [Int.cast_ofNat_Int] at u0 u4 u8 u12
  by_cases hlong : n4 p 8 > 65536
  · have b2 : (((n4 p 8 : Nat) : Int) > 65536) = True := eq_true (by omega)
    rw [if_pos hlong]
    refine call_ends (fn := s28) rfl rfl (by simp [s28]) ?_
    simp only [s28, R1, R2, R3, R4, R5, R6, R7, R8, AV.flat, fillIn_nil, fillIn_cons, splice, AV.cells, AV.one, eqsOf, idx, SO.calls, List.reduceReplicate, Nat.reduceBEq, Nat.reduceLT, Nat.reduceAdd, Nat.reduceMul, Nat.reduceSub, Nat.reduceLeDiff, Nat.reduceEqDiff, ↓reduceIte, Int.reduceLT, Int.reduceEq, Int.reduceBNe, Int.reduceBEq, aeq, Int.reduceLE, Int.reduceNeg, Int.reduceMul, Int.reduceAdd, Int.reduceSub, Int.reduceToNat, Int.reducePow, b0, b1, u8, b2]
  rw [if_neg hlong]
  have b2 : (((n4 p 8 : Nat) : Int) > 65536) = False := eq_false (by omega)
  have ec := fun H => crc_ref old ho H
  have hcl := crcN_lt old
  have wc : IntKind.i64.wrap ((crcN old : Nat) : Int) = (crcN old : Nat) := wrap_i64 (by omega) (by omega)
  by_cases hlen : n4 p 0 = old.length
  case neg =>
    have b3 : (((n4 p 0 : Nat) : Int) != (old.length : Int)) = true := by rw [bne_iff_ne]; omega
    rw [if_pos (.inl hlen)]
    refine call_ends (fn := s28) rfl rfl (by simp [s28]) ?_
    simp only [s28, R1, R2, R3, R4, R5, R6, R7, R8, AV.flat, fillIn_nil, fillIn_cons, splice, AV.cells, AV.one, eqsOf, idx, SO.calls, List.reduceReplicate, Nat.reduceBEq, Nat.reduceLT, Nat.reduceAdd, Nat.reduceMul, Nat.reduceSub, Nat.reduceLeDiff, Nat.reduceEqDiff, ↓reduceIte, Int.reduceLT, Int.reduceEq, Int.reduceBNe, Int.reduceBEq, aeq, Int.reduceLE, Int.reduceNeg, Int.reduceMul, Int.reduceAdd, Int.reduceSub, Int.reduceToNat, Int.reducePow, b0, b1, u8, b2, u0, b3]
  have b3 : (((n4 p 0 : Nat) : Int) != (old.length : Int)) = false := by simp [hlen]
  by_cases hcr : n4 p 4 = crcN old
  case neg =>
    have b4 : (((n4 p 4 : Nat) : Int) != ((crcN old : Nat) : Int)) = true := by rw [bne_iff_ne]; omega
    rw [if_pos (.inr hcr)]
    refine call_ends (fn := s28) rfl rfl (by simp [s28]) ?_
    simp only [s28, R1, R2, R3, R4, R5, R6, R7, R8, AV.flat, fillIn_nil, fillIn_cons, splice, AV.cells, AV.one, eqsOf, idx, SO.calls, List.reduceReplicate, Nat.reduceBEq, Nat.reduceLT, Nat.reduceAdd, Nat.reduceMul, Nat.reduceSub, Nat.reduceLeDiff, Nat.reduceEqDiff, ↓reduceIte, Int.reduceLT, Int.reduceEq, Int.reduceBNe, Int.reduceBEq, aeq, Int.reduceLE, Int.reduceNeg, Int.reduceMul, Int.reduceAdd, Int.reduceSub, Int.reduceToNat, Int.reducePow, b0, b1, u8, b2, u0, b3, u4, ec, wc, b4]
  have b4 : (((n4 p 4 : Nat) : Int) != ((crcN old : Nat) : Int)) = false := by simp [hcr]
  rw [if_neg (by rintro (h | h); exact h hlen; exact h hcr)]
  generalize hq : restP old p [] (stepsP p 16) = q at *
  refine call_ends (fn := s28) rfl rfl (by simp [s28]) ?_
  simp only [s28, R1, R2, R3, R4, R5, R6, R7, R8, AV.flat, fillIn_nil, fillIn_cons, splice, AV.cells, AV.one, eqsOf, idx, SO.calls, List.reduceReplicate, Nat.reduceBEq, Nat.reduceLT, Nat.reduceAdd, Nat.reduceMul, Nat.reduceSub, Nat.reduceLeDiff, Nat.reduceEqDiff, ↓reduceIte, Int.reduceLT, Int.reduceEq, Int.reduceBNe, Int.reduceBEq, aeq, Int.reduceLE, Int.reduceNeg, Int.reduceMul, Int.reduceAdd, Int.reduceSub, Int.reduceToNat, Int.reducePow, b0, b1, u8, b2, u0, b3, u4, ec, wc, b4]
  refine ends_loop (fun k t H' => t.length = 91 ∧ H = H' ∧ t.getD 0 .undef = .str (mkS old) ∧ t.getD 1 .undef = .str (mkS p) ∧ t.getD 6 .undef = .int .i64 (n4 p 8 : Nat) ∧ ∃ (a : Nat) (acc : List UInt8), a ≤ p.length ∧ k = p.length - a ∧ t.getD 8 .undef = .int .i64 (a : Int) ∧ t.getD 7 .undef = .str (mkS acc) ∧ acc.length ≤ n4 p 8 ∧ q = restP old p acc (stepsP p a)) (p.length - 16) ?_ ?_
  · simp only [R1, R2, R3, R4, R5, R6, R7, R8, AV.flat, fillIn_nil, fillIn_cons, splice, AV.cells, AV.one, eqsOf, idx, SO.calls, List.reduceReplicate, Nat.reduceBEq, Nat.reduceLT, Nat.reduceAdd, Nat.reduceMul, Nat.reduceSub, Nat.reduceLeDiff, Nat.reduceEqDiff, ↓reduceIte, Int.reduceLT, Int.reduceEq, Int.reduceBNe, Int.reduceBEq, aeq, Int.reduceLE, Int.reduceNeg, Int.reduceMul, Int.reduceAdd, Int.reduceSub, Int.reduceToNat, Int.reducePow]
    exact ⟨16, [], by omega, by omega, rfl, rfl, by simp, hq.symm⟩
  · rintro k t _ ⟨g1, rfl, g2, g3, g4, a, acc, hi, rfl, g5, g6, hal, hqa⟩
    rw [← tm_nil t]
    by_cases hc : a < p.length
    · have a1 : ((a : Int) < (p.length : Int)) = True := eq_true (by omega)
      have eS := fun H => c58 hp hc H
      by_cases hE : stepE p a = 0
      · rw [steps_ok hc hE] at hqa
        have hg := stepN_gt p a
        have hle := stepN_le hE hc
        simp only [refT, if_pos hE] at eS
        have eC := fun H => ref_cut ho hp hE hc H
        have hcn : cnt p a < 4294967296 := n4_lt _ _
        cases hpt : partP old (stepS p a) with
        | none =>
          rw [rest_part hpt] at hqa
          rw [hqa]
          rw [hpt] at eC
          simp only [Option.getD_none, Option.isSome_none, Bool.false_eq_true, if_false] at eC
          generalize stepN p a = b at *
          by_cases h0 : kd p a = 0
          · simp only [h0, decide_true, if_true] at eS eC
            simp only [R1, R2, R3, R4, R5, R6, R7, R8, AV.flat, fillIn_nil, fillIn_cons, splice, AV.cells, AV.one, eqsOf, idx, SO.calls, List.reduceReplicate, Nat.reduceBEq, Nat.reduceLT, Nat.reduceAdd, Nat.reduceMul, Nat.reduceSub, Nat.reduceLeDiff, Nat.reduceEqDiff, ↓reduceIte, Int.reduceLT, Int.reduceEq, Int.reduceBNe, Int.reduceBEq, aeq, Int.reduceLE, Int.reduceNeg, Int.reduceMul, Int.reduceAdd, Int.reduceSub, Int.reduceToNat, Int.reducePow, g1, g2, g3, g4, g5, g6, a1, eS, extract_4, eC]
          · simp only [h0, decide_false, if_false] at eS eC
            simp only [R1, R2, R3, R4, R5, R6, R7, R8, AV.flat, fillIn_nil, fillIn_cons, splice, AV.cells, AV.one, eqsOf, idx, SO.calls, List.reduceReplicate, Nat.reduceBEq, Nat.reduceLT, Nat.reduceAdd, Nat.reduceMul, Nat.reduceSub, Nat.reduceLeDiff, Nat.reduceEqDiff, ↓reduceIte, Int.reduceLT, Int.reduceEq, Int.reduceBNe, Int.reduceBEq, aeq, Int.reduceLE, Int.reduceNeg, Int.reduceMul, Int.reduceAdd, Int.reduceSub, Int.reduceToNat, Int.reducePow, g1, g2, g3, g4, g5, g6, a1, eS, extract_4, eC]
        | some x =>
          have hxl := cnt_part hE hc hpt
          rw [hpt] at eC
          simp only [Option.getD_some, Option.isSome_some, if_true] at eC
          have w1 : IntKind.i64.wrap ((acc.length : Int) + ((cnt p a : Nat) : Int)) = ((acc.length + x.length : Nat) : Int) := by rw [hxl, wrap_i64 (by omega) (by omega)]; rfl
          by_cases hgt : acc.length + x.length > n4 p 8
          · have b5 : (((acc.length + x.length : Nat) : Int) > ((n4 p 8 : Nat) : Int)) = True := eq_true (by omega)
            rw [rest_long hpt hgt] at hqa
            rw [hqa]
            generalize stepN p a = b at *
            by_cases h0 : kd p a = 0
            · simp only [h0, decide_true, if_true] at eS eC
              simp only [R1, R2, R3, R4, R5, R6, R7, R8, AV.flat, fillIn_nil, fillIn_cons, splice, AV.cells, AV.one, eqsOf, idx, SO.calls, List.reduceReplicate, Nat.reduceBEq, Nat.reduceLT, Nat.reduceAdd, Nat.reduceMul, Nat.reduceSub, Nat.reduceLeDiff, Nat.reduceEqDiff, ↓reduceIte, Int.reduceLT, Int.reduceEq, Int.reduceBNe, Int.reduceBEq, aeq, Int.reduceLE, Int.reduceNeg, Int.reduceMul, Int.reduceAdd, Int.reduceSub, Int.reduceToNat, Int.reducePow, g1, g2, g3, g4, g5, g6, a1, eS, extract_4, eC, w1, b5]
            · simp only [h0, decide_false, if_false] at eS eC
              simp only [R1, R2, R3, R4, R5, R6, R7, R8, AV.flat, fillIn_nil, fillIn_cons, splice, AV.cells, AV.one, eqsOf, idx, SO.calls, List.reduceReplicate, Nat.reduceBEq, Nat.reduceLT, Nat.reduceAdd, Nat.reduceMul, Nat.reduceSub, Nat.reduceLeDiff, Nat.reduceEqDiff, ↓reduceIte, Int.reduceLT, Int.reduceEq, Int.reduceBNe, Int.reduceBEq, aeq, Int.reduceLE, Int.reduceNeg, Int.reduceMul, Int.reduceAdd, Int.reduceSub, Int.reduceToNat, Int.reducePow, g1, g2, g3, g4, g5, g6, a1, eS, extract_4, eC, w1, b5]
          · have b5 : (((acc.length + x.length : Nat) : Int) > ((n4 p 8 : Nat) : Int)) = False := eq_false (by omega)
            rw [rest_on hpt hgt] at hqa
            have ea := fun H => @bin_adds H acc x (by omega)
            generalize hb : stepN p a = b at *
            by_cases h0 : kd p a = 0
            · simp only [h0, decide_true, if_true] at eS eC
              simp only [R1, R2, R3, R4, R5, R6, R7, R8, AV.flat, fillIn_nil, fillIn_cons, splice, AV.cells, AV.one, eqsOf, idx, SO.calls, List.reduceReplicate, Nat.reduceBEq, Nat.reduceLT, Nat.reduceAdd, Nat.reduceMul, Nat.reduceSub, Nat.reduceLeDiff, Nat.reduceEqDiff, ↓reduceIte, Int.reduceLT, Int.reduceEq, Int.reduceBNe, Int.reduceBEq, aeq, Int.reduceLE, Int.reduceNeg, Int.reduceMul, Int.reduceAdd, Int.reduceSub, Int.reduceToNat, Int.reducePow, g1, g2, g3, g4, g5, g6, a1, eS, extract_4, eC, w1, b5, ea]
              exact ⟨_, by omega, b, acc ++ x, hle, rfl, rfl, rfl, by rw [List.length_append]; omega, hqa⟩
            · simp only [h0, decide_false, if_false] at eS eC
              simp only [R1, R2, R3, R4, R5, R6, R7, R8, AV.flat, fillIn_nil, fillIn_cons, splice, AV.cells, AV.one, eqsOf, idx, SO.calls, List.reduceReplicate, Nat.reduceBEq, Nat.reduceLT, Nat.reduceAdd, Nat.reduceMul, Nat.reduceSub, Nat.reduceLeDiff, Nat.reduceEqDiff, ↓reduceIte, Int.reduceLT, Int.reduceEq, Int.reduceBNe, Int.reduceBEq, aeq, Int.reduceLE, Int.reduceNeg, Int.reduceMul, Int.reduceAdd, Int.reduceSub, Int.reduceToNat, Int.reducePow, g1, g2, g3, g4, g5, g6, a1, eS, extract_4, eC, w1, b5, ea]
              exact ⟨_, by omega, b, acc ++ x, hle, rfl, rfl, rfl, by rw [List.length_append]; omega, hqa⟩
      · rw [steps_bad hc hE, rest_bad hE] at hqa
        rw [hqa]
        have b5 : (stepE p a != 0) = true := by simp [hE]
        simp only [refT, if_neg hE] at eS
        generalize stepE p a = e at *
        simp only [R1, R2, R3, R4, R5, R6, R7, R8, AV.flat, fillIn_nil, fillIn_cons, splice, AV.cells, AV.one, eqsOf, idx, SO.calls, List.reduceReplicate, Nat.reduceBEq, Nat.reduceLT, Nat.reduceAdd, Nat.reduceMul, Nat.reduceSub, Nat.reduceLeDiff, Nat.reduceEqDiff, ↓reduceIte, Int.reduceLT, Int.reduceEq, Int.reduceBNe, Int.reduceBEq, aeq, Int.reduceLE, Int.reduceNeg, Int.reduceMul, Int.reduceAdd, Int.reduceSub, Int.reduceToNat, Int.reducePow, g1, g2, g3, g4, g5, g6, a1, eS, extract_4, b5]
    · have a1 : ((a : Int) < (p.length : Int)) = False := eq_false (by omega)
      rw [steps_end (p := p) (a := a) (by omega), rest_end] at hqa
      have ec2 := fun H => crc_ref acc (by omega) H
      have hcl2 := crcN_lt acc
      have wc2 : IntKind.i64.wrap ((crcN acc : Nat) : Int) = (crcN acc : Nat) := wrap_i64 (by omega) (by omega)
      by_cases hl2 : n4 p 8 = acc.length
      · have b5 : ((acc.length : Int) != ((n4 p 8 : Nat) : Int)) = false := by simp [hl2]
        by_cases hc2 : n4 p 12 = crcN acc
        · have b6 : (((crcN acc : Nat) : Int) != ((n4 p 12 : Nat) : Int)) = false := by simp [hc2]
          rw [if_neg (by rintro (h | h); exact h hl2; exact h hc2)] at hqa
          rw [hqa]
          simp only [R1, R2, R3, R4, R5, R6, R7, R8, AV.flat, fillIn_nil, fillIn_cons, splice, AV.cells, AV.one, eqsOf, idx, SO.calls, List.reduceReplicate, Nat.reduceBEq, Nat.reduceLT, Nat.reduceAdd, Nat.reduceMul, Nat.reduceSub, Nat.reduceLeDiff, Nat.reduceEqDiff, ↓reduceIte, Int.reduceLT, Int.reduceEq, Int.reduceBNe, Int.reduceBEq, aeq, Int.reduceLE, Int.reduceNeg, Int.reduceMul, Int.reduceAdd, Int.reduceSub, Int.reduceToNat, Int.reducePow, g1, g2, g3, g4, g5, g6, a1, ec2, wc2, u12, b5, b6]
        · have b6 : (((crcN acc : Nat) : Int) != ((n4 p 12 : Nat) : Int)) = true := by rw [bne_iff_ne]; omega
          rw [if_pos (.inr hc2)] at hqa
          rw [hqa]
          simp only [R1, R2, R3, R4, R5, R6, R7, R8, AV.flat, fillIn_nil, fillIn_cons, splice, AV.cells, AV.one, eqsOf, idx, SO.calls, List.reduceReplicate, Nat.reduceBEq, Nat.reduceLT, Nat.reduceAdd, Nat.reduceMul, Nat.reduceSub, Nat.reduceLeDiff, Nat.reduceEqDiff, ↓reduceIte, Int.reduceLT, Int.reduceEq, Int.reduceBNe, Int.reduceBEq, aeq, Int.reduceLE, Int.reduceNeg, Int.reduceMul, Int.reduceAdd, Int.reduceSub, Int.reduceToNat, Int.reducePow, g1, g2, g3, g4, g5, g6, a1, ec2, wc2, u12, b5, b6]
      · have b5 : ((acc.length : Int) != ((n4 p 8 : Nat) : Int)) = true := by rw [bne_iff_ne]; omega
        rw [if_pos (.inl hl2)] at hqa
        rw [hqa]
        simp only [R1, R2, R3, R4, R5, R6, R7, R8, AV.flat, fillIn_nil, fillIn_cons, splice, AV.cells, AV.one, eqsOf, idx, SO.calls, List.reduceReplicate, Nat.reduceBEq, Nat.reduceLT, Nat.reduceAdd, Nat.reduceMul, Nat.reduceSub, Nat.reduceLeDiff, Nat.reduceEqDiff, ↓reduceIte, Int.reduceLT, Int.reduceEq, Int.reduceBNe, Int.reduceBEq, aeq, Int.reduceLE, Int.reduceNeg, Int.reduceMul, Int.reduceAdd, Int.reduceSub, Int.reduceToNat, Int.reducePow, g1, g2, g3, g4, g5, g6, a1, b5]
end Go.Proofs.Ytkcbjeenoafbkaa
