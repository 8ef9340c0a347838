/- Chapter 10: the reference's maxp and hhea. -/
import Derived.Test.YthfpndelfbeknaaC10d
set_option linter.unusedVariables false
set_option linter.unusedSimpArgs false
set_option maxRecDepth 100000
set_option maxHeartbeats 1000000
namespace Go.Proofs.Ythfpndelfbeknaa
open Go Go.Den
theorem c103 {s : List UInt8} (hs : s.length ≤ 1000000) (h : Hd) (H : Heap) :
    ∃ h', call env 103 [.str (mkS s), .agg h.cs] H = some (.tup [.agg h'.cs, .int .i64 (maxpE s)], H) ∧ (maxpE s = 0 → h' = maxpH s h) := by
  obtain ⟨em, long, glyphs, metrics, up, down, gap⟩ := h
  unfold maxpE
  by_cases hl : s.length < 32
  · have a1 : ((s.length : Int) < 32) = True := eq_true (by omega)
    refine ⟨⟨em, long, glyphs, metrics, up, down, gap⟩, ?_, by simp [hl]⟩
    rw [if_pos hl]
    simp only [Hd.cs]
    refine call_ends (fn := s103) rfl rfl (by simp [s103]) ?_
    simp only [s103, R1, R2, R3, R4, R5, R6, R7, R8, AV.flat, fillIn_nil, fillIn_cons, splice, AV.cells, AV.one, eqsOf, idx, SO.calls, List.reduceReplicate, Nat.reduceBEq, Nat.reduceLT, Nat.reduceAdd, Nat.reduceMul, Nat.reduceSub, Nat.reduceLeDiff, Nat.reduceEqDiff, ↓reduceIte, Int.reduceLT, Int.reduceEq, Int.reduceBNe, Int.reduceBEq, aeq, Int.reduceLE, Int.reduceNeg, Int.reduceMul, Int.reduceAdd, Int.reduceSub, Int.reduceToNat, Int.reducePow, a1]
    rw [tidy_still rfl]
  · have a1 : ((s.length : Int) < 32) = False := eq_false (by omega)
    rw [if_neg hl]
    have q4 := fun H => c122 hs (a := 4) (by omega) H
    have q0 := fun H => c123 hs (a := 0) (by omega) H
    simp only [Int.cast_ofNat_Int, Int.natCast_zero] at q4 q0
    by_cases h0 : n4 s 0 = 65536
    · have b0 : (((n4 s 0 : Nat) : Int) != 65536) = false := by rw [h0]; rfl
      rw [if_neg (by omega)]
      by_cases h1 : n2 s 4 > 1024
      · have b1 : (((n2 s 4 : Nat) : Int) > 1024) = True := eq_true (by omega)
        refine ⟨maxpH s ⟨em, long, glyphs, metrics, up, down, gap⟩, ?_, fun _ => rfl⟩
        rw [if_pos h1]
        simp only [Hd.cs, maxpH]
        refine call_ends (fn := s103) rfl rfl (by simp [s103]) ?_
        simp only [s103, R1, R2, R3, R4, R5, R6, R7, R8, AV.flat, fillIn_nil, fillIn_cons, splice, AV.cells, AV.one, eqsOf, idx, SO.calls, List.reduceReplicate, Nat.reduceBEq, Nat.reduceLT, Nat.reduceAdd, Nat.reduceMul, Nat.reduceSub, Nat.reduceLeDiff, Nat.reduceEqDiff, ↓reduceIte, Int.reduceLT, Int.reduceEq, Int.reduceBNe, Int.reduceBEq, aeq, Int.reduceLE, Int.reduceNeg, Int.reduceMul, Int.reduceAdd, Int.reduceSub, Int.reduceToNat, Int.reducePow, a1, q4, q0, b0, b1]
        rw [tidy_still rfl]
      · have b1 : (((n2 s 4 : Nat) : Int) > 1024) = False := eq_false (by omega)
        rw [if_neg h1]
        by_cases h2 : n2 s 4 = 0
        · have b2 : (((n2 s 4 : Nat) : Int) == 0) = true := by rw [h2]; rfl
          refine ⟨maxpH s ⟨em, long, glyphs, metrics, up, down, gap⟩, ?_, fun _ => rfl⟩
          rw [if_pos h2]
          simp only [Hd.cs, maxpH]
          refine call_ends (fn := s103) rfl rfl (by simp [s103]) ?_
          simp only [s103, R1, R2, R3, R4, R5, R6, R7, R8, AV.flat, fillIn_nil, fillIn_cons, splice, AV.cells, AV.one, eqsOf, idx, SO.calls, List.reduceReplicate, Nat.reduceBEq, Nat.reduceLT, Nat.reduceAdd, Nat.reduceMul, Nat.reduceSub, Nat.reduceLeDiff, Nat.reduceEqDiff, ↓reduceIte, Int.reduceLT, Int.reduceEq, Int.reduceBNe, Int.reduceBEq, aeq, Int.reduceLE, Int.reduceNeg, Int.reduceMul, Int.reduceAdd, Int.reduceSub, Int.reduceToNat, Int.reducePow, a1, q4, q0, b0, b1, b2]
          rw [tidy_still rfl]
        · have b2 : (((n2 s 4 : Nat) : Int) == 0) = false := by simp; omega
          refine ⟨maxpH s ⟨em, long, glyphs, metrics, up, down, gap⟩, ?_, fun _ => rfl⟩
          rw [if_neg h2]
          simp only [Hd.cs, maxpH]
          refine call_ends (fn := s103) rfl rfl (by simp [s103]) ?_
          simp only [s103, R1, R2, R3, R4, R5, R6, R7, R8, AV.flat, fillIn_nil, fillIn_cons, splice, AV.cells, AV.one, eqsOf, idx, SO.calls, List.reduceReplicate, Nat.reduceBEq, Nat.reduceLT, Nat.reduceAdd, Nat.reduceMul, Nat.reduceSub, Nat.reduceLeDiff, Nat.reduceEqDiff, ↓reduceIte, Int.reduceLT, Int.reduceEq, Int.reduceBNe, Int.reduceBEq, aeq, Int.reduceLE, Int.reduceNeg, Int.reduceMul, Int.reduceAdd, Int.reduceSub, Int.reduceToNat, Int.reducePow, a1, q4, q0, b0, b1, b2]
          rw [tidy_still rfl]
    · have b0 : (((n4 s 0 : Nat) : Int) != 65536) = true := by simp; omega
      refine ⟨⟨em, long, glyphs, metrics, up, down, gap⟩, ?_, by simp [h0]⟩
      rw [if_pos h0]
      simp only [Hd.cs]
      refine call_ends (fn := s103) rfl rfl (by simp [s103]) ?_
      simp only [s103, R1, R2, R3, R4, R5, R6, R7, R8, AV.flat, fillIn_nil, fillIn_cons, splice, AV.cells, AV.one, eqsOf, idx, SO.calls, List.reduceReplicate, Nat.reduceBEq, Nat.reduceLT, Nat.reduceAdd, Nat.reduceMul, Nat.reduceSub, Nat.reduceLeDiff, Nat.reduceEqDiff, ↓reduceIte, Int.reduceLT, Int.reduceEq, Int.reduceBNe, Int.reduceBEq, aeq, Int.reduceLE, Int.reduceNeg, Int.reduceMul, Int.reduceAdd, Int.reduceSub, Int.reduceToNat, Int.reducePow, a1, q4, q0, b0]
      rw [tidy_still rfl]
theorem c104 {s : List UInt8} (hs : s.length ≤ 1000000) (h : Hd) (H : Heap) :
    ∃ h', call env 104 [.str (mkS s), .agg h.cs] H = some (.tup [.agg h'.cs, .int .i64 (hheaE s h.glyphs)], H) ∧ (hheaE s h.glyphs = 0 → h' = hheaH s h) := by
  obtain ⟨em, long, glyphs, metrics, up, down, gap⟩ := h
  unfold hheaE
  by_cases hl : s.length < 36
  · have a1 : ((s.length : Int) < 36) = True := eq_true (by omega)
    refine ⟨⟨em, long, glyphs, metrics, up, down, gap⟩, ?_, by simp [hl]⟩
    rw [if_pos hl]
    simp only [Hd.cs]
    refine call_ends (fn := s104) rfl rfl (by simp [s104]) ?_
    simp only [s104, R1, R2, R3, R4, R5, R6, R7, R8, AV.flat, fillIn_nil, fillIn_cons, splice, AV.cells, AV.one, eqsOf, idx, SO.calls, List.reduceReplicate, Nat.reduceBEq, Nat.reduceLT, Nat.reduceAdd, Nat.reduceMul, Nat.reduceSub, Nat.reduceLeDiff, Nat.reduceEqDiff, ↓reduceIte, Int.reduceLT, Int.reduceEq, Int.reduceBNe, Int.reduceBEq, aeq, Int.reduceLE, Int.reduceNeg, Int.reduceMul, Int.reduceAdd, Int.reduceSub, Int.reduceToNat, Int.reducePow, a1]
    rw [tidy_still rfl]
  · have a1 : ((s.length : Int) < 36) = False := eq_false (by omega)
    rw [if_neg hl]
    have q4 := fun H => c124 hs (a := 4) (by omega) H
    have q6 := fun H => c124 hs (a := 6) (by omega) H
    have q8 := fun H => c124 hs (a := 8) (by omega) H
    have q34 := fun H => c122 hs (a := 34) (by omega) H
    have q32 := fun H => c122 hs (a := 32) (by omega) H
    have q0 := fun H => c123 hs (a := 0) (by omega) H
    simp only [Int.cast_ofNat_Int, Int.natCast_zero] at q4 q6 q8 q34 q32 q0
    by_cases ho : hheaOk s glyphs
    · rw [if_pos ho]
      obtain ⟨o1, o2, o3, o4⟩ := ho
      refine ⟨hheaH s ⟨em, long, glyphs, metrics, up, down, gap⟩, ?_, fun _ => rfl⟩
      rw [o1] at q0
      rw [o2] at q32
      have b1 : (((n2 s 34 : Nat) : Int) < 1) = False := eq_false (by omega)
      have b2 : (((n2 s 34 : Nat) : Int) > glyphs) = False := eq_false (by omega)
      simp only [Hd.cs, hheaH]
      refine call_ends (fn := s104) rfl rfl (by simp [s104]) ?_
      simp only [s104, R1, R2, R3, R4, R5, R6, R7, R8, AV.flat, fillIn_nil, fillIn_cons, splice, AV.cells, AV.one, eqsOf, idx, SO.calls, List.reduceReplicate, Nat.reduceBEq, Nat.reduceLT, Nat.reduceAdd, Nat.reduceMul, Nat.reduceSub, Nat.reduceLeDiff, Nat.reduceEqDiff, ↓reduceIte, Int.reduceLT, Int.reduceEq, Int.reduceBNe, Int.reduceBEq, aeq, Int.reduceLE, Int.reduceNeg, Int.reduceMul, Int.reduceAdd, Int.reduceSub, Int.reduceToNat, Int.reducePow, a1, q0, q4, q6, q8, q34, q32, b1, b2]
      rw [tidy_still rfl]
    · rw [if_neg ho]
      refine ⟨hheaH s ⟨em, long, glyphs, metrics, up, down, gap⟩, ?_, fun _ => rfl⟩
      simp only [Hd.cs, hheaH]
      unfold hheaOk at ho
      refine call_ends (fn := s104) rfl rfl (by simp [s104]) ?_
      have hh : True := trivial
      have hk : True := trivial
      have hj : True := trivial
      simp only [s104]
      repeat' (first
        | simp only [R1, R2, R3, R4, R5, R6, R7, R8, AV.flat, fillIn_nil, fillIn_cons, splice, AV.cells, AV.one, eqsOf, idx, SO.calls, List.reduceReplicate, Nat.reduceBEq, Nat.reduceLT, Nat.reduceAdd, Nat.reduceMul, Nat.reduceSub, Nat.reduceLeDiff, Nat.reduceEqDiff, ↓reduceIte, Int.reduceLT, Int.reduceEq, Int.reduceBNe, Int.reduceBEq, aeq, Int.reduceLE, Int.reduceNeg, Int.reduceMul, Int.reduceAdd, Int.reduceSub, Int.reduceToNat, Int.reducePow, hh, hk, hj, a1, q0, q4, q6, q8, q34, q32]
        | simp (disch := omega) only [wrap_i64]
        | (simp only [gets_guard, gets_guardd, endsIf_any]; split <;> rename_i hk <;> (try simp only [Bool.not_eq_true] at hk) <;> (have hh := hk) <;> (have hj := hk) <;> (try simp only [Bool.not_eq_true', Bool.not_eq_false'] at hj) <;> (try simp only [decide_eq_true_eq, Bool.not_eq_true, decide_eq_false_iff_not, Bool.not_eq_true', Bool.not_eq_false', Bool.and_eq_true, Bool.or_eq_true, beq_iff_eq, bne_iff_ne, ne_eq] at hh)))
      all_goals first | (rw [tidy_still rfl]; done) | (exfalso; simp only [bne_eq_false_iff_eq] at *; omega)
end Go.Proofs.Ythfpndelfbeknaa
