/- Chapter 42: the next step of a patch. -/
import Derived.Test.YtkcbjeenoafbkaaC42a
set_option linter.unusedVariables false
set_option linter.unusedSimpArgs false
set_option maxRecDepth 100000
set_option maxHeartbeats 2000000
namespace Go.Proofs.Ytkcbjeenoafbkaa
open Go Go.Den
def Stp.cs (s : Stp) : List AV := [.bool s.old, .int .i64 (s.start : Int), .int .i64 (s.n : Int), .str (mkS s.own)]
theorem stp_cel : Cel 4 Stp.cs := ⟨fun _ => rfl, fun _ => rfl, fun _ => rfl, by decide⟩
theorem cut_ok {p : List UInt8} {a n : Nat} (h : a + n ≤ p.length) : cut p (a : Int) (n : Int) = some ((p.drop a).take n) := by
  unfold cut; rw [if_neg (by omega)]; simp
theorem took_ok {p : List UInt8} {a n : Nat} (h : a + n ≤ p.length) : took p a false (n : Int) = (p.drop a).take n ∧ tk p (a, false) (n : Int) = (a + n, false) := by
  have hc : cut p a n = some ((p.drop a).take n) := by unfold cut; rw [if_neg (by omega)]; simp
  constructor
  · simp [took, hc, cutS]
  · simp [tk, tookA, tookB, hc]
theorem took_no {p : List UInt8} {a n : Nat} (ha : a ≤ p.length) (h : p.length < a + n) : tk p (a, false) (n : Int) = (a, true) := by
  have hc : cut p a n = none := by unfold cut; rw [if_pos (by omega)]
  simp [tk, tookA, tookB, hc]
theorem tk_bad (p : List UInt8) (a : Nat) (n : Int) : tk p (a, true) n = (a, true) := by simp [tk, tookA, tookB]
theorem kd_num {p : List UInt8} {a : Nat} (h : a < p.length) : num ((p.drop a).take 1) = kd p a := by
  rw [num_one (by rw [List.length_take]; omega)]
  unfold kd
  rw [List.drop_eq_getElem_cons h]
  simp [List.getD_eq_getElem?_getD, h]
theorem kd_lt (p : List UInt8) (a : Nat) : kd p a < 256 := UInt8.toNat_lt _
theorem c86 {B : Nat × Bool → Heap} {o : Nat} {p : List UInt8} {N : Nat} (h : Rdr B o p N) (hp : p.length ≤ 1000000) {a : Nat} (ha : a < p.length) :
    ∃ s q', call env 86 [.ptr o 0, .str (mkS p)] (B (a, false)) = some (.tup [.agg (Stp.cs s), .int .i64 (stepE p a)], B q') ∧ (stepE p a = 0 → s = stepS p a ∧ q' = (stepN p a, false)) := by
  have hB := fam h.len
  have eU8 : ∀ X, call env 108 [.ptr o 0] (B (a, false) ++ X) = some (.int .u8 (kd p a : Nat), B (a + 1, false) ++ X) := fun X => by
    have := r_U8 (h.app X) hp (a, false) (by simp only; omega)
    simp only at this
    have t1 := took_ok (p := p) (a := a) (n := 1) (by omega)
    simp only [Int.cast_ofNat_Int] at t1
    rw [t1.1, t1.2, kd_num ha] at this
    exact this
  have hk := kd_lt p a
  have ti : ∀ (q : Nat × Bool) (s : Stp) (e : Int) (X : Heap), tidy (B (a, false)) (.tup [.agg (Stp.cs s), .int .i64 e]) (B q ++ X) = (.tup [.agg (Stp.cs s), .int .i64 e], B q) := fun q s e X => tidy_rdr h rfl
  by_cases h1 : kd p a > 1
  · have hE : stepE p a = 4 := by unfold stepE; rw [if_pos h1]
    have b1 : (((kd p a : Nat) : Int) > 1) = True := eq_true (by omega)
    refine ⟨⟨false, 0, 0, []⟩, (a + 1, false), ?_, fun h => by rw [hE] at h; cases h⟩
    rw [hE]
    have ti := ti (a + 1, false) ⟨false, 0, 0, []⟩ 4
    simp only [Stp.cs, Int.cast_ofNat_Int] at ti ⊢
    refine call_ends (fn := s86) rfl rfl (by simp [s86]) ?_
    simp only [s86, R1, R2, R3, R4, R5, R6, R7, R8, AV.flat, fillIn_nil, fillIn_cons, splice, AV.cells, AV.one, eqsOf, idx, SO.calls, List.reduceReplicate, Nat.reduceBEq, Nat.reduceLT, Nat.reduceAdd, Nat.reduceMul, Nat.reduceSub, Nat.reduceLeDiff, Nat.reduceEqDiff, ↓reduceIte, Int.reduceLT, Int.reduceEq, Int.reduceBNe, Int.reduceBEq, aeq, Int.reduceLE, Int.reduceNeg, Int.reduceMul, Int.reduceAdd, Int.reduceSub, Int.reduceToNat, Int.reducePow, hB, eU8, b1, ti]
  have b1 : (((kd p a : Nat) : Int) > 1) = False := eq_false (by omega)
  by_cases h0 : kd p a = 0
  · have b2 : (((kd p a : Nat) : Int) == 0) = true := by rw [h0]; rfl
    have hd9 : hdL p a = 9 := if_pos h0
    obtain ⟨q2, q3, v1, v2, hv1, hv2, eA, eB, eX, hq⟩ : ∃ (q2 q3 : Nat × Bool) (v1 v2 : Nat), v1 < 4294967296 ∧ v2 < 4294967296 ∧ (∀ X, call env 84 [.ptr o 0] (B (a + 1, false) ++ X) = some (.int .u32 (v1 : Int), B q2 ++ X)) ∧
        (∀ X, call env 84 [.ptr o 0] (B q2 ++ X) = some (.int .u32 (v2 : Int), B q3 ++ X)) ∧ (∀ X, call env 109 [.ptr o 0] (B q3 ++ X) = some (.int .i64 (if q3.2 = true then 3 else 0), B q3 ++ X)) ∧
        (p.length - a < 9 ∧ q3.2 = true ∨ ¬ p.length - a < 9 ∧ q3 = (a + 9, false) ∧ v1 = n4 p (a + 1) ∧ v2 = cnt p a) := by
      refine ⟨tk p (a + 1, false) 4, tk p (tk p (a + 1, false) 4) 4, num (took p (a + 1) false 4), num (took p (tk p (a + 1, false) 4).1 (tk p (a + 1, false) 4).2 4), num_lt _, num_lt _, fun X => r_U32 (h.app X) hp (a + 1, false) (by simp only; omega),
        fun X => r_U32 (h.app X) hp (tk p (a + 1, false) 4) (tk_le (by simp only; omega)), fun X => r_Err (h.app X) _, ?_⟩
      by_cases hl : p.length - a < 9
      · refine .inl ⟨hl, ?_⟩
        by_cases hl2 : a + 1 + 4 ≤ p.length
        · have t1 := (took_ok (p := p) (a := a + 1) (n := 4) hl2).2
          have t2 := took_no (p := p) (a := a + 1 + 4) (n := 4) hl2 (by omega)
          simp only [Int.cast_ofNat_Int] at t1 t2
          rw [t1, t2]
        · have t1 := took_no (p := p) (a := a + 1) (n := 4) (by omega) (by omega)
          simp only [Int.cast_ofNat_Int] at t1
          rw [t1, tk_bad]
      · have t1 := took_ok (p := p) (a := a + 1) (n := 4) (by omega)
        have t2 := took_ok (p := p) (a := a + 1 + 4) (n := 4) (by omega)
        simp only [Int.cast_ofNat_Int] at t1 t2
        refine .inr ⟨hl, by rw [t1.2, t2.2], by rw [t1.1]; rfl, ?_⟩
        rw [t1.2]
        simp only
        rw [t2.1]
        unfold cnt n4
        rw [hd9, show a + 9 - 4 = a + 1 + 4 by omega]
    have w1 : IntKind.i64.wrap (v1 : Int) = v1 := wrap_i64 (by omega) (by omega)
    have w2 : IntKind.i64.wrap (v2 : Int) = v2 := wrap_i64 (by omega) (by omega)
    rcases hq with ⟨hl, hb⟩ | ⟨hl, rfl, rfl, rfl⟩
    · have hE : stepE p a = 3 := by unfold stepE; rw [if_neg h1, hd9, if_pos hl]
      rw [if_pos hb] at eX
      refine ⟨⟨false, 0, 0, []⟩, q3, ?_, fun h => by rw [hE] at h; cases h⟩
      rw [hE]
      have ti := ti q3 ⟨false, 0, 0, []⟩ 3
      simp only [Stp.cs, Int.cast_ofNat_Int] at ti ⊢
      refine call_ends (fn := s86) rfl rfl (by simp [s86]) ?_
      simp only [s86, R1, R2, R3, R4, R5, R6, R7, R8, AV.flat, fillIn_nil, fillIn_cons, splice, AV.cells, AV.one, eqsOf, idx, SO.calls, List.reduceReplicate, Nat.reduceBEq, Nat.reduceLT, Nat.reduceAdd, Nat.reduceMul, Nat.reduceSub, Nat.reduceLeDiff, Nat.reduceEqDiff, ↓reduceIte, Int.reduceLT, Int.reduceEq, Int.reduceBNe, Int.reduceBEq, aeq, Int.reduceLE, Int.reduceNeg, Int.reduceMul, Int.reduceAdd, Int.reduceSub, Int.reduceToNat, Int.reducePow, hB, eU8, b1, b2, eA, eB, eX, w1, w2, ti]
    · simp only [Bool.false_eq_true, if_false] at eX
      by_cases hz : cnt p a = 0
      · have hE : stepE p a = 4 := by unfold stepE; rw [if_neg h1, hd9, if_neg hl, if_pos hz]
        have b3 : (((cnt p a : Nat) : Int) == 0) = true := by rw [hz]; rfl
        refine ⟨⟨false, 0, 0, []⟩, (a + 9, false), ?_, fun h => by rw [hE] at h; cases h⟩
        rw [hE]
        have ti := ti (a + 9, false) ⟨false, 0, 0, []⟩ 4
        simp only [Stp.cs, Int.cast_ofNat_Int] at ti ⊢
        refine call_ends (fn := s86) rfl rfl (by simp [s86]) ?_
        simp only [s86, R1, R2, R3, R4, R5, R6, R7, R8, AV.flat, fillIn_nil, fillIn_cons, splice, AV.cells, AV.one, eqsOf, idx, SO.calls, List.reduceReplicate, Nat.reduceBEq, Nat.reduceLT, Nat.reduceAdd, Nat.reduceMul, Nat.reduceSub, Nat.reduceLeDiff, Nat.reduceEqDiff, ↓reduceIte, Int.reduceLT, Int.reduceEq, Int.reduceBNe, Int.reduceBEq, aeq, Int.reduceLE, Int.reduceNeg, Int.reduceMul, Int.reduceAdd, Int.reduceSub, Int.reduceToNat, Int.reducePow, hB, eU8, b1, b2, b3, eA, eB, eX, w1, w2, ti]
      · have hE : stepE p a = 0 := by unfold stepE; rw [if_neg h1, hd9, if_neg hl, if_neg hz, if_pos h0]
        have b3 : (((cnt p a : Nat) : Int) == 0) = false := by rw [beq_eq_false_iff_ne]; omega
        have hS : stepS p a = ⟨true, n4 p (a + 1), cnt p a, []⟩ := if_pos h0
        have hN : stepN p a = a + 9 := if_pos h0
        refine ⟨⟨true, n4 p (a + 1), cnt p a, []⟩, (a + 9, false), ?_, fun _ => ⟨hS.symm, by rw [hN]⟩⟩
        rw [hE]
        have ti := ti (a + 9, false) ⟨true, n4 p (a + 1), cnt p a, []⟩ 0
        simp only [Stp.cs] at ti ⊢
        refine call_ends (fn := s86) rfl rfl (by simp [s86]) ?_
        simp only [s86, R1, R2, R3, R4, R5, R6, R7, R8, AV.flat, fillIn_nil, fillIn_cons, splice, AV.cells, AV.one, eqsOf, idx, SO.calls, List.reduceReplicate, Nat.reduceBEq, Nat.reduceLT, Nat.reduceAdd, Nat.reduceMul, Nat.reduceSub, Nat.reduceLeDiff, Nat.reduceEqDiff, ↓reduceIte, Int.reduceLT, Int.reduceEq, Int.reduceBNe, Int.reduceBEq, aeq, Int.reduceLE, Int.reduceNeg, Int.reduceMul, Int.reduceAdd, Int.reduceSub, Int.reduceToNat, Int.reducePow, hB, eU8, b1, b2, b3, eA, eB, eX, w1, w2, ti]
  · have b2 : (((kd p a : Nat) : Int) == 0) = false := by rw [beq_eq_false_iff_ne]; omega
    have hd5 : hdL p a = 5 := if_neg h0
    by_cases hl : p.length - a < 5
    · have hE : stepE p a = 3 := by unfold stepE; rw [if_neg h1, hd5, if_pos hl]
      have t1 := took_no (p := p) (a := a + 1) (n := 4) (by omega) (by omega)
      simp only [Int.cast_ofNat_Int] at t1
      have eA : ∀ X, call env 84 [.ptr o 0] (B (a + 1, false) ++ X) = some (.int .u32 (num (took p (a + 1) false 4) : Nat), B (a + 1, true) ++ X) := fun X => by
        have := r_U32 (h.app X) hp (a + 1, false) (by simp only; omega)
        rw [t1] at this; exact this
      have eX : ∀ X, call env 109 [.ptr o 0] (B (a + 1, true) ++ X) = some (.int .i64 3, B (a + 1, true) ++ X) := fun X => r_Err (h.app X) _
      have hv := num_lt (took p (a + 1) false 4)
      generalize num (took p (a + 1) false 4) = v1 at eA hv
      have w1 : IntKind.i64.wrap (v1 : Int) = v1 := wrap_i64 (by omega) (by omega)
      refine ⟨⟨false, 0, 0, []⟩, (a + 1, true), ?_, fun h => by rw [hE] at h; cases h⟩
      rw [hE]
      have ti := ti (a + 1, true) ⟨false, 0, 0, []⟩ 3
      simp only [Stp.cs, Int.cast_ofNat_Int] at ti ⊢
      refine call_ends (fn := s86) rfl rfl (by simp [s86]) ?_
      simp only [s86, R1, R2, R3, R4, R5, R6, R7, R8, AV.flat, fillIn_nil, fillIn_cons, splice, AV.cells, AV.one, eqsOf, idx, SO.calls, List.reduceReplicate, Nat.reduceBEq, Nat.reduceLT, Nat.reduceAdd, Nat.reduceMul, Nat.reduceSub, Nat.reduceLeDiff, Nat.reduceEqDiff, ↓reduceIte, Int.reduceLT, Int.reduceEq, Int.reduceBNe, Int.reduceBEq, aeq, Int.reduceLE, Int.reduceNeg, Int.reduceMul, Int.reduceAdd, Int.reduceSub, Int.reduceToNat, Int.reducePow, hB, eU8, b1, b2, eA, eX, w1, ti]
    · have t1 := took_ok (p := p) (a := a + 1) (n := 4) (by omega)
      simp only [Int.cast_ofNat_Int] at t1
      have hcnt : num ((p.drop (a + 1)).take 4) = cnt p a := by unfold cnt n4; rw [hd5, show a + 5 - 4 = a + 1 by omega]
      have eA : ∀ X, call env 84 [.ptr o 0] (B (a + 1, false) ++ X) = some (.int .u32 (cnt p a : Nat), B (a + 5, false) ++ X) := fun X => by
        have := r_U32 (h.app X) hp (a + 1, false) (by simp only; omega)
        simp only at this
        rw [t1.1, t1.2, hcnt] at this; exact this
      have eX : ∀ X, call env 109 [.ptr o 0] (B (a + 5, false) ++ X) = some (.int .i64 0, B (a + 5, false) ++ X) := fun X => r_Err (h.app X) _
      have eAt : ∀ X, call env 110 [.ptr o 0] (B (a + 5, false) ++ X) = some (.int .i64 ((a + 5 : Nat) : Int), B (a + 5, false) ++ X) := fun X => r_At (h.app X) _
      have hv := n4_lt p (a + hdL p a - 4)
      have hcl : cnt p a < 4294967296 := hv
      have w1 : IntKind.i64.wrap ((cnt p a : Nat) : Int) = (cnt p a : Nat) := wrap_i64 (by omega) (by omega)
      by_cases hz : cnt p a = 0
      · have hE : stepE p a = 4 := by unfold stepE; rw [if_neg h1, hd5, if_neg hl, if_pos hz]
        have b3 : (((cnt p a : Nat) : Int) == 0) = true := by rw [hz]; rfl
        refine ⟨⟨false, 0, 0, []⟩, (a + 5, false), ?_, fun h => by rw [hE] at h; cases h⟩
        rw [hE]
        have ti := ti (a + 5, false) ⟨false, 0, 0, []⟩ 4
        simp only [Stp.cs, Int.cast_ofNat_Int] at ti ⊢
        refine call_ends (fn := s86) rfl rfl (by simp [s86]) ?_
        simp only [s86, R1, R2, R3, R4, R5, R6, R7, R8, AV.flat, fillIn_nil, fillIn_cons, splice, AV.cells, AV.one, eqsOf, idx, SO.calls, List.reduceReplicate, Nat.reduceBEq, Nat.reduceLT, Nat.reduceAdd, Nat.reduceMul, Nat.reduceSub, Nat.reduceLeDiff, Nat.reduceEqDiff, ↓reduceIte, Int.reduceLT, Int.reduceEq, Int.reduceBNe, Int.reduceBEq, aeq, Int.reduceLE, Int.reduceNeg, Int.reduceMul, Int.reduceAdd, Int.reduceSub, Int.reduceToNat, Int.reducePow, hB, eU8, b1, b2, b3, eA, eX, w1, ti]
      · have b3 : (((cnt p a : Nat) : Int) == 0) = false := by rw [beq_eq_false_iff_ne]; omega
        have eS : ∀ X, call env 111 [.ptr o 0, .int .i64 (cnt p a : Nat)] (B (a + 5, false) ++ X) = some (.tup [], B (tk p (a + 5, false) (cnt p a : Nat)) ++ X) := fun X => r_Skip (h.app X) hp (a + 5, false) (by simp only; omega) _
        have eC := fun H => c112 p ((a + 5 : Nat) : Int) ((cnt p a : Nat) : Int) H hp
        by_cases ho : cnt p a > p.length - a - 5
        · have hE : stepE p a = 3 := by unfold stepE; rw [if_neg h1, hd5, if_neg hl, if_neg hz, if_neg h0, if_pos ho]
          have hc : cut p ((a + 5 : Nat) : Int) ((cnt p a : Nat) : Int) = none := by unfold cut; rw [if_pos (by omega)]
          rw [hc] at eC
          simp only [cutS, cutE, Option.getD_none, Option.isSome_none, Bool.false_eq_true, if_false] at eC
          refine ⟨⟨false, 0, cnt p a, []⟩, tk p (a + 5, false) (cnt p a : Nat), ?_, fun h => by rw [hE] at h; cases h⟩
          rw [hE]
          have ti := ti (tk p (a + 5, false) (cnt p a : Nat)) ⟨false, 0, cnt p a, []⟩ 3
          generalize tk p (a + 5, false) (cnt p a : Nat) = q3 at *
          simp only [Stp.cs, Int.cast_ofNat_Int] at ti ⊢
          refine call_ends (fn := s86) rfl rfl (by simp [s86]) ?_
          simp only [s86, R1, R2, R3, R4, R5, R6, R7, R8, AV.flat, fillIn_nil, fillIn_cons, splice, AV.cells, AV.one, eqsOf, idx, SO.calls, List.reduceReplicate, Nat.reduceBEq, Nat.reduceLT, Nat.reduceAdd, Nat.reduceMul, Nat.reduceSub, Nat.reduceLeDiff, Nat.reduceEqDiff, ↓reduceIte, Int.reduceLT, Int.reduceEq, Int.reduceBNe, Int.reduceBEq, aeq, Int.reduceLE, Int.reduceNeg, Int.reduceMul, Int.reduceAdd, Int.reduceSub, Int.reduceToNat, Int.reducePow, hB, eU8, b1, b2, b3, eA, eX, eAt, eS, eC, w1, ti]
        · have hE : stepE p a = 0 := by unfold stepE; rw [if_neg h1, hd5, if_neg hl, if_neg hz, if_neg h0, if_neg ho]
          have hc : cut p ((a + 5 : Nat) : Int) ((cnt p a : Nat) : Int) = some ((p.drop (a + 5)).take (cnt p a)) := cut_ok (by omega)
          rw [hc] at eC
          simp only [cutS, cutE, Option.getD_some, Option.isSome_some, if_true] at eC
          have t2 := (took_ok (p := p) (a := a + 5) (n := cnt p a) (by omega)).2
          rw [t2] at eS
          have hS : stepS p a = ⟨false, 0, cnt p a, (p.drop (a + 5)).take (cnt p a)⟩ := if_neg h0
          have hN : stepN p a = a + 5 + cnt p a := if_neg h0
          refine ⟨⟨false, 0, cnt p a, (p.drop (a + 5)).take (cnt p a)⟩, (a + 5 + cnt p a, false), ?_, fun _ => ⟨hS.symm, by rw [hN]⟩⟩
          rw [hE]
          have ti := ti (a + 5 + cnt p a, false) ⟨false, 0, cnt p a, (p.drop (a + 5)).take (cnt p a)⟩ 0
          simp only [Stp.cs, Int.cast_ofNat_Int] at ti ⊢
          refine call_ends (fn := s86) rfl rfl (by simp [s86]) ?_
          simp only [s86, R1, R2, R3, R4, R5, R6, R7, R8, AV.flat, fillIn_nil, fillIn_cons, splice, AV.cells, AV.one, eqsOf, idx, SO.calls, List.reduceReplicate, Nat.reduceBEq, Nat.reduceLT, Nat.reduceAdd, Nat.reduceMul, Nat.reduceSub, Nat.reduceLeDiff, Nat.reduceEqDiff, ↓reduceIte, Int.reduceLT, Int.reduceEq, Int.reduceBNe, Int.reduceBEq, aeq, Int.reduceLE, Int.reduceNeg, Int.reduceMul, Int.reduceAdd, Int.reduceSub, Int.reduceToNat, Int.reducePow, hB, eU8, b1, b2, b3, eA, eX, eAt, eS, eC, w1, ti]
end Go.Proofs.Ytkcbjeenoafbkaa
