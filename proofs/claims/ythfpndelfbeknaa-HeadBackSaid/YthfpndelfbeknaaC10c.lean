/- Chapter 10: what is read. -/
import Derived.Test.YthfpndelfbeknaaC10b
import Derived.Test.YthfpndelfbeknaaC11c
set_option linter.unusedVariables false
set_option linter.unusedSimpArgs false
set_option maxRecDepth 100000
set_option maxHeartbeats 1000000
namespace Go.Proofs.Ythfpndelfbeknaa
open Go Go.Den
/-- Two bytes, four bytes, at a place. -/
def n2 (s : List UInt8) (a : Nat) : Nat := num ((s.drop a).take 2)
def n4 (s : List UInt8) (a : Nat) : Nat := num ((s.drop a).take 4)
/-- A number of two bytes with a sign. -/
def sg (n : Nat) : Int := if n ≥ 32768 then (n : Int) - 65536 else n
theorem n2_lt (s : List UInt8) (a : Nat) : n2 s a < 65536 := num_byte (by simp; omega)
theorem n4_lt (s : List UInt8) (a : Nat) : n4 s a < 4294967296 := num_lt _
theorem sg_wrap {n : Nat} (h : n < 65536) : IntKind.i16.wrap (n : Int) = sg n := by
  unfold IntKind.wrap sg
  have e1 : (2 ^ IntKind.i16.bits : Int) = 65536 := by decide
  have e2 : (2 ^ (IntKind.i16.bits - 1) : Int) = 32768 := by decide
  have e3 : (n : Int) % 65536 = n := Int.emod_eq_of_lt (by omega) (by omega)
  simp only [e1, e2, e3]
  by_cases hn : n ≥ 32768
  · rw [if_pos hn, if_pos (by simp [IntKind.signed]; omega)]
  · rw [if_neg hn, if_neg (by simp [IntKind.signed]; omega)]
theorem c121 {H : Heap} {o : Nat} {e : TypeId} {l : List UInt8} {a : Nat} (h : H[o]? = some (.cells (RD l a false) e true)) (ha : a + 2 ≤ l.length) (hl : l.length ≤ 1000000) :
    call env 121 [.ptr o 0] H = some (.int .i16 (sg (n2 l a)), H.set o (.cells (RD l (a + 2) false) e true)) := by
  have e1 := c81 h ha hl
  have w1 := sg_wrap (n2_lt l a)
  unfold n2 at w1 ⊢
  refine call_ends (fn := s121) rfl rfl (by simp [s121]) ?_
  simp only [s121, R1, R2, R3, R4, R5, R6, R7, R8, AV.flat, fillIn_nil, fillIn_cons, splice, AV.cells, AV.one, eqsOf, idx, SO.calls, List.reduceReplicate, Nat.reduceBEq, Nat.reduceLT, Nat.reduceAdd, Nat.reduceMul, Nat.reduceSub, Nat.reduceLeDiff, Nat.reduceEqDiff, ↓reduceIte, Int.reduceLT, Int.reduceEq, Int.reduceBNe, Int.reduceBEq, aeq, Int.reduceLE, Int.reduceNeg, Int.reduceMul, Int.reduceAdd, Int.reduceSub, Int.reduceToNat, Int.reducePow, e1, w1]
  rw [tidy_set rfl rfl]
theorem skips {H : Heap} {o : Nat} {e : TypeId} {l : List UInt8} {a : Nat} (n : Nat) (h : H[o]? = some (.cells (RD l a false) e true)) (ha : a + n ≤ l.length) (hl : l.length ≤ 1000000) :
    call env 82 [.ptr o 0, .int .i64 (n : Int)] H = some (.tup [], H.set o (.cells (RD l (a + n) false) e true)) := by
  have e1 := c114 (n : Int) h (by omega) hl
  obtain ⟨q1, q2, q3⟩ := took_in (k := n) ha
  rw [q1, q2, q3] at e1
  refine call_ends (fn := s82) rfl rfl (by simp [s82]) ?_
  simp only [s82, R1, R2, R3, R4, R5, R6, R7, R8, AV.flat, fillIn_nil, fillIn_cons, splice, AV.cells, AV.one, eqsOf, idx, SO.calls, List.reduceReplicate, Nat.reduceBEq, Nat.reduceLT, Nat.reduceAdd, Nat.reduceMul, Nat.reduceSub, Nat.reduceLeDiff, Nat.reduceEqDiff, ↓reduceIte, Int.reduceLT, Int.reduceEq, Int.reduceBNe, Int.reduceBEq, aeq, Int.reduceLE, Int.reduceNeg, Int.reduceMul, Int.reduceAdd, Int.reduceSub, Int.reduceToNat, Int.reducePow, e1]
  rw [tidy_setU rfl]
theorem c122 {s : List UInt8} (hs : s.length ≤ 1000000) {a : Nat} (ha : a + 2 ≤ s.length) (H : Heap) : call env 122 [.str (mkS s), .int .i64 (a : Int)] H = some (.int .i64 (n2 s a : Nat), H) := by
  have e1 := fun H => ref_u16 hs ha H
  have w1 : IntKind.i64.wrap ((n2 s a : Nat) : Int) = (n2 s a : Nat) := by have := n2_lt s a; exact wrap_i64 (by omega) (by omega)
  unfold n2 at w1 ⊢
  refine call_ends (fn := s122) rfl rfl (by simp [s122]) ?_
  simp only [s122, R1, R2, R3, R4, R5, R6, R7, R8, AV.flat, fillIn_nil, fillIn_cons, splice, AV.cells, AV.one, eqsOf, idx, SO.calls, List.reduceReplicate, Nat.reduceBEq, Nat.reduceLT, Nat.reduceAdd, Nat.reduceMul, Nat.reduceSub, Nat.reduceLeDiff, Nat.reduceEqDiff, ↓reduceIte, Int.reduceLT, Int.reduceEq, Int.reduceBNe, Int.reduceBEq, aeq, Int.reduceLE, Int.reduceNeg, Int.reduceMul, Int.reduceAdd, Int.reduceSub, Int.reduceToNat, Int.reducePow, e1, w1, tidy_int]
theorem c123 {s : List UInt8} (hs : s.length ≤ 1000000) {a : Nat} (ha : a + 4 ≤ s.length) (H : Heap) : call env 123 [.str (mkS s), .int .i64 (a : Int)] H = some (.int .u32 (n4 s a : Nat), H) := by
  have e1 := fun H => ref_u32 hs ha H
  unfold n4
  refine call_ends (fn := s123) rfl rfl (by simp [s123]) ?_
  simp only [s123, R1, R2, R3, R4, R5, R6, R7, R8, AV.flat, fillIn_nil, fillIn_cons, splice, AV.cells, AV.one, eqsOf, idx, SO.calls, List.reduceReplicate, Nat.reduceBEq, Nat.reduceLT, Nat.reduceAdd, Nat.reduceMul, Nat.reduceSub, Nat.reduceLeDiff, Nat.reduceEqDiff, ↓reduceIte, Int.reduceLT, Int.reduceEq, Int.reduceBNe, Int.reduceBEq, aeq, Int.reduceLE, Int.reduceNeg, Int.reduceMul, Int.reduceAdd, Int.reduceSub, Int.reduceToNat, Int.reducePow, e1, tidy_int]
theorem c130 {H : Heap} {o : Nat} {e : TypeId} {l : List UInt8} {a : Nat} {b : Bool} (n : Int) (h : H[o]? = some (.cells (RD l a b) e true)) (ha : a ≤ l.length) (hl : l.length ≤ 1000000) :
    call env 130 [.ptr o 0, .int .i64 n] H = some (.str (mkS (took l a b n)), H.set o (.cells (RD l (tookA l a b n) (tookB l a b n)) e true)) := by
  refine call_ends (fn := s130) rfl rfl (by simp [s130]) ?_
  have e1 := fun n off => aload_row (n := n) (off := off) h
  have e2 := fun off c => astore_row (off := off) (c := c) h
  have e3 := c115 l a n H hl
  simp only [RD] at e1 e2
  cases b
  · cases hc : cut l a n with
    | none =>
      simp only [hc, cutS, cutE, Option.isSome] at e3
      simp only [s130, R1, R2, R3, R4, R5, R6, R7, R8, AV.flat, fillIn_nil, fillIn_cons, splice, AV.cells, AV.one, eqsOf, idx, SO.calls, List.reduceReplicate, Nat.reduceBEq, Nat.reduceLT, Nat.reduceAdd, Nat.reduceMul, Nat.reduceSub, Nat.reduceLeDiff, Nat.reduceEqDiff, ↓reduceIte, Int.reduceLT, Int.reduceEq, Int.reduceBNe, Int.reduceBEq, aeq, Int.reduceLE, Int.reduceNeg, Int.reduceMul, Int.reduceAdd, Int.reduceSub, Int.reduceToNat, Int.reducePow, e1, e2, e3]
      rw [tidy_set rfl rfl]
      simp [took, tookA, tookB, hc, cutS, RD]
    | some x =>
      have hx := cut_some hc
      have w := wrap_i64 (x := (a : Int) + n) (by omega) (by omega)
      have w2 : (a : Int) + n = ((a + n.toNat : Nat) : Int) := by omega
      rw [w2] at w
      simp only [hc, cutS, cutE, Option.isSome] at e3
      simp only [s130, R1, R2, R3, R4, R5, R6, R7, R8, AV.flat, fillIn_nil, fillIn_cons, splice, AV.cells, AV.one, eqsOf, idx, SO.calls, List.reduceReplicate, Nat.reduceBEq, Nat.reduceLT, Nat.reduceAdd, Nat.reduceMul, Nat.reduceSub, Nat.reduceLeDiff, Nat.reduceEqDiff, ↓reduceIte, Int.reduceLT, Int.reduceEq, Int.reduceBNe, Int.reduceBEq, aeq, Int.reduceLE, Int.reduceNeg, Int.reduceMul, Int.reduceAdd, Int.reduceSub, Int.reduceToNat, Int.reducePow, e1, e2, e3, w2, w]
      rw [tidy_set rfl rfl]
      simp [took, tookA, tookB, hc, cutS, RD]
  · simp only [s130, R1, R2, R3, R4, R5, R6, R7, R8, AV.flat, fillIn_nil, fillIn_cons, splice, AV.cells, AV.one, eqsOf, idx, SO.calls, List.reduceReplicate, Nat.reduceBEq, Nat.reduceLT, Nat.reduceAdd, Nat.reduceMul, Nat.reduceSub, Nat.reduceLeDiff, Nat.reduceEqDiff, ↓reduceIte, Int.reduceLT, Int.reduceEq, Int.reduceBNe, Int.reduceBEq, aeq, Int.reduceLE, Int.reduceNeg, Int.reduceMul, Int.reduceAdd, Int.reduceSub, Int.reduceToNat, Int.reducePow, e1, e2, e3]
    rw [tidy_set rfl rfl]
    simp [took, tookA, tookB, RD]
/-- The reference's number with a sign. -/
theorem c124 {s : List UInt8} (hs : s.length ≤ 1000000) {a : Nat} (ha : a + 2 ≤ s.length) (H : Heap) : call env 124 [.str (mkS s), .int .i64 (a : Int)] H = some (.int .i64 (sg (n2 s a)), H) := by
  have hb := n2_lt s a
  have hrow : (H ++ [AO.cells (RD s a false) 172 true])[H.length]? = some (.cells (RD s a false) 172 true) := by simp
  obtain ⟨q1, q2, q3⟩ := took_in (k := 2) ha
  have e1 := c130 2 hrow (by omega) hs
  rw [show (2 : Int) = ((2 : Nat) : Int) from rfl, q1, q2, q3] at e1
  have e2 : ∀ H, call env 116 [.str (mkS ((s.drop a).take 2))] H = some (.int .u32 (n2 s a : Nat), H) := fun H => c116 ((s.drop a).take 2) H (by simp; omega)
  simp only [Int.cast_ofNat_Int, RD, R1, R2, R3, R4, R5, R6, R7, R8, AV.flat, fillIn_nil, fillIn_cons, splice, AV.cells, AV.one, eqsOf, idx, SO.calls, List.reduceReplicate, Nat.reduceBEq, Nat.reduceLT, Nat.reduceAdd, Nat.reduceMul, Nat.reduceSub, Nat.reduceLeDiff, Nat.reduceEqDiff, ↓reduceIte, Int.reduceLT, Int.reduceEq, Int.reduceBNe, Int.reduceBEq, aeq, Int.reduceLE, Int.reduceNeg, Int.reduceMul, Int.reduceAdd, Int.reduceSub, Int.reduceToNat, Int.reducePow] at e1
  have e3 : call env 129 [.ptr H.length 0, .int .i64 2] (H ++ [AO.cells (RD s a false) 172 true]) = some (.int .u32 (n2 s a : Nat), (H ++ [AO.cells (RD s a false) 172 true]).set H.length (AO.cells (RD s (a + 2) false) 172 true)) := by
    refine call_ends (fn := s129) rfl rfl (by simp [s129]) ?_
    simp only [s129, RD, R1, R2, R3, R4, R5, R6, R7, R8, AV.flat, fillIn_nil, fillIn_cons, splice, AV.cells, AV.one, eqsOf, idx, SO.calls, List.reduceReplicate, Nat.reduceBEq, Nat.reduceLT, Nat.reduceAdd, Nat.reduceMul, Nat.reduceSub, Nat.reduceLeDiff, Nat.reduceEqDiff, ↓reduceIte, Int.reduceLT, Int.reduceEq, Int.reduceBNe, Int.reduceBEq, aeq, Int.reduceLE, Int.reduceNeg, Int.reduceMul, Int.reduceAdd, Int.reduceSub, Int.reduceToNat, Int.reducePow, e1, e2]
    rw [tidy_set rfl rfl]
  have w1 : IntKind.i64.wrap ((n2 s a : Nat) : Int) = (n2 s a : Nat) := wrap_i64 (by omega) (by omega)
  have w2 : IntKind.i64.wrap ((n2 s a : Nat) - 65536 : Int) = (n2 s a : Nat) - 65536 := wrap_i64 (by omega) (by omega)
  have e4 : call env 128 [.ptr H.length 0] (H ++ [AO.cells (RD s a false) 172 true]) = some (.int .i64 (sg (n2 s a)), (H ++ [AO.cells (RD s a false) 172 true]).set H.length (AO.cells (RD s (a + 2) false) 172 true)) := by
    by_cases hn : n2 s a ≥ 32768
    · have a1 : ((n2 s a : Nat) : Int) ≥ 32768 := by omega
      have hsg : sg (n2 s a) = (n2 s a : Nat) - 65536 := if_pos hn
      rw [hsg]
      refine call_ends (fn := s128) rfl rfl (by simp [s128]) ?_
      simp only [s128, R1, R2, R3, R4, R5, R6, R7, R8, AV.flat, fillIn_nil, fillIn_cons, splice, AV.cells, AV.one, eqsOf, idx, SO.calls, List.reduceReplicate, Nat.reduceBEq, Nat.reduceLT, Nat.reduceAdd, Nat.reduceMul, Nat.reduceSub, Nat.reduceLeDiff, Nat.reduceEqDiff, ↓reduceIte, Int.reduceLT, Int.reduceEq, Int.reduceBNe, Int.reduceBEq, aeq, Int.reduceLE, Int.reduceNeg, Int.reduceMul, Int.reduceAdd, Int.reduceSub, Int.reduceToNat, Int.reducePow, e3, w1, w2, eq_true a1]
      rw [tidy_set rfl rfl]
    · have a1 : ¬ ((n2 s a : Nat) : Int) ≥ 32768 := by omega
      have hsg : sg (n2 s a) = (n2 s a : Nat) := if_neg hn
      rw [hsg]
      refine call_ends (fn := s128) rfl rfl (by simp [s128]) ?_
      simp only [s128, R1, R2, R3, R4, R5, R6, R7, R8, AV.flat, fillIn_nil, fillIn_cons, splice, AV.cells, AV.one, eqsOf, idx, SO.calls, List.reduceReplicate, Nat.reduceBEq, Nat.reduceLT, Nat.reduceAdd, Nat.reduceMul, Nat.reduceSub, Nat.reduceLeDiff, Nat.reduceEqDiff, ↓reduceIte, Int.reduceLT, Int.reduceEq, Int.reduceBNe, Int.reduceBEq, aeq, Int.reduceLE, Int.reduceNeg, Int.reduceMul, Int.reduceAdd, Int.reduceSub, Int.reduceToNat, Int.reducePow, e3, w1, eq_false a1]
      rw [tidy_set rfl rfl]
  simp only [RD] at e4
  refine call_ends (fn := s124) rfl rfl (by simp [s124]) ?_
  simp only [s124, R1, R2, R3, R4, R5, R6, R7, R8, AV.flat, fillIn_nil, fillIn_cons, splice, AV.cells, AV.one, eqsOf, idx, SO.calls, List.reduceReplicate, Nat.reduceBEq, Nat.reduceLT, Nat.reduceAdd, Nat.reduceMul, Nat.reduceSub, Nat.reduceLeDiff, Nat.reduceEqDiff, ↓reduceIte, Int.reduceLT, Int.reduceEq, Int.reduceBNe, Int.reduceBEq, aeq, Int.reduceLE, Int.reduceNeg, Int.reduceMul, Int.reduceAdd, Int.reduceSub, Int.reduceToNat, Int.reducePow, e4]
  rw [List.set_append_right _ _ (by omega), tidy_int']
end Go.Proofs.Ythfpndelfbeknaa
