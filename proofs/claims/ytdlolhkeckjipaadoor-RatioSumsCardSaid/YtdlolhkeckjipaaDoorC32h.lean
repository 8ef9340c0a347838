/- Chapter 32: how many places a word has; shifts, comparisons and differences of 128 bits. -/
import Derived.Test.YtdlolhkeckjipaaDoorC32g
set_option linter.unusedVariables false
set_option linter.unusedSimpArgs false
set_option maxRecDepth 100000
set_option maxHeartbeats 4000000
namespace Go.Proofs.YtdlolhkeckjipaaDoor
open Go Go.Den
theorem len_at : ∀ m : Nat, m < 256 → ∃ b : UInt8, ([0, 1, 2, 2, 3, 3, 3, 3, 4, 4, 4, 4, 4, 4, 4, 4, 5, 5, 5, 5, 5, 5, 5, 5, 5, 5, 5, 5, 5, 5, 5, 5, 6, 6, 6, 6, 6, 6, 6, 6, 6, 6, 6, 6, 6, 6, 6, 6, 6, 6, 6, 6, 6, 6, 6, 6, 6, 6, 6, 6, 6, 6, 6, 6, 7, 7, 7, 7, 7, 7, 7, 7, 7, 7, 7, 7, 7, 7, 7, 7, 7, 7, 7, 7, 7, 7, 7, 7, 7, 7, 7, 7, 7, 7, 7, 7, 7, 7, 7, 7, 7, 7, 7, 7, 7, 7, 7, 7, 7, 7, 7, 7, 7, 7, 7, 7, 7, 7, 7, 7, 7, 7, 7, 7, 7, 7, 7, 7, 8, 8, 8, 8, 8, 8, 8, 8, 8, 8, 8, 8, 8, 8, 8, 8, 8, 8, 8, 8, 8, 8, 8, 8, 8, 8, 8, 8, 8, 8, 8, 8, 8, 8, 8, 8, 8, 8, 8, 8, 8, 8, 8, 8, 8, 8, 8, 8, 8, 8, 8, 8, 8, 8, 8, 8, 8, 8, 8, 8, 8, 8, 8, 8, 8, 8, 8, 8, 8, 8, 8, 8, 8, 8, 8, 8, 8, 8, 8, 8, 8, 8, 8, 8, 8, 8, 8, 8, 8, 8, 8, 8, 8, 8, 8, 8, 8, 8, 8, 8, 8, 8, 8, 8, 8, 8, 8, 8, 8, 8, 8, 8, 8, 8, 8, 8, 8, 8, 8, 8, 8, 8, 8, 8, 8, 8, 8, 8] : List UInt8)[m]? = some b ∧ blen m = b.toNat := by
  have : ∀ m : Fin 256, ((([0, 1, 2, 2, 3, 3, 3, 3, 4, 4, 4, 4, 4, 4, 4, 4, 5, 5, 5, 5, 5, 5, 5, 5, 5, 5, 5, 5, 5, 5, 5, 5, 6, 6, 6, 6, 6, 6, 6, 6, 6, 6, 6, 6, 6, 6, 6, 6, 6, 6, 6, 6, 6, 6, 6, 6, 6, 6, 6, 6, 6, 6, 6, 6, 7, 7, 7, 7, 7, 7, 7, 7, 7, 7, 7, 7, 7, 7, 7, 7, 7, 7, 7, 7, 7, 7, 7, 7, 7, 7, 7, 7, 7, 7, 7, 7, 7, 7, 7, 7, 7, 7, 7, 7, 7, 7, 7, 7, 7, 7, 7, 7, 7, 7, 7, 7, 7, 7, 7, 7, 7, 7, 7, 7, 7, 7, 7, 7, 8, 8, 8, 8, 8, 8, 8, 8, 8, 8, 8, 8, 8, 8, 8, 8, 8, 8, 8, 8, 8, 8, 8, 8, 8, 8, 8, 8, 8, 8, 8, 8, 8, 8, 8, 8, 8, 8, 8, 8, 8, 8, 8, 8, 8, 8, 8, 8, 8, 8, 8, 8, 8, 8, 8, 8, 8, 8, 8, 8, 8, 8, 8, 8, 8, 8, 8, 8, 8, 8, 8, 8, 8, 8, 8, 8, 8, 8, 8, 8, 8, 8, 8, 8, 8, 8, 8, 8, 8, 8, 8, 8, 8, 8, 8, 8, 8, 8, 8, 8, 8, 8, 8, 8, 8, 8, 8, 8, 8, 8, 8, 8, 8, 8, 8, 8, 8, 8, 8, 8, 8, 8, 8, 8, 8, 8, 8, 8] : List UInt8)[m.val]?).any fun b => decide (blen m.val = b.toNat)) = true := by decide +kernel
  intro m hm
  have h := this ⟨m, hm⟩
  simp only at h
  rcases hb : ([0, 1, 2, 2, 3, 3, 3, 3, 4, 4, 4, 4, 4, 4, 4, 4, 5, 5, 5, 5, 5, 5, 5, 5, 5, 5, 5, 5, 5, 5, 5, 5, 6, 6, 6, 6, 6, 6, 6, 6, 6, 6, 6, 6, 6, 6, 6, 6, 6, 6, 6, 6, 6, 6, 6, 6, 6, 6, 6, 6, 6, 6, 6, 6, 7, 7, 7, 7, 7, 7, 7, 7, 7, 7, 7, 7, 7, 7, 7, 7, 7, 7, 7, 7, 7, 7, 7, 7, 7, 7, 7, 7, 7, 7, 7, 7, 7, 7, 7, 7, 7, 7, 7, 7, 7, 7, 7, 7, 7, 7, 7, 7, 7, 7, 7, 7, 7, 7, 7, 7, 7, 7, 7, 7, 7, 7, 7, 7, 8, 8, 8, 8, 8, 8, 8, 8, 8, 8, 8, 8, 8, 8, 8, 8, 8, 8, 8, 8, 8, 8, 8, 8, 8, 8, 8, 8, 8, 8, 8, 8, 8, 8, 8, 8, 8, 8, 8, 8, 8, 8, 8, 8, 8, 8, 8, 8, 8, 8, 8, 8, 8, 8, 8, 8, 8, 8, 8, 8, 8, 8, 8, 8, 8, 8, 8, 8, 8, 8, 8, 8, 8, 8, 8, 8, 8, 8, 8, 8, 8, 8, 8, 8, 8, 8, 8, 8, 8, 8, 8, 8, 8, 8, 8, 8, 8, 8, 8, 8, 8, 8, 8, 8, 8, 8, 8, 8, 8, 8, 8, 8, 8, 8, 8, 8, 8, 8, 8, 8, 8, 8, 8, 8, 8, 8, 8, 8] : List UInt8)[m]? with _ | b
  · rw [hb] at h; simp at h
  · rw [hb] at h; exact ⟨b, rfl, by simpa using h⟩
theorem u16 : IntKind.i64.wrap 16 = 16 := rfl
theorem u24 : IntKind.i64.wrap 24 = 24 := rfl
theorem u40 : IntKind.i64.wrap 40 = 40 := rfl
theorem u48 : IntKind.i64.wrap 48 = 48 := rfl
theorem u56 : IntKind.i64.wrap 56 = 56 := rfl
theorem fdiv_k (x : Nat) (k : Nat) (l : Int) (h : l = 2 ^ k) : (x : Int).fdiv l = ((x / 2 ^ k : Nat) : Int) := by rw [h]; exact fdiv_nat x k
theorem c80 {n : Nat} (h : n < 18446744073709551616) (H : Heap) : call env 80 [.int .u64 (n : Int)] H = some (.int .i64 ((blen n : Nat) : Int), H) := by
  refine call_ends (fn := s80) rfl rfl (by simp [s80]) ?_
  by_cases h0 : (n) < 4294967296
  · have c0 : (((n : Nat) : Int) ≥ 4294967296) = False := eq_false (by omega)
    by_cases h1 : (n) < 65536
    · have c1 : (((n : Nat) : Int) ≥ 65536) = False := eq_false (by omega)
      by_cases h2 : (n) < 256
      · have c2 : (((n : Nat) : Int) ≥ 256) = False := eq_false (by omega)
        obtain ⟨b, hb, hb2⟩ := len_at (n) (by omega)
        have hbl := b.toNat_lt
        have v1 : IntKind.u8.wrap ((n : Nat) : Int) = ((n : Nat) : Int) := by rw [wrap_u8_mod]; omega
        have v2 : IntKind.i64.wrap (b.toNat : Int) = (b.toNat : Int) := by rw [wrap_i64 (by omega) (by omega)]
        have v3 : IntKind.i64.wrap (0 + (b.toNat : Int)) = ((blen n : Nat) : Int) := by rw [wrap_i64 (by omega) (by omega)]; omega
        simp only [s80, R1, R2, R3, R4, R5, R6, R7, R8, AV.flat, fillIn_nil, fillIn_cons, splice, AV.cells, AV.one, eqsOf, idx, SO.calls, List.reduceReplicate, Nat.reduceBEq, Nat.reduceLT, Nat.reduceAdd, Nat.reduceMul, Nat.reduceSub, Nat.reduceLeDiff, Nat.reduceEqDiff, ↓reduceIte, Int.reduceLT, Int.reduceEq, Int.reduceBNe, Int.reduceBEq, aeq, Int.reduceLE, Int.reduceNeg, Int.reduceMul, Int.reduceAdd, Int.reduceSub, Int.reduceToNat, Int.reducePow, u16, u24, u40, u48, u56, c0, c1, c2, v1, v2, v3, hb]
        try rw [tidy_int]
      · have c2 : (((n : Nat) : Int) ≥ 256) = True := eq_true (by omega)
        have d2 : ((n : Nat) : Int).fdiv 256 = ((n / 256 : Nat) : Int) := fdiv_k _ 8 _ (by decide)
        have l2 : blen (n) = 8 + blen (n / 256) := blen_div (k := 8) (show n / 256 ≠ 0 by omega)
        obtain ⟨b, hb, hb2⟩ := len_at (n / 256) (by omega)
        have hbl := b.toNat_lt
        have v1 : IntKind.u8.wrap ((n / 256 : Nat) : Int) = ((n / 256 : Nat) : Int) := by rw [wrap_u8_mod]; omega
        have v2 : IntKind.i64.wrap (b.toNat : Int) = (b.toNat : Int) := by rw [wrap_i64 (by omega) (by omega)]
        have v3 : IntKind.i64.wrap (8 + (b.toNat : Int)) = ((blen n : Nat) : Int) := by rw [wrap_i64 (by omega) (by omega)]; omega
        generalize n / 256 = m at *
        simp only [s80, R1, R2, R3, R4, R5, R6, R7, R8, AV.flat, fillIn_nil, fillIn_cons, splice, AV.cells, AV.one, eqsOf, idx, SO.calls, List.reduceReplicate, Nat.reduceBEq, Nat.reduceLT, Nat.reduceAdd, Nat.reduceMul, Nat.reduceSub, Nat.reduceLeDiff, Nat.reduceEqDiff, ↓reduceIte, Int.reduceLT, Int.reduceEq, Int.reduceBNe, Int.reduceBEq, aeq, Int.reduceLE, Int.reduceNeg, Int.reduceMul, Int.reduceAdd, Int.reduceSub, Int.reduceToNat, Int.reducePow, u16, u24, u40, u48, u56, c0, c1, c2, d2, v1, v2, v3, hb]
        try rw [tidy_int]
    · have c1 : (((n : Nat) : Int) ≥ 65536) = True := eq_true (by omega)
      have d1 : ((n : Nat) : Int).fdiv 65536 = ((n / 65536 : Nat) : Int) := fdiv_k _ 16 _ (by decide)
      have l1 : blen (n) = 16 + blen (n / 65536) := blen_div (k := 16) (show n / 65536 ≠ 0 by omega)
      by_cases h2 : (n / 65536) < 256
      · have c2 : (((n / 65536 : Nat) : Int) ≥ 256) = False := eq_false (by omega)
        obtain ⟨b, hb, hb2⟩ := len_at (n / 65536) (by omega)
        have hbl := b.toNat_lt
        have v1 : IntKind.u8.wrap ((n / 65536 : Nat) : Int) = ((n / 65536 : Nat) : Int) := by rw [wrap_u8_mod]; omega
        have v2 : IntKind.i64.wrap (b.toNat : Int) = (b.toNat : Int) := by rw [wrap_i64 (by omega) (by omega)]
        have v3 : IntKind.i64.wrap (16 + (b.toNat : Int)) = ((blen n : Nat) : Int) := by rw [wrap_i64 (by omega) (by omega)]; omega
        generalize n / 65536 = m at *
        simp only [s80, R1, R2, R3, R4, R5, R6, R7, R8, AV.flat, fillIn_nil, fillIn_cons, splice, AV.cells, AV.one, eqsOf, idx, SO.calls, List.reduceReplicate, Nat.reduceBEq, Nat.reduceLT, Nat.reduceAdd, Nat.reduceMul, Nat.reduceSub, Nat.reduceLeDiff, Nat.reduceEqDiff, ↓reduceIte, Int.reduceLT, Int.reduceEq, Int.reduceBNe, Int.reduceBEq, aeq, Int.reduceLE, Int.reduceNeg, Int.reduceMul, Int.reduceAdd, Int.reduceSub, Int.reduceToNat, Int.reducePow, u16, u24, u40, u48, u56, c0, c1, d1, c2, v1, v2, v3, hb]
        try rw [tidy_int]
      · have c2 : (((n / 65536 : Nat) : Int) ≥ 256) = True := eq_true (by omega)
        have d2 : ((n / 65536 : Nat) : Int).fdiv 256 = ((n / 65536 / 256 : Nat) : Int) := fdiv_k _ 8 _ (by decide)
        have l2 : blen (n / 65536) = 8 + blen (n / 65536 / 256) := blen_div (k := 8) (show n / 65536 / 256 ≠ 0 by omega)
        obtain ⟨b, hb, hb2⟩ := len_at (n / 65536 / 256) (by omega)
        have hbl := b.toNat_lt
        have v1 : IntKind.u8.wrap ((n / 65536 / 256 : Nat) : Int) = ((n / 65536 / 256 : Nat) : Int) := by rw [wrap_u8_mod]; omega
        have v2 : IntKind.i64.wrap (b.toNat : Int) = (b.toNat : Int) := by rw [wrap_i64 (by omega) (by omega)]
        have v3 : IntKind.i64.wrap (24 + (b.toNat : Int)) = ((blen n : Nat) : Int) := by rw [wrap_i64 (by omega) (by omega)]; omega
        generalize n / 65536 / 256 = m at *
        simp only [s80, R1, R2, R3, R4, R5, R6, R7, R8, AV.flat, fillIn_nil, fillIn_cons, splice, AV.cells, AV.one, eqsOf, idx, SO.calls, List.reduceReplicate, Nat.reduceBEq, Nat.reduceLT, Nat.reduceAdd, Nat.reduceMul, Nat.reduceSub, Nat.reduceLeDiff, Nat.reduceEqDiff, ↓reduceIte, Int.reduceLT, Int.reduceEq, Int.reduceBNe, Int.reduceBEq, aeq, Int.reduceLE, Int.reduceNeg, Int.reduceMul, Int.reduceAdd, Int.reduceSub, Int.reduceToNat, Int.reducePow, u16, u24, u40, u48, u56, c0, c1, d1, c2, d2, v1, v2, v3, hb]
        try rw [tidy_int]
  · have c0 : (((n : Nat) : Int) ≥ 4294967296) = True := eq_true (by omega)
    have d0 : ((n : Nat) : Int).fdiv 4294967296 = ((n / 4294967296 : Nat) : Int) := fdiv_k _ 32 _ (by decide)
    have l0 : blen (n) = 32 + blen (n / 4294967296) := blen_div (k := 32) (show n / 4294967296 ≠ 0 by omega)
    by_cases h1 : (n / 4294967296) < 65536
    · have c1 : (((n / 4294967296 : Nat) : Int) ≥ 65536) = False := eq_false (by omega)
      by_cases h2 : (n / 4294967296) < 256
      · have c2 : (((n / 4294967296 : Nat) : Int) ≥ 256) = False := eq_false (by omega)
        obtain ⟨b, hb, hb2⟩ := len_at (n / 4294967296) (by omega)
        have hbl := b.toNat_lt
        have v1 : IntKind.u8.wrap ((n / 4294967296 : Nat) : Int) = ((n / 4294967296 : Nat) : Int) := by rw [wrap_u8_mod]; omega
        have v2 : IntKind.i64.wrap (b.toNat : Int) = (b.toNat : Int) := by rw [wrap_i64 (by omega) (by omega)]
        have v3 : IntKind.i64.wrap (32 + (b.toNat : Int)) = ((blen n : Nat) : Int) := by rw [wrap_i64 (by omega) (by omega)]; omega
        generalize n / 4294967296 = m at *
        simp only [s80, R1, R2, R3, R4, R5, R6, R7, R8, AV.flat, fillIn_nil, fillIn_cons, splice, AV.cells, AV.one, eqsOf, idx, SO.calls, List.reduceReplicate, Nat.reduceBEq, Nat.reduceLT, Nat.reduceAdd, Nat.reduceMul, Nat.reduceSub, Nat.reduceLeDiff, Nat.reduceEqDiff, ↓reduceIte, Int.reduceLT, Int.reduceEq, Int.reduceBNe, Int.reduceBEq, aeq, Int.reduceLE, Int.reduceNeg, Int.reduceMul, Int.reduceAdd, Int.reduceSub, Int.reduceToNat, Int.reducePow, u16, u24, u40, u48, u56, c0, d0, c1, c2, v1, v2, v3, hb]
        try rw [tidy_int]
      · have c2 : (((n / 4294967296 : Nat) : Int) ≥ 256) = True := eq_true (by omega)
        have d2 : ((n / 4294967296 : Nat) : Int).fdiv 256 = ((n / 4294967296 / 256 : Nat) : Int) := fdiv_k _ 8 _ (by decide)
        have l2 : blen (n / 4294967296) = 8 + blen (n / 4294967296 / 256) := blen_div (k := 8) (show n / 4294967296 / 256 ≠ 0 by omega)
        obtain ⟨b, hb, hb2⟩ := len_at (n / 4294967296 / 256) (by omega)
        have hbl := b.toNat_lt
        have v1 : IntKind.u8.wrap ((n / 4294967296 / 256 : Nat) : Int) = ((n / 4294967296 / 256 : Nat) : Int) := by rw [wrap_u8_mod]; omega
        have v2 : IntKind.i64.wrap (b.toNat : Int) = (b.toNat : Int) := by rw [wrap_i64 (by omega) (by omega)]
        have v3 : IntKind.i64.wrap (40 + (b.toNat : Int)) = ((blen n : Nat) : Int) := by rw [wrap_i64 (by omega) (by omega)]; omega
        generalize n / 4294967296 / 256 = m at *
        simp only [s80, R1, R2, R3, R4, R5, R6, R7, R8, AV.flat, fillIn_nil, fillIn_cons, splice, AV.cells, AV.one, eqsOf, idx, SO.calls, List.reduceReplicate, Nat.reduceBEq, Nat.reduceLT, Nat.reduceAdd, Nat.reduceMul, Nat.reduceSub, Nat.reduceLeDiff, Nat.reduceEqDiff, ↓reduceIte, Int.reduceLT, Int.reduceEq, Int.reduceBNe, Int.reduceBEq, aeq, Int.reduceLE, Int.reduceNeg, Int.reduceMul, Int.reduceAdd, Int.reduceSub, Int.reduceToNat, Int.reducePow, u16, u24, u40, u48, u56, c0, d0, c1, c2, d2, v1, v2, v3, hb]
        try rw [tidy_int]
    · have c1 : (((n / 4294967296 : Nat) : Int) ≥ 65536) = True := eq_true (by omega)
      have d1 : ((n / 4294967296 : Nat) : Int).fdiv 65536 = ((n / 4294967296 / 65536 : Nat) : Int) := fdiv_k _ 16 _ (by decide)
      have l1 : blen (n / 4294967296) = 16 + blen (n / 4294967296 / 65536) := blen_div (k := 16) (show n / 4294967296 / 65536 ≠ 0 by omega)
      by_cases h2 : (n / 4294967296 / 65536) < 256
      · have c2 : (((n / 4294967296 / 65536 : Nat) : Int) ≥ 256) = False := eq_false (by omega)
        obtain ⟨b, hb, hb2⟩ := len_at (n / 4294967296 / 65536) (by omega)
        have hbl := b.toNat_lt
        have v1 : IntKind.u8.wrap ((n / 4294967296 / 65536 : Nat) : Int) = ((n / 4294967296 / 65536 : Nat) : Int) := by rw [wrap_u8_mod]; omega
        have v2 : IntKind.i64.wrap (b.toNat : Int) = (b.toNat : Int) := by rw [wrap_i64 (by omega) (by omega)]
        have v3 : IntKind.i64.wrap (48 + (b.toNat : Int)) = ((blen n : Nat) : Int) := by rw [wrap_i64 (by omega) (by omega)]; omega
        generalize n / 4294967296 / 65536 = m at *
        simp only [s80, R1, R2, R3, R4, R5, R6, R7, R8, AV.flat, fillIn_nil, fillIn_cons, splice, AV.cells, AV.one, eqsOf, idx, SO.calls, List.reduceReplicate, Nat.reduceBEq, Nat.reduceLT, Nat.reduceAdd, Nat.reduceMul, Nat.reduceSub, Nat.reduceLeDiff, Nat.reduceEqDiff, ↓reduceIte, Int.reduceLT, Int.reduceEq, Int.reduceBNe, Int.reduceBEq, aeq, Int.reduceLE, Int.reduceNeg, Int.reduceMul, Int.reduceAdd, Int.reduceSub, Int.reduceToNat, Int.reducePow, u16, u24, u40, u48, u56, c0, d0, c1, d1, c2, v1, v2, v3, hb]
        try rw [tidy_int]
      · have c2 : (((n / 4294967296 / 65536 : Nat) : Int) ≥ 256) = True := eq_true (by omega)
        have d2 : ((n / 4294967296 / 65536 : Nat) : Int).fdiv 256 = ((n / 4294967296 / 65536 / 256 : Nat) : Int) := fdiv_k _ 8 _ (by decide)
        have l2 : blen (n / 4294967296 / 65536) = 8 + blen (n / 4294967296 / 65536 / 256) := blen_div (k := 8) (show n / 4294967296 / 65536 / 256 ≠ 0 by omega)
        obtain ⟨b, hb, hb2⟩ := len_at (n / 4294967296 / 65536 / 256) (by omega)
        have hbl := b.toNat_lt
        have v1 : IntKind.u8.wrap ((n / 4294967296 / 65536 / 256 : Nat) : Int) = ((n / 4294967296 / 65536 / 256 : Nat) : Int) := by rw [wrap_u8_mod]; omega
        have v2 : IntKind.i64.wrap (b.toNat : Int) = (b.toNat : Int) := by rw [wrap_i64 (by omega) (by omega)]
        have v3 : IntKind.i64.wrap (56 + (b.toNat : Int)) = ((blen n : Nat) : Int) := by rw [wrap_i64 (by omega) (by omega)]; omega
        generalize n / 4294967296 / 65536 / 256 = m at *
        simp only [s80, R1, R2, R3, R4, R5, R6, R7, R8, AV.flat, fillIn_nil, fillIn_cons, splice, AV.cells, AV.one, eqsOf, idx, SO.calls, List.reduceReplicate, Nat.reduceBEq, Nat.reduceLT, Nat.reduceAdd, Nat.reduceMul, Nat.reduceSub, Nat.reduceLeDiff, Nat.reduceEqDiff, ↓reduceIte, Int.reduceLT, Int.reduceEq, Int.reduceBNe, Int.reduceBEq, aeq, Int.reduceLE, Int.reduceNeg, Int.reduceMul, Int.reduceAdd, Int.reduceSub, Int.reduceToNat, Int.reducePow, u16, u24, u40, u48, u56, c0, d0, c1, d1, c2, d2, v1, v2, v3, hb]
        try rw [tidy_int]
theorem c68 {x : Nat} (hx : x < 340282366920938463463374607431768211456) (H : Heap) : call env 68 [.agg (wcs x)] H = some (.int .i64 ((blen x : Nat) : Int), H) := by
  refine call_ends (fn := s68) rfl rfl (by simp [s68]) ?_
  have b0 : blen x ≤ 128 := blen_small (by omega)
  simp only [wcs]
  by_cases h : x / 18446744073709551616 = 0
  · have e1 := fun H => c80 (n := x % 18446744073709551616) (by omega) H
    have c1 : (((x / 18446744073709551616 : Nat) : Int) != 0) = false := by rw [h]; rfl
    have l1 : x % 18446744073709551616 = x := by omega
    rw [← l1] at b0 ⊢
    rw [show x % 18446744073709551616 / 18446744073709551616 = x / 18446744073709551616 by omega, Nat.mod_mod]
    simp only [s68, R1, R2, R3, R4, R5, R6, R7, R8, AV.flat, fillIn_nil, fillIn_cons, splice, AV.cells, AV.one, eqsOf, idx, SO.calls, List.reduceReplicate, Nat.reduceBEq, Nat.reduceLT, Nat.reduceAdd, Nat.reduceMul, Nat.reduceSub, Nat.reduceLeDiff, Nat.reduceEqDiff, ↓reduceIte, Int.reduceLT, Int.reduceEq, Int.reduceBNe, Int.reduceBEq, aeq, Int.reduceLE, Int.reduceNeg, Int.reduceMul, Int.reduceAdd, Int.reduceSub, Int.reduceToNat, Int.reducePow, e1, c1]
    rw [tidy_int']
  · have e1 := fun H => c80 (n := x / 18446744073709551616) (by omega) H
    have c1 : (((x / 18446744073709551616 : Nat) : Int) != 0) = true := by rw [bne_iff_ne]; omega
    have l1 : blen x = 64 + blen (x / 18446744073709551616) := blen_div (k := 64) h
    have w1 : IntKind.i64.wrap (64 + ((blen (x / 18446744073709551616) : Nat) : Int)) = ((blen x : Nat) : Int) := by rw [wrap_i64 (by omega) (by omega)]; omega
    simp only [s68, R1, R2, R3, R4, R5, R6, R7, R8, AV.flat, fillIn_nil, fillIn_cons, splice, AV.cells, AV.one, eqsOf, idx, SO.calls, List.reduceReplicate, Nat.reduceBEq, Nat.reduceLT, Nat.reduceAdd, Nat.reduceMul, Nat.reduceSub, Nat.reduceLeDiff, Nat.reduceEqDiff, ↓reduceIte, Int.reduceLT, Int.reduceEq, Int.reduceBNe, Int.reduceBEq, aeq, Int.reduceLE, Int.reduceNeg, Int.reduceMul, Int.reduceAdd, Int.reduceSub, Int.reduceToNat, Int.reducePow, e1, c1, w1]
    rw [tidy_int']
theorem wcs_zero : wcs 0 = [.int .u64 0, .int .u64 0] := rfl
theorem wcs_eq (x y : Nat) : aeqs [1, 1] (wcs x) (wcs y) = some (x == y) := by
  have h : ((((x / 18446744073709551616 : Nat) : Int) == ((y / 18446744073709551616 : Nat) : Int)) && (((x % 18446744073709551616 : Nat) : Int) == ((y % 18446744073709551616 : Nat) : Int))) = (x == y) := by
    by_cases he : x = y
    · subst he; simp
    · rw [beq_eq_false_iff_ne.2 he, Bool.and_eq_false_iff]
      by_cases hh : x / 18446744073709551616 = y / 18446744073709551616
      · right; rw [beq_eq_false_iff_ne]; omega
      · left; rw [beq_eq_false_iff_ne]; omega
  rw [← h]
  simp [wcs, aeqs]
theorem c48_left {x k : Nat} (h : k + blen x ≤ 128) (H : Heap) : call env 48 [.agg (wcs x), .int .i64 (k : Int)] H = some (.tup [.agg (wcs (x * 2 ^ k)), .int .i64 0], H) := by
  refine call_ends (fn := s48) rfl rfl (by simp [s48]) ?_
  have q1 := wcs_eq x 0
  by_cases h0 : x = 0
  · have c1 : (x == 0) = true := by simp [h0]
    rw [c1] at q1
    rw [show wcs (x * 2 ^ k) = wcs 0 by rw [h0, Nat.zero_mul]]
    simp only [wcs_zero] at q1 ⊢
    simp only [wcs] at q1 ⊢
    simp only [s48, R1, R2, R3, R4, R5, R6, R7, R8, AV.flat, fillIn_nil, fillIn_cons, splice, AV.cells, AV.one, eqsOf, idx, SO.calls, List.reduceReplicate, Nat.reduceBEq, Nat.reduceLT, Nat.reduceAdd, Nat.reduceMul, Nat.reduceSub, Nat.reduceLeDiff, Nat.reduceEqDiff, ↓reduceIte, Int.reduceLT, Int.reduceEq, Int.reduceBNe, Int.reduceBEq, aeq, Int.reduceLE, Int.reduceNeg, Int.reduceMul, Int.reduceAdd, Int.reduceSub, Int.reduceToNat, Int.reducePow, q1]
    rw [tidy_still rfl]
  have c1 : (x == 0) = false := by simp [h0]
  rw [c1] at q1
  have b0 := blen_lt x
  have b1 := blen_le h0
  have hx2 : x * 2 ^ k < 340282366920938463463374607431768211456 := by
    have h1 : x * 2 ^ k < 2 ^ blen x * 2 ^ k := Nat.mul_lt_mul_of_pos_right b0 (Nat.two_pow_pos k)
    rw [← Nat.pow_add] at h1
    exact Nat.lt_of_lt_of_le h1 (Nat.pow_le_pow_right (i := blen x + k) (j := 128) (by omega) (by omega))
  have hx : x < 340282366920938463463374607431768211456 := Nat.lt_of_le_of_lt (Nat.le_mul_of_pos_right x (Nat.two_pow_pos k)) hx2
  have e1 := fun H => c68 hx H
  have e2 := fun H => c69 (x := x) (k := k) (by omega) hx2 H
  have n1 : ((k : Int) ≤ -128) = False := eq_false (by omega)
  have n2 : ((k : Int) < 0) = False := eq_false (by omega)
  have n3 : ((k : Int) > 128 - ((blen x : Nat) : Int)) = False := eq_false (by omega)
  have w1 := wrap_i64 (x := 128 - ((blen x : Nat) : Int)) (by omega) (by omega)
  have w2 : IntKind.u64.wrap (k : Int) = (k : Int) := by rw [wrap_u64_mod]; omega
  simp only [wcs_zero] at q1
  simp only [wcs] at q1 e1 e2 ⊢
  simp only [s48, R1, R2, R3, R4, R5, R6, R7, R8, AV.flat, fillIn_nil, fillIn_cons, splice, AV.cells, AV.one, eqsOf, idx, SO.calls, List.reduceReplicate, Nat.reduceBEq, Nat.reduceLT, Nat.reduceAdd, Nat.reduceMul, Nat.reduceSub, Nat.reduceLeDiff, Nat.reduceEqDiff, ↓reduceIte, Int.reduceLT, Int.reduceEq, Int.reduceBNe, Int.reduceBEq, aeq, Int.reduceLE, Int.reduceNeg, Int.reduceMul, Int.reduceAdd, Int.reduceSub, Int.reduceToNat, Int.reducePow, q1, n1, n2, n3, e1, e2, w1, w2]
  rw [tidy_still rfl]
theorem c48_right {x k : Nat} (hx : x < 340282366920938463463374607431768211456) (hk : k < 128) (H : Heap) : call env 48 [.agg (wcs x), .int .i64 (-(k : Int))] H = some (.tup [.agg (wcs (x / 2 ^ k)), .int .i64 0], H) := by
  by_cases h1 : k = 0
  · subst h1
    have := c48_left (x := x) (k := 0) (by have := blen_small (n := x) (k := 128) (by omega); omega) H
    rw [Nat.pow_zero, Nat.mul_one] at this
    rw [Nat.pow_zero, Nat.div_one]
    exact this
  refine call_ends (fn := s48) rfl rfl (by simp [s48]) ?_
  have q1 := wcs_eq x 0
  by_cases h0 : x = 0
  · have c1 : (x == 0) = true := by simp [h0]
    rw [c1] at q1
    rw [show wcs (x / 2 ^ k) = wcs 0 by rw [h0, Nat.zero_div]]
    simp only [wcs_zero] at q1 ⊢
    simp only [wcs] at q1 ⊢
    simp only [s48, R1, R2, R3, R4, R5, R6, R7, R8, AV.flat, fillIn_nil, fillIn_cons, splice, AV.cells, AV.one, eqsOf, idx, SO.calls, List.reduceReplicate, Nat.reduceBEq, Nat.reduceLT, Nat.reduceAdd, Nat.reduceMul, Nat.reduceSub, Nat.reduceLeDiff, Nat.reduceEqDiff, ↓reduceIte, Int.reduceLT, Int.reduceEq, Int.reduceBNe, Int.reduceBEq, aeq, Int.reduceLE, Int.reduceNeg, Int.reduceMul, Int.reduceAdd, Int.reduceSub, Int.reduceToNat, Int.reducePow, q1]
    rw [tidy_still rfl]
  have c1 : (x == 0) = false := by simp [h0]
  rw [c1] at q1
  have n1 : (-(k : Int) ≤ -128) = False := eq_false (by omega)
  have n2 : (-(k : Int) < 0) = True := eq_true (by omega)
  have w1 : IntKind.i64.wrap (0 - -(k : Int)) = (k : Int) := by rw [wrap_i64 (by omega) (by omega)]; omega
  have w2 : IntKind.u64.wrap (k : Int) = (k : Int) := by rw [wrap_u64_mod]; omega
  have e2 := fun H => c67 hx hk H
  simp only [wcs_zero] at q1
  simp only [wcs] at q1 e2 ⊢
  simp only [s48, R1, R2, R3, R4, R5, R6, R7, R8, AV.flat, fillIn_nil, fillIn_cons, splice, AV.cells, AV.one, eqsOf, idx, SO.calls, List.reduceReplicate, Nat.reduceBEq, Nat.reduceLT, Nat.reduceAdd, Nat.reduceMul, Nat.reduceSub, Nat.reduceLeDiff, Nat.reduceEqDiff, ↓reduceIte, Int.reduceLT, Int.reduceEq, Int.reduceBNe, Int.reduceBEq, aeq, Int.reduceLE, Int.reduceNeg, Int.reduceMul, Int.reduceAdd, Int.reduceSub, Int.reduceToNat, Int.reducePow, q1, n1, n2, e2, w1, w2]
  rw [tidy_still rfl]
theorem c71 (x : Int) (H : Heap) : call env 71 [.int .u64 x] H = some (.bool false, H) := by
  have c1 : (x != x) = false := by simp
  refine call_ends (fn := s71) rfl rfl (by simp [s71]) ?_
  simp only [s71, R1, R2, R3, R4, R5, R6, R7, R8, AV.flat, fillIn_nil, fillIn_cons, splice, AV.cells, AV.one, eqsOf, idx, SO.calls, List.reduceReplicate, Nat.reduceBEq, Nat.reduceLT, Nat.reduceAdd, Nat.reduceMul, Nat.reduceSub, Nat.reduceLeDiff, Nat.reduceEqDiff, ↓reduceIte, Int.reduceLT, Int.reduceEq, Int.reduceBNe, Int.reduceBEq, aeq, Int.reduceLE, Int.reduceNeg, Int.reduceMul, Int.reduceAdd, Int.reduceSub, Int.reduceToNat, Int.reducePow, c1]
  try rw [tidy_bool]
def cmpI (a b : Int) : Int := if a < b then -1 else if a > b then 1 else 0
theorem c51 (a b : Int) (H : Heap) : call env 51 [.int .u64 a, .int .u64 b] H = some (.int .i64 (cmpI a b), H) := by
  have e1 := fun H => c71 a H
  have e2 := fun H => c71 b H
  unfold cmpI
  refine call_ends (fn := s51) rfl rfl (by simp [s51]) ?_
  by_cases h1 : a < b
  · rw [if_pos h1]
    simp only [s51, R1, R2, R3, R4, R5, R6, R7, R8, AV.flat, fillIn_nil, fillIn_cons, splice, AV.cells, AV.one, eqsOf, idx, SO.calls, List.reduceReplicate, Nat.reduceBEq, Nat.reduceLT, Nat.reduceAdd, Nat.reduceMul, Nat.reduceSub, Nat.reduceLeDiff, Nat.reduceEqDiff, ↓reduceIte, Int.reduceLT, Int.reduceEq, Int.reduceBNe, Int.reduceBEq, aeq, Int.reduceLE, Int.reduceNeg, Int.reduceMul, Int.reduceAdd, Int.reduceSub, Int.reduceToNat, Int.reducePow, e1, e2, eq_true h1]
    try rw [tidy_int]
  · rw [if_neg h1]
    by_cases h2 : a > b
    · rw [if_pos h2]
      simp only [s51, R1, R2, R3, R4, R5, R6, R7, R8, AV.flat, fillIn_nil, fillIn_cons, splice, AV.cells, AV.one, eqsOf, idx, SO.calls, List.reduceReplicate, Nat.reduceBEq, Nat.reduceLT, Nat.reduceAdd, Nat.reduceMul, Nat.reduceSub, Nat.reduceLeDiff, Nat.reduceEqDiff, ↓reduceIte, Int.reduceLT, Int.reduceEq, Int.reduceBNe, Int.reduceBEq, aeq, Int.reduceLE, Int.reduceNeg, Int.reduceMul, Int.reduceAdd, Int.reduceSub, Int.reduceToNat, Int.reducePow, e1, e2, eq_false h1, eq_true h2]
      try rw [tidy_int]
    · rw [if_neg h2]
      simp only [s51, R1, R2, R3, R4, R5, R6, R7, R8, AV.flat, fillIn_nil, fillIn_cons, splice, AV.cells, AV.one, eqsOf, idx, SO.calls, List.reduceReplicate, Nat.reduceBEq, Nat.reduceLT, Nat.reduceAdd, Nat.reduceMul, Nat.reduceSub, Nat.reduceLeDiff, Nat.reduceEqDiff, ↓reduceIte, Int.reduceLT, Int.reduceEq, Int.reduceBNe, Int.reduceBEq, aeq, Int.reduceLE, Int.reduceNeg, Int.reduceMul, Int.reduceAdd, Int.reduceSub, Int.reduceToNat, Int.reducePow, e1, e2, eq_false h1, eq_false h2]
      try rw [tidy_int]
end Go.Proofs.YtdlolhkeckjipaaDoor
