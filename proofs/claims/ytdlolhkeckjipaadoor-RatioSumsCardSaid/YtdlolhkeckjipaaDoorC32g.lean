/- Chapter 32: numbers of 128 bits whose upper half is 0. -/
import Derived.Test.YtdlolhkeckjipaaDoorPureGcd
import Derived.Test.YtdlolhkeckjipaaDoorPureWide
import Derived.Test.YtdlolhkeckjipaaDoorEnv
import Derived.Test.YtdlolhkeckjipaaDoorGrowX
set_option linter.unusedVariables false
set_option linter.unusedSimpArgs false
set_option maxRecDepth 100000
set_option maxHeartbeats 4000000
namespace Go.Proofs.YtdlolhkeckjipaaDoor
open Go Go.Den
theorem and_nat {x y : Nat} (hx : x < 18446744073709551616) (hy : y < 18446744073709551616) : abits .and .u64 (x : Int) (y : Int) = ((x &&& y : Nat) : Int) := by
  have := and64 (BitVec.ofNat 64 x) (BitVec.ofNat 64 y)
  rw [BitVec.toNat_ofNat, BitVec.toNat_ofNat, Nat.mod_eq_of_lt (by simpa using hx), Nat.mod_eq_of_lt (by simpa using hy), BitVec.toNat_and, BitVec.toNat_ofNat, BitVec.toNat_ofNat, Nat.mod_eq_of_lt (by simpa using hx), Nat.mod_eq_of_lt (by simpa using hy)] at this
  exact this
theorem or_nat {x y : Nat} (hx : x < 18446744073709551616) (hy : y < 18446744073709551616) : abits .or .u64 (x : Int) (y : Int) = ((x ||| y : Nat) : Int) := by
  have := or64 (BitVec.ofNat 64 x) (BitVec.ofNat 64 y)
  rw [BitVec.toNat_ofNat, BitVec.toNat_ofNat, Nat.mod_eq_of_lt (by simpa using hx), Nat.mod_eq_of_lt (by simpa using hy), BitVec.toNat_or, BitVec.toNat_ofNat, BitVec.toNat_ofNat, Nat.mod_eq_of_lt (by simpa using hx), Nat.mod_eq_of_lt (by simpa using hy)] at this
  exact this
theorem fdiv_nat (x : Nat) (k : Nat) : (x : Int).fdiv (2 ^ k) = ((x / 2 ^ k : Nat) : Int) := by
  rw [show ((2 : Int) ^ k) = ((2 ^ k : Nat) : Int) by push_cast; rfl]
  exact (Int.fdiv_eq_ediv_of_nonneg _ (Int.natCast_nonneg _)).trans (by norm_cast)
theorem tab_eq : bruijn.map (fun n => AV.int .u8 ((n : Nat) : Int)) = (.int .u8 0 :: .int .u8 1 :: .int .u8 56 :: .int .u8 2 :: .int .u8 57 :: .int .u8 49 :: .int .u8 28 :: .int .u8 3 :: .int .u8 61 :: .int .u8 58 :: .int .u8 42 :: .int .u8 50 :: .int .u8 38 :: .int .u8 29 :: .int .u8 17 :: .int .u8 4 :: .int .u8 62 :: .int .u8 47 :: .int .u8 59 :: .int .u8 36 :: .int .u8 45 :: .int .u8 43 :: .int .u8 51 :: .int .u8 22 :: .int .u8 53 :: .int .u8 39 :: .int .u8 33 :: .int .u8 30 :: .int .u8 24 :: .int .u8 18 :: .int .u8 12 :: .int .u8 5 :: .int .u8 63 :: .int .u8 55 :: .int .u8 48 :: .int .u8 27 :: .int .u8 60 :: .int .u8 41 :: .int .u8 37 :: .int .u8 16 :: .int .u8 46 :: .int .u8 35 :: .int .u8 44 :: .int .u8 21 :: .int .u8 52 :: .int .u8 32 :: .int .u8 23 :: .int .u8 11 :: .int .u8 54 :: .int .u8 26 :: .int .u8 40 :: .int .u8 15 :: .int .u8 34 :: .int .u8 20 :: .int .u8 31 :: .int .u8 10 :: .int .u8 25 :: .int .u8 14 :: .int .u8 19 :: .int .u8 9 :: .int .u8 13 :: .int .u8 8 :: .int .u8 7 :: .int .u8 6 :: []) := by
  simp only [bruijn, List.map_cons, List.map_nil]
  rfl
theorem pv_take {z : Nat} {l : List AV} {v : AV} (h : l[z]? = some v) (H : Heap) : aload H 1 (.pv (l.drop z)) = some [v] := by
  have hl : z < l.length := (List.getElem?_eq_some_iff.1 h).1
  have e := List.drop_eq_getElem_cons hl
  rw [List.getElem?_eq_getElem hl] at h
  injection h with h
  rw [h] at e
  rw [e]
  simp [aload]
theorem tab_at {z k : Nat} (h : bruijn[z]? = some k) (H : Heap) : aload H 1 (.pv (List.drop z ((.int .u8 0 :: .int .u8 1 :: .int .u8 56 :: .int .u8 2 :: .int .u8 57 :: .int .u8 49 :: .int .u8 28 :: .int .u8 3 :: .int .u8 61 :: .int .u8 58 :: .int .u8 42 :: .int .u8 50 :: .int .u8 38 :: .int .u8 29 :: .int .u8 17 :: .int .u8 4 :: .int .u8 62 :: .int .u8 47 :: .int .u8 59 :: .int .u8 36 :: .int .u8 45 :: .int .u8 43 :: .int .u8 51 :: .int .u8 22 :: .int .u8 53 :: .int .u8 39 :: .int .u8 33 :: .int .u8 30 :: .int .u8 24 :: .int .u8 18 :: .int .u8 12 :: .int .u8 5 :: .int .u8 63 :: .int .u8 55 :: .int .u8 48 :: .int .u8 27 :: .int .u8 60 :: .int .u8 41 :: .int .u8 37 :: .int .u8 16 :: .int .u8 46 :: .int .u8 35 :: .int .u8 44 :: .int .u8 21 :: .int .u8 52 :: .int .u8 32 :: .int .u8 23 :: .int .u8 11 :: .int .u8 54 :: .int .u8 26 :: .int .u8 40 :: .int .u8 15 :: .int .u8 34 :: .int .u8 20 :: .int .u8 31 :: .int .u8 10 :: .int .u8 25 :: .int .u8 14 :: .int .u8 19 :: .int .u8 9 :: .int .u8 13 :: .int .u8 8 :: .int .u8 7 :: .int .u8 6 :: []) : List AV))) = some [.int .u8 (k : Int)] := by
  refine pv_take ?_ H
  rw [← tab_eq, List.getElem?_map, h]
  rfl
theorem mul_cast (a k : Nat) : ((a : Int) * 2 ^ k) % 18446744073709551616 = ((a * 2 ^ k % 18446744073709551616 : Nat) : Int) := by
  rw [Int.natCast_emod, Int.natCast_mul, Int.natCast_pow]
  rfl
theorem c66 {k m : Nat} (h : 2 ^ k * (2 * m + 1) < 18446744073709551616) (H : Heap) : call env 66 [.int .u64 ((2 ^ k * (2 * m + 1) : Nat) : Int)] H = some (.int .i64 (k : Int), H) := by
  have hp : 0 < 2 ^ k := Nat.two_pow_pos k
  have hk : k < 64 := by
    refine Decidable.byContradiction fun hk => ?_
    have h1 : 2 ^ 64 ≤ 2 ^ k := Nat.pow_le_pow_right (by omega) (by omega)
    have h2 : 2 ^ k ≤ 2 ^ k * (2 * m + 1) := Nat.le_mul_of_pos_right _ (by omega)
    omega
  have hx0 : 0 < 2 ^ k * (2 * m + 1) := Nat.mul_pos hp (by omega)
  have ha := low_and (n := 64) (k := k) (m := m) (by simpa using h)
  generalize hX : 2 ^ k * (2 * m + 1) = x at *
  have c1 : ((x : Int) == 0) = false := by rw [beq_eq_false_iff_ne]; omega
  have w1 : IntKind.u64.wrap (0 - (x : Int)) = ((2 ^ 64 - x : Nat) : Int) := by rw [wrap_u64_mod]; omega
  have e1 : abits .and .u64 (x : Int) ((2 ^ 64 - x : Nat) : Int) = ((2 ^ k : Nat) : Int) := by rw [and_nat h (by omega), ha]
  have w2 : IntKind.u64.wrap (((2 ^ k : Nat) : Int) * 285870213051353865) = ((2 ^ k * 285870213051353865 % 18446744073709551616 : Nat) : Int) := by rw [wrap_u64_mod]; omega
  have hb := bruijn_at k hk
  have w3 : ((2 ^ k * 285870213051353865 % 18446744073709551616 : Nat) : Int).fdiv 288230376151711744 = ((2 ^ k * 285870213051353865 % 18446744073709551616 / 288230376151711744 : Nat) : Int) := by
    have := fdiv_nat (2 ^ k * 285870213051353865 % 18446744073709551616) 58
    simpa using this
  generalize 2 ^ k * 285870213051353865 % 18446744073709551616 = y at *
  generalize y / 288230376151711744 = z at *
  have c2 : (((z : Nat) : Int) < 64) = True := eq_true (by omega)
  have w4 := wrap_i64 (x := (k : Int)) (by omega) (by omega)
  have hd := tab_at hb.2
  refine call_ends (fn := s66) rfl rfl (by simp [s66]) ?_
  simp only [s66, R1, R2, R3, R4, R5, R6, R7, R8, AV.flat, fillIn_nil, fillIn_cons, splice, AV.cells, AV.one, eqsOf, idx, SO.calls, List.reduceReplicate, Nat.reduceBEq, Nat.reduceLT, Nat.reduceAdd, Nat.reduceMul, Nat.reduceSub, Nat.reduceLeDiff, Nat.reduceEqDiff, ↓reduceIte, Int.reduceLT, Int.reduceEq, Int.reduceBNe, Int.reduceBEq, aeq, Int.reduceLE, Int.reduceNeg, Int.reduceMul, Int.reduceAdd, Int.reduceSub, Int.reduceToNat, Int.reducePow, c1, w1, e1, w2, w3, c2, hd, w4]
  try rw [tidy_int]
theorem c32 (x : Int) (H : Heap) : call env 32 [.int .u64 x] H = some (.agg [.int .u64 0, .int .u64 x], H) := by
  refine call_ends (fn := s32) rfl rfl (by simp [s32]) ?_
  simp only [s32, R1, R2, R3, R4, R5, R6, R7, R8, AV.flat, fillIn_nil, fillIn_cons, splice, AV.cells, AV.one, eqsOf, idx, SO.calls, List.reduceReplicate, Nat.reduceBEq, Nat.reduceLT, Nat.reduceAdd, Nat.reduceMul, Nat.reduceSub, Nat.reduceLeDiff, Nat.reduceEqDiff, ↓reduceIte, Int.reduceLT, Int.reduceEq, Int.reduceBNe, Int.reduceBEq, aeq, Int.reduceLE, Int.reduceNeg, Int.reduceMul, Int.reduceAdd, Int.reduceSub, Int.reduceToNat, Int.reducePow]
  rw [tidy_agg' rfl]
/-- Without its sign. -/
theorem c33 {n : Int} (hn : -9223372036854775808 ≤ n ∧ n < 9223372036854775808) (H : Heap) : call env 33 [.int .i64 n] H = some (.int .u64 (n.natAbs : Int), H) := by
  refine call_ends (fn := s33) rfl rfl (by simp [s33]) ?_
  by_cases h : n < 0
  · have w1 : IntKind.u64.wrap n = n + 18446744073709551616 := by rw [wrap_u64_mod]; omega
    have w2 : IntKind.u64.wrap (0 - (n + 18446744073709551616)) = (n.natAbs : Int) := by rw [wrap_u64_mod]; omega
    simp only [s33, R1, R2, R3, R4, R5, R6, R7, R8, AV.flat, fillIn_nil, fillIn_cons, splice, AV.cells, AV.one, eqsOf, idx, SO.calls, List.reduceReplicate, Nat.reduceBEq, Nat.reduceLT, Nat.reduceAdd, Nat.reduceMul, Nat.reduceSub, Nat.reduceLeDiff, Nat.reduceEqDiff, ↓reduceIte, Int.reduceLT, Int.reduceEq, Int.reduceBNe, Int.reduceBEq, aeq, Int.reduceLE, Int.reduceNeg, Int.reduceMul, Int.reduceAdd, Int.reduceSub, Int.reduceToNat, Int.reducePow, eq_true h, w1, w2]
    try rw [tidy_int]
  · have w1 : IntKind.u64.wrap n = (n.natAbs : Int) := by rw [wrap_u64_mod]; omega
    simp only [s33, R1, R2, R3, R4, R5, R6, R7, R8, AV.flat, fillIn_nil, fillIn_cons, splice, AV.cells, AV.one, eqsOf, idx, SO.calls, List.reduceReplicate, Nat.reduceBEq, Nat.reduceLT, Nat.reduceAdd, Nat.reduceMul, Nat.reduceSub, Nat.reduceLeDiff, Nat.reduceEqDiff, ↓reduceIte, Int.reduceLT, Int.reduceEq, Int.reduceBNe, Int.reduceBEq, aeq, Int.reduceLE, Int.reduceNeg, Int.reduceMul, Int.reduceAdd, Int.reduceSub, Int.reduceToNat, Int.reducePow, eq_false h, w1]
    try rw [tidy_int]
theorem c29 {n : Int} (hn : -9223372036854775808 ≤ n ∧ n < 9223372036854775808) (H : Heap) : call env 29 [.int .i64 n] H = some (.int .u64 (n.natAbs : Int), H) := by
  refine call_ends (fn := s29) rfl rfl (by simp [s29]) ?_
  by_cases h : n < 0
  · have w1 : IntKind.u64.wrap n = n + 18446744073709551616 := by rw [wrap_u64_mod]; omega
    have w2 : IntKind.u64.wrap (0 - (n + 18446744073709551616)) = (n.natAbs : Int) := by rw [wrap_u64_mod]; omega
    simp only [s29, R1, R2, R3, R4, R5, R6, R7, R8, AV.flat, fillIn_nil, fillIn_cons, splice, AV.cells, AV.one, eqsOf, idx, SO.calls, List.reduceReplicate, Nat.reduceBEq, Nat.reduceLT, Nat.reduceAdd, Nat.reduceMul, Nat.reduceSub, Nat.reduceLeDiff, Nat.reduceEqDiff, ↓reduceIte, Int.reduceLT, Int.reduceEq, Int.reduceBNe, Int.reduceBEq, aeq, Int.reduceLE, Int.reduceNeg, Int.reduceMul, Int.reduceAdd, Int.reduceSub, Int.reduceToNat, Int.reducePow, eq_true h, w1, w2]
    try rw [tidy_int]
  · have w1 : IntKind.u64.wrap n = (n.natAbs : Int) := by rw [wrap_u64_mod]; omega
    simp only [s29, R1, R2, R3, R4, R5, R6, R7, R8, AV.flat, fillIn_nil, fillIn_cons, splice, AV.cells, AV.one, eqsOf, idx, SO.calls, List.reduceReplicate, Nat.reduceBEq, Nat.reduceLT, Nat.reduceAdd, Nat.reduceMul, Nat.reduceSub, Nat.reduceLeDiff, Nat.reduceEqDiff, ↓reduceIte, Int.reduceLT, Int.reduceEq, Int.reduceBNe, Int.reduceBEq, aeq, Int.reduceLE, Int.reduceNeg, Int.reduceMul, Int.reduceAdd, Int.reduceSub, Int.reduceToNat, Int.reducePow, eq_false h, w1]
    try rw [tidy_int]
/-- Euclid's. -/
theorem c28 (x y : Nat) (hx : x < 18446744073709551616) (hy : y < 18446744073709551616) (H : Heap) : call env 28 [.int .u64 (x : Int), .int .u64 (y : Int)] H = some (.int .u64 (Nat.gcd x y : Int), H) := by
  refine call_ends (fn := s28) rfl rfl (by simp [s28]) ?_
  simp only [s28, R1, R2, R3, R4, R5, R6, R7, R8, AV.flat, fillIn_nil, fillIn_cons, splice, AV.cells, AV.one, eqsOf, idx, SO.calls, List.reduceReplicate, Nat.reduceBEq, Nat.reduceLT, Nat.reduceAdd, Nat.reduceMul, Nat.reduceSub, Nat.reduceLeDiff, Nat.reduceEqDiff, ↓reduceIte, Int.reduceLT, Int.reduceEq, Int.reduceBNe, Int.reduceBEq, aeq, Int.reduceLE, Int.reduceNeg, Int.reduceMul, Int.reduceAdd, Int.reduceSub, Int.reduceToNat, Int.reducePow]
  refine ends_loop (fun k t H' => t.length = 14 ∧ H = H' ∧ ∃ p q : Nat, (p < 18446744073709551616 ∧ q < 18446744073709551616) ∧ k = q ∧ t.getD 0 .undef = .int .u64 (p : Int) ∧ t.getD 1 .undef = .int .u64 (q : Int) ∧ Nat.gcd p q = Nat.gcd x y) y ?_ ?_
  · simp only [R1, R2, R3, R4, R5, R6, R7, R8, AV.flat, fillIn_nil, fillIn_cons, splice, AV.cells, AV.one, eqsOf, idx, SO.calls, List.reduceReplicate, Nat.reduceBEq, Nat.reduceLT, Nat.reduceAdd, Nat.reduceMul, Nat.reduceSub, Nat.reduceLeDiff, Nat.reduceEqDiff, ↓reduceIte, Int.reduceLT, Int.reduceEq, Int.reduceBNe, Int.reduceBEq, aeq, Int.reduceLE, Int.reduceNeg, Int.reduceMul, Int.reduceAdd, Int.reduceSub, Int.reduceToNat, Int.reducePow]
    exact ⟨x, y, ⟨hx, hy⟩, rfl, rfl, rfl, rfl⟩
  rintro k t _ ⟨g1, rfl, p, q, hpq, rfl, g2, g3, hg⟩
  rw [← tm_nil t]
  by_cases h0 : k = 0
  · subst h0
    rw [Nat.gcd_zero_right] at hg
    rw [← hg]
    have c0 : ((0 : Int) > 0) = False := eq_false (by omega)
    simp only [R1, R2, R3, R4, R5, R6, R7, R8, AV.flat, fillIn_nil, fillIn_cons, splice, AV.cells, AV.one, eqsOf, idx, SO.calls, List.reduceReplicate, Nat.reduceBEq, Nat.reduceLT, Nat.reduceAdd, Nat.reduceMul, Nat.reduceSub, Nat.reduceLeDiff, Nat.reduceEqDiff, ↓reduceIte, Int.reduceLT, Int.reduceEq, Int.reduceBNe, Int.reduceBEq, aeq, Int.reduceLE, Int.reduceNeg, Int.reduceMul, Int.reduceAdd, Int.reduceSub, Int.reduceToNat, Int.reducePow, g1, g2, g3, c0]
    try rw [tidy_int]
  · have c1 : (((k : Nat) : Int) > 0) = True := eq_true (by omega)
    have c2 : (((k : Nat) : Int) = 0) = False := eq_false (by omega)
    have t1 : (p : Int).tmod ((k : Nat) : Int) = ((p % k : Nat) : Int) := by rw [Int.tmod_eq_emod_of_nonneg (by omega)]; norm_cast
    have hlt := Nat.mod_lt p (show 0 < k by omega)
    have hgg : Nat.gcd k (p % k) = Nat.gcd x y := by rw [← hg, Nat.gcd_comm k, ← Nat.gcd_rec, Nat.gcd_comm]
    simp only [R1, R2, R3, R4, R5, R6, R7, R8, AV.flat, fillIn_nil, fillIn_cons, splice, AV.cells, AV.one, eqsOf, idx, SO.calls, List.reduceReplicate, Nat.reduceBEq, Nat.reduceLT, Nat.reduceAdd, Nat.reduceMul, Nat.reduceSub, Nat.reduceLeDiff, Nat.reduceEqDiff, ↓reduceIte, Int.reduceLT, Int.reduceEq, Int.reduceBNe, Int.reduceBEq, aeq, Int.reduceLE, Int.reduceNeg, Int.reduceMul, Int.reduceAdd, Int.reduceSub, Int.reduceToNat, Int.reducePow, g1, g2, g3, c1, c2, t1]
    exact ⟨p % k, by omega, k, p % k, by omega, rfl, rfl, rfl, hgg⟩
def wcs (x : Nat) : List AV := [.int .u64 ((x / 18446744073709551616 : Nat) : Int), .int .u64 ((x % 18446744073709551616 : Nat) : Int)]
theorem c67 {x k : Nat} (hx : x < 340282366920938463463374607431768211456) (hk : k < 128) (H : Heap) : call env 67 [.agg (wcs x), .int .u64 (k : Int)] H = some (.agg (wcs (x / 2 ^ k)), H) := by
  refine call_ends (fn := s67) rfl rfl (by simp [s67]) ?_
  have hp := Nat.two_pow_pos k
  have n1 : ((k : Int) < 0) = False := eq_false (by omega)
  simp only [wcs]
  by_cases h : k < 64
  · have c1 : ((k : Int) ≥ 64) = False := eq_false (by omega)
    have n2 : (k ≤ 64) = True := eq_true (by omega)
    have n3 : (((64 - k : Nat) : Int) < 0) = False := eq_false (by omega)
    have n4 : (64 - k ≤ 64) = True := eq_true (by omega)
    have w1 : IntKind.u64.wrap (64 - (k : Int)) = ((64 - k : Nat) : Int) := by rw [wrap_u64_mod]; omega
    have d1 := fdiv_nat (x / 18446744073709551616) k
    have d2 := fdiv_nat (x % 18446744073709551616) k
    have d3 : IntKind.u64.wrap (((x / 18446744073709551616 : Nat) : Int) * 2 ^ (64 - k)) = ((x / 18446744073709551616 * 2 ^ (64 - k) % 18446744073709551616 : Nat) : Int) := by rw [wrap_u64_mod, mul_cast]
    have a1 : abits .or .u64 ((x % 18446744073709551616 / 2 ^ k : Nat) : Int) ((x / 18446744073709551616 * 2 ^ (64 - k) % 18446744073709551616 : Nat) : Int) = ((x / 2 ^ k % 18446744073709551616 : Nat) : Int) := by
      rw [or_nat (Nat.lt_of_le_of_lt (Nat.div_le_self _ _) (by omega)) (by omega)]
      exact congrArg _ (right_lo x k (by omega))
    have a2 : x / 18446744073709551616 / 2 ^ k = x / 2 ^ k / 18446744073709551616 := right_hi x k
    rw [← a2]
    simp only [s67, R1, R2, R3, R4, R5, R6, R7, R8, AV.flat, fillIn_nil, fillIn_cons, splice, AV.cells, AV.one, eqsOf, idx, SO.calls, List.reduceReplicate, Nat.reduceBEq, Nat.reduceLT, Nat.reduceAdd, Nat.reduceMul, Nat.reduceSub, Nat.reduceLeDiff, Nat.reduceEqDiff, ↓reduceIte, Int.reduceLT, Int.reduceEq, Int.reduceBNe, Int.reduceBEq, aeq, Int.reduceLE, Int.reduceNeg, Int.reduceMul, Int.reduceAdd, Int.reduceSub, Int.reduceToNat, Int.reducePow, c1, n1, n2, n3, n4, w1, d1, d2, d3, a1]
    try rw [tidy_agg' rfl]
  · have c1 : ((k : Int) ≥ 64) = True := eq_true (by omega)
    have n2 : (k - 64 ≤ 64) = True := eq_true (by omega)
    have n3 : (((k - 64 : Nat) : Int) < 0) = False := eq_false (by omega)
    have w1 : IntKind.u64.wrap ((k : Int) - 64) = ((k - 64 : Nat) : Int) := by rw [wrap_u64_mod]; omega
    have d1 := fdiv_nat (x / 18446744073709551616) (k - 64)
    have a1 : x / 18446744073709551616 / 2 ^ (k - 64) = x / 2 ^ k := right_far x k (by omega)
    have b1 : x / 2 ^ k < 18446744073709551616 := by rw [← a1]; exact Nat.lt_of_le_of_lt (Nat.div_le_self _ _) (by omega)
    rw [a1] at d1
    rw [Nat.div_eq_of_lt b1, Nat.mod_eq_of_lt b1]
    simp only [s67, R1, R2, R3, R4, R5, R6, R7, R8, AV.flat, fillIn_nil, fillIn_cons, splice, AV.cells, AV.one, eqsOf, idx, SO.calls, List.reduceReplicate, Nat.reduceBEq, Nat.reduceLT, Nat.reduceAdd, Nat.reduceMul, Nat.reduceSub, Nat.reduceLeDiff, Nat.reduceEqDiff, ↓reduceIte, Int.reduceLT, Int.reduceEq, Int.reduceBNe, Int.reduceBEq, aeq, Int.reduceLE, Int.reduceNeg, Int.reduceMul, Int.reduceAdd, Int.reduceSub, Int.reduceToNat, Int.reducePow, c1, n1, n2, n3, w1, d1]
    try rw [tidy_agg' rfl]
theorem c69 {x k : Nat} (hk : k < 128) (hx : x * 2 ^ k < 340282366920938463463374607431768211456) (H : Heap) : call env 69 [.agg (wcs x), .int .u64 (k : Int)] H = some (.agg (wcs (x * 2 ^ k)), H) := by
  refine call_ends (fn := s69) rfl rfl (by simp [s69]) ?_
  have hp := Nat.two_pow_pos k
  have n1 : ((k : Int) < 0) = False := eq_false (by omega)
  simp only [wcs]
  by_cases h : k < 64
  · have c1 : ((k : Int) ≥ 64) = False := eq_false (by omega)
    have n2 : (k ≤ 64) = True := eq_true (by omega)
    have n3 : (((64 - k : Nat) : Int) < 0) = False := eq_false (by omega)
    have n4 : (64 - k ≤ 64) = True := eq_true (by omega)
    have w1 : IntKind.u64.wrap (64 - (k : Int)) = ((64 - k : Nat) : Int) := by rw [wrap_u64_mod]; omega
    have d2 := fdiv_nat (x % 18446744073709551616) (64 - k)
    have d1 : IntKind.u64.wrap (((x / 18446744073709551616 : Nat) : Int) * 2 ^ k) = ((x / 18446744073709551616 * 2 ^ k % 18446744073709551616 : Nat) : Int) := by rw [wrap_u64_mod, mul_cast]
    have d3 : IntKind.u64.wrap (((x % 18446744073709551616 : Nat) : Int) * 2 ^ k) = ((x * 2 ^ k % 18446744073709551616 : Nat) : Int) := by
      rw [wrap_u64_mod, mul_cast]
      exact congrArg _ (left_lo x k)
    have a1 : abits .or .u64 ((x / 18446744073709551616 * 2 ^ k % 18446744073709551616 : Nat) : Int) ((x % 18446744073709551616 / 2 ^ (64 - k) : Nat) : Int) = ((x * 2 ^ k / 18446744073709551616 : Nat) : Int) := by
      rw [or_nat (by omega) (Nat.lt_of_le_of_lt (Nat.div_le_self _ _) (by omega))]
      exact congrArg _ (left_hi x k (by omega) hx)
    simp only [s69, R1, R2, R3, R4, R5, R6, R7, R8, AV.flat, fillIn_nil, fillIn_cons, splice, AV.cells, AV.one, eqsOf, idx, SO.calls, List.reduceReplicate, Nat.reduceBEq, Nat.reduceLT, Nat.reduceAdd, Nat.reduceMul, Nat.reduceSub, Nat.reduceLeDiff, Nat.reduceEqDiff, ↓reduceIte, Int.reduceLT, Int.reduceEq, Int.reduceBNe, Int.reduceBEq, aeq, Int.reduceLE, Int.reduceNeg, Int.reduceMul, Int.reduceAdd, Int.reduceSub, Int.reduceToNat, Int.reducePow, c1, n1, n2, n3, n4, w1, d1, d2, d3, a1]
    try rw [tidy_agg' rfl]
  · have c1 : ((k : Int) ≥ 64) = True := eq_true (by omega)
    have n2 : (k - 64 ≤ 64) = True := eq_true (by omega)
    have n3 : (((k - 64 : Nat) : Int) < 0) = False := eq_false (by omega)
    have w1 : IntKind.u64.wrap ((k : Int) - 64) = ((k - 64 : Nat) : Int) := by rw [wrap_u64_mod]; omega
    obtain ⟨a1, a2⟩ := left_far x k (by omega) hx
    have d1 : IntKind.u64.wrap (((x % 18446744073709551616 : Nat) : Int) * 2 ^ (k - 64)) = ((x * 2 ^ k / 18446744073709551616 : Nat) : Int) := by
      rw [wrap_u64_mod, mul_cast]
      exact congrArg _ a1
    have a3 : ((x * 2 ^ k % 18446744073709551616 : Nat) : Int) = 0 := congrArg (fun n : Nat => (n : Int)) a2
    rw [a3]
    simp only [s69, R1, R2, R3, R4, R5, R6, R7, R8, AV.flat, fillIn_nil, fillIn_cons, splice, AV.cells, AV.one, eqsOf, idx, SO.calls, List.reduceReplicate, Nat.reduceBEq, Nat.reduceLT, Nat.reduceAdd, Nat.reduceMul, Nat.reduceSub, Nat.reduceLeDiff, Nat.reduceEqDiff, ↓reduceIte, Int.reduceLT, Int.reduceEq, Int.reduceBNe, Int.reduceBEq, aeq, Int.reduceLE, Int.reduceNeg, Int.reduceMul, Int.reduceAdd, Int.reduceSub, Int.reduceToNat, Int.reducePow, c1, n1, n2, n3, w1, d1]
    try rw [tidy_agg' rfl]
end Go.Proofs.YtdlolhkeckjipaaDoor
