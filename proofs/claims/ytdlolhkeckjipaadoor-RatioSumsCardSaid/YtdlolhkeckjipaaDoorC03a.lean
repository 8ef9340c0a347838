/- Chapter 03: products of 128 bits; lowest terms. -/
import Derived.Test.YtdlolhkeckjipaaDoorC32l
set_option linter.unusedVariables false
set_option linter.unusedSimpArgs false
set_option maxRecDepth 100000
set_option maxHeartbeats 8000000
namespace Go.Proofs.YtdlolhkeckjipaaDoor
open Go Go.Den
theorem and_mask {x : Nat} (h : x < 18446744073709551616) : abits .and .u64 (x : Int) 4294967295 = ((x % 4294967296 : Nat) : Int) := by
  have := and_nat h (y := 4294967295) (by omega)
  rw [show x &&& 4294967295 = x % 4294967296 from Nat.and_two_pow_sub_one_eq_mod x 32] at this
  exact this
theorem parts_mul (a b c d : Nat) : (4294967296 * a + b) * (4294967296 * c + d) = 18446744073709551616 * (a * c) + 4294967296 * (a * d) + 4294967296 * (b * c) + b * d := by
  rw [Nat.add_mul, Nat.mul_add, Nat.mul_add, Nat.mul_mul_mul_comm, Nat.mul_assoc 4294967296 a d, Nat.mul_left_comm b 4294967296 c]
  omega
theorem wrap_mul {x y p : Nat} (h : x * y = p) (hp : p < 18446744073709551616) : IntKind.u64.wrap ((x : Int) * (y : Int)) = (p : Int) := by
  rw [← Int.natCast_mul, h, wrap_u64_mod]
  omega
theorem wrap_nat {z : Int} {p : Nat} (h : z = (p : Int)) (hp : p < 18446744073709551616) : IntKind.u64.wrap z = (p : Int) := by
  rw [h, wrap_u64_mod]
  omega
theorem c65 {x y : Nat} (hx : x < 18446744073709551616) (hy : y < 18446744073709551616) (H : Heap) : call env 65 [.int .u64 (x : Int), .int .u64 (y : Int)] H = some (.tup [.int .u64 ((x * y / 18446744073709551616 : Nat) : Int), .int .u64 ((x * y % 18446744073709551616 : Nat) : Int)], H) := by
  refine call_ends (fn := s65) rfl rfl (by simp [s65]) ?_
  have a1 := and_mask hx
  have a2 := and_mask hy
  have d1 : (x : Int).fdiv 4294967296 = ((x / 4294967296 : Nat) : Int) := fdiv_k _ 32 _ (by decide)
  have d2 : (y : Int).fdiv 4294967296 = ((y / 4294967296 : Nat) : Int) := fdiv_k _ 32 _ (by decide)
  have hxy : x * y = 18446744073709551616 * (x / 4294967296 * (y / 4294967296)) + 4294967296 * (x / 4294967296 * (y % 4294967296)) + 4294967296 * (x % 4294967296 * (y / 4294967296)) + x % 4294967296 * (y % 4294967296) := by
    rw [← parts_mul, Nat.div_add_mod, Nat.div_add_mod]
  have v : IntKind.u64.wrap ((x : Int) * (y : Int)) = ((x * y % 18446744073709551616 : Nat) : Int) := by rw [wrap_u64_mod, Int.natCast_emod, Int.natCast_mul]; rfl
  have b1 : x / 4294967296 ≤ 4294967295 := by omega
  have b2 : y / 4294967296 ≤ 4294967295 := by omega
  have b3 : x % 4294967296 ≤ 4294967295 := by omega
  have b4 : y % 4294967296 ≤ 4294967295 := by omega
  have p11 := Nat.mul_le_mul b1 b2
  have p10 := Nat.mul_le_mul b1 b4
  have p01 := Nat.mul_le_mul b3 b2
  have p00 := Nat.mul_le_mul b3 b4
  generalize x * y = xy at *
  generalize x / 4294967296 = x1 at *
  generalize x % 4294967296 = x0 at *
  generalize y / 4294967296 = y1 at *
  generalize y % 4294967296 = y0 at *
  generalize h11 : x1 * y1 = P at *
  generalize h10 : x1 * y0 = Q at *
  generalize h01 : x0 * y1 = R at *
  generalize h00 : x0 * y0 = S at *
  have w1 := wrap_mul h00 (by omega)
  have w2 := wrap_mul h10 (by omega)
  have w3 := wrap_mul h01 (by omega)
  have w4 := wrap_mul h11 (by omega)
  have d3 : (S : Int).fdiv 4294967296 = ((S / 4294967296 : Nat) : Int) := fdiv_k _ 32 _ (by decide)
  have w5 : IntKind.u64.wrap ((Q : Int) + ((S / 4294967296 : Nat) : Int)) = ((Q + S / 4294967296 : Nat) : Int) := wrap_nat (by omega) (by omega)
  have a3 := and_mask (x := Q + S / 4294967296) (by omega)
  have d4 : ((Q + S / 4294967296 : Nat) : Int).fdiv 4294967296 = (((Q + S / 4294967296) / 4294967296 : Nat) : Int) := fdiv_k _ 32 _ (by decide)
  have w6 : IntKind.u64.wrap (((Q + S / 4294967296) % 4294967296 : Nat) + (R : Int)) = (((Q + S / 4294967296) % 4294967296 + R : Nat) : Int) := wrap_nat (by omega) (by omega)
  have d5 : (((Q + S / 4294967296) % 4294967296 + R : Nat) : Int).fdiv 4294967296 = ((((Q + S / 4294967296) % 4294967296 + R) / 4294967296 : Nat) : Int) := fdiv_k _ 32 _ (by decide)
  have w7 : IntKind.u64.wrap ((P : Int) + (((Q + S / 4294967296) / 4294967296 : Nat) : Int)) = ((P + (Q + S / 4294967296) / 4294967296 : Nat) : Int) := wrap_nat (by omega) (by omega)
  have w8 : IntKind.u64.wrap (((P + (Q + S / 4294967296) / 4294967296 : Nat) : Int) + ((((Q + S / 4294967296) % 4294967296 + R) / 4294967296 : Nat) : Int)) = ((xy / 18446744073709551616 : Nat) : Int) := wrap_nat (by omega) (by omega)
  simp only [s65, R1, R2, R3, R4, R5, R6, R7, R8, AV.flat, fillIn_nil, fillIn_cons, splice, AV.cells, AV.one, eqsOf, idx, SO.calls, List.reduceReplicate, Nat.reduceBEq, Nat.reduceLT, Nat.reduceAdd, Nat.reduceMul, Nat.reduceSub, Nat.reduceLeDiff, Nat.reduceEqDiff, ↓reduceIte, Int.reduceLT, Int.reduceEq, Int.reduceBNe, Int.reduceBEq, aeq, Int.reduceLE, Int.reduceNeg, Int.reduceMul, Int.reduceAdd, Int.reduceSub, Int.reduceToNat, Int.reducePow, a1, a2, a3, d1, d2, d3, d4, d5, w1, w2, w3, w4, w5, w6, w7, w8, v]
theorem c46 {x y : Nat} (hx : x < 18446744073709551616) (hy : y < 18446744073709551616) (H : Heap) : call env 46 [.int .u64 (x : Int), .int .u64 (y : Int)] H = some (.agg (wcs (x * y)), H) := by
  refine call_ends (fn := s46) rfl rfl (by simp [s46]) ?_
  have e1 := fun H => c65 hx hy H
  simp only [wcs]
  simp only [s46, R1, R2, R3, R4, R5, R6, R7, R8, AV.flat, fillIn_nil, fillIn_cons, splice, AV.cells, AV.one, eqsOf, idx, SO.calls, List.reduceReplicate, Nat.reduceBEq, Nat.reduceLT, Nat.reduceAdd, Nat.reduceMul, Nat.reduceSub, Nat.reduceLeDiff, Nat.reduceEqDiff, ↓reduceIte, Int.reduceLT, Int.reduceEq, Int.reduceBNe, Int.reduceBEq, aeq, Int.reduceLE, Int.reduceNeg, Int.reduceMul, Int.reduceAdd, Int.reduceSub, Int.reduceToNat, Int.reducePow, e1]
  rw [tidy_agg' rfl]
/-- A product's sign and size. -/
theorem c27 {a b : Int} (ha : I64 a) (hb : I64 b) (H : Heap) : call env 27 [.int .i64 a, .int .i64 b] H = some (.agg (.bool (decide (a < 0) != decide (b < 0)) :: wcs (a.natAbs * b.natAbs)), H) := by
  refine call_ends (fn := s27) rfl rfl (by simp [s27]) ?_
  unfold I64 at ha hb
  have e1 := fun H => c33 ha H
  have e2 := fun H => c33 hb H
  have e3 := fun H => c46 (x := a.natAbs) (y := b.natAbs) (by omega) (by omega) H
  simp only [wcs] at e3 ⊢
  simp only [s27, R1, R2, R3, R4, R5, R6, R7, R8, AV.flat, fillIn_nil, fillIn_cons, splice, AV.cells, AV.one, eqsOf, idx, SO.calls, List.reduceReplicate, Nat.reduceBEq, Nat.reduceLT, Nat.reduceAdd, Nat.reduceMul, Nat.reduceSub, Nat.reduceLeDiff, Nat.reduceEqDiff, ↓reduceIte, Int.reduceLT, Int.reduceEq, Int.reduceBNe, Int.reduceBEq, aeq, Int.reduceLE, Int.reduceNeg, Int.reduceMul, Int.reduceAdd, Int.reduceSub, Int.reduceToNat, Int.reducePow, e1, e2, e3]
  rw [tidy_agg' rfl]
  rfl
end Go.Proofs.YtdlolhkeckjipaaDoor
