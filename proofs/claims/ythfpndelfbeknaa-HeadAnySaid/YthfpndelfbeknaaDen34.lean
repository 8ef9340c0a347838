/- Words as BitVec (printed by gen34.py). -/
import Derived.Test.YthfpndelfbeknaaDen33
set_option linter.unusedVariables false
set_option linter.unusedSimpArgs false
namespace Go.Den
theorem signed_i64 : IntKind.signed .i64 = true := _root_.id rfl
theorem signed_u8 : IntKind.signed .u8 = false := _root_.id rfl
theorem max_u8 : IntKind.max .u8 = 255 := by decide
theorem wrap_u8_mod (x : Int) : IntKind.u8.wrap x = x % 256 := by
  have e : (2 ^ IntKind.u8.bits : Int) = 256 := by decide
  unfold IntKind.wrap
  simp only [e, show IntKind.u8.signed = false from rfl]
  simp
section
variable (a b : BitVec 8)
theorem wrap8_nat : IntKind.u8.wrap (a.toNat : Int) = (a.toNat : Int) := by
  have := a.isLt
  rw [wrap_u8_mod]; omega
theorem ofInt8 : BitVec.ofInt 8 (a.toNat : Int) = a := by
  rw [BitVec.ofInt_natCast, BitVec.ofNat_toNat, BitVec.setWidth_eq]
theorem xor8 : abits .xor .u8 (a.toNat : Int) (b.toNat : Int) = ((a ^^^ b).toNat : Int) := by
  show IntKind.u8.wrap ((BitVec.ofInt 8 (a.toNat : Int) ^^^ BitVec.ofInt 8 (b.toNat : Int)).toNat : Int) = _
  rw [ofInt8, ofInt8, wrap8_nat]
theorem and8 : abits .and .u8 (a.toNat : Int) (b.toNat : Int) = ((a &&& b).toNat : Int) := by
  show IntKind.u8.wrap ((BitVec.ofInt 8 (a.toNat : Int) &&& BitVec.ofInt 8 (b.toNat : Int)).toNat : Int) = _
  rw [ofInt8, ofInt8, wrap8_nat]
theorem or8 : abits .or .u8 (a.toNat : Int) (b.toNat : Int) = ((a ||| b).toNat : Int) := by
  show IntKind.u8.wrap ((BitVec.ofInt 8 (a.toNat : Int) ||| BitVec.ofInt 8 (b.toNat : Int)).toNat : Int) = _
  rw [ofInt8, ofInt8, wrap8_nat]
theorem add8 : IntKind.u8.wrap ((a.toNat : Int) + (b.toNat : Int)) = ((a + b).toNat : Int) := by
  rw [wrap_u8_mod, BitVec.toNat_add]; omega
theorem sub8 : IntKind.u8.wrap ((a.toNat : Int) - (b.toNat : Int)) = ((a - b).toNat : Int) := by
  have := a.isLt
  have := b.isLt
  rw [wrap_u8_mod, BitVec.toNat_sub]; omega
theorem neg8 : IntKind.u8.wrap (0 - (a.toNat : Int)) = ((-a).toNat : Int) := by
  have := a.isLt
  rw [wrap_u8_mod, BitVec.toNat_neg]; omega
theorem com8 {H : Heap} : unOf .xor (.int .u8 (a.toNat : Int)) H = some (.int .u8 ((a ^^^ BitVec.allOnes 8).toNat : Int), H) := by
  simp only [unOf, aun, signed_u8, Bool.false_eq_true, if_false, Option.map_some, max_u8]
  have e : (255 : Int) = ((BitVec.allOnes 8).toNat : Int) := by decide
  rw [e, xor8, BitVec.xor_comm]
theorem shr8 (n : Nat) : (a.toNat : Int).fdiv (2 ^ n) = ((a >>> n).toNat : Int) := by
  rw [BitVec.toNat_ushiftRight, Nat.shiftRight_eq_div_pow]
  have e : ((2 : Int) ^ n) = ((2 ^ n : Nat) : Int) := by push_cast; rfl
  rw [e]
  exact (Int.fdiv_eq_ediv_of_nonneg _ (Int.natCast_nonneg _)).trans (by norm_cast)
end
theorem signed_u16 : IntKind.signed .u16 = false := _root_.id rfl
theorem max_u16 : IntKind.max .u16 = 65535 := by decide
theorem wrap_u16_mod (x : Int) : IntKind.u16.wrap x = x % 65536 := by
  have e : (2 ^ IntKind.u16.bits : Int) = 65536 := by decide
  unfold IntKind.wrap
  simp only [e, show IntKind.u16.signed = false from rfl]
  simp
section
variable (a b : BitVec 16)
theorem wrap16_nat : IntKind.u16.wrap (a.toNat : Int) = (a.toNat : Int) := by
  have := a.isLt
  rw [wrap_u16_mod]; omega
theorem ofInt16 : BitVec.ofInt 16 (a.toNat : Int) = a := by
  rw [BitVec.ofInt_natCast, BitVec.ofNat_toNat, BitVec.setWidth_eq]
theorem xor16 : abits .xor .u16 (a.toNat : Int) (b.toNat : Int) = ((a ^^^ b).toNat : Int) := by
  show IntKind.u16.wrap ((BitVec.ofInt 16 (a.toNat : Int) ^^^ BitVec.ofInt 16 (b.toNat : Int)).toNat : Int) = _
  rw [ofInt16, ofInt16, wrap16_nat]
theorem and16 : abits .and .u16 (a.toNat : Int) (b.toNat : Int) = ((a &&& b).toNat : Int) := by
  show IntKind.u16.wrap ((BitVec.ofInt 16 (a.toNat : Int) &&& BitVec.ofInt 16 (b.toNat : Int)).toNat : Int) = _
  rw [ofInt16, ofInt16, wrap16_nat]
theorem or16 : abits .or .u16 (a.toNat : Int) (b.toNat : Int) = ((a ||| b).toNat : Int) := by
  show IntKind.u16.wrap ((BitVec.ofInt 16 (a.toNat : Int) ||| BitVec.ofInt 16 (b.toNat : Int)).toNat : Int) = _
  rw [ofInt16, ofInt16, wrap16_nat]
theorem add16 : IntKind.u16.wrap ((a.toNat : Int) + (b.toNat : Int)) = ((a + b).toNat : Int) := by
  rw [wrap_u16_mod, BitVec.toNat_add]; omega
theorem sub16 : IntKind.u16.wrap ((a.toNat : Int) - (b.toNat : Int)) = ((a - b).toNat : Int) := by
  have := a.isLt
  have := b.isLt
  rw [wrap_u16_mod, BitVec.toNat_sub]; omega
theorem neg16 : IntKind.u16.wrap (0 - (a.toNat : Int)) = ((-a).toNat : Int) := by
  have := a.isLt
  rw [wrap_u16_mod, BitVec.toNat_neg]; omega
theorem com16 {H : Heap} : unOf .xor (.int .u16 (a.toNat : Int)) H = some (.int .u16 ((a ^^^ BitVec.allOnes 16).toNat : Int), H) := by
  simp only [unOf, aun, signed_u16, Bool.false_eq_true, if_false, Option.map_some, max_u16]
  have e : (65535 : Int) = ((BitVec.allOnes 16).toNat : Int) := by decide
  rw [e, xor16, BitVec.xor_comm]
theorem shr16 (n : Nat) : (a.toNat : Int).fdiv (2 ^ n) = ((a >>> n).toNat : Int) := by
  rw [BitVec.toNat_ushiftRight, Nat.shiftRight_eq_div_pow]
  have e : ((2 : Int) ^ n) = ((2 ^ n : Nat) : Int) := by push_cast; rfl
  rw [e]
  exact (Int.fdiv_eq_ediv_of_nonneg _ (Int.natCast_nonneg _)).trans (by norm_cast)
end
theorem signed_u32 : IntKind.signed .u32 = false := _root_.id rfl
theorem max_u32 : IntKind.max .u32 = 4294967295 := by decide
theorem wrap_u32_mod (x : Int) : IntKind.u32.wrap x = x % 4294967296 := by
  have e : (2 ^ IntKind.u32.bits : Int) = 4294967296 := by decide
  unfold IntKind.wrap
  simp only [e, show IntKind.u32.signed = false from rfl]
  simp
section
variable (a b : BitVec 32)
theorem wrap32_nat : IntKind.u32.wrap (a.toNat : Int) = (a.toNat : Int) := by
  have := a.isLt
  rw [wrap_u32_mod]; omega
theorem ofInt32 : BitVec.ofInt 32 (a.toNat : Int) = a := by
  rw [BitVec.ofInt_natCast, BitVec.ofNat_toNat, BitVec.setWidth_eq]
theorem xor32 : abits .xor .u32 (a.toNat : Int) (b.toNat : Int) = ((a ^^^ b).toNat : Int) := by
  show IntKind.u32.wrap ((BitVec.ofInt 32 (a.toNat : Int) ^^^ BitVec.ofInt 32 (b.toNat : Int)).toNat : Int) = _
  rw [ofInt32, ofInt32, wrap32_nat]
theorem and32 : abits .and .u32 (a.toNat : Int) (b.toNat : Int) = ((a &&& b).toNat : Int) := by
  show IntKind.u32.wrap ((BitVec.ofInt 32 (a.toNat : Int) &&& BitVec.ofInt 32 (b.toNat : Int)).toNat : Int) = _
  rw [ofInt32, ofInt32, wrap32_nat]
theorem or32 : abits .or .u32 (a.toNat : Int) (b.toNat : Int) = ((a ||| b).toNat : Int) := by
  show IntKind.u32.wrap ((BitVec.ofInt 32 (a.toNat : Int) ||| BitVec.ofInt 32 (b.toNat : Int)).toNat : Int) = _
  rw [ofInt32, ofInt32, wrap32_nat]
theorem add32 : IntKind.u32.wrap ((a.toNat : Int) + (b.toNat : Int)) = ((a + b).toNat : Int) := by
  rw [wrap_u32_mod, BitVec.toNat_add]; omega
theorem sub32 : IntKind.u32.wrap ((a.toNat : Int) - (b.toNat : Int)) = ((a - b).toNat : Int) := by
  have := a.isLt
  have := b.isLt
  rw [wrap_u32_mod, BitVec.toNat_sub]; omega
theorem neg32 : IntKind.u32.wrap (0 - (a.toNat : Int)) = ((-a).toNat : Int) := by
  have := a.isLt
  rw [wrap_u32_mod, BitVec.toNat_neg]; omega
theorem com32 {H : Heap} : unOf .xor (.int .u32 (a.toNat : Int)) H = some (.int .u32 ((a ^^^ BitVec.allOnes 32).toNat : Int), H) := by
  simp only [unOf, aun, signed_u32, Bool.false_eq_true, if_false, Option.map_some, max_u32]
  have e : (4294967295 : Int) = ((BitVec.allOnes 32).toNat : Int) := by decide
  rw [e, xor32, BitVec.xor_comm]
theorem shr32 (n : Nat) : (a.toNat : Int).fdiv (2 ^ n) = ((a >>> n).toNat : Int) := by
  rw [BitVec.toNat_ushiftRight, Nat.shiftRight_eq_div_pow]
  have e : ((2 : Int) ^ n) = ((2 ^ n : Nat) : Int) := by push_cast; rfl
  rw [e]
  exact (Int.fdiv_eq_ediv_of_nonneg _ (Int.natCast_nonneg _)).trans (by norm_cast)
end
theorem signed_u64 : IntKind.signed .u64 = false := _root_.id rfl
theorem max_u64 : IntKind.max .u64 = 18446744073709551615 := by decide
theorem wrap_u64_mod (x : Int) : IntKind.u64.wrap x = x % 18446744073709551616 := by
  have e : (2 ^ IntKind.u64.bits : Int) = 18446744073709551616 := by decide
  unfold IntKind.wrap
  simp only [e, show IntKind.u64.signed = false from rfl]
  simp
section
variable (a b : BitVec 64)
theorem wrap64_nat : IntKind.u64.wrap (a.toNat : Int) = (a.toNat : Int) := by
  have := a.isLt
  rw [wrap_u64_mod]; omega
theorem ofInt64 : BitVec.ofInt 64 (a.toNat : Int) = a := by
  rw [BitVec.ofInt_natCast, BitVec.ofNat_toNat, BitVec.setWidth_eq]
theorem xor64 : abits .xor .u64 (a.toNat : Int) (b.toNat : Int) = ((a ^^^ b).toNat : Int) := by
  show IntKind.u64.wrap ((BitVec.ofInt 64 (a.toNat : Int) ^^^ BitVec.ofInt 64 (b.toNat : Int)).toNat : Int) = _
  rw [ofInt64, ofInt64, wrap64_nat]
theorem and64 : abits .and .u64 (a.toNat : Int) (b.toNat : Int) = ((a &&& b).toNat : Int) := by
  show IntKind.u64.wrap ((BitVec.ofInt 64 (a.toNat : Int) &&& BitVec.ofInt 64 (b.toNat : Int)).toNat : Int) = _
  rw [ofInt64, ofInt64, wrap64_nat]
theorem or64 : abits .or .u64 (a.toNat : Int) (b.toNat : Int) = ((a ||| b).toNat : Int) := by
  show IntKind.u64.wrap ((BitVec.ofInt 64 (a.toNat : Int) ||| BitVec.ofInt 64 (b.toNat : Int)).toNat : Int) = _
  rw [ofInt64, ofInt64, wrap64_nat]
theorem add64 : IntKind.u64.wrap ((a.toNat : Int) + (b.toNat : Int)) = ((a + b).toNat : Int) := by
  rw [wrap_u64_mod, BitVec.toNat_add]; omega
theorem sub64 : IntKind.u64.wrap ((a.toNat : Int) - (b.toNat : Int)) = ((a - b).toNat : Int) := by
  have := a.isLt
  have := b.isLt
  rw [wrap_u64_mod, BitVec.toNat_sub]; omega
theorem neg64 : IntKind.u64.wrap (0 - (a.toNat : Int)) = ((-a).toNat : Int) := by
  have := a.isLt
  rw [wrap_u64_mod, BitVec.toNat_neg]; omega
theorem com64 {H : Heap} : unOf .xor (.int .u64 (a.toNat : Int)) H = some (.int .u64 ((a ^^^ BitVec.allOnes 64).toNat : Int), H) := by
  simp only [unOf, aun, signed_u64, Bool.false_eq_true, if_false, Option.map_some, max_u64]
  have e : (18446744073709551615 : Int) = ((BitVec.allOnes 64).toNat : Int) := by decide
  rw [e, xor64, BitVec.xor_comm]
theorem shr64 (n : Nat) : (a.toNat : Int).fdiv (2 ^ n) = ((a >>> n).toNat : Int) := by
  rw [BitVec.toNat_ushiftRight, Nat.shiftRight_eq_div_pow]
  have e : ((2 : Int) ^ n) = ((2 ^ n : Nat) : Int) := by push_cast; rfl
  rw [e]
  exact (Int.fdiv_eq_ediv_of_nonneg _ (Int.natCast_nonneg _)).trans (by norm_cast)
end
theorem tidy_bool0 {X : Heap} {b : Bool} : tidy [] (.bool b) X = (.bool b, []) := by
  have h := tidy_bool' (H := []) (X := X) (b := b)
  rwa [List.nil_append] at h
end Go.Den
