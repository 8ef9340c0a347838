/- CRCs joined, in plain Lean. -/
import Derived.Test.YtimbippemlmnlaaPureSum
set_option linter.unusedVariables false
namespace Go.Proofs.Ytimbippemlmnlaa
namespace Crc
theorem steps_add : ∀ (m n : Nat) (c : W), steps (m + n) c = steps n (steps m c)
  | 0, n, c => by simp [steps]
  | m + 1, n, c => by rw [Nat.add_right_comm, steps, steps_add m n, steps]
theorem steps_zero : ∀ n, steps n 0#32 = 0#32
  | 0 => rfl
  | n + 1 => by rw [steps, show step 0#32 = 0#32 by decide, steps_zero n]
theorem fold_xor : ∀ (l : List UInt8) (x y : W), l.foldl (fun c b => steps 8 (c ^^^ byte b)) x ^^^ l.foldl (fun c b => steps 8 (c ^^^ byte b)) y = steps (8 * l.length) (x ^^^ y)
  | [], x, y => by simp [steps]
  | b :: l, x, y => by
    rw [List.foldl_cons, List.foldl_cons, fold_xor l, ← steps_xor]
    rw [show x ^^^ byte b ^^^ (y ^^^ byte b) = x ^^^ y ^^^ (byte b ^^^ byte b) by ac_rfl, BitVec.xor_self, BitVec.xor_zero]
    rw [List.length_cons, show 8 * (l.length + 1) = 8 + 8 * l.length by omega, steps_add]
theorem crc_join (s t : List UInt8) : crc (s ++ t) ^^^ 4294967295#32 = steps (8 * t.length) (crc s ^^^ 4294967295#32) ^^^ (crc t ^^^ 4294967295#32) := by
  have h := fold_xor t (crc s) 4294967295#32
  have e : crc (s ++ t) = t.foldl (fun c b => steps 8 (c ^^^ byte b)) (crc s) := by simp [crc, List.foldl_append]
  have e2 : crc t = t.foldl (fun c b => steps 8 (c ^^^ byte b)) 4294967295#32 := rfl
  rw [← e, ← e2] at h
  rw [← h]
  rw [show crc (s ++ t) ^^^ crc t ^^^ (crc t ^^^ 4294967295#32) = crc (s ++ t) ^^^ (crc t ^^^ crc t) ^^^ 4294967295#32 by ac_rfl, BitVec.xor_self, BitVec.xor_zero]
/-- the bits from i on, and bit i apart. -/
theorem bits_from (v : W) (i : Nat) (hi : i < 32) : v >>> i <<< i = (v >>> (i + 1) <<< (i + 1)) ^^^ (if v.getLsbD i then 1#32 <<< i else 0#32) := by
  apply BitVec.eq_of_getLsbD_eq
  intro j hj
  have h1 : ∀ j, j < 32 → (1#32 : W).getLsbD j = decide (j = 0) := by decide
  rw [BitVec.getLsbD_xor, BitVec.getLsbD_shiftLeft, BitVec.getLsbD_ushiftRight, BitVec.getLsbD_shiftLeft, BitVec.getLsbD_ushiftRight]
  by_cases hji : j < i
  · have : j < i + 1 := by omega
    cases v.getLsbD i <;> simp [hji, this, BitVec.getLsbD_shiftLeft]
  · by_cases he : j = i
    · subst he
      have hv : v.getLsbD j = v[j] := by simp [hj]
      rw [hv]
      cases hw : v[j] <;> simp [hj, hw]
    · have h2 : ¬ j < i + 1 := by omega
      have h3 : i + (j - i) = j := by omega
      have h4 : i + 1 + (j - (i + 1)) = j := by omega
      cases v.getLsbD i
      · simp [hji, h2, h3, h4, hj]
      · have : (1#32 <<< i : W).getLsbD j = false := by
          rw [BitVec.getLsbD_shiftLeft, h1 (j - i) (by omega)]
          simp [hji]; omega
        have h5 : ¬ (j - i = 0) := by omega
        simp [hji, h2, h3, h4, hj, h5]
theorem low_bit (v : W) (i : Nat) : (v >>> i).toNat % 2 = if v.getLsbD i then 1 else 0 := by
  rw [BitVec.toNat_ushiftRight, BitVec.getLsbD, Nat.testBit_eq_decide_div_mod_eq, Nat.shiftRight_eq_div_pow]
  have := Nat.mod_two_eq_zero_or_one (v.toNat / 2 ^ i)
  rcases this with h | h <;> simp [h]
theorem and_one (v : W) (i : Nat) : ((v >>> i &&& 1#32).toNat : Int) = if v.getLsbD i then 1 else 0 := by
  rw [BitVec.toNat_and, show (1#32 : W).toNat = 1 from rfl, Nat.and_one_is_mod, low_bit]
  split <;> rfl
theorem shr_zero {v : W} {i : Nat} (h : ¬ i < 32) : v >>> i = 0#32 := by
  apply BitVec.eq_of_getLsbD_eq
  intro j hj
  rw [BitVec.getLsbD_ushiftRight, BitVec.getLsbD_of_ge v (i + j) (by omega)]
  simp
theorem one_shl {i : Nat} (h : i < 32) : (1#32 <<< i : W).toNat = 2 ^ i := by
  rw [BitVec.toNat_shiftLeft, show (1#32 : W).toNat = 1 from rfl, Nat.shiftLeft_eq, Nat.one_mul]
  exact Nat.mod_eq_of_lt (Nat.pow_lt_pow_right (by omega) h)
end Crc
end Go.Proofs.Ytimbippemlmnlaa
