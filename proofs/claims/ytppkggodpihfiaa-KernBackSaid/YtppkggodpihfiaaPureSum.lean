/- CRCs, in plain Lean. -/
import Init
set_option linter.unusedVariables false
namespace Go.Proofs.Ytppkggodpihfiaa
namespace Crc
abbrev W := BitVec 32
def poly : W := 3988292384#32
def step (c : W) : W := (c >>> 1) ^^^ (if c.getLsbD 0 then poly else 0#32)
def steps : Nat → W → W
  | 0, c => c
  | n + 1, c => steps n (step c)
theorem step_xor (a b : W) : step (a ^^^ b) = step a ^^^ step b := by
  unfold step
  rw [BitVec.getLsbD_xor, BitVec.ushiftRight_xor_distrib]
  cases a.getLsbD 0 <;> cases b.getLsbD 0 <;> simp
  · ac_rfl
  · ac_rfl
  · rw [show a >>> 1 ^^^ poly ^^^ (b >>> 1 ^^^ poly) = a >>> 1 ^^^ b >>> 1 ^^^ (poly ^^^ poly) by ac_rfl]; simp
theorem steps_xor : ∀ (n : Nat) (a b : W), steps n (a ^^^ b) = steps n a ^^^ steps n b
  | 0, a, b => rfl
  | n + 1, a, b => by simp only [steps, step_xor, steps_xor n]
theorem steps_succ : ∀ (n : Nat) (c : W), steps (n + 1) c = step (steps n c)
  | 0, c => rfl
  | n + 1, c => by rw [steps, steps_succ n (step c), steps]
theorem steps_high (x : W) (hx : ∀ i, i < 8 → x.getLsbD i = false) : ∀ j, j ≤ 8 → steps j x = x >>> j
  | 0, _ => by simp [steps]
  | j + 1, h => by
    rw [steps_succ, steps_high x hx j (by omega), step]
    have : (x >>> j).getLsbD 0 = false := by simp [hx j (by omega)]
    rw [this]
    simp [BitVec.shiftRight_add]
/-- a byte, as a word. -/
def byte (b : UInt8) : W := BitVec.ofNat 32 b.toNat
theorem byte_lt (b : UInt8) (i : Nat) (hi : 8 ≤ i) : (byte b).getLsbD i = false := by
  simp only [byte, BitVec.getLsbD_ofNat]
  have : b.toNat < 2 ^ i := Nat.lt_of_lt_of_le (show b.toNat < 2 ^ 8 from b.toNat_lt) (Nat.pow_le_pow_right (by omega) hi)
  simp [Nat.testBit_lt_two_pow this]
def low (x : W) : W := x &&& 255#32
def high (x : W) : W := x &&& 4294967040#32
theorem split (x : W) : x = high x ^^^ low x := by
  apply BitVec.eq_of_getLsbD_eq
  intro i hi
  have : ∀ i, i < 32 → (4294967040#32 : W).getLsbD i = !(255#32 : W).getLsbD i := by decide
  rw [high, low, BitVec.getLsbD_xor, BitVec.getLsbD_and, BitVec.getLsbD_and, this i hi]
  cases x.getLsbD i <;> cases (255#32 : W).getLsbD i <;> rfl
theorem high_low (x : W) (i : Nat) (hi : i < 8) : (high x).getLsbD i = false := by
  unfold high
  rw [BitVec.getLsbD_and]
  have : ∀ i, i < 8 → (4294967040#32 : W).getLsbD i = false := by decide
  rw [this i hi, Bool.and_false]
theorem high_shr (x : W) : high x >>> 8 = x >>> 8 := by
  apply BitVec.eq_of_getLsbD_eq
  intro i hi
  have : ∀ i, i < 32 → ¬ i < 24 ∨ (4294967040#32 : W).getLsbD (8 + i) = true := by decide
  simp only [BitVec.getLsbD_ushiftRight, high, BitVec.getLsbD_and]
  rcases this i hi with h | h
  · rw [BitVec.getLsbD_of_ge x (8 + i) (by omega)]; simp
  · rw [h, Bool.and_true]
theorem steps8 (x : W) : steps 8 x = (x >>> 8) ^^^ steps 8 (low x) := by
  conv => lhs; rw [split x]
  rw [steps_xor, steps_high (high x) (high_low x) 8 (by omega), high_shr]
theorem byte_shr (b : UInt8) : byte b >>> 8 = 0#32 := by
  apply BitVec.eq_of_getLsbD_eq
  intro i hi
  simp [BitVec.getLsbD_ushiftRight, byte_lt b (8 + i) (by omega)]
/-- What the table's way does is what the bits' way does. -/
theorem by_table (c : W) (b : UInt8) : (c >>> 8) ^^^ steps 8 (low (c ^^^ byte b)) = steps 8 (c ^^^ byte b) := by
  rw [steps8 (c ^^^ byte b), BitVec.ushiftRight_xor_distrib, byte_shr]
  simp
def crc (l : List UInt8) : W := l.foldl (fun c b => steps 8 (c ^^^ byte b)) 4294967295#32
theorem step_and (c : W) : (c >>> 1) ^^^ (poly &&& -(c &&& 1#32)) = step c := by
  unfold step
  congr 1
  have h : c &&& 1#32 = if c.getLsbD 0 then 1#32 else 0#32 := by
    apply BitVec.eq_of_getLsbD_eq
    intro i hi
    have h1 : ∀ i, i < 32 → (1#32 : W).getLsbD i = decide (i = 0) := by decide
    rw [BitVec.getLsbD_and, h1 i hi]
    by_cases h0 : i = 0
    · subst h0; cases c.getLsbD 0 <;> simp
    · cases c.getLsbD 0 <;> simp [h0]
  rw [h]
  cases c.getLsbD 0 <;> simp
  decide
/-! one way back -/
theorem step_inj {a b : W} (h : step a = step b) : a = b := by
  have top : ∀ c : W, (step c).getLsbD 31 = c.getLsbD 0 := by
    intro c
    unfold step
    rw [BitVec.getLsbD_xor, BitVec.getLsbD_ushiftRight, BitVec.getLsbD_of_ge c (1 + 31) (by omega)]
    cases c.getLsbD 0
    · simp
    · have : poly.getLsbD 31 = true := by decide
      simp [this]
  have h0 : a.getLsbD 0 = b.getLsbD 0 := by rw [← top a, ← top b, h]
  unfold step at h
  rw [h0] at h
  have h1 : a >>> 1 = b >>> 1 := by
    have := congrArg (· ^^^ (if b.getLsbD 0 then poly else 0#32)) h
    simpa [BitVec.xor_assoc] using this
  apply BitVec.eq_of_getLsbD_eq
  intro i hi
  cases i with
  | zero => exact h0
  | succ i =>
    have := congrArg (fun x : W => x.getLsbD i) h1
    simpa [BitVec.getLsbD_ushiftRight, Nat.add_comm] using this
theorem steps_inj : ∀ (n : Nat) {a b : W}, steps n a = steps n b → a = b
  | 0, a, b, h => h
  | n + 1, a, b, h => step_inj (steps_inj n h)
theorem crc_turned (l r : List UInt8) (b c : UInt8) : crc (l ++ b :: r) = crc (l ++ c :: r) ↔ b = c := by
  constructor
  · intro h
    simp only [crc, List.foldl_append, List.foldl_cons] at h
    have inj : ∀ (r : List UInt8) {x y : W}, r.foldl (fun c b => steps 8 (c ^^^ byte b)) x = r.foldl (fun c b => steps 8 (c ^^^ byte b)) y → x = y := by
      intro r
      induction r with
      | nil => intro x y h; exact h
      | cons a r ih =>
        intro x y h
        have := steps_inj 8 (ih h)
        have := congrArg (· ^^^ byte a) this
        simpa [BitVec.xor_assoc] using this
    have := steps_inj 8 (inj r h)
    generalize l.foldl (fun c b => steps 8 (c ^^^ byte b)) 4294967295#32 = x at this
    have h2 : byte b = byte c := by
      have := congrArg (x ^^^ ·) this
      simpa [← BitVec.xor_assoc] using this
    have h3 := congrArg BitVec.toNat h2
    simp only [byte, BitVec.toNat_ofNat] at h3
    have hb := b.toNat_lt
    have hc := c.toNat_lt
    exact UInt8.toNat_inj.1 (by omega)
  · rintro rfl; rfl
/-! the bits of a word -/
theorem bit_mod (a : W) (k : Nat) : ((a >>> k).toNat : Int).tmod 2 = if a.getLsbD k then 1 else 0 := by
  have h : (a >>> k).toNat % 2 = if a.getLsbD k then 1 else 0 := by
    rw [BitVec.toNat_ushiftRight, BitVec.getLsbD, Nat.testBit_eq_decide_div_mod_eq, Nat.shiftRight_eq_div_pow]
    have := Nat.mod_two_eq_zero_or_one (a.toNat / 2 ^ k)
    rcases this with h | h <;> simp [h]
  rw [Int.tmod_eq_emod_of_nonneg (Int.natCast_nonneg _)]
  have e : (((a >>> k).toNat % 2 : Nat) : Int) = ((a >>> k).toNat : Int) % 2 := by push_cast; rfl
  rw [← e, h]
  split <;> rfl
theorem bits_ne (a b : W) (k : Nat) : (((a >>> k).toNat : Int).tmod 2 != ((b >>> k).toNat : Int).tmod 2) = (a ^^^ b).getLsbD k := by
  rw [bit_mod, bit_mod, BitVec.getLsbD_xor]
  cases a.getLsbD k <;> cases b.getLsbD k <;> decide
theorem mod_succ (x : W) (k : Nat) : x.toNat % 2 ^ (k + 1) = x.toNat % 2 ^ k + (if x.getLsbD k then 2 ^ k else 0) := by
  rw [Nat.mod_pow_succ, BitVec.getLsbD, Nat.testBit_eq_decide_div_mod_eq]
  have := Nat.mod_two_eq_zero_or_one (x.toNat / 2 ^ k)
  rcases this with h | h <;> simp [h]
theorem half (c : W) : ((c.toNat : Int)).tdiv 2 = ((c >>> 1).toNat : Int) := by
  rw [Int.tdiv_eq_ediv_of_nonneg (Int.natCast_nonneg _), BitVec.toNat_ushiftRight, Nat.shiftRight_eq_div_pow]
  push_cast
  rfl
theorem odd (c : W) : ((c.toNat : Int)).tmod 2 = if c.getLsbD 0 then 1 else 0 := by
  have := bit_mod c 0
  simpa using this
/-- where the table is looked at. -/
theorem place (c : W) (b : UInt8) : BitVec.ofNat 32 (c.setWidth 8 ^^^ b.toBitVec).toNat = low (c ^^^ byte b) := by
  apply BitVec.eq_of_getLsbD_eq
  intro i hi
  have hl : ∀ i, i < 32 → (255#32 : W).getLsbD i = decide (i < 8) := by decide
  have e : BitVec.ofNat 32 (c.setWidth 8 ^^^ b.toBitVec).toNat = (c.setWidth 8 ^^^ b.toBitVec).setWidth 32 := by
    apply BitVec.eq_of_toNat_eq
    simp
  have e2 : byte b = b.toBitVec.setWidth 32 := by
    apply BitVec.eq_of_toNat_eq
    simp [byte]
  rw [e, low, BitVec.getLsbD_and, hl i hi, e2, BitVec.getLsbD_xor, BitVec.getLsbD_setWidth, BitVec.getLsbD_setWidth, BitVec.getLsbD_xor, BitVec.getLsbD_setWidth]
  by_cases h8 : i < 8
  · simp [h8, hi]
  · simp [h8, hi, BitVec.getLsbD_of_ge b.toBitVec i (by omega)]
/-! sums -/
def tsum (l : List UInt8) : Nat → Nat
  | 0 => 0
  | i + 1 => (tsum l i + (l[i]?.getD 0).toNat * 256 ^ (3 - i % 4)) % 4294967296
theorem tsum_lt (l : List UInt8) : ∀ i, tsum l i < 4294967296
  | 0 => by simp [tsum]
  | i + 1 => by simp only [tsum]; omega
theorem tsum_same (l m : List UInt8) : ∀ i, (∀ j, j < i → l[j]? = m[j]?) → tsum l i = tsum m i
  | 0, _ => rfl
  | i + 1, h => by simp only [tsum]; rw [tsum_same l m i fun j hj => h j (by omega), h i (by omega)]
theorem pow_le {i : Nat} : 256 ^ (3 - i % 4) ≤ 16777216 ∧ 0 < 256 ^ (3 - i % 4) := by
  have h : i % 4 = 0 ∨ i % 4 = 1 ∨ i % 4 = 2 ∨ i % 4 = 3 := by omega
  rcases h with h | h | h | h <;> rw [h] <;> decide
theorem tsum_turned (l : List UInt8) (at_ : Nat) (c : UInt8) (h : at_ < l.length) : ∀ i, at_ < i → (tsum (l.set at_ c) i = tsum l i ↔ l[at_]? = some c)
  | 0, hi => by omega
  | i + 1, hi => by
    simp only [tsum]
    by_cases he : at_ = i
    · subst he
      have h1 : tsum (l.set at_ c) at_ = tsum l at_ := tsum_same _ _ _ fun j hj => by rw [List.getElem?_set_ne (by omega)]
      rw [h1, List.getElem?_set_self h, List.getElem?_eq_getElem h]
      simp only [Option.getD_some, Option.some.injEq]
      have hp := @pow_le at_
      generalize 256 ^ (3 - at_ % 4) = p at hp
      have hx := l[at_].toNat_lt
      have hc := c.toNat_lt
      have ht := tsum_lt l at_
      constructor
      · intro e
        apply UInt8.toNat_inj.1
        have bx : l[at_].toNat * p ≤ 255 * p := Nat.mul_le_mul_right p (by omega)
        have bc : c.toNat * p ≤ 255 * p := Nat.mul_le_mul_right p (by omega)
        have : l[at_].toNat * p = c.toNat * p := by omega
        exact Nat.eq_of_mul_eq_mul_right hp.2 this
      · intro e; rw [e]
    · rw [List.getElem?_set_ne he]
      have ih := tsum_turned l at_ c h i (by omega)
      rw [← ih]
      have h1 := tsum_lt (l.set at_ c) i
      have h2 := tsum_lt l i
      generalize (l[i]?.getD 0).toNat * 256 ^ (3 - i % 4) = q
      omega
theorem crc_set (l : List UInt8) (i : Nat) (c : UInt8) (h : i < l.length) : crc (l.set i c) = crc l ↔ l[i]? = some c := by
  have e1 : l = l.take i ++ l[i] :: l.drop (i + 1) := by simp
  have e2 : l.set i c = l.take i ++ c :: l.drop (i + 1) := by rw [List.set_eq_take_append_cons_drop, if_pos h]
  rw [e2]
  conv => lhs; rhs; rw [e1]
  rw [crc_turned, List.getElem?_eq_getElem h]
  constructor
  · rintro rfl; rfl
  · intro e; exact (Option.some.inj e).symm
end Crc
end Go.Proofs.Ytppkggodpihfiaa
