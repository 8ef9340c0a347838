/- Plain numbers of 128 bits in two halves. -/
set_option linter.unusedVariables false
set_option linter.unusedSimpArgs false
namespace Go.Proofs.YtdlolhkeckjipaaDoor
theorem right_lo (x k : Nat) (hk : k ≤ 64) : (x % 2 ^ 64) / 2 ^ k ||| (x / 2 ^ 64 * 2 ^ (64 - k)) % 2 ^ 64 = x / 2 ^ k % 2 ^ 64 := by
  apply Nat.eq_of_testBit_eq
  intro j
  simp only [Nat.testBit_or, Nat.testBit_div_two_pow, Nat.testBit_mod_two_pow, Nat.testBit_mul_two_pow]
  by_cases h1 : j < 64
  · by_cases h2 : j + k < 64
    · simp [h1, h2, show ¬ 64 - k ≤ j by omega]
    · simp [h1, h2, show 64 - k ≤ j by omega, show j - (64 - k) + 64 = j + k by omega]
  · simp [h1, show ¬ j + k < 64 by omega]
theorem right_hi (x k : Nat) : x / 2 ^ 64 / 2 ^ k = x / 2 ^ k / 2 ^ 64 := by
  rw [Nat.div_div_eq_div_mul, Nat.div_div_eq_div_mul, Nat.mul_comm]
theorem right_far (x k : Nat) (hk : 64 ≤ k) : x / 2 ^ 64 / 2 ^ (k - 64) = x / 2 ^ k := by
  rw [Nat.div_div_eq_div_mul, ← Nat.pow_add, show 64 + (k - 64) = k by omega]
theorem left_hi (x k : Nat) (hk : k ≤ 64) (h : x * 2 ^ k < 2 ^ 128) : (x / 2 ^ 64 * 2 ^ k) % 2 ^ 64 ||| x % 2 ^ 64 / 2 ^ (64 - k) = x * 2 ^ k / 2 ^ 64 := by
  apply Nat.eq_of_testBit_eq
  intro j
  have hj : ¬ j < 64 → (x * 2 ^ k).testBit (j + 64) = false := fun h1 => Nat.testBit_lt_two_pow (Nat.lt_of_lt_of_le h (Nat.pow_le_pow_right (by omega) (by omega)))
  simp only [Nat.testBit_or, Nat.testBit_div_two_pow, Nat.testBit_mod_two_pow, Nat.testBit_mul_two_pow] at hj ⊢
  by_cases h1 : j < 64
  · by_cases h2 : k ≤ j
    · simp [h1, h2, show ¬ j + (64 - k) < 64 by omega, show k ≤ j + 64 by omega, show j - k + 64 = j + 64 - k by omega]
    · simp [h1, h2, show j + (64 - k) < 64 by omega, show k ≤ j + 64 by omega, show j + (64 - k) = j + 64 - k by omega, show j + 64 - k < 64 by omega]
  · rw [hj h1]
    simp [h1, show ¬ j + (64 - k) < 64 by omega]
theorem left_lo (x k : Nat) : (x % 2 ^ 64 * 2 ^ k) % 2 ^ 64 = x * 2 ^ k % 2 ^ 64 := Nat.mod_mul_mod x (2 ^ k) (2 ^ 64)
theorem left_far (x k : Nat) (hk : 64 ≤ k) (h : x * 2 ^ k < 2 ^ 128) : (x % 2 ^ 64 * 2 ^ (k - 64)) % 2 ^ 64 = x * 2 ^ k / 2 ^ 64 ∧ x * 2 ^ k % 2 ^ 64 = 0 := by
  have hx : x < 2 ^ 64 := by
    refine Decidable.byContradiction fun hx => ?_
    have h1 : 2 ^ 64 * 2 ^ 64 ≤ x * 2 ^ k := Nat.mul_le_mul (by omega) (Nat.pow_le_pow_right (by omega) hk)
    omega
  have e : x * 2 ^ k = x * 2 ^ (k - 64) * 2 ^ 64 := by rw [Nat.mul_assoc, ← Nat.pow_add, show k - 64 + 64 = k by omega]
  rw [e] at h ⊢
  rw [Nat.mod_eq_of_lt hx, Nat.mul_div_cancel _ (Nat.two_pow_pos 64)]
  have h2 : x * 2 ^ (k - 64) < 2 ^ 64 := Nat.lt_of_mul_lt_mul_right (a := 2 ^ 64) (by omega)
  exact ⟨Nat.mod_eq_of_lt h2, Nat.mul_mod_left _ _⟩
/-- How many places. -/
def blen (n : Nat) : Nat := if n = 0 then 0 else n.log2 + 1
theorem blen_lt (n : Nat) : n < 2 ^ blen n := by
  unfold blen
  by_cases h : n = 0
  · simp [h]
  · rw [if_neg h]
    exact Nat.lt_log2_self
theorem blen_le {n : Nat} (h : n ≠ 0) : 1 ≤ blen n ∧ 2 ^ (blen n - 1) ≤ n := by
  unfold blen
  rw [if_neg h]
  exact ⟨by omega, by rw [Nat.add_sub_cancel]; exact Nat.log2_self_le h⟩
theorem blen_eq {n l : Nat} (h1 : 2 ^ l ≤ n) (h2 : n < 2 ^ (l + 1)) : blen n = l + 1 := by
  have h0 : n ≠ 0 := by have := Nat.two_pow_pos l; omega
  unfold blen
  rw [if_neg h0, (Nat.log2_eq_iff h0).2 ⟨h1, h2⟩]
theorem blen_div {n k : Nat} (h : n / 2 ^ k ≠ 0) : blen n = k + blen (n / 2 ^ k) := by
  obtain ⟨h1, h2⟩ := blen_le h
  have h3 := blen_lt (n / 2 ^ k)
  generalize blen (n / 2 ^ k) = b at *
  have hp := Nat.two_pow_pos k
  have e1 : 2 ^ (b - 1 + k) ≤ n := by
    rw [Nat.pow_add]
    exact Nat.le_trans (Nat.mul_le_mul_right _ h2) (Nat.div_mul_le_self n _)
  have e2 : n < 2 ^ (b - 1 + k + 1) := by
    rw [show b - 1 + k + 1 = b + k by omega, Nat.pow_add]
    exact (Nat.div_lt_iff_lt_mul hp).1 h3
  rw [blen_eq e1 e2]
  omega
theorem blen_small {n k : Nat} (h : n < 2 ^ k) : blen n ≤ k := by
  refine Decidable.byContradiction fun hk => ?_
  have h0 : n ≠ 0 := fun h0 => by subst h0; simp [blen] at hk
  obtain ⟨h1, h2⟩ := blen_le h0
  have : 2 ^ k ≤ 2 ^ (blen n - 1) := Nat.pow_le_pow_right (by omega) (by omega)
  omega
theorem blen_tab : ∀ n, n < 256 → blen n = [0, 1, 2, 2, 3, 3, 3, 3, 4, 4, 4, 4, 4, 4, 4, 4, 5, 5, 5, 5, 5, 5, 5, 5, 5, 5, 5, 5, 5, 5, 5, 5].getD n (if n < 64 then 6 else if n < 128 then 7 else 8) := by decide +kernel
end Go.Proofs.YtdlolhkeckjipaaDoor
