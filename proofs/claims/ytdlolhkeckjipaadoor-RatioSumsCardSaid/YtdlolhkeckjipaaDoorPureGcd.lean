/- Plain numbers: the lowest bit, the greatest common divisor without twos. -/
set_option linter.unusedVariables false
set_option linter.unusedSimpArgs false
namespace Go.Proofs.YtdlolhkeckjipaaDoor
theorem odd_part : ∀ (x : Nat), 0 < x → ∃ k m, x = 2 ^ k * (2 * m + 1) := fun x => by
  induction x using Nat.strongRecOn with
  | ind x ih =>
    intro h
    by_cases he : x % 2 = 1
    · exact ⟨0, x / 2, by simp; omega⟩
    · obtain ⟨k, m, hk⟩ := ih (x / 2) (by omega) (by omega)
      refine ⟨k + 1, m, ?_⟩
      have : x = 2 * (x / 2) := by omega
      rw [this, hk, Nat.pow_succ, Nat.mul_comm (2 ^ k) 2, Nat.mul_assoc]
theorem low_and {k m n : Nat} (h : 2 ^ k * (2 * m + 1) < 2 ^ n) : (2 ^ k * (2 * m + 1)) &&& (2 ^ n - 2 ^ k * (2 * m + 1)) = 2 ^ k := by
  have hp : 0 < 2 ^ k := Nat.two_pow_pos k
  have hx : 2 ^ k * (2 * m + 1) = 2 ^ k * (2 * m) + (2 ^ k - 1) + 1 := by rw [Nat.mul_add, Nat.mul_one]; omega
  have hy : 2 ^ k * (2 * m) + (2 ^ k - 1) < 2 ^ n := by omega
  apply Nat.eq_of_testBit_eq
  intro i
  rw [Nat.testBit_and, Nat.testBit_two_pow_mul]
  rw [hx, Nat.testBit_two_pow_sub_succ hy, Nat.testBit_two_pow_mul_add _ (by omega), Nat.testBit_two_pow]
  by_cases h1 : i < k
  · simp [show ¬ k ≤ i by omega, show ¬ k = i by omega]
  · rw [if_neg h1]
    by_cases h2 : k = i
    · subst h2
      have hk : k < n := by
        refine Decidable.byContradiction fun hk => ?_
        have : 2 ^ n ≤ 2 ^ k := Nat.pow_le_pow_right (by omega) (by omega)
        have : 2 ^ k ≤ 2 ^ k * (2 * m + 1) := Nat.le_mul_of_pos_right _ (by omega)
        omega
      simp [hk]
    · obtain ⟨d, hd⟩ : ∃ d, i - k = d + 1 := ⟨i - k - 1, by omega⟩
      rw [hd, Nat.testBit_succ, Nat.testBit_succ]
      simp only [show (2 * m + 1) / 2 = m by omega, show 2 * m / 2 = m by omega, h2, decide_false]
      cases m.testBit d <;> simp
theorem odd_coprime (m k : Nat) : Nat.Coprime (2 ^ k) (2 * m + 1) := by
  refine Nat.Coprime.pow_left k ?_
  show Nat.gcd 2 (2 * m + 1) = 1
  rw [Nat.gcd_rec]
  simp [Nat.mul_add_mod]
/-- Without its twos, beside an odd number. -/
theorem gcd_odd (a m k b : Nat) (h : a = 2 * m + 1) : Nat.gcd a (2 ^ k * b) = Nat.gcd a b := by
  subst h
  exact Nat.Coprime.gcd_mul_left_cancel_right b (odd_coprime m k)
/-- Of two numbers, by their odd parts. -/
theorem gcd_parts (i m j n : Nat) : Nat.gcd (2 ^ i * (2 * m + 1)) (2 ^ j * (2 * n + 1)) = 2 ^ min i j * Nat.gcd (2 * m + 1) (2 * n + 1) := by
  rcases Nat.le_total i j with h | h
  · have e : 2 ^ j = 2 ^ i * 2 ^ (j - i) := by rw [← Nat.pow_add]; congr 1; omega
    rw [Nat.min_eq_left h, e, Nat.mul_assoc, Nat.gcd_mul_left, gcd_odd _ m (j - i) _ rfl]
  · have e : 2 ^ i = 2 ^ j * 2 ^ (i - j) := by rw [← Nat.pow_add]; congr 1; omega
    rw [Nat.min_eq_right h, e, Nat.mul_assoc, Nat.gcd_mul_left, Nat.gcd_comm (2 ^ (i - j) * (2 * m + 1)), gcd_odd _ n (i - j) _ rfl, Nat.gcd_comm]
theorem gcd_less {a b : Nat} (h : a ≤ b) : Nat.gcd a (b - a) = Nat.gcd a b := by
  obtain ⟨d, rfl⟩ := Nat.exists_eq_add_of_le h
  rw [Nat.add_sub_cancel_left, Nat.gcd_self_add_right]
def bruijn : List Nat := [0, 1, 56, 2, 57, 49, 28, 3, 61, 58, 42, 50, 38, 29, 17, 4, 62, 47, 59, 36, 45, 43, 51, 22, 53, 39, 33, 30, 24, 18, 12, 5, 63, 55, 48, 27, 60, 41, 37, 16, 46, 35, 44, 21, 52, 32, 23, 11, 54, 26, 40, 15, 34, 20, 31, 10, 25, 14, 19, 9, 13, 8, 7, 6]
theorem bruijn_at : ∀ k, k < 64 → 2 ^ k * 285870213051353865 % 18446744073709551616 / 288230376151711744 < 64 ∧ bruijn[2 ^ k * 285870213051353865 % 18446744073709551616 / 288230376151711744]? = some k := by decide +kernel
end Go.Proofs.YtdlolhkeckjipaaDoor
