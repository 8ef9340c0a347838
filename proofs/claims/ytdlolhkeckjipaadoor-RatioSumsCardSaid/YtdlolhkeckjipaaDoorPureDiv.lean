/- Plain numbers: long division by a number of two digits of 32 bits. -/
set_option linter.unusedVariables false
set_option linter.unusedSimpArgs false
set_option maxRecDepth 100000
namespace Go.Proofs.YtdlolhkeckjipaaDoor
/-- A digit of the quotient, and one more tried. -/
theorem div_more {U u y n1 n0 q r : Nat} (hy : y = n1 * 4294967296 + n0) (h0 : n0 < 4294967296) (hq : q * n1 + r = U) (hc : q * n0 > 4294967296 * r + u) : (U * 4294967296 + u) / y < q := by
  have hy0 : 0 < y := by
    rcases Nat.eq_zero_or_pos y with h | h
    · have : n0 = 0 := by omega
      subst this; simp at hc
    · exact h
  rw [Nat.div_lt_iff_lt_mul hy0, hy, ← hq, Nat.mul_add, ← Nat.mul_assoc, Nat.add_mul]
  omega
theorem div_less {U u y n1 n0 q r : Nat} (hy : y = n1 * 4294967296 + n0) (h1 : 0 < n1) (hq : q * n1 + r = U) (hc : q * n0 ≤ 4294967296 * r + u) : q ≤ (U * 4294967296 + u) / y := by
  have hy0 : 0 < y := by omega
  rw [Nat.le_div_iff_mul_le hy0, hy, ← hq, Nat.mul_add, ← Nat.mul_assoc, Nat.add_mul]
  omega
theorem div_top {U u y : Nat} (hU : U < y) (hu : u < 4294967296) : (U * 4294967296 + u) / y < 4294967296 := by
  rw [Nat.div_lt_iff_lt_mul (by omega)]
  omega
theorem div_first {U y n1 n0 : Nat} (hy : y = n1 * 4294967296 + n0) (h0 : n0 < 4294967296) (h1 : 2147483648 ≤ n1) (hU : U < y) (u : Nat) (hu : u < 4294967296) : (U * 4294967296 + u) / y ≤ U / n1 ∧ U / n1 ≤ 4294967297 := by
  constructor
  · rw [Nat.le_div_iff_mul_le (by omega)]
    have h := Nat.div_mul_le_self (U * 4294967296 + u) y
    have e : (U * 4294967296 + u) / y * y = (U * 4294967296 + u) / y * n1 * 4294967296 + (U * 4294967296 + u) / y * n0 := by
      conv => lhs; rw [hy]
      rw [Nat.mul_add, Nat.mul_assoc]
      rw [← hy]
    generalize (U * 4294967296 + u) / y = Q at *
    generalize Q * n0 = z at *
    generalize Q * n1 = w at *
    omega
  · have : U / n1 < 4294967298 := by
      rw [Nat.div_lt_iff_lt_mul (by omega)]
      omega
    omega
theorem div_break {q n0 r u : Nat} (hq : q ≤ 4294967296) (h0 : n0 < 4294967296) (hr : 4294967296 ≤ r) : q * n0 ≤ 4294967296 * r + u := by
  have h1 : q * n0 ≤ 4294967296 * n0 := Nat.mul_le_mul_right _ hq
  omega
/-- Both digits make the quotient. -/
theorem div_both {N M K u0 y : Nat} (hN : N = M * 4294967296 + u0) (hK : K = M % y * 4294967296 + u0) (hy : 0 < y) : N / y = M / y * 4294967296 + K / y ∧ N % y = K % y := by
  have e1 := Nat.div_add_mod M y
  have e2 := Nat.div_add_mod K y
  have l2 := Nat.mod_lt K hy
  generalize M / y = Q1 at *
  generalize M % y = R1 at *
  generalize K / y = Q0 at *
  generalize K % y = R0 at *
  refine (Nat.div_mod_unique hy).2 ⟨?_, l2⟩
  have e3 : y * (Q1 * 4294967296 + Q0) = y * Q1 * 4294967296 + y * Q0 := by rw [Nat.mul_add, Nat.mul_assoc]
  rw [e3]
  generalize y * Q1 = A at *
  generalize y * Q0 = B at *
  omega
end Go.Proofs.YtdlolhkeckjipaaDoor
