/- Plain numbers in digits of 16 bits: parts, sums, differences, products. -/
import Derived.Test.YtdlolhkeckjipaaDoorPureDig
set_option linter.unusedVariables false
set_option linter.unusedSimpArgs false
namespace Go.Proofs.YtdlolhkeckjipaaDoor
theorem Dig.take {l : List Nat} (h : Dig l) (n : Nat) : Dig (l.take n) := fun d hd => h d (List.mem_of_mem_take hd)
theorem Dig.drop {l : List Nat} (h : Dig l) (n : Nat) : Dig (l.drop n) := fun d hd => h d (List.mem_of_mem_drop hd)
theorem Dig.app {l m : List Nat} (h : Dig l) (h' : Dig m) : Dig (l ++ m) := fun d hd => by
  rcases List.mem_append.1 hd with hd | hd
  · exact h d hd
  · exact h' d hd
theorem Dig.nil : Dig [] := fun d hd => by cases hd
theorem Dig.one {d : Nat} (h : d < 65536) : Dig [d] := fun x hx => by
  have : x = d := by simpa using hx
  omega
theorem Dig.at {l : List Nat} (h : Dig l) (i : Nat) : l.getD i 0 < 65536 := by
  by_cases hi : i < l.length
  · have := h _ (List.getElem_mem hi)
    simpa [List.getD, hi] using this
  · simp [List.getD, hi]
theorem Dig.set {l : List Nat} (h : Dig l) {i x : Nat} (hx : x < 65536) : Dig (l.set i x) := fun d hd => by
  rcases List.mem_or_eq_of_mem_set hd with hd | rfl
  · exact h d hd
  · exact hx
theorem val_one (d : Nat) : val [d] = d := by simp [val]
theorem val_snoc (l : List Nat) (d : Nat) : val (l ++ [d]) = val l + 65536 ^ l.length * d := by rw [val_append, val_one]
theorem val_parts (l : List Nat) (i : Nat) : val l = val (l.take i) + 65536 ^ (l.take i).length * val (l.drop i) := by
  conv => lhs; rw [← List.take_append_drop i l, val_append]
theorem val_suc (l : List Nat) (i : Nat) : val (l.take (i + 1)) = val (l.take i) + 65536 ^ i * l.getD i 0 := by
  by_cases hi : i < l.length
  · rw [List.take_add_one, List.getElem?_eq_getElem hi, Option.toList_some, val_snoc, List.length_take, Nat.min_eq_left (by omega)]
    simp [List.getD, hi]
  · rw [List.take_of_length_le (by omega), List.take_of_length_le (by omega)]
    simp [List.getD, hi]
theorem val_all {l : List Nat} {i : Nat} (h : l.length ≤ i) : val (l.take i) = val l := by rw [List.take_of_length_le h]
theorem val_drop {l : List Nat} {i : Nat} (hi : i < l.length) : val (l.drop i) = l.getD i 0 + 65536 * val (l.drop (i + 1)) := by
  rw [List.drop_eq_getElem_cons hi, val]
  simp [List.getD, hi]
theorem val_take_lt {l : List Nat} (h : Dig l) (i : Nat) : val (l.take i) < 65536 ^ i := by
  refine Nat.lt_of_lt_of_le (val_lt (h.take i)) (Nat.pow_le_pow_right (by omega) ?_)
  rw [List.length_take]
  omega
/-- Without zeros at its end. -/
theorem trim_end {l : List Nat} {n : Nat} (hd : Dig l) (hn : n ≤ l.length) (hz : ∀ j, n ≤ j → j < l.length → l[j]? = some 0) (hl : n = 0 ∨ ∃ d, l[n - 1]? = some d ∧ d ≠ 0) : l.take n = digs (val l) := by
  rw [← val_take hz]
  refine (digs_val (hd.take n) fun d hd => ?_).symm
  rcases hl with rfl | ⟨e, h1, h2⟩
  · simp at hd
  · by_cases h0 : n = 0
    · subst h0; simp at hd
    · rw [List.getLast?_eq_getElem?, List.length_take, Nat.min_eq_left hn, List.getElem?_take, if_pos (by omega), h1] at hd
      injection hd with hd
      omega
theorem digs_at (n i : Nat) : (digs n).getD i 0 = n / 65536 ^ i % 65536 := by
  induction i generalizing n with
  | zero =>
    by_cases h : n = 0
    · subst h; rw [digs_zero]; rfl
    · rw [digs_pos h]; simp
  | succ i ih =>
    by_cases h : n = 0
    · subst h; rw [digs_zero]; simp
    · rw [digs_pos h, List.getD_cons_succ, ih, Nat.div_div_eq_div_mul, Nat.pow_succ, Nat.mul_comm 65536]
theorem digs_nil {n : Nat} : (digs n).length = 0 ↔ n = 0 := by
  constructor
  · intro h
    have := digs_len n
    rw [h] at this
    simpa using this
  · rintro rfl; rw [digs_zero]; rfl
theorem digs_mono {a b : Nat} (h : a ≤ b) : (digs a).length ≤ (digs b).length := digs_small (Nat.lt_of_le_of_lt h (digs_len b))
theorem digs_add (a b : Nat) : (digs (a + b)).length ≤ max (digs a).length (digs b).length + 1 := by
  apply digs_small
  have h1 := digs_len a
  have h2 := digs_len b
  have h3 : 65536 ^ (digs a).length ≤ 65536 ^ max (digs a).length (digs b).length := Nat.pow_le_pow_right (by omega) (Nat.le_max_left ..)
  have h4 : 65536 ^ (digs b).length ≤ 65536 ^ max (digs a).length (digs b).length := Nat.pow_le_pow_right (by omega) (Nat.le_max_right ..)
  rw [Nat.pow_succ]
  omega
theorem digs_mul (a b : Nat) : (digs (a * b)).length ≤ (digs a).length + (digs b).length := by
  apply digs_small
  rw [Nat.pow_add]
  exact Nat.mul_lt_mul'' (digs_len a) (digs_len b)
/-- Which of two lists of digits stands for more: by the first digit, from the top, that differs. -/
theorem less_at {l m : List Nat} (hl : Dig l) (hm : Dig m) {i : Nat} (h1 : i < l.length) (h2 : i < m.length) (he : l.drop (i + 1) = m.drop (i + 1)) (h : l.getD i 0 < m.getD i 0) : val l < val m := by
  rw [val_parts l i, val_parts m i, val_drop h1, val_drop h2, he, List.length_take, List.length_take, Nat.min_eq_left (by omega), Nat.min_eq_left (by omega)]
  have q := val_take_lt hl i
  generalize val (List.drop (i + 1) m) = D
  generalize l.getD i 0 = a at *
  generalize m.getD i 0 = b at *
  have : 65536 ^ i * (a + 1 + 65536 * D) ≤ 65536 ^ i * (b + 65536 * D) := Nat.mul_le_mul_left _ (by omega)
  rw [show a + 1 + 65536 * D = (a + 65536 * D) + 1 by omega, Nat.mul_succ] at this
  omega
theorem digs_longer {a b : Nat} (h : (digs a).length < (digs b).length) : a < b := by
  refine Decidable.byContradiction fun hn => ?_
  have := digs_mono (show b ≤ a by omega)
  omega
theorem digs_inj {a b : Nat} (h : digs a = digs b) : a = b := by rw [← val_digs a, h, val_digs]
/-- One step of a sum. -/
theorem plus_step {A B O c x i : Nat} {p : Nat} (hp : p = 65536 ^ i) (h : O + p * c = A + B) (a b : Nat) (hx : x = a + b + c) : (O + p * (x % 65536)) + (p * 65536) * (x / 65536) = (A + p * a) + (B + p * b) := by
  have e : p * (x % 65536) + p * 65536 * (x / 65536) = p * x := by
    rw [Nat.mul_assoc, ← Nat.mul_add]
    congr 1
    omega
  rw [Nat.add_assoc, e, hx, Nat.mul_add, Nat.mul_add]
  omega
/-- One step of a difference. -/
theorem minus_step {A B O c x : Nat} {p : Nat} (h : O + B = A + p * c) (a b : Nat) (ha : a < 65536) (hb : b < 65536) (hc : c ≤ 1) (hx : x = 65536 + a - b - c) : (O + p * (x % 65536)) + (B + p * b) = (A + p * a) + (p * 65536) * (1 - x / 65536) := by
  have e : p * (x % 65536) + p * b + p * c = p * a + p * 65536 * (1 - x / 65536) := by
    rw [Nat.mul_assoc, ← Nat.mul_add, ← Nat.mul_add, ← Nat.mul_add]
    congr 1
    omega
  omega
theorem val_set {l : List Nat} {i x : Nat} (hi : i < l.length) : val (l.set i x) + 65536 ^ i * l.getD i 0 = val l + 65536 ^ i * x := by
  have h1 : val (l.set i x) = val (l.take i) + 65536 ^ i * (x + 65536 * val (l.drop (i + 1))) := by
    rw [List.set_eq_take_append_cons_drop, if_pos hi, val_append, val, List.length_take, Nat.min_eq_left (by omega)]
  have h2 : val l = val (l.take i) + 65536 ^ i * (l.getD i 0 + 65536 * val (l.drop (i + 1))) := by
    conv => lhs; rw [val_parts l i, val_drop hi, List.length_take, Nat.min_eq_left (by omega)]
  rw [h1, h2, Nat.mul_add, Nat.mul_add]
  omega
theorem val_zeros (n : Nat) : val (List.replicate n 0) = 0 := val_zero fun d hd => (List.mem_replicate.1 hd).2
end Go.Proofs.YtdlolhkeckjipaaDoor
