/- Plain numbers in digits of 16 bits. -/
set_option linter.unusedVariables false
set_option linter.unusedSimpArgs false
namespace Go.Proofs.YtdlolhkeckjipaaDoor
def digs (n : Nat) : List Nat := if h : n = 0 then [] else n % 65536 :: digs (n / 65536)
termination_by n
decreasing_by omega
def val : List Nat → Nat
  | [] => 0
  | d :: l => d + 65536 * val l
def Dig (l : List Nat) : Prop := ∀ d ∈ l, d < 65536
theorem digs_zero : digs 0 = [] := by unfold digs; simp
theorem digs_pos {n : Nat} (h : n ≠ 0) : digs n = n % 65536 :: digs (n / 65536) := by rw [digs]; simp [h]
theorem val_digs (n : Nat) : val (digs n) = n := by
  induction n using Nat.strongRecOn with
  | ind n ih =>
    by_cases h : n = 0
    · subst h; rw [digs_zero]; rfl
    · rw [digs_pos h, val, ih _ (by omega)]
      omega
theorem dig_digs (n : Nat) : Dig (digs n) := by
  induction n using Nat.strongRecOn with
  | ind n ih =>
    by_cases h : n = 0
    · subst h; rw [digs_zero]; intro d hd; cases hd
    · rw [digs_pos h]
      intro d hd
      rcases List.mem_cons.1 hd with rfl | hd
      · omega
      · exact ih _ (by omega) d hd
theorem Dig.tail {d : Nat} {l : List Nat} (h : Dig (d :: l)) : d < 65536 ∧ Dig l := ⟨h d (by simp), fun x hx => h x (by simp [hx])⟩
theorem digs_val : ∀ {l : List Nat}, Dig l → (∀ d, l.getLast? = some d → d ≠ 0) → digs (val l) = l
  | [], _, _ => digs_zero
  | d :: l, hd, hl => by
    obtain ⟨h1, h2⟩ := hd.tail
    have h3 : d + 65536 * val l ≠ 0 := by
      intro h0
      have hv : val l = 0 := by omega
      cases l with
      | nil => exact hl d rfl (by omega)
      | cons e m =>
        have ih := digs_val h2 (fun x hx => hl x (by rw [List.getLast?_cons_cons]; exact hx))
        rw [hv, digs_zero] at ih
        cases ih
    rw [val, digs_pos h3]
    have e1 : (d + 65536 * val l) % 65536 = d := by omega
    have e2 : (d + 65536 * val l) / 65536 = val l := by omega
    rw [e1, e2]
    congr 1
    cases l with
    | nil => exact digs_zero
    | cons e m => exact digs_val h2 (fun x hx => hl x (by rw [List.getLast?_cons_cons]; exact hx))
theorem val_append : ∀ (l m : List Nat), val (l ++ m) = val l + 65536 ^ l.length * val m
  | [], m => by simp [val]
  | d :: l, m => by
    rw [List.cons_append, val, val_append l m, val, List.length_cons, Nat.pow_succ, Nat.mul_add]
    rw [Nat.mul_comm (65536 ^ l.length) 65536, Nat.mul_assoc]
    omega
theorem val_lt : ∀ {l : List Nat}, Dig l → val l < 65536 ^ l.length
  | [], _ => by simp [val]
  | d :: l, h => by
    obtain ⟨h1, h2⟩ := h.tail
    have := val_lt h2
    rw [val, List.length_cons, Nat.pow_succ]
    omega
theorem val_zero : ∀ {l : List Nat}, (∀ d ∈ l, d = 0) → val l = 0
  | [], _ => rfl
  | d :: l, h => by
    rw [val, h d (by simp), val_zero (l := l) fun x hx => h x (by simp [hx])]
theorem val_take {l : List Nat} {n : Nat} (h : ∀ j, n ≤ j → j < l.length → l[j]? = some 0) : val (l.take n) = val l := by
  have e : l = l.take n ++ l.drop n := (List.take_append_drop n l).symm
  have hz : val (l.drop n) = 0 := val_zero fun d hd => by
    obtain ⟨i, hi, rfl⟩ := List.mem_iff_getElem.1 hd
    rw [List.length_drop] at hi
    have := h (n + i) (by omega) (by omega)
    rw [List.getElem?_eq_getElem (by omega)] at this
    injection this with this
    rw [List.getElem_drop]
    exact this
  conv => rhs; rw [e, val_append, hz]
  omega
theorem digs_len (n : Nat) : n < 65536 ^ (digs n).length := by
  have := val_lt (dig_digs n)
  rwa [val_digs] at this
theorem digs_last (n : Nat) : ∀ d, (digs n).getLast? = some d → d ≠ 0 := by
  induction n using Nat.strongRecOn with
  | ind n ih =>
    by_cases h : n = 0
    · subst h; rw [digs_zero]; intro d hd; cases hd
    · rw [digs_pos h]
      intro d hd
      by_cases h2 : n / 65536 = 0
      · rw [h2, digs_zero] at hd
        have hd : n % 65536 = d := by simpa using hd
        omega
      · have := ih (n / 65536) (by omega) d
        rw [digs_pos h2] at hd this
        rw [List.getLast?_cons_cons] at hd
        exact this hd
theorem digs_small {n : Nat} {k : Nat} (h : n < 65536 ^ k) : (digs n).length ≤ k := by
  refine Decidable.byContradiction fun hk => ?_
  obtain ⟨m, hm⟩ : ∃ m, (digs n).length = m + 1 := ⟨(digs n).length - 1, by omega⟩
  have hne : digs n ≠ [] := fun h => by rw [h] at hm; simp at hm
  have h1 := List.dropLast_concat_getLast hne
  have h2 := digs_last n _ (List.getLast?_eq_some_getLast hne)
  have h3 := val_digs n
  rw [← h1, val_append, val, val, List.length_dropLast, hm, Nat.add_sub_cancel] at h3
  have h4 : 65536 ^ k ≤ 65536 ^ m := Nat.pow_le_pow_right (by omega) (by omega)
  have h5 : 65536 ^ m * 1 ≤ 65536 ^ m * ((digs n).getLast hne + 65536 * 0) := Nat.mul_le_mul_left _ (by omega)
  omega
end Go.Proofs.YtdlolhkeckjipaaDoor
