/- Places in rectangles. -/
import Derived.Test.YtimbippemlmnlaaC28l
set_option linter.unusedVariables false
set_option linter.unusedSimpArgs false
set_option maxRecDepth 100000
set_option maxHeartbeats 1000000
namespace Go.Proofs.Ytimbippemlmnlaa
open Go Go.Den
/-- A place in a rectangle. -/
def At (r : Rect) (x y : Int) : Prop := x ≥ r.x ∧ x < r.x + r.w ∧ y ≥ r.y ∧ y < r.y + r.h
instance (r : Rect) (x y : Int) : Decidable (At r x y) := by unfold At; exact inferInstance
theorem left_at {a r : Rect} (ha : May a) (hr : May r) (x y : Int) : (∃ p ∈ left a r, At p x y) ↔ At a x y ∧ ¬ At r x y := by
  unfold left
  cases hm : meet a r
  · have hm' : ¬ Meet a r := of_decide_eq_false hm
    simp only [Bool.false_eq_true, if_false, List.mem_singleton, exists_eq_left]
    constructor
    · intro h
      refine ⟨h, fun h2 => hm' ?_⟩
      unfold At at h h2
      unfold Meet
      omega
    · exact fun h => h.1
  · have hm' : Meet a r := of_decide_eq_true hm
    unfold Meet at hm'
    have m1 : a.x < r.x + r.w ∧ r.x < a.x + a.w ∧ a.y < r.y + r.h ∧ r.y < a.y + a.h := by omega
    clear hm'
    unfold May at ha hr
    simp only [if_true, List.mem_append, or_and_right, exists_or]
    have g : ∀ (c : Prop) [Decidable c] (q : Rect), (∃ p, p ∈ (if c then [q] else []) ∧ At p x y) ↔ c ∧ At q x y := by
      intro c _ q
      by_cases hc : c <;> simp [hc]
    unfold p1 p2 p3 p4
    rw [g, g, g, g]
    simp only [At]
    omega
theorem left_may {a r : Rect} (ha : May a) (hr : May r) : ∀ p ∈ left a r, May p := by
  cases hm : meet a r
  · have hl : left a r = [a] := by unfold left; rw [hm]; rfl
    intro p hp
    rw [hl] at hp
    simp at hp; subst hp; exact ha
  · intro p hp
    rw [← four_left ha hr hm] at hp
    exact of_decide_eq_true (List.mem_filter.1 hp).2
theorem left_apart {a r : Rect} (ha : May a) (hr : May r) : ∀ p ∈ left a r, meet p r = false := by
  unfold left
  cases hm : meet a r
  · intro p hp
    simp at hp; subst hp; exact hm
  · have hm' : Meet a r := of_decide_eq_true hm
    unfold Meet at hm'
    have m1 : a.x < r.x + r.w ∧ r.x < a.x + a.w ∧ a.y < r.y + r.h ∧ r.y < a.y + a.h := by omega
    clear hm'
    unfold May at ha hr
    intro p hp
    simp only [if_true, List.mem_append] at hp
    unfold p1 p2 p3 p4 at hp
    apply meet_false
    unfold Meet
    rcases hp with hp | hp | hp | hp
    all_goals
      split at hp
      · simp at hp; subst hp; simp only; omega
      · simp at hp
theorem cut_at {m : List Rect} {r : Rect} (hm : ∀ a ∈ m, May a) (hr : May r) (x y : Int) : (∃ p ∈ cutAll m r, At p x y) ↔ (∃ a ∈ m, At a x y) ∧ ¬ At r x y := by
  unfold cutAll
  rw [if_pos hr]
  simp only [List.mem_flatMap]
  constructor
  · rintro ⟨p, ⟨a, ha, hp⟩, h⟩
    have := (left_at (hm a ha) hr x y).1 ⟨p, hp, h⟩
    exact ⟨⟨a, ha, this.1⟩, this.2⟩
  · rintro ⟨⟨a, ha, h⟩, hn⟩
    obtain ⟨p, hp, h2⟩ := (left_at (hm a ha) hr x y).2 ⟨h, hn⟩
    exact ⟨p, ⟨a, ha, hp⟩, h2⟩
theorem pruneTo_mem (l : List Rect) (p : Rect) : ∀ n, p ∈ pruneTo l n ↔ ∃ i, i < n ∧ stay l i = true ∧ p = nth l i
  | 0 => by simp [pruneTo]
  | n + 1 => by
    simp only [pruneTo, List.mem_append, pruneTo_mem l p n]
    constructor
    · rintro (⟨i, h1, h2, h3⟩ | h)
      · exact ⟨i, by omega, h2, h3⟩
      · cases hs : stay l n
        · rw [hs] at h; simp at h
        · rw [hs] at h; simp at h; exact ⟨n, by omega, hs, h⟩
    · rintro ⟨i, h1, h2, h3⟩
      by_cases hi : i < n
      · exact .inl ⟨i, hi, h2, h3⟩
      · obtain rfl : i = n := by omega
        right; rw [h2]; simp [h3]
def area (r : Rect) : Int := r.w + r.h
theorem has_area {a b : Rect} (h : has a b = true) : area b ≤ area a ∧ (area a = area b → a = b) := by
  have h' : Has' a b := of_decide_eq_true h
  unfold Has' at h'
  unfold area
  refine ⟨by omega, fun he => ?_⟩
  cases a; cases b
  simp only [Rect.mk.injEq] at *
  omega
theorem has_at {a b : Rect} (h : has a b = true) {x y : Int} (hb : At b x y) : At a x y := by
  have h' : Has' a b := of_decide_eq_true h
  unfold Has' at h'
  unfold At at *
  omega
/-- What is pruned covers what was. -/
theorem prune_at (l : List Rect) (x y : Int) : (∃ p ∈ prune l, At p x y) ↔ ∃ a ∈ l, At a x y := by
  constructor
  · rintro ⟨p, hp, h⟩
    obtain ⟨i, hi, hs, rfl⟩ := (pruneTo_mem l p l.length).1 hp
    exact ⟨_, by rw [nth_eq hi]; exact List.getElem_mem hi, h⟩
  · rintro ⟨a, ha, h⟩
    obtain ⟨i, hi, rfl⟩ := List.mem_iff_getElem.1 ha
    rw [← nth_eq hi] at h
    -- the greatest, and of those the first
    have key : ∀ (s : Nat) (i : Nat), i < l.length → At (nth l i) x y → (∀ j, j < l.length → At (nth l j) x y → area (nth l j) ≤ area (nth l i) + s) → ∃ p ∈ prune l, At p x y := by
      intro s
      induction s using Nat.strongRecOn with
      | ind s ihs =>
        intro i
        induction i using Nat.strongRecOn with
        | ind i ihi =>
          intro hi hat hmax
          cases hlo : lower l i
          · cases hup : upper l i
            · exact ⟨nth l i, (pruneTo_mem l _ l.length).2 ⟨i, hi, by unfold stay; rw [hlo, hup]; rfl, rfl⟩, hat⟩
            · unfold upper at hup
              obtain ⟨b, hb, hq⟩ := List.any_eq_true.1 hup
              obtain ⟨k, hk, rfl⟩ := List.mem_iff_getElem.1 hb
              rw [List.length_drop] at hk
              have hkl : i + 1 + k < l.length := by omega
              rw [List.getElem_drop, ← nth_eq hkl, Bool.and_eq_true, decide_eq_true_eq] at hq
              have ha2 := has_area hq.2
              have hat2 := has_at hq.2 hat
              have hgt : area (nth l i) < area (nth l (i + 1 + k)) := by
                rcases Int.lt_or_eq_of_le ha2.1 with h | h
                · exact h
                · exact absurd (ha2.2 h.symm) hq.1
              have := hmax _ hkl hat2
              exact ihs (s - (area (nth l (i + 1 + k)) - area (nth l i)).toNat) (by omega) (i + 1 + k) hkl hat2 fun j hj hja => by
                have := hmax j hj hja; omega
          · unfold lower at hlo
            obtain ⟨b, hb, hq⟩ := List.any_eq_true.1 hlo
            obtain ⟨k, hk, rfl⟩ := List.mem_iff_getElem.1 hb
            rw [List.length_take] at hk
            have hkl : k < l.length := by omega
            rw [List.getElem_take, ← nth_eq hkl] at hq
            have ha2 := has_area hq
            exact ihi k (by omega) hkl (has_at hq hat) fun j hj hja => by
              have := hmax j hj hja; omega
    have bound : ∃ s : Nat, ∀ j, j < l.length → area (nth l j) ≤ area (nth l i) + s := by
      have gen : ∀ n, ∃ s : Nat, ∀ j, j < n → area (nth l j) ≤ area (nth l i) + s := by
        intro n
        induction n with
        | zero => exact ⟨0, fun j hj => absurd hj (Nat.not_lt_zero j)⟩
        | succ n ih =>
          obtain ⟨s, hs⟩ := ih
          refine ⟨s + (area (nth l n) - area (nth l i)).toNat, fun j hj => ?_⟩
          by_cases hjn : j < n
          · have := hs j hjn; omega
          · obtain rfl : j = n := by omega
            omega
      exact gen l.length
    obtain ⟨s, hs⟩ := bound
    exact key s i hi h fun j hj _ => hs j hj
/-- no piece has another one. -/
theorem prune_apart (l : List Rect) {i k : Nat} (hi : i < (prune l).length) (hk : k < (prune l).length) (hik : i ≠ k) : has (prune l)[i] (prune l)[k] = false := by
  have idx : ∀ n, ∀ i (h : i < (pruneTo l n).length), ∃ j, j < n ∧ stay l j = true ∧ (pruneTo l n)[i] = nth l j ∧ ∀ i' (h' : i' < (pruneTo l n).length), i' < i → ∃ j', j' < j ∧ stay l j' = true ∧ (pruneTo l n)[i'] = nth l j' := by
    intro n
    induction n with
    | zero => intro i h; simp [pruneTo] at h
    | succ n ih =>
      intro i h
      by_cases hin : i < (pruneTo l n).length
      · obtain ⟨j, h1, h2, h3, h4⟩ := ih i hin
        refine ⟨j, by omega, h2, ?_, fun i' h' hlt => ?_⟩
        · rw [← h3]; simp only [pruneTo]; rw [List.getElem_append_left hin]
        · obtain ⟨j', q1, q2, q3⟩ := h4 i' (by omega) hlt
          refine ⟨j', q1, q2, ?_⟩
          rw [← q3]; simp only [pruneTo]; rw [List.getElem_append_left (by omega)]
      · cases hs : stay l n
        · have : pruneTo l (n + 1) = pruneTo l n := by simp [pruneTo, hs]
          rw [this] at h
          exact absurd h hin
        · have e : pruneTo l (n + 1) = pruneTo l n ++ [nth l n] := by simp [pruneTo, hs]
          have hl : i = (pruneTo l n).length := by rw [e] at h; simp at h; omega
          subst hl
          refine ⟨n, by omega, hs, by simp [e], fun i' h' hlt => ?_⟩
          obtain ⟨j', q1, q2, q3, _⟩ := ih i' hlt
          refine ⟨j', q1, q2, ?_⟩
          rw [← q3]; simp only [e]; rw [List.getElem_append_left hlt]
  have two : ∀ {j j' : Nat}, j' < j → j < l.length → stay l j = true → stay l j' = true → has (nth l j') (nth l j) = false ∧ has (nth l j) (nth l j') = false := by
    intro j j' hlt hj hs hs'
    unfold stay at hs hs'
    rw [Bool.and_eq_true, Bool.not_eq_true', Bool.not_eq_true'] at hs hs'
    have h1 : has (nth l j') (nth l j) = false := by
      have := hs.1
      unfold lower at this
      rw [List.any_eq_false] at this
      have hj' : j' < l.length := by omega
      have := this (nth l j') (by rw [nth_eq hj']; exact List.mem_iff_getElem.2 ⟨j', by rw [List.length_take]; omega, by rw [List.getElem_take]⟩)
      simpa using this
    refine ⟨h1, ?_⟩
    have := hs'.2
    unfold upper at this
    rw [List.any_eq_false] at this
    have := this (nth l j) (by rw [nth_eq hj]; exact List.mem_iff_getElem.2 ⟨j - (j' + 1), by rw [List.length_drop]; omega, by rw [List.getElem_drop]; congr 1; omega⟩)
    rw [Bool.and_eq_true, decide_eq_true_eq] at this
    cases hh : has (nth l j) (nth l j')
    · rfl
    · exfalso
      apply this
      refine ⟨fun he => ?_, hh⟩
      rw [he, has_self] at h1
      cases h1
  rcases Nat.lt_or_gt_of_ne hik with h | h
  · obtain ⟨j, q1, q2, q3, q4⟩ := idx l.length k hk
    obtain ⟨j', r1, r2, r3⟩ := q4 i hi h
    show has (pruneTo l l.length)[i] (pruneTo l l.length)[k] = false
    rw [q3, r3]
    exact (two r1 q1 q2 r2).1
  · obtain ⟨j, q1, q2, q3, q4⟩ := idx l.length i hi
    obtain ⟨j', r1, r2, r3⟩ := q4 k hk h
    show has (pruneTo l l.length)[i] (pruneTo l l.length)[k] = false
    rw [q3, r3]
    exact (two r1 q1 q2 r2).2
end Go.Proofs.Ytimbippemlmnlaa
