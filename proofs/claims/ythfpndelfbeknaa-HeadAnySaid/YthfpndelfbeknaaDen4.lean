/- Loading, storing and growing rows: the model's runs against the abstract heap's. -/
import Derived.Test.YthfpndelfbeknaaDen3
set_option linter.unusedVariables false
set_option linter.unusedSimpArgs false
namespace Go.Den
open Go.RowKit (Below)

section
variable {P : Program} {W : World} {ρ : Plan} {H : Heap} {w : World}

/-- Cells that are told, as a list. -/
theorem cells_list {n : Nat} {l : List AV} {a : Addr} (h : ∀ (j : Nat) (v : AV), l[j]? = some v → ∃ x, w.cell? (a.add j) = some x ∧ VR W ρ n v x ∧ v.one = true) :
    ∃ xs : List Value, VRs W ρ n l xs ∧ xs.length = l.length ∧ (∀ (j : Nat) (x : Value), xs[j]? = some x → w.cell? (a.add j) = some x) ∧ (∀ x ∈ xs, x.oneCell' = true) ∧ l.all AV.one = true := by
  have hx : ∀ j, (hj : j < l.length) → ∃ x, w.cell? (a.add j) = some x ∧ VR W ρ n l[j] x ∧ l[j].one = true := fun j hj => h j _ (List.getElem?_eq_getElem hj)
  refine ⟨(List.range l.length).map fun j => (w.cell? (a.add j)).getD undef, ?_, by simp, ?_, ?_, ?_⟩
  · rw [VRs_iff]
    refine ⟨by simp, fun j v x h1 h2 => ?_⟩
    have hj := (List.getElem?_eq_some_iff.1 h1).1
    obtain ⟨y, h3, h4, _⟩ := h j v h1
    simp [hj, h3] at h2
    subst h2
    exact h4
  · intro j x hj
    have h1 := (List.getElem?_eq_some_iff.1 hj).1
    simp at h1
    obtain ⟨y, h3, _⟩ := hx j h1
    simp [h1, h3] at hj
    subst hj
    exact h3
  · intro x hx'
    simp at hx'
    obtain ⟨j, hj, rfl⟩ := hx'
    obtain ⟨y, h3, h4, h5⟩ := hx j hj
    rw [h3]
    exact VR_one h4 h5
  · rw [List.all_eq_true]
    intro v hv
    obtain ⟨j, hj, rfl⟩ := List.getElem_of_mem hv
    obtain ⟨y, _, _, h5⟩ := hx j hj
    exact h5

theorem cell_at {b i : Nat} {c : Array Value} {e : TypeId} {fr : Nat × Nat} (h : w.heap[b]? = some (.cells c e fr)) : w.cell? ⟨b, i, none⟩ = c[i]? := by simp [World.cell?, h]

theorem aload_ok (h : Rel W ρ H w) {p : AV} {x : Value} (hp : VR W ρ H.length p x) {k : Nat} {l : List AV} (hl : aload H k p = some l) :
    ∃ a xs, x = .pointer (some a) ∧ VRs W ρ H.length l xs ∧ l.length = k ∧ xs.length = k ∧ (∀ (j : Nat) (x : Value), xs[j]? = some x → w.cell? (a.add j) = some x) ∧ (∀ x ∈ xs, x.oneCell' = true) ∧ l.all AV.one = true := by
  cases p <;> simp only [aload] at hl <;> try (cases hl; done)
  case ptr o off =>
    simp only [VR] at hp
    obtain ⟨ho, rfl⟩ := hp
    cases hL : arow H o with
    | none => simp [hL] at hl
    | some L =>
      simp only [hL] at hl
      split at hl <;> simp at hl
      rename_i hk
      subst hl
      obtain ⟨e, rw, hH⟩ : ∃ e rw, H[o]? = some (.cells L e rw) := by
        unfold arow at hL
        split at hL <;> simp at hL
        subst hL
        exact ⟨_, _, by assumption⟩
      obtain ⟨c, fr, hc, hz, hd, hv, _⟩ := h.obj o _ hH
      have key : ∀ (j : Nat) (v : AV), ((L.drop off).take k)[j]? = some v → ∃ x, w.cell? ((⟨(ρ o).b, (ρ o).d + off, none⟩ : Addr).add j) = some x ∧ VR W ρ H.length v x ∧ v.one = true := by
        intro j v hj
        rw [List.getElem?_take] at hj
        split at hj
        · rw [List.getElem?_drop] at hj
          obtain ⟨x, h1, h2, h3⟩ := hv _ v hj
          exact ⟨x, by rw [add_mk, cell_at hc, Nat.add_assoc]; exact h1, h2, h3⟩
        · simp at hj
      obtain ⟨xs, h1, h2, h3, h4, h5⟩ := cells_list key
      have hlen : ((L.drop off).take k).length = k := by simp; omega
      exact ⟨_, xs, rfl, h1, hlen, by omega, h3, h4, h5⟩
  case pv L =>
    simp only [VR] at hp
    obtain ⟨a, rfl, hc⟩ := hp
    split at hl <;> simp at hl
    rename_i hk
    subst hl
    have hc' := CR_take hc k
    rw [CR_iff] at hc'
    have key : ∀ (j : Nat) (v : AV), (L.take k)[j]? = some v → ∃ x, w.cell? (a.add j) = some x ∧ VR W ρ H.length v x ∧ v.one = true := by
      intro j v hj
      obtain ⟨x, h1, h2, h3⟩ := hc' j v hj
      rw [Nat.zero_add] at h1
      exact ⟨x, by rw [h.below.cell (World.block_lt_of_cell? W _ h1)]; exact h1, VR_mono (fun i hi => absurd hi (Nat.not_lt_zero i)) (Nat.zero_le _) v x h2, h3⟩
    obtain ⟨xs, h1, h2, h3, h4, h5⟩ := cells_list key
    have hlen : (L.take k).length = k := by simp; omega
    exact ⟨_, xs, rfl, h1, hlen, by omega, h3, h4, h5⟩

theorem run_loadCells_xs {a : Addr} {xs : List Value} {k : Nat} (hk : xs.length = k) (h : ∀ (j : Nat) (x : Value), xs[j]? = some x → w.cell? (a.add j) = some x) : (loadCells a k).run P w = .ok xs.toArray w := by
  subst hk
  exact run_loadCells_list w a xs h

/-! ### Stores -/
structure SetTo (b : Nat) (w w' : World) : Prop where
  size : w'.heap.size = w.heap.size
  os : w'.os = w.os
  tape : w'.tape = w.tape
  output : w'.output = w.output
  other : ∀ k, k ≠ b → w'.heap[k]? = w.heap[k]?
theorem setCells_heap (b : Nat) (e : TypeId) (fr : Nat × Nat) : ∀ (xs : List Value) (o : Nat) (w : World) (c : Array Value), w.heap[b]? = some (.cells c e fr) →
    ∃ c', (w.setCells b o xs).heap[b]? = some (.cells c' e fr) ∧ c'.size = c.size ∧ (∀ j, c'[j]? = if o ≤ j ∧ j < o + xs.length ∧ j < c.size then xs[j - o]? else c[j]?) ∧ SetTo b w (w.setCells b o xs)
  | [], o, w, c, h => ⟨c, by simpa [World.setCells] using h, rfl, fun j => by rw [if_neg (by simp; omega)], ⟨rfl, rfl, rfl, rfl, fun _ _ => rfl⟩⟩
  | x :: xs, o, w, c, h => by
    have hb : (w.setCell ⟨b, o, none⟩ x).heap[b]? = some (.cells (c.setIfInBounds o x) e fr) := by
      simp [World.setCell, Array.getElem?_modify, h]
    obtain ⟨c', h1, h2, h3, h4⟩ := setCells_heap b e fr xs (o + 1) _ _ hb
    refine ⟨c', by simpa [World.setCells] using h1, by simpa using h2, fun j => ?_, ?_⟩
    · rw [h3 j]
      simp only [Array.size_setIfInBounds, List.length_cons]
      by_cases hj : o + 1 ≤ j ∧ j < o + 1 + xs.length ∧ j < c.size
      · rw [if_pos hj, if_pos (by omega)]
        rw [show j - o = (j - (o + 1)) + 1 by omega, List.getElem?_cons_succ]
      · rw [if_neg hj]
        by_cases hjo : o = j
        · subst hjo
          by_cases hs : o < c.size
          · rw [if_pos (by omega)]; simp [Array.getElem?_setIfInBounds, hs]
          · rw [if_neg (by omega)]; simp [Array.getElem?_setIfInBounds, hs]
        · rw [if_neg (by omega), Array.getElem?_setIfInBounds_ne hjo]
    · refine ⟨?_, ?_, ?_, ?_, fun k hk => ?_⟩
      · simpa [World.setCells, World.setCell] using h4.size
      · simpa [World.setCells, World.setCell] using h4.os
      · simpa [World.setCells, World.setCell] using h4.tape
      · simpa [World.setCells, World.setCell] using h4.output
      · have := h4.other k hk
        simp only [World.setCells]
        rw [this]
        simp [World.setCell, Array.getElem?_modify, Ne.symm hk]

theorem splice_length {l vs : List AV} {off : Nat} (h : off + vs.length ≤ l.length) : (splice l off vs).length = l.length := by
  simp [splice]; omega
theorem splice_get {l vs : List AV} {off : Nat} (h : off + vs.length ≤ l.length) (j : Nat) : (splice l off vs)[j]? = if off ≤ j ∧ j < off + vs.length then vs[j - off]? else l[j]? := by
  unfold splice
  by_cases h1 : j < off
  · rw [if_neg (by omega), List.append_assoc, List.getElem?_append_left (by simp; omega)]
    simp [h1]
  · by_cases h2 : j < off + vs.length
    · rw [if_pos (by omega), List.append_assoc, List.getElem?_append_right (by simp; omega), List.getElem?_append_left (by simp; omega)]
      congr 1
      simp; omega
    · rw [if_neg (by omega), List.append_assoc, List.getElem?_append_right (by simp; omega), List.getElem?_append_right (by simp; omega), List.getElem?_drop]
      congr 1
      simp; omega

/-- Cells written into a block that a row knows from its first cell on. -/
theorem write_ok {n : Nat} {L vs : List AV} {e : TypeId} {s : Spot} (h : OR W ρ n (.cells L e true) s w) {xs : List Value} {o : Nat} (hz : s.d + o + xs.length ≤ s.z) (hx : ∀ x ∈ xs, x.oneCell' = true) :
    (storeCells ⟨s.b, s.d + o, none⟩ xs).run P w = .ok () (w.setCells s.b (s.d + o) xs) ∧ SetTo s.b w (w.setCells s.b (s.d + o) xs) ∧
    ∃ c fr c', w.heap[s.b]? = some (.cells c e fr) ∧ c.size = s.z ∧ (w.setCells s.b (s.d + o) xs).heap[s.b]? = some (.cells c' e fr) ∧ c'.size = s.z ∧
      (∀ j, c'[j]? = if s.d + o ≤ j ∧ j < s.d + o + xs.length then xs[j - (s.d + o)]? else c[j]?) ∧ (∀ i, i < s.z → ¬ (fr.1 ≤ i ∧ i < fr.2)) := by
  obtain ⟨c, fr, hc, hcz, hl, hv, hf⟩ := h
  obtain ⟨c', h1, h2, h3, h4⟩ := setCells_heap s.b e fr xs (s.d + o) w c hc
  refine ⟨?_, h4, c, fr, c', hc, hcz, h1, by omega, fun j => ?_, hf.1 rfl⟩
  · have := run_storeCells_cells (P := P) s.b (s.d + o) xs 0 w (fun j hj => ?_) (fun j hj => ?_) hx
    · simpa using this
    · rw [Nat.add_zero, cell_at hc, Array.getElem?_eq_getElem (by omega)]; rfl
    · have := hf.1 rfl (s.d + o + j) (by omega)
      simp [World.frozen?, hc]
      intro h5
      omega
  · rw [h3 j]
    by_cases hj : s.d + o ≤ j ∧ j < s.d + o + xs.length
    · rw [if_pos (by omega), if_pos hj]
    · rw [if_neg (by omega), if_neg hj]

theorem astore_ok (h : Rel W ρ H w) {p : AV} {x : Value} (hp : VR W ρ H.length p x) {vs : List AV} {xs : List Value} (hvs : VRs W ρ H.length vs xs) {H' : Heap} (hs : astore H p vs = some H') :
    ∃ a w', x = .pointer (some a) ∧ (storeCells a xs).run P w = .ok () w' ∧ Stp W ρ H w ρ H' w' := by
  cases p <;> simp only [astore] at hs <;> try (cases hs; done)
  case ptr o off =>
    simp only [VR] at hp
    obtain ⟨ho, rfl⟩ := hp
    split at hs <;> try (cases hs; done)
    rename_i L e hH
    split at hs <;> simp at hs
    rename_i hk
    subst hs
    have hlen := VRs_length hvs
    have hOR := h.obj o _ hH
    have hone : ∀ x ∈ xs, x.oneCell' = true := by
      intro x hx
      obtain ⟨j, hj, rfl⟩ := List.getElem_of_mem hx
      have hj' : j < vs.length := by omega
      have h1 := ((VRs_iff vs xs).1 hvs).2 j vs[j] xs[j] (List.getElem?_eq_getElem hj') (List.getElem?_eq_getElem hj)
      exact VR_one h1 (by have := hk.2; rw [List.all_eq_true] at this; exact this _ (List.getElem_mem hj'))
    have hzz : (ρ o).d + off + xs.length ≤ (ρ o).z := by
      obtain ⟨c, fr, _, _, hl, _⟩ := hOR
      omega
    obtain ⟨hrun, hset, c, fr, c', hc, hcz, hc', hcz', hget, hfr⟩ := write_ok (P := P) (vs := vs) hOR (o := off) hzz hone
    refine ⟨_, _, rfl, hrun, stp_set h hH (by simp) hset.size hset.os hset.tape hset.output hset.other ?_⟩
    obtain ⟨c0, fr0, hc0, _, hl, hv, _, hfw⟩ := hOR
    rw [hc] at hc0
    injection hc0 with hc0
    injection hc0 with hc0 _ hfr0
    subst hc0
    subst hfr0
    refine ⟨c', fr, hc', hcz', by rw [splice_length hk.1]; exact hl, fun j v hj => ?_, fun _ => hfr, fun h => by rw [splice_length hk.1]; exact hfw h⟩
    rw [splice_get hk.1] at hj
    split at hj
    · rename_i hj1
      obtain ⟨x, h1, h2⟩ := VRs_get hvs hj
      refine ⟨x, ?_, h2, ?_⟩
      · rw [hget, if_pos (by omega), show (ρ o).d + j - ((ρ o).d + off) = j - off by omega]; exact h1
      · have := hk.2; rw [List.all_eq_true] at this; exact this v (List.mem_of_getElem? hj)
    · rename_i hj1
      obtain ⟨x, h1, h2, h3⟩ := hv j v hj
      exact ⟨x, by rw [hget, if_neg (by omega)]; exact h1, h2, h3⟩
end
end Go.Den
