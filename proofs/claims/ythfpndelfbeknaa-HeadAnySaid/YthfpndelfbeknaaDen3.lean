/- How the abstract machine's values and heap stand for the model's: the relation, and what keeps it. -/
import Derived.Test.YthfpndelfbeknaaDen2
import Derived.Below
import Derived.Laws.Cells
import Derived.Laws.IdiomCopy
set_option linter.unusedVariables false
set_option linter.unusedSimpArgs false
namespace Go.Den
open Go.RowKit (Below)

/-- Where a row is: its block, its first cell there, how many cells the block has. -/
structure Spot where
  b : Nat
  d : Nat
  z : Nat
abbrev Plan := Nat → Spot

mutual
def VR (W : World) (ρ : Plan) (n : Nat) : AV → Value → Prop
  | .int k i, x => x = .int k i
  | .bool b, x => x = .bool b
  | .str s, x => x = .string s
  | .ptr o off, x => o < n ∧ x = .pointer (some ⟨(ρ o).b, (ρ o).d + off, none⟩)
  | .pv cs, x => ∃ a, x = .pointer (some a) ∧ CR W ρ 0 a 0 cs
  | .nilp, x => x = .pointer none
  | .nili, x => x = .nilIface
  | .sl o off len sz cap, x => o < n ∧ ∃ a c, x = .slice (some a) len c ∧ len ≤ c ∧ (c = 0 ∨ a = ⟨(ρ o).b, (ρ o).d + off, none⟩) ∧ (ρ o).d + off + c * sz ≤ (ρ o).z ∧ (∀ k, cap = some k → c = k)
  | .vs cs len, x => ∃ a c, x = .slice (some a) len c ∧ len ≤ c ∧ CR W ρ 0 a 0 cs
  | .nils, x => x = .slice none 0 0
  | .fn f cs, x => ∃ l, x = .func (.func f) #[] (List.toArray l) ∧ VRs W ρ n cs l
  | .nilf, x => x = .nilFunc
  | .agg cs, x => ∃ l, x = .agg (List.toArray l) ∧ VRs W ρ n cs l
  | .tup cs, x => ∃ l, x = .tuple (List.toArray l) ∧ VRs W ρ n cs l
  | .undef, x => x = Go.undef
def VRs (W : World) (ρ : Plan) (n : Nat) : List AV → List Value → Prop
  | [], l => l = []
  | a :: l, m => ∃ x r, m = x :: r ∧ VR W ρ n a x ∧ VRs W ρ n l r
def CR (W : World) (ρ : Plan) (n : Nat) (a : Addr) (i : Nat) : List AV → Prop
  | [] => True
  | v :: l => (∃ x, W.cell? (a.add i) = some x ∧ VR W ρ n v x ∧ v.one = true) ∧ CR W ρ n a (i + 1) l
end

section
variable {W : World}
mutual
theorem VR_mono {ρ ρ' : Plan} {n m : Nat} (h : ∀ i, i < n → ρ' i = ρ i) (hn : n ≤ m) : ∀ (v : AV) (x : Value), VR W ρ n v x → VR W ρ' m v x
  | .int _ _, _, h0 => by simpa only [VR] using h0
  | .bool _, _, h0 => by simpa only [VR] using h0
  | .str _, _, h0 => by simpa only [VR] using h0
  | .ptr o off, _, h0 => by
    simp only [VR] at h0 ⊢
    rw [h o h0.1]
    exact ⟨by omega, h0.2⟩
  | .pv cs, _, h0 => by
    simp only [VR] at h0 ⊢
    obtain ⟨a, e, hc⟩ := h0
    exact ⟨a, e, CR_mono (n := 0) (m := 0) (fun i hi => absurd hi (Nat.not_lt_zero i)) (Nat.le_refl 0) a 0 cs hc⟩
  | .nilp, _, h0 => by simpa only [VR] using h0
  | .nili, _, h0 => by simpa only [VR] using h0
  | .sl o off len sz cap, _, h0 => by
    simp only [VR] at h0 ⊢
    rw [h o h0.1]
    exact ⟨by omega, h0.2⟩
  | .vs cs len, _, h0 => by
    simp only [VR] at h0 ⊢
    obtain ⟨a, c, e, hl, hc⟩ := h0
    exact ⟨a, c, e, hl, CR_mono (n := 0) (m := 0) (fun i hi => absurd hi (Nat.not_lt_zero i)) (Nat.le_refl 0) a 0 cs hc⟩
  | .nils, _, h0 => by simpa only [VR] using h0
  | .fn f cs, _, h0 => by
    simp only [VR] at h0 ⊢
    obtain ⟨l, e, hl⟩ := h0
    exact ⟨l, e, VRs_mono h hn cs l hl⟩
  | .nilf, _, h0 => by simpa only [VR] using h0
  | .agg cs, _, h0 => by
    simp only [VR] at h0 ⊢
    obtain ⟨l, e, hl⟩ := h0
    exact ⟨l, e, VRs_mono h hn cs l hl⟩
  | .tup cs, _, h0 => by
    simp only [VR] at h0 ⊢
    obtain ⟨l, e, hl⟩ := h0
    exact ⟨l, e, VRs_mono h hn cs l hl⟩
  | .undef, _, h0 => by simpa only [VR] using h0
theorem VRs_mono {ρ ρ' : Plan} {n m : Nat} (h : ∀ i, i < n → ρ' i = ρ i) (hn : n ≤ m) : ∀ (l : List AV) (r : List Value), VRs W ρ n l r → VRs W ρ' m l r
  | [], _, h0 => by simpa only [VRs] using h0
  | a :: l, _, h0 => by
    simp only [VRs] at h0 ⊢
    obtain ⟨x, r, e, hx, hr⟩ := h0
    exact ⟨x, r, e, VR_mono h hn a x hx, VRs_mono h hn l r hr⟩
theorem CR_mono {ρ ρ' : Plan} {n m : Nat} (h : ∀ i, i < n → ρ' i = ρ i) (hn : n ≤ m) (a : Addr) : ∀ (i : Nat) (l : List AV), CR W ρ n a i l → CR W ρ' m a i l
  | _, [], _ => by simp only [CR]
  | i, v :: l, h0 => by
    simp only [CR] at h0 ⊢
    obtain ⟨⟨x, e, hx, h1⟩, hr⟩ := h0
    exact ⟨⟨x, e, VR_mono h hn v x hx, h1⟩, CR_mono h hn a (i + 1) l hr⟩
end
variable {ρ ρ' : Plan} {n m : Nat}
mutual
/-- A value that leads to such rows alone. -/
theorem VR_leads {p : Nat → Bool} (h : ∀ i, p i = true → ρ' i = ρ i ∧ i < m) : ∀ (v : AV) (x : Value), v.leads p = true → VR W ρ n v x → VR W ρ' m v x
  | .int _ _, _, _, h0 => by simpa only [VR] using h0
  | .bool _, _, _, h0 => by simpa only [VR] using h0
  | .str _, _, _, h0 => by simpa only [VR] using h0
  | .ptr o off, _, hu, h0 => by
    simp only [VR] at h0 ⊢
    simp only [AV.leads] at hu
    rw [(h o hu).1]
    exact ⟨(h o hu).2, h0.2⟩
  | .pv cs, _, _, h0 => by
    simp only [VR] at h0 ⊢
    obtain ⟨a, e, hc⟩ := h0
    exact ⟨a, e, CR_mono (n := 0) (m := 0) (fun i hi => absurd hi (Nat.not_lt_zero i)) (Nat.le_refl 0) a 0 cs hc⟩
  | .nilp, _, _, h0 => by simpa only [VR] using h0
  | .nili, _, _, h0 => by simpa only [VR] using h0
  | .sl o off len sz cap, _, hu, h0 => by
    simp only [VR] at h0 ⊢
    simp only [AV.leads] at hu
    rw [(h o hu).1]
    exact ⟨(h o hu).2, h0.2⟩
  | .vs cs len, _, _, h0 => by
    simp only [VR] at h0 ⊢
    obtain ⟨a, c, e, hl, hc⟩ := h0
    exact ⟨a, c, e, hl, CR_mono (n := 0) (m := 0) (fun i hi => absurd hi (Nat.not_lt_zero i)) (Nat.le_refl 0) a 0 cs hc⟩
  | .nils, _, _, h0 => by simpa only [VR] using h0
  | .fn f cs, _, hu, h0 => by
    simp only [VR] at h0 ⊢
    simp only [AV.leads] at hu
    obtain ⟨l, e, hl⟩ := h0
    exact ⟨l, e, VRs_leads h cs l hu hl⟩
  | .nilf, _, _, h0 => by simpa only [VR] using h0
  | .agg cs, _, hu, h0 => by
    simp only [VR] at h0 ⊢
    simp only [AV.leads] at hu
    obtain ⟨l, e, hl⟩ := h0
    exact ⟨l, e, VRs_leads h cs l hu hl⟩
  | .tup cs, _, hu, h0 => by
    simp only [VR] at h0 ⊢
    simp only [AV.leads] at hu
    obtain ⟨l, e, hl⟩ := h0
    exact ⟨l, e, VRs_leads h cs l hu hl⟩
  | .undef, _, _, h0 => by simpa only [VR] using h0
theorem VRs_leads {p : Nat → Bool} (h : ∀ i, p i = true → ρ' i = ρ i ∧ i < m) : ∀ (l : List AV) (r : List Value), leadss p l = true → VRs W ρ n l r → VRs W ρ' m l r
  | [], _, _, h0 => by simpa only [VRs] using h0
  | a :: l, _, hu, h0 => by
    simp only [VRs] at h0 ⊢
    simp only [leadss, Bool.and_eq_true] at hu
    obtain ⟨x, r, e, hx, hr⟩ := h0
    exact ⟨x, r, e, VR_leads h a x hu.1 hx, VRs_leads h l r hu.2 hr⟩
end
theorem VR_under (h : ∀ i, i < m → ρ' i = ρ i) (v : AV) (x : Value) (hv : v.under m = true) (h0 : VR W ρ n v x) : VR W ρ' m v x :=
  VR_leads (p := fun o => decide (o < m)) (fun i hi => ⟨h i (by simpa using hi), by simpa using hi⟩) v x hv h0
mutual
/-- It leads to rows below n. -/
theorem VR_bound : ∀ (v : AV) (x : Value), VR W ρ n v x → v.under n = true
  | .int _ _, _, _ => rfl
  | .bool _, _, _ => rfl
  | .str _, _, _ => rfl
  | .ptr o off, _, h0 => by simp only [VR] at h0; simpa [AV.under, AV.leads] using h0.1
  | .pv cs, _, _ => rfl
  | .nilp, _, _ => rfl
  | .nili, _, _ => rfl
  | .sl o off len sz cap, _, h0 => by simp only [VR] at h0; simpa [AV.under, AV.leads] using h0.1
  | .vs cs len, _, _ => rfl
  | .nils, _, _ => rfl
  | .fn f cs, _, h0 => by simp only [VR] at h0; obtain ⟨l, e, hl⟩ := h0; exact VRs_bound cs l hl
  | .nilf, _, _ => rfl
  | .agg cs, _, h0 => by simp only [VR] at h0; obtain ⟨l, e, hl⟩ := h0; exact VRs_bound cs l hl
  | .tup cs, _, h0 => by simp only [VR] at h0; obtain ⟨l, e, hl⟩ := h0; exact VRs_bound cs l hl
  | .undef, _, _ => rfl
theorem VRs_bound : ∀ (l : List AV) (r : List Value), VRs W ρ n l r → unders n l = true
  | [], _, _ => rfl
  | a :: l, _, h0 => by
    simp only [VRs] at h0
    obtain ⟨x, r, e, hx, hr⟩ := h0
    have h1 := VR_bound a x hx
    have h2 := VRs_bound l r hr
    simp only [unders, leadss, AV.under] at h1 h2 ⊢
    simp [h1, h2]
end
theorem VRs_iff : ∀ (l : List AV) (r : List Value), VRs W ρ n l r ↔ (l.length = r.length ∧ ∀ (j : Nat) (v : AV) (x : Value), l[j]? = some v → r[j]? = some x → VR W ρ n v x)
  | [], r => by simp [VRs, eq_comm]
  | a :: l, r => by
    simp only [VRs]
    constructor
    · rintro ⟨x, r, rfl, hx, hr⟩
      obtain ⟨hl, hj⟩ := (VRs_iff l r).1 hr
      refine ⟨by simp [hl], fun j v y h1 h2 => ?_⟩
      cases j with
      | zero => simp at h1 h2; subst h1; subst h2; exact hx
      | succ j => simp at h1 h2; exact hj j v y h1 h2
    · rintro ⟨hl, hj⟩
      cases r with
      | nil => simp at hl
      | cons x r => exact ⟨x, r, rfl, hj 0 a x rfl rfl, (VRs_iff l r).2 ⟨by simpa using hl, fun j v y h1 h2 => hj (j + 1) v y (by simpa using h1) (by simpa using h2)⟩⟩
theorem VRs_length {l : List AV} {r : List Value} (h : VRs W ρ n l r) : l.length = r.length := ((VRs_iff l r).1 h).1
theorem VRs_get {l : List AV} {r : List Value} (h : VRs W ρ n l r) {j : Nat} {v : AV} (hv : l[j]? = some v) : ∃ x, r[j]? = some x ∧ VR W ρ n v x := by
  obtain ⟨hl, hj⟩ := (VRs_iff l r).1 h
  have : j < r.length := by rw [← hl]; exact (List.getElem?_eq_some_iff.1 hv).1
  exact ⟨r[j], List.getElem?_eq_getElem this, hj j v _ hv (List.getElem?_eq_getElem this)⟩
theorem VRs_append {l l' : List AV} {r r' : List Value} (h : VRs W ρ n l r) (h' : VRs W ρ n l' r') : VRs W ρ n (l ++ l') (r ++ r') := by
  induction l generalizing r with
  | nil => simp only [VRs] at h; subst h; simpa using h'
  | cons a l ih =>
    simp only [VRs] at h
    obtain ⟨x, r, rfl, hx, hr⟩ := h
    simp only [List.cons_append, VRs]
    exact ⟨x, _, rfl, hx, ih hr⟩
theorem VRs_take {l : List AV} {r : List Value} (h : VRs W ρ n l r) (k : Nat) : VRs W ρ n (l.take k) (r.take k) := by
  rw [VRs_iff] at h ⊢
  refine ⟨by simp [h.1], fun j v x h1 h2 => ?_⟩
  simp only [List.getElem?_take] at h1 h2
  split at h1
  · rename_i hj; rw [if_pos hj] at h2; exact h.2 j v x h1 h2
  · simp at h1
theorem VRs_drop {l : List AV} {r : List Value} (h : VRs W ρ n l r) (k : Nat) : VRs W ρ n (l.drop k) (r.drop k) := by
  rw [VRs_iff] at h ⊢
  refine ⟨by simp [h.1], fun j v x h1 h2 => ?_⟩
  simp only [List.getElem?_drop] at h1 h2
  exact h.2 _ v x h1 h2
theorem VRs_set {l : List AV} {r : List Value} (h : VRs W ρ n l r) (k : Nat) {v : AV} {x : Value} (hv : VR W ρ n v x) : VRs W ρ n (l.set k v) (r.set k x) := by
  rw [VRs_iff] at h ⊢
  refine ⟨by simp [h.1], fun j u y h1 h2 => ?_⟩
  rw [List.getElem?_set] at h1 h2
  split at h1
  · rename_i hk
    subst hk
    rw [if_pos rfl] at h2
    split at h1 <;> split at h2 <;> simp at h1 h2
    subst h1; subst h2; exact hv
  · rename_i hk
    rw [if_neg hk] at h2
    exact h.2 j u y h1 h2
theorem CR_iff (a : Addr) : ∀ (i : Nat) (l : List AV), CR W ρ n a i l ↔ ∀ (j : Nat) (v : AV), l[j]? = some v → ∃ x, W.cell? (a.add (i + j)) = some x ∧ VR W ρ n v x ∧ v.one = true
  | i, [] => by simp [CR]
  | i, v :: l => by
    simp only [CR]
    rw [CR_iff a (i + 1) l]
    constructor
    · rintro ⟨h0, h1⟩ j u hj
      cases j with
      | zero => simp at hj; subst hj; simpa using h0
      | succ j =>
        simp at hj
        have := h1 j u hj
        rwa [show i + 1 + j = i + (j + 1) by omega] at this
    · intro h
      refine ⟨by simpa using h 0 v rfl, fun j u hj => ?_⟩
      have := h (j + 1) u (by simpa using hj)
      rwa [show i + (j + 1) = i + 1 + j by omega] at this
theorem VR_one {v : AV} {x : Value} (h : VR W ρ n v x) (h1 : v.one = true) : x.oneCell' = true := by
  cases v <;> simp only [AV.one, Bool.false_eq_true] at h1 <;> simp only [VR] at h
  all_goals first
    | (subst h; rfl)
    | (obtain ⟨_, rfl⟩ := h; rfl)
    | (obtain ⟨a, rfl, _⟩ := h; rfl)
    | (obtain ⟨_, a, c, rfl, _⟩ := h; rfl)
    | (obtain ⟨a, c, rfl, _⟩ := h; rfl)
theorem add_add' (a : Addr) (i j : Nat) : (a.add i).add j = a.add (i + j) := by
  unfold Addr.add
  by_cases hi : i = 0 <;> by_cases hj : j = 0 <;> simp [hi, hj, Nat.add_assoc]
theorem add_mk (b o j : Nat) : (⟨b, o, none⟩ : Addr).add j = ⟨b, o + j, none⟩ := by unfold Addr.add; split <;> simp_all
theorem CR_drop {a : Addr} {l : List AV} (h : CR W ρ n a 0 l) (k : Nat) : CR W ρ n (a.add k) 0 (l.drop k) := by
  rw [CR_iff] at h ⊢
  intro j v hj
  rw [List.getElem?_drop] at hj
  have := h _ v hj
  rw [add_add', Nat.zero_add]
  rwa [Nat.zero_add] at this
theorem CR_take {a : Addr} {l : List AV} (h : CR W ρ n a 0 l) (k : Nat) : CR W ρ n a 0 (l.take k) := by
  rw [CR_iff] at h ⊢
  intro j v hj
  rw [List.getElem?_take] at hj
  split at hj
  · exact h j v hj
  · simp at hj
end

/-! ### The heap -/
def OR (W : World) (ρ : Plan) (n : Nat) (o : AO) (s : Spot) (w : World) : Prop :=
  match o with
  | .cells l e rw => ∃ c fr, w.heap[s.b]? = some (.cells c e fr) ∧ c.size = s.z ∧ s.d + l.length ≤ s.z ∧
      (∀ j v, l[j]? = some v → ∃ x, c[s.d + j]? = some x ∧ VR W ρ n v x ∧ v.one = true) ∧ (rw = true → ∀ i, i < s.z → ¬ (fr.1 ≤ i ∧ i < fr.2)) ∧ (whole e = true → s.d = 0 ∧ s.z = l.length)
  | .iter t p => w.heap[s.b]? = some (.stringIter t p) ∧ s.d = 0
  | .dead => True
def live (H : Heap) (i : Nat) : Prop := ∃ o, H[i]? = some o ∧ o ≠ .dead
structure Rel (W : World) (ρ : Plan) (H : Heap) (w : World) : Prop where
  below : Below W.heap.size W w
  lo : ∀ i, live H i → W.heap.size ≤ (ρ i).b
  obj : ∀ i o, H[i]? = some o → OR W ρ H.length o (ρ i) w
  inj : ∀ i j, live H i → live H j → (ρ i).b = (ρ j).b → i = j
/-- One step, or many: what was and isn't known stays; new rows lie in new blocks, or in those of rows that were. -/
structure Stp (W : World) (ρ : Plan) (H : Heap) (w : World) (ρ' : Plan) (H' : Heap) (w' : World) : Prop where
  same : ∀ i, i < H.length → ρ' i = ρ i
  len : H.length ≤ H'.length
  size : w.heap.size ≤ w'.heap.size
  frame : ∀ b, b < w.heap.size → (∀ i, live H i → (ρ i).b ≠ b) → w'.heap[b]? = w.heap[b]?
  own : ∀ i, live H' i → w.heap.size ≤ (ρ' i).b ∨ ∃ j, live H j ∧ (ρ j).b = (ρ' i).b
  rel : Rel W ρ' H' w'

theorem live_lt {H : Heap} {i : Nat} (h : live H i) : i < H.length := by
  obtain ⟨o, ho, _⟩ := h
  exact (List.getElem?_eq_some_iff.1 ho).1
theorem OR_lt {W : World} {ρ : Plan} {n : Nat} {o : AO} {s : Spot} {w : World} (h : OR W ρ n o s w) (hd : o ≠ .dead) : s.b < w.heap.size := by
  cases o with
  | cells l e rw => obtain ⟨c, fr, hc, _⟩ := h; exact (Array.getElem?_eq_some_iff.1 hc).1
  | iter t p => exact (Array.getElem?_eq_some_iff.1 h.1).1
  | dead => exact absurd rfl hd
theorem Rel.hi {W : World} {ρ : Plan} {H : Heap} {w : World} (h : Rel W ρ H w) {i : Nat} (hl : live H i) : (ρ i).b < w.heap.size := by
  obtain ⟨o, ho, hd⟩ := hl
  exact OR_lt (h.obj i o ho) hd
theorem Stp.refl {W : World} {ρ : Plan} {H : Heap} {w : World} (h : Rel W ρ H w) : Stp W ρ H w ρ H w :=
  ⟨fun _ _ => rfl, Nat.le_refl _, Nat.le_refl _, fun _ _ _ => rfl, fun i hi => .inr ⟨i, hi, rfl⟩, h⟩
theorem Stp.trans {W : World} {ρ ρ1 ρ2 : Plan} {H H1 H2 : Heap} {w w1 w2 : World} (h : Stp W ρ H w ρ1 H1 w1) (k : Stp W ρ1 H1 w1 ρ2 H2 w2) : Stp W ρ H w ρ2 H2 w2 where
  same i hi := (k.same i (Nat.lt_of_lt_of_le hi h.len)).trans (h.same i hi)
  len := Nat.le_trans h.len k.len
  size := Nat.le_trans h.size k.size
  frame b hb hn := by
    refine (k.frame b (Nat.lt_of_lt_of_le hb h.size) fun i hi he => ?_).trans (h.frame b hb hn)
    rcases h.own i hi with h1 | ⟨j, hj, h1⟩
    · omega
    · exact hn j hj (h1.trans he)
  own i hi := by
    rcases k.own i hi with h1 | ⟨j, hj, h1⟩
    · exact .inl (Nat.le_trans h.size h1)
    · rcases h.own j hj with h2 | ⟨l, hl, h2⟩
      · exact .inl (by omega)
      · exact .inr ⟨l, hl, h2.trans h1⟩
  rel := k.rel
/-- A row is as it was where its block is. -/
theorem OR_same {W : World} {ρ ρ' : Plan} {n m : Nat} {o : AO} {s : Spot} {w w' : World} (h : OR W ρ n o s w) (hρ : ∀ i, i < n → ρ' i = ρ i) (hn : n ≤ m) (hb : o ≠ .dead → w'.heap[s.b]? = w.heap[s.b]?) : OR W ρ' m o s w' := by
  cases o with
  | cells l e rw =>
    obtain ⟨c, fr, hc, hz, hl, hv, hf⟩ := h
    exact ⟨c, fr, by rw [hb (by simp)]; exact hc, hz, hl, fun j v hj => let ⟨x, h1, h2, h3⟩ := hv j v hj; ⟨x, h1, VR_mono hρ hn v x h2, h3⟩, hf⟩
  | iter t p => exact ⟨by rw [hb (by simp)]; exact h.1, h.2⟩
  | dead => trivial

/-- One block more, and nothing else. -/
structure OneMore (w w' : World) : Prop where
  size : w'.heap.size = w.heap.size + 1
  os : w'.os = w.os
  tape : w'.tape = w.tape
  output : w'.output = w.output
  old : ∀ b, b < w.heap.size → w'.heap[b]? = w.heap[b]?
theorem OneMore.push (w : World) (ob : Obj) : OneMore w { w with heap := w.heap.push ob } :=
  ⟨by simp, rfl, rfl, rfl, fun b hb => by simp [Array.getElem?_push, show b ≠ w.heap.size by omega]⟩
/-- A new block. -/
theorem stp_push {W : World} {ρ ρ' : Plan} {H : Heap} {w w' : World} (h : Rel W ρ H w) (hsame : ∀ i, i < H.length → ρ' i = ρ i) (hb : (ρ' H.length).b = w.heap.size) {o : AO} (hm : OneMore w w')
    (hn : OR W ρ' (H.length + 1) o (ρ' H.length) w') : Stp W ρ H w ρ' (H ++ [o]) w' := by
  have hold := hm.old
  have hsz := hm.size
  have hlive : ∀ i, live (H ++ [o]) i → i = H.length ∨ live H i := fun i ⟨o, ho, hd⟩ => by
    rcases Nat.lt_or_ge i H.length with h1 | h1
    · rw [List.getElem?_append_left h1] at ho; exact .inr ⟨o, ho, hd⟩
    · have := (List.getElem?_eq_some_iff.1 ho).1; simp at this; exact .inl (by omega)
  refine ⟨hsame, by simp, by omega, fun b hb _ => hold b hb, fun i hi => ?_, ⟨?_, fun i hi => ?_, fun i o ho => ?_, fun i j hi hj hij => ?_⟩⟩
  · rcases hlive i hi with rfl | h1
    · exact .inl (by omega)
    · exact .inr ⟨i, h1, by rw [hsame i (live_lt h1)]⟩
  · exact ⟨hm.os.trans h.below.os, hm.tape.trans h.below.tape, hm.output.trans h.below.output, by have := h.below.size; omega, fun k hk => by rw [hold k (Nat.lt_of_lt_of_le hk h.below.size)]; exact h.below.block k hk⟩
  · rcases hlive i hi with rfl | h1
    · rw [hb]; exact h.below.size
    · rw [hsame i (live_lt h1)]; exact h.lo i h1
  · rcases Nat.lt_or_ge i H.length with h1 | h1
    · rw [List.getElem?_append_left h1] at ho
      rw [hsame i h1]
      exact OR_same (h.obj i o ho) hsame (by simp) (fun hd => hold _ (OR_lt (h.obj i o ho) hd))
    · have h2 := (List.getElem?_eq_some_iff.1 ho).1
      simp at h2
      obtain rfl : i = H.length := by omega
      simp at ho
      subst ho
      simpa using hn
  · rcases hlive i hi with rfl | h1 <;> rcases hlive j hj with rfl | h2
    · rfl
    · rw [hsame j (live_lt h2), hb] at hij; have := h.hi h2; omega
    · rw [hsame i (live_lt h1), hb] at hij; have := h.hi h1; omega
    · rw [hsame i (live_lt h1), hsame j (live_lt h2)] at hij; exact h.inj i j h1 h2 hij
def Plan.ext (ρ : Plan) (n : Nat) (s : Spot) : Plan := fun i => if i = n then s else ρ i
theorem Plan.ext_lt {ρ : Plan} {n : Nat} {s : Spot} : ∀ i, i < n → ρ.ext n s i = ρ i := fun i hi => by simp [Plan.ext, show i ≠ n by omega]
theorem Plan.ext_at {ρ : Plan} {n : Nat} {s : Spot} : ρ.ext n s n = s := by simp [Plan.ext]
/-- A new block of cells, of which some are known. -/
theorem stp_new {W : World} {ρ : Plan} {H : Heap} {w : World} (h : Rel W ρ H w) {l : List AV} {c : Array Value} {e : TypeId}
    (hl : l.length ≤ c.size) (hv : ∀ (j : Nat) (v : AV), l[j]? = some v → ∃ x, c[j]? = some x ∧ VR W ρ H.length v x ∧ v.one = true) (rw : Bool) (hwh : whole e = true → l.length = c.size) :
    Stp W ρ H w (ρ.ext H.length ⟨w.heap.size, 0, c.size⟩) (H ++ [.cells l e rw]) { w with heap := w.heap.push (.cells c e) } := by
  refine stp_push h Plan.ext_lt (by rw [Plan.ext_at]) (.push _ _) ?_
  rw [Plan.ext_at]
  refine ⟨c, (0, 0), by simp, rfl, by simpa using hl, fun j v hj => ?_, fun _ i _ => by simp, fun h => ⟨rfl, (hwh h).symm⟩⟩
  obtain ⟨x, h3, h4, h5⟩ := hv j v hj
  exact ⟨x, by simpa using h3, VR_mono Plan.ext_lt (by simp) v x h4, h5⟩

/-- A row that stands is another one now, in the same block; nothing else turns. -/
theorem stp_set {W : World} {ρ : Plan} {H : Heap} {w w' : World} (h : Rel W ρ H w) {o : Nat} {x x' : AO} (hx : H[o]? = some x) (hd : x ≠ .dead)
    (hs : w'.heap.size = w.heap.size) (hos : w'.os = w.os) (ht : w'.tape = w.tape) (hou : w'.output = w.output) (hb : ∀ b, b ≠ (ρ o).b → w'.heap[b]? = w.heap[b]?) (hn : OR W ρ H.length x' (ρ o) w') :
    Stp W ρ H w ρ (H.set o x') w' := by
  have hlo := h.lo o ⟨x, hx, hd⟩
  have ho : o < H.length := (List.getElem?_eq_some_iff.1 hx).1
  have hlive : ∀ i, live (H.set o x') i → live H i := fun i ⟨y, hy, hy'⟩ => by
    rw [List.getElem?_set] at hy
    split at hy
    · rename_i he; subst he; exact ⟨x, hx, hd⟩
    · exact ⟨y, hy, hy'⟩
  refine ⟨fun _ _ => rfl, by simp, by omega, fun b _ hnb => hb b (fun he => hnb o ⟨x, hx, hd⟩ he.symm), fun i hi => .inr ⟨i, hlive i hi, rfl⟩, ⟨⟨hos.trans h.below.os, ht.trans h.below.tape, hou.trans h.below.output, by have := h.below.size; omega, fun k hk => ?_⟩, fun i hi => h.lo i (hlive i hi), fun i y hy => ?_, fun i j hi hj => h.inj i j (hlive i hi) (hlive j hj)⟩⟩
  · rw [hb k (by omega)]; exact h.below.block k hk
  · rw [List.length_set]
    rw [List.getElem?_set] at hy
    split at hy
    · rename_i he
      subst he
      simp [ho] at hy
      subst hy
      exact hn
    · rename_i he
      refine OR_same (h.obj i y hy) (fun _ _ => rfl) (Nat.le_refl _) (fun hyd => hb _ fun heq => he (h.inj o i ⟨x, hx, hd⟩ ⟨y, hy, hyd⟩ heq.symm))
/-- Of a heap some rows may be forgotten. -/
theorem Rel.kill {W : World} {ρ : Plan} {H : Heap} {w : World} (h : Rel W ρ H w) (o : Nat) : Rel W ρ (H.set o .dead) w := by
  have hlive : ∀ i, live (H.set o .dead) i → live H i := fun i ⟨y, hy, hy'⟩ => by
    rw [List.getElem?_set] at hy
    split at hy
    · split at hy <;> simp at hy; exact absurd hy.symm hy'
    · exact ⟨y, hy, hy'⟩
  refine ⟨h.below, fun i hi => h.lo i (hlive i hi), fun i y hy => ?_, fun i j hi hj => h.inj i j (hlive i hi) (hlive j hj)⟩
  rw [List.length_set]
  rw [List.getElem?_set] at hy
  split at hy
  · split at hy <;> simp at hy; subst hy; trivial
  · exact h.obj i y hy
end Go.Den
