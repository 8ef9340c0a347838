/- The machine: texts 3 to 18. -/
import Derived.Test.YtdlolhkeckjipaaDoorDen2
import Derived.Below
import Derived.Laws.Cells
import Derived.Laws.IdiomCopy
import Derived.ChangeKeysEq
import Derived.Laws.Entries
import Derived.Laws.BytesArg
import Derived.Lib.ConvBytes
import Derived.Laws.AppendOwn
import Derived.Laws.StructEq
import Derived.Lib.UnsafeStr
import Derived.Calls
import Derived.Tactics
import Derived.LoopN
/- How the abstract machine's values and heap stand for the model's: the relation, and what keeps it. -/
set_option linter.unusedVariables false
set_option linter.unusedSimpArgs false
namespace Go.Den
open Go.RowKit (Below)

/-- Where a row is: its block, its first cell there, how many cells the block has. -/
structure Spot where
  b : Nat
  d : Nat
  z : Nat
abbrev Plan := Nat → Spot

mutual
def VR (W : World) (ρ : Plan) (n : Nat) : AV → Value → Prop
  | .int k i, x => x = .int k i
  | .bool b, x => x = .bool b
  | .str s, x => x = .string s
  | .ptr o off, x => o < n ∧ x = .pointer (some ⟨(ρ o).b, (ρ o).d + off, none⟩)
  | .pv cs, x => ∃ a, x = .pointer (some a) ∧ CR W ρ 0 a 0 cs
  | .nilp, x => x = .pointer none
  | .nili, x => x = .nilIface
  | .sl o off len sz cap, x => o < n ∧ ∃ a c, x = .slice (some a) len c ∧ len ≤ c ∧ (c = 0 ∨ a = ⟨(ρ o).b, (ρ o).d + off, none⟩) ∧ (ρ o).d + off + c * sz ≤ (ρ o).z ∧ (∀ k, cap = some k → c = k)
  | .vs cs len, x => ∃ a c, x = .slice (some a) len c ∧ len ≤ c ∧ CR W ρ 0 a 0 cs
  | .nils, x => x = .slice none 0 0
  | .fn f cs, x => ∃ l, x = .func (.func f) #[] (List.toArray l) ∧ VRs W ρ n cs l
  | .nilf, x => x = .nilFunc
  | .mp o, x => o < n ∧ x = .map (some (ρ o).b)
  | .agg cs, x => ∃ l, x = .agg (List.toArray l) ∧ VRs W ρ n cs l
  | .tup cs, x => ∃ l, x = .tuple (List.toArray l) ∧ VRs W ρ n cs l
  | .undef, x => x = Go.undef
def VRs (W : World) (ρ : Plan) (n : Nat) : List AV → List Value → Prop
  | [], l => l = []
  | a :: l, m => ∃ x r, m = x :: r ∧ VR W ρ n a x ∧ VRs W ρ n l r
def CR (W : World) (ρ : Plan) (n : Nat) (a : Addr) (i : Nat) : List AV → Prop
  | [] => True
  | v :: l => (∃ x, W.cell? (a.add i) = some x ∧ VR W ρ n v x ∧ v.one = true) ∧ CR W ρ n a (i + 1) l
end

section
variable {W : World}
mutual
theorem VR_mono {ρ ρ' : Plan} {n m : Nat} (h : ∀ i, i < n → ρ' i = ρ i) (hn : n ≤ m) : ∀ (v : AV) (x : Value), VR W ρ n v x → VR W ρ' m v x
  | .int _ _, _, h0 => by simpa only [VR] using h0
  | .bool _, _, h0 => by simpa only [VR] using h0
  | .str _, _, h0 => by simpa only [VR] using h0
  | .ptr o off, _, h0 => by
    simp only [VR] at h0 ⊢
    rw [h o h0.1]
    exact ⟨by omega, h0.2⟩
  | .pv cs, _, h0 => by
    simp only [VR] at h0 ⊢
    obtain ⟨a, e, hc⟩ := h0
    exact ⟨a, e, CR_mono (n := 0) (m := 0) (fun i hi => absurd hi (Nat.not_lt_zero i)) (Nat.le_refl 0) a 0 cs hc⟩
  | .nilp, _, h0 => by simpa only [VR] using h0
  | .nili, _, h0 => by simpa only [VR] using h0
  | .sl o off len sz cap, _, h0 => by
    simp only [VR] at h0 ⊢
    rw [h o h0.1]
    exact ⟨by omega, h0.2⟩
  | .vs cs len, _, h0 => by
    simp only [VR] at h0 ⊢
    obtain ⟨a, c, e, hl, hc⟩ := h0
    exact ⟨a, c, e, hl, CR_mono (n := 0) (m := 0) (fun i hi => absurd hi (Nat.not_lt_zero i)) (Nat.le_refl 0) a 0 cs hc⟩
  | .nils, _, h0 => by simpa only [VR] using h0
  | .fn f cs, _, h0 => by
    simp only [VR] at h0 ⊢
    obtain ⟨l, e, hl⟩ := h0
    exact ⟨l, e, VRs_mono h hn cs l hl⟩
  | .nilf, _, h0 => by simpa only [VR] using h0
  | .mp o, _, h0 => by
    simp only [VR] at h0 ⊢
    rw [h o h0.1]
    exact ⟨by omega, h0.2⟩
  | .agg cs, _, h0 => by
    simp only [VR] at h0 ⊢
    obtain ⟨l, e, hl⟩ := h0
    exact ⟨l, e, VRs_mono h hn cs l hl⟩
  | .tup cs, _, h0 => by
    simp only [VR] at h0 ⊢
    obtain ⟨l, e, hl⟩ := h0
    exact ⟨l, e, VRs_mono h hn cs l hl⟩
  | .undef, _, h0 => by simpa only [VR] using h0
theorem VRs_mono {ρ ρ' : Plan} {n m : Nat} (h : ∀ i, i < n → ρ' i = ρ i) (hn : n ≤ m) : ∀ (l : List AV) (r : List Value), VRs W ρ n l r → VRs W ρ' m l r
  | [], _, h0 => by simpa only [VRs] using h0
  | a :: l, _, h0 => by
    simp only [VRs] at h0 ⊢
    obtain ⟨x, r, e, hx, hr⟩ := h0
    exact ⟨x, r, e, VR_mono h hn a x hx, VRs_mono h hn l r hr⟩
theorem CR_mono {ρ ρ' : Plan} {n m : Nat} (h : ∀ i, i < n → ρ' i = ρ i) (hn : n ≤ m) (a : Addr) : ∀ (i : Nat) (l : List AV), CR W ρ n a i l → CR W ρ' m a i l
  | _, [], _ => by simp only [CR]
  | i, v :: l, h0 => by
    simp only [CR] at h0 ⊢
    obtain ⟨⟨x, e, hx, h1⟩, hr⟩ := h0
    exact ⟨⟨x, e, VR_mono h hn v x hx, h1⟩, CR_mono h hn a (i + 1) l hr⟩
end
variable {ρ ρ' : Plan} {n m : Nat}
mutual
/-- A value that leads to such rows alone. -/
theorem VR_leads {p : Nat → Bool} (h : ∀ i, p i = true → ρ' i = ρ i ∧ i < m) : ∀ (v : AV) (x : Value), v.leads p = true → VR W ρ n v x → VR W ρ' m v x
  | .int _ _, _, _, h0 => by simpa only [VR] using h0
  | .bool _, _, _, h0 => by simpa only [VR] using h0
  | .str _, _, _, h0 => by simpa only [VR] using h0
  | .ptr o off, _, hu, h0 => by
    simp only [VR] at h0 ⊢
    simp only [AV.leads] at hu
    rw [(h o hu).1]
    exact ⟨(h o hu).2, h0.2⟩
  | .pv cs, _, _, h0 => by
    simp only [VR] at h0 ⊢
    obtain ⟨a, e, hc⟩ := h0
    exact ⟨a, e, CR_mono (n := 0) (m := 0) (fun i hi => absurd hi (Nat.not_lt_zero i)) (Nat.le_refl 0) a 0 cs hc⟩
  | .nilp, _, _, h0 => by simpa only [VR] using h0
  | .nili, _, _, h0 => by simpa only [VR] using h0
  | .sl o off len sz cap, _, hu, h0 => by
    simp only [VR] at h0 ⊢
    simp only [AV.leads] at hu
    rw [(h o hu).1]
    exact ⟨(h o hu).2, h0.2⟩
  | .vs cs len, _, _, h0 => by
    simp only [VR] at h0 ⊢
    obtain ⟨a, c, e, hl, hc⟩ := h0
    exact ⟨a, c, e, hl, CR_mono (n := 0) (m := 0) (fun i hi => absurd hi (Nat.not_lt_zero i)) (Nat.le_refl 0) a 0 cs hc⟩
  | .nils, _, _, h0 => by simpa only [VR] using h0
  | .fn f cs, _, hu, h0 => by
    simp only [VR] at h0 ⊢
    simp only [AV.leads] at hu
    obtain ⟨l, e, hl⟩ := h0
    exact ⟨l, e, VRs_leads h cs l hu hl⟩
  | .nilf, _, _, h0 => by simpa only [VR] using h0
  | .mp o, _, hu, h0 => by
    simp only [VR] at h0 ⊢
    simp only [AV.leads] at hu
    rw [(h o hu).1]
    exact ⟨(h o hu).2, h0.2⟩
  | .agg cs, _, hu, h0 => by
    simp only [VR] at h0 ⊢
    simp only [AV.leads] at hu
    obtain ⟨l, e, hl⟩ := h0
    exact ⟨l, e, VRs_leads h cs l hu hl⟩
  | .tup cs, _, hu, h0 => by
    simp only [VR] at h0 ⊢
    simp only [AV.leads] at hu
    obtain ⟨l, e, hl⟩ := h0
    exact ⟨l, e, VRs_leads h cs l hu hl⟩
  | .undef, _, _, h0 => by simpa only [VR] using h0
theorem VRs_leads {p : Nat → Bool} (h : ∀ i, p i = true → ρ' i = ρ i ∧ i < m) : ∀ (l : List AV) (r : List Value), leadss p l = true → VRs W ρ n l r → VRs W ρ' m l r
  | [], _, _, h0 => by simpa only [VRs] using h0
  | a :: l, _, hu, h0 => by
    simp only [VRs] at h0 ⊢
    simp only [leadss, Bool.and_eq_true] at hu
    obtain ⟨x, r, e, hx, hr⟩ := h0
    exact ⟨x, r, e, VR_leads h a x hu.1 hx, VRs_leads h l r hu.2 hr⟩
end
theorem VR_under (h : ∀ i, i < m → ρ' i = ρ i) (v : AV) (x : Value) (hv : v.under m = true) (h0 : VR W ρ n v x) : VR W ρ' m v x :=
  VR_leads (p := fun o => decide (o < m)) (fun i hi => ⟨h i (by simpa using hi), by simpa using hi⟩) v x hv h0
mutual
/-- It leads to rows below n. -/
theorem VR_bound : ∀ (v : AV) (x : Value), VR W ρ n v x → v.under n = true
  | .int _ _, _, _ => rfl
  | .bool _, _, _ => rfl
  | .str _, _, _ => rfl
  | .ptr o off, _, h0 => by simp only [VR] at h0; simpa [AV.under, AV.leads] using h0.1
  | .pv cs, _, _ => rfl
  | .nilp, _, _ => rfl
  | .nili, _, _ => rfl
  | .sl o off len sz cap, _, h0 => by simp only [VR] at h0; simpa [AV.under, AV.leads] using h0.1
  | .vs cs len, _, _ => rfl
  | .nils, _, _ => rfl
  | .fn f cs, _, h0 => by simp only [VR] at h0; obtain ⟨l, e, hl⟩ := h0; exact VRs_bound cs l hl
  | .nilf, _, _ => rfl
  | .mp o, _, h0 => by simp only [VR] at h0; simpa [AV.under, AV.leads] using h0.1
  | .agg cs, _, h0 => by simp only [VR] at h0; obtain ⟨l, e, hl⟩ := h0; exact VRs_bound cs l hl
  | .tup cs, _, h0 => by simp only [VR] at h0; obtain ⟨l, e, hl⟩ := h0; exact VRs_bound cs l hl
  | .undef, _, _ => rfl
theorem VRs_bound : ∀ (l : List AV) (r : List Value), VRs W ρ n l r → unders n l = true
  | [], _, _ => rfl
  | a :: l, _, h0 => by
    simp only [VRs] at h0
    obtain ⟨x, r, e, hx, hr⟩ := h0
    have h1 := VR_bound a x hx
    have h2 := VRs_bound l r hr
    simp only [unders, leadss, AV.under] at h1 h2 ⊢
    simp [h1, h2]
end
theorem VRs_iff : ∀ (l : List AV) (r : List Value), VRs W ρ n l r ↔ (l.length = r.length ∧ ∀ (j : Nat) (v : AV) (x : Value), l[j]? = some v → r[j]? = some x → VR W ρ n v x)
  | [], r => by simp [VRs, eq_comm]
  | a :: l, r => by
    simp only [VRs]
    constructor
    · rintro ⟨x, r, rfl, hx, hr⟩
      obtain ⟨hl, hj⟩ := (VRs_iff l r).1 hr
      refine ⟨by simp [hl], fun j v y h1 h2 => ?_⟩
      cases j with
      | zero => simp at h1 h2; subst h1; subst h2; exact hx
      | succ j => simp at h1 h2; exact hj j v y h1 h2
    · rintro ⟨hl, hj⟩
      cases r with
      | nil => simp at hl
      | cons x r => exact ⟨x, r, rfl, hj 0 a x rfl rfl, (VRs_iff l r).2 ⟨by simpa using hl, fun j v y h1 h2 => hj (j + 1) v y (by simpa using h1) (by simpa using h2)⟩⟩
theorem VRs_length {l : List AV} {r : List Value} (h : VRs W ρ n l r) : l.length = r.length := ((VRs_iff l r).1 h).1
theorem VRs_get {l : List AV} {r : List Value} (h : VRs W ρ n l r) {j : Nat} {v : AV} (hv : l[j]? = some v) : ∃ x, r[j]? = some x ∧ VR W ρ n v x := by
  obtain ⟨hl, hj⟩ := (VRs_iff l r).1 h
  have : j < r.length := by rw [← hl]; exact (List.getElem?_eq_some_iff.1 hv).1
  exact ⟨r[j], List.getElem?_eq_getElem this, hj j v _ hv (List.getElem?_eq_getElem this)⟩
theorem VRs_append {l l' : List AV} {r r' : List Value} (h : VRs W ρ n l r) (h' : VRs W ρ n l' r') : VRs W ρ n (l ++ l') (r ++ r') := by
  induction l generalizing r with
  | nil => simp only [VRs] at h; subst h; simpa using h'
  | cons a l ih =>
    simp only [VRs] at h
    obtain ⟨x, r, rfl, hx, hr⟩ := h
    simp only [List.cons_append, VRs]
    exact ⟨x, _, rfl, hx, ih hr⟩
theorem VRs_take {l : List AV} {r : List Value} (h : VRs W ρ n l r) (k : Nat) : VRs W ρ n (l.take k) (r.take k) := by
  rw [VRs_iff] at h ⊢
  refine ⟨by simp [h.1], fun j v x h1 h2 => ?_⟩
  simp only [List.getElem?_take] at h1 h2
  split at h1
  · rename_i hj; rw [if_pos hj] at h2; exact h.2 j v x h1 h2
  · simp at h1
theorem VRs_drop {l : List AV} {r : List Value} (h : VRs W ρ n l r) (k : Nat) : VRs W ρ n (l.drop k) (r.drop k) := by
  rw [VRs_iff] at h ⊢
  refine ⟨by simp [h.1], fun j v x h1 h2 => ?_⟩
  simp only [List.getElem?_drop] at h1 h2
  exact h.2 _ v x h1 h2
theorem VRs_set {l : List AV} {r : List Value} (h : VRs W ρ n l r) (k : Nat) {v : AV} {x : Value} (hv : VR W ρ n v x) : VRs W ρ n (l.set k v) (r.set k x) := by
  rw [VRs_iff] at h ⊢
  refine ⟨by simp [h.1], fun j u y h1 h2 => ?_⟩
  rw [List.getElem?_set] at h1 h2
  split at h1
  · rename_i hk
    subst hk
    rw [if_pos rfl] at h2
    split at h1 <;> split at h2 <;> simp at h1 h2
    subst h1; subst h2; exact hv
  · rename_i hk
    rw [if_neg hk] at h2
    exact h.2 j u y h1 h2
theorem CR_iff (a : Addr) : ∀ (i : Nat) (l : List AV), CR W ρ n a i l ↔ ∀ (j : Nat) (v : AV), l[j]? = some v → ∃ x, W.cell? (a.add (i + j)) = some x ∧ VR W ρ n v x ∧ v.one = true
  | i, [] => by simp [CR]
  | i, v :: l => by
    simp only [CR]
    rw [CR_iff a (i + 1) l]
    constructor
    · rintro ⟨h0, h1⟩ j u hj
      cases j with
      | zero => simp at hj; subst hj; simpa using h0
      | succ j =>
        simp at hj
        have := h1 j u hj
        rwa [show i + 1 + j = i + (j + 1) by omega] at this
    · intro h
      refine ⟨by simpa using h 0 v rfl, fun j u hj => ?_⟩
      have := h (j + 1) u (by simpa using hj)
      rwa [show i + (j + 1) = i + 1 + j by omega] at this
theorem VR_one {v : AV} {x : Value} (h : VR W ρ n v x) (h1 : v.one = true) : x.oneCell' = true := by
  cases v <;> simp only [AV.one, Bool.false_eq_true] at h1 <;> simp only [VR] at h
  all_goals first
    | (subst h; rfl)
    | (obtain ⟨_, rfl⟩ := h; rfl)
    | (obtain ⟨a, rfl, _⟩ := h; rfl)
    | (obtain ⟨_, a, c, rfl, _⟩ := h; rfl)
    | (obtain ⟨a, c, rfl, _⟩ := h; rfl)
theorem add_add' (a : Addr) (i j : Nat) : (a.add i).add j = a.add (i + j) := by
  unfold Addr.add
  by_cases hi : i = 0 <;> by_cases hj : j = 0 <;> simp [hi, hj, Nat.add_assoc]
theorem add_mk (b o j : Nat) : (⟨b, o, none⟩ : Addr).add j = ⟨b, o + j, none⟩ := by unfold Addr.add; split <;> simp_all
theorem CR_drop {a : Addr} {l : List AV} (h : CR W ρ n a 0 l) (k : Nat) : CR W ρ n (a.add k) 0 (l.drop k) := by
  rw [CR_iff] at h ⊢
  intro j v hj
  rw [List.getElem?_drop] at hj
  have := h _ v hj
  rw [add_add', Nat.zero_add]
  rwa [Nat.zero_add] at this
theorem CR_take {a : Addr} {l : List AV} (h : CR W ρ n a 0 l) (k : Nat) : CR W ρ n a 0 (l.take k) := by
  rw [CR_iff] at h ⊢
  intro j v hj
  rw [List.getElem?_take] at hj
  split at hj
  · exact h j v hj
  · simp at hj
end

/-! ### The heap -/
/-- What is known of the frozen cells fr of a block of z cells of which a row knows those below m. -/
def Fz (rw : Bool) (fr : Nat × Nat) (m z : Nat) : Prop :=
  (appf = true → (rw = true → fr.1 = fr.2) ∧ (rw = false → fr.2 ≤ m)) ∧ (rw = true → ∀ i, i < z → ¬ (fr.1 ≤ i ∧ i < fr.2))
theorem Fz.zero {rw : Bool} {m z : Nat} : Fz rw (0, 0) m z := ⟨fun _ => ⟨fun _ => rfl, fun _ => Nat.zero_le _⟩, fun _ i _ => by simp⟩
theorem Fz.weak {rw : Bool} {fr : Nat × Nat} {m z : Nat} (ha : appf = false) (h : rw = true → ∀ i, i < z → ¬ (fr.1 ≤ i ∧ i < fr.2)) : Fz rw fr m z := ⟨fun h' => (by rw [ha] at h'; cases h'), h⟩
theorem Fz.more {rw : Bool} {fr : Nat × Nat} {m m' z : Nat} (h : Fz rw fr m z) (hm : rw = true ∨ appf = false ∨ m ≤ m') : Fz rw fr m' z := by
  refine ⟨fun ha => ⟨(h.1 ha).1, fun hr => ?_⟩, h.2⟩
  have := (h.1 ha).2 hr
  rcases hm with h1 | h1 | h1
  · rw [h1] at hr; cases hr
  · rw [h1] at ha; cases ha
  · omega
theorem Fz.not {rw : Bool} {fr : Nat × Nat} {m z o i : Nat} (h : Fz rw fr m z) (hrw : rw = true ∨ (appf = true ∧ m ≤ o)) (ho : o ≤ i) (hi : i < z) : ¬ (fr.1 ≤ i ∧ i < fr.2) := by
  rcases hrw with h1 | ⟨h1, h2⟩
  · exact h.2 h1 i hi
  · cases rw with
    | true => exact h.2 rfl i hi
    | false => have := (h.1 h1).2 rfl; omega
def OR (W : World) (ρ : Plan) (n : Nat) (o : AO) (s : Spot) (w : World) : Prop :=
  match o with
  | .cells l e rw => ∃ c fr, w.heap[s.b]? = some (.cells c e fr) ∧ c.size = s.z ∧ s.d + l.length ≤ s.z ∧
      (∀ j v, l[j]? = some v → ∃ x, c[s.d + j]? = some x ∧ VR W ρ n v x ∧ v.one = true) ∧ Fz rw fr (s.d + l.length) s.z ∧ (whole e = true → s.d = 0 ∧ s.z = l.length)
  | .raw l e => ∃ c fr, w.heap[s.b]? = some (.cells c e fr) ∧ c.size = s.z ∧ s.d + l.length ≤ s.z ∧
      (∀ j v, l[j]? = some v → ∃ x, c[s.d + j]? = some x ∧ VR W ρ n v x ∧ v.one = true) ∧ (∀ i, i < s.z → ¬ (fr.1 ≤ i ∧ i < fr.2)) ∧ whole e = false
  | .mp ks vs => ∃ es, w.heap[s.b]? = some (.map es es.size) ∧ ks.length = es.size ∧ vs.length = es.size ∧
      ∀ j (h : j < es.size), es[j].born = j ∧ (∀ k, ks[j]? = some k → VR W ρ n k es[j].key) ∧ (∀ v, vs[j]? = some v → VR W ρ n v es[j].val)
  | .iter t p => w.heap[s.b]? = some (.stringIter t p) ∧ s.d = 0
  | .dead => True
def live (H : Heap) (i : Nat) : Prop := ∃ o, H[i]? = some o ∧ o ≠ .dead
structure Rel (W : World) (ρ : Plan) (H : Heap) (w : World) : Prop where
  below : Below W.heap.size W w
  lo : ∀ i, live H i → W.heap.size ≤ (ρ i).b
  obj : ∀ i o, H[i]? = some o → OR W ρ H.length o (ρ i) w
  inj : ∀ i j, live H i → live H j → (ρ i).b = (ρ j).b → i = j
/-- One step, or many: what was and isn't known stays; new rows lie in new blocks, or in those of rows that were. -/
structure Stp (W : World) (ρ : Plan) (H : Heap) (w : World) (ρ' : Plan) (H' : Heap) (w' : World) : Prop where
  same : ∀ i, i < H.length → ρ' i = ρ i
  len : H.length ≤ H'.length
  size : w.heap.size ≤ w'.heap.size
  frame : ∀ b, b < w.heap.size → (∀ i, live H i → (ρ i).b ≠ b) → w'.heap[b]? = w.heap[b]?
  own : ∀ i, live H' i → w.heap.size ≤ (ρ' i).b ∨ ∃ j, live H j ∧ (ρ j).b = (ρ' i).b
  rel : Rel W ρ' H' w'

theorem live_lt {H : Heap} {i : Nat} (h : live H i) : i < H.length := by
  obtain ⟨o, ho, _⟩ := h
  exact (List.getElem?_eq_some_iff.1 ho).1
theorem OR_lt {W : World} {ρ : Plan} {n : Nat} {o : AO} {s : Spot} {w : World} (h : OR W ρ n o s w) (hd : o ≠ .dead) : s.b < w.heap.size := by
  cases o with
  | cells l e rw => obtain ⟨c, fr, hc, _⟩ := h; exact (Array.getElem?_eq_some_iff.1 hc).1
  | raw l e => obtain ⟨c, fr, hc, _⟩ := h; exact (Array.getElem?_eq_some_iff.1 hc).1
  | mp ks vs => obtain ⟨es, hc, _⟩ := h; exact (Array.getElem?_eq_some_iff.1 hc).1
  | iter t p => exact (Array.getElem?_eq_some_iff.1 h.1).1
  | dead => exact absurd rfl hd
theorem Rel.hi {W : World} {ρ : Plan} {H : Heap} {w : World} (h : Rel W ρ H w) {i : Nat} (hl : live H i) : (ρ i).b < w.heap.size := by
  obtain ⟨o, ho, hd⟩ := hl
  exact OR_lt (h.obj i o ho) hd
theorem Stp.refl {W : World} {ρ : Plan} {H : Heap} {w : World} (h : Rel W ρ H w) : Stp W ρ H w ρ H w :=
  ⟨fun _ _ => rfl, Nat.le_refl _, Nat.le_refl _, fun _ _ _ => rfl, fun i hi => .inr ⟨i, hi, rfl⟩, h⟩
theorem Stp.trans {W : World} {ρ ρ1 ρ2 : Plan} {H H1 H2 : Heap} {w w1 w2 : World} (h : Stp W ρ H w ρ1 H1 w1) (k : Stp W ρ1 H1 w1 ρ2 H2 w2) : Stp W ρ H w ρ2 H2 w2 where
  same i hi := (k.same i (Nat.lt_of_lt_of_le hi h.len)).trans (h.same i hi)
  len := Nat.le_trans h.len k.len
  size := Nat.le_trans h.size k.size
  frame b hb hn := by
    refine (k.frame b (Nat.lt_of_lt_of_le hb h.size) fun i hi he => ?_).trans (h.frame b hb hn)
    rcases h.own i hi with h1 | ⟨j, hj, h1⟩
    · omega
    · exact hn j hj (h1.trans he)
  own i hi := by
    rcases k.own i hi with h1 | ⟨j, hj, h1⟩
    · exact .inl (Nat.le_trans h.size h1)
    · rcases h.own j hj with h2 | ⟨l, hl, h2⟩
      · exact .inl (by omega)
      · exact .inr ⟨l, hl, h2.trans h1⟩
  rel := k.rel
/-- A row is as it was where its block is. -/
theorem OR_same {W : World} {ρ ρ' : Plan} {n m : Nat} {o : AO} {s : Spot} {w w' : World} (h : OR W ρ n o s w) (hρ : ∀ i, i < n → ρ' i = ρ i) (hn : n ≤ m) (hb : o ≠ .dead → w'.heap[s.b]? = w.heap[s.b]?) : OR W ρ' m o s w' := by
  cases o with
  | cells l e rw =>
    obtain ⟨c, fr, hc, hz, hl, hv, hf⟩ := h
    exact ⟨c, fr, by rw [hb (by simp)]; exact hc, hz, hl, fun j v hj => let ⟨x, h1, h2, h3⟩ := hv j v hj; ⟨x, h1, VR_mono hρ hn v x h2, h3⟩, hf⟩
  | raw l e =>
    obtain ⟨c, fr, hc, hz, hl, hv, hf⟩ := h
    exact ⟨c, fr, by rw [hb (by simp)]; exact hc, hz, hl, fun j v hj => let ⟨x, h1, h2, h3⟩ := hv j v hj; ⟨x, h1, VR_mono hρ hn v x h2, h3⟩, hf⟩
  | mp ks vs =>
    obtain ⟨es, hc, h1, h2, h3⟩ := h
    exact ⟨es, by rw [hb (by simp)]; exact hc, h1, h2, fun j hj => ⟨(h3 j hj).1, fun k hk => VR_mono hρ hn k _ ((h3 j hj).2.1 k hk), fun v hv => VR_mono hρ hn v _ ((h3 j hj).2.2 v hv)⟩⟩
  | iter t p => exact ⟨by rw [hb (by simp)]; exact h.1, h.2⟩
  | dead => trivial

/-- One block more, and nothing else. -/
structure OneMore (w w' : World) : Prop where
  size : w'.heap.size = w.heap.size + 1
  os : w'.os = w.os
  tape : w'.tape = w.tape
  output : w'.output = w.output
  old : ∀ b, b < w.heap.size → w'.heap[b]? = w.heap[b]?
theorem OneMore.push (w : World) (ob : Obj) : OneMore w { w with heap := w.heap.push ob } :=
  ⟨by simp, rfl, rfl, rfl, fun b hb => by simp [Array.getElem?_push, show b ≠ w.heap.size by omega]⟩
/-- A new block. -/
theorem stp_push {W : World} {ρ ρ' : Plan} {H : Heap} {w w' : World} (h : Rel W ρ H w) (hsame : ∀ i, i < H.length → ρ' i = ρ i) (hb : (ρ' H.length).b = w.heap.size) {o : AO} (hm : OneMore w w')
    (hn : OR W ρ' (H.length + 1) o (ρ' H.length) w') : Stp W ρ H w ρ' (H ++ [o]) w' := by
  have hold := hm.old
  have hsz := hm.size
  have hlive : ∀ i, live (H ++ [o]) i → i = H.length ∨ live H i := fun i ⟨o, ho, hd⟩ => by
    rcases Nat.lt_or_ge i H.length with h1 | h1
    · rw [List.getElem?_append_left h1] at ho; exact .inr ⟨o, ho, hd⟩
    · have := (List.getElem?_eq_some_iff.1 ho).1; simp at this; exact .inl (by omega)
  refine ⟨hsame, by simp, by omega, fun b hb _ => hold b hb, fun i hi => ?_, ⟨?_, fun i hi => ?_, fun i o ho => ?_, fun i j hi hj hij => ?_⟩⟩
  · rcases hlive i hi with rfl | h1
    · exact .inl (by omega)
    · exact .inr ⟨i, h1, by rw [hsame i (live_lt h1)]⟩
  · exact ⟨hm.os.trans h.below.os, hm.tape.trans h.below.tape, hm.output.trans h.below.output, by have := h.below.size; omega, fun k hk => by rw [hold k (Nat.lt_of_lt_of_le hk h.below.size)]; exact h.below.block k hk⟩
  · rcases hlive i hi with rfl | h1
    · rw [hb]; exact h.below.size
    · rw [hsame i (live_lt h1)]; exact h.lo i h1
  · rcases Nat.lt_or_ge i H.length with h1 | h1
    · rw [List.getElem?_append_left h1] at ho
      rw [hsame i h1]
      exact OR_same (h.obj i o ho) hsame (by simp) (fun hd => hold _ (OR_lt (h.obj i o ho) hd))
    · have h2 := (List.getElem?_eq_some_iff.1 ho).1
      simp at h2
      obtain rfl : i = H.length := by omega
      simp at ho
      subst ho
      simpa using hn
  · rcases hlive i hi with rfl | h1 <;> rcases hlive j hj with rfl | h2
    · rfl
    · rw [hsame j (live_lt h2), hb] at hij; have := h.hi h2; omega
    · rw [hsame i (live_lt h1), hb] at hij; have := h.hi h1; omega
    · rw [hsame i (live_lt h1), hsame j (live_lt h2)] at hij; exact h.inj i j h1 h2 hij
def Plan.ext (ρ : Plan) (n : Nat) (s : Spot) : Plan := fun i => if i = n then s else ρ i
theorem Plan.ext_lt {ρ : Plan} {n : Nat} {s : Spot} : ∀ i, i < n → ρ.ext n s i = ρ i := fun i hi => by simp [Plan.ext, show i ≠ n by omega]
theorem Plan.ext_at {ρ : Plan} {n : Nat} {s : Spot} : ρ.ext n s n = s := by simp [Plan.ext]
/-- A new block of cells, of which some are known. -/
theorem stp_new {W : World} {ρ : Plan} {H : Heap} {w : World} (h : Rel W ρ H w) {l : List AV} {c : Array Value} {e : TypeId}
    (hl : l.length ≤ c.size) (hv : ∀ (j : Nat) (v : AV), l[j]? = some v → ∃ x, c[j]? = some x ∧ VR W ρ H.length v x ∧ v.one = true) (rw : Bool) (hwh : whole e = true → l.length = c.size) :
    Stp W ρ H w (ρ.ext H.length ⟨w.heap.size, 0, c.size⟩) (H ++ [.cells l e rw]) { w with heap := w.heap.push (.cells c e) } := by
  refine stp_push h Plan.ext_lt (by rw [Plan.ext_at]) (.push _ _) ?_
  rw [Plan.ext_at]
  refine ⟨c, (0, 0), by simp, rfl, by simpa using hl, fun j v hj => ?_, .zero, fun h => ⟨rfl, (hwh h).symm⟩⟩
  obtain ⟨x, h3, h4, h5⟩ := hv j v hj
  exact ⟨x, by simpa using h3, VR_mono Plan.ext_lt (by simp) v x h4, h5⟩

/-- A row that stands is another one now, in the same block; nothing else turns. -/
theorem stp_set {W : World} {ρ : Plan} {H : Heap} {w w' : World} (h : Rel W ρ H w) {o : Nat} {x x' : AO} (hx : H[o]? = some x) (hd : x ≠ .dead)
    (hs : w'.heap.size = w.heap.size) (hos : w'.os = w.os) (ht : w'.tape = w.tape) (hou : w'.output = w.output) (hb : ∀ b, b ≠ (ρ o).b → w'.heap[b]? = w.heap[b]?) (hn : OR W ρ H.length x' (ρ o) w') :
    Stp W ρ H w ρ (H.set o x') w' := by
  have hlo := h.lo o ⟨x, hx, hd⟩
  have ho : o < H.length := (List.getElem?_eq_some_iff.1 hx).1
  have hlive : ∀ i, live (H.set o x') i → live H i := fun i ⟨y, hy, hy'⟩ => by
    rw [List.getElem?_set] at hy
    split at hy
    · rename_i he; subst he; exact ⟨x, hx, hd⟩
    · exact ⟨y, hy, hy'⟩
  refine ⟨fun _ _ => rfl, by simp, by omega, fun b _ hnb => hb b (fun he => hnb o ⟨x, hx, hd⟩ he.symm), fun i hi => .inr ⟨i, hlive i hi, rfl⟩, ⟨⟨hos.trans h.below.os, ht.trans h.below.tape, hou.trans h.below.output, by have := h.below.size; omega, fun k hk => ?_⟩, fun i hi => h.lo i (hlive i hi), fun i y hy => ?_, fun i j hi hj => h.inj i j (hlive i hi) (hlive j hj)⟩⟩
  · rw [hb k (by omega)]; exact h.below.block k hk
  · rw [List.length_set]
    rw [List.getElem?_set] at hy
    split at hy
    · rename_i he
      subst he
      simp [ho] at hy
      subst hy
      exact hn
    · rename_i he
      refine OR_same (h.obj i y hy) (fun _ _ => rfl) (Nat.le_refl _) (fun hyd => hb _ fun heq => he (h.inj o i ⟨x, hx, hd⟩ ⟨y, hy, hyd⟩ heq.symm))
/-- Of a heap some rows may be forgotten. -/
theorem Rel.kill {W : World} {ρ : Plan} {H : Heap} {w : World} (h : Rel W ρ H w) (o : Nat) : Rel W ρ (H.set o .dead) w := by
  have hlive : ∀ i, live (H.set o .dead) i → live H i := fun i ⟨y, hy, hy'⟩ => by
    rw [List.getElem?_set] at hy
    split at hy
    · split at hy <;> simp at hy; exact absurd hy.symm hy'
    · exact ⟨y, hy, hy'⟩
  refine ⟨h.below, fun i hi => h.lo i (hlive i hi), fun i y hy => ?_, fun i j hi hj => h.inj i j (hlive i hi) (hlive j hj)⟩
  rw [List.length_set]
  rw [List.getElem?_set] at hy
  split at hy
  · split at hy <;> simp at hy; subst hy; trivial
  · exact h.obj i y hy
end Go.Den

/- Loading, storing and growing rows: the model's runs against the abstract heap's. -/
set_option linter.unusedVariables false
set_option linter.unusedSimpArgs false
namespace Go.Den
open Go.RowKit (Below)

section
variable {P : Program} {W : World} {ρ : Plan} {H : Heap} {w : World}

/-- Cells that are told, as a list. -/
theorem cells_list {n : Nat} {l : List AV} {a : Addr} (h : ∀ (j : Nat) (v : AV), l[j]? = some v → ∃ x, w.cell? (a.add j) = some x ∧ VR W ρ n v x ∧ v.one = true) :
    ∃ xs : List Value, VRs W ρ n l xs ∧ xs.length = l.length ∧ (∀ (j : Nat) (x : Value), xs[j]? = some x → w.cell? (a.add j) = some x) ∧ (∀ x ∈ xs, x.oneCell' = true) ∧ l.all AV.one = true := by
  have hx : ∀ j, (hj : j < l.length) → ∃ x, w.cell? (a.add j) = some x ∧ VR W ρ n l[j] x ∧ l[j].one = true := fun j hj => h j _ (List.getElem?_eq_getElem hj)
  refine ⟨(List.range l.length).map fun j => (w.cell? (a.add j)).getD undef, ?_, by simp, ?_, ?_, ?_⟩
  · rw [VRs_iff]
    refine ⟨by simp, fun j v x h1 h2 => ?_⟩
    have hj := (List.getElem?_eq_some_iff.1 h1).1
    obtain ⟨y, h3, h4, _⟩ := h j v h1
    simp [hj, h3] at h2
    subst h2
    exact h4
  · intro j x hj
    have h1 := (List.getElem?_eq_some_iff.1 hj).1
    simp at h1
    obtain ⟨y, h3, _⟩ := hx j h1
    simp [h1, h3] at hj
    subst hj
    exact h3
  · intro x hx'
    simp at hx'
    obtain ⟨j, hj, rfl⟩ := hx'
    obtain ⟨y, h3, h4, h5⟩ := hx j hj
    rw [h3]
    exact VR_one h4 h5
  · rw [List.all_eq_true]
    intro v hv
    obtain ⟨j, hj, rfl⟩ := List.getElem_of_mem hv
    obtain ⟨y, _, _, h5⟩ := hx j hj
    exact h5

theorem cell_at {b i : Nat} {c : Array Value} {e : TypeId} {fr : Nat × Nat} (h : w.heap[b]? = some (.cells c e fr)) : w.cell? ⟨b, i, none⟩ = c[i]? := by simp [World.cell?, h]

theorem aload_ok (h : Rel W ρ H w) {p : AV} {x : Value} (hp : VR W ρ H.length p x) {k : Nat} {l : List AV} (hl : aload H k p = some l) :
    ∃ a xs, x = .pointer (some a) ∧ VRs W ρ H.length l xs ∧ l.length = k ∧ xs.length = k ∧ (∀ (j : Nat) (x : Value), xs[j]? = some x → w.cell? (a.add j) = some x) ∧ (∀ x ∈ xs, x.oneCell' = true) ∧ l.all AV.one = true := by
  cases p <;> simp only [aload] at hl <;> try (cases hl; done)
  case ptr o off =>
    simp only [VR] at hp
    obtain ⟨ho, rfl⟩ := hp
    cases hL : arow H o with
    | none => simp [hL] at hl
    | some L =>
      simp only [hL] at hl
      split at hl <;> simp at hl
      rename_i hk
      subst hl
      obtain ⟨c, e, fr, hc, hz, hd, hv⟩ : ∃ (c : Array Value) (e : TypeId) (fr : Nat × Nat), w.heap[(ρ o).b]? = some (.cells c e fr) ∧ c.size = (ρ o).z ∧ (ρ o).d + L.length ≤ (ρ o).z ∧
          ∀ j v, L[j]? = some v → ∃ x, c[(ρ o).d + j]? = some x ∧ VR W ρ H.length v x ∧ v.one = true := by
        unfold arow at hL
        split at hL <;> simp at hL
        · subst hL
          rename_i hH
          obtain ⟨c, fr, hc, hz, hd, hv, _⟩ := h.obj o _ hH
          exact ⟨c, _, fr, hc, hz, hd, hv⟩
        · subst hL
          rename_i hH
          obtain ⟨c, fr, hc, hz, hd, hv, _⟩ := h.obj o _ hH
          exact ⟨c, _, fr, hc, hz, hd, hv⟩
      have key : ∀ (j : Nat) (v : AV), ((L.drop off).take k)[j]? = some v → ∃ x, w.cell? ((⟨(ρ o).b, (ρ o).d + off, none⟩ : Addr).add j) = some x ∧ VR W ρ H.length v x ∧ v.one = true := by
        intro j v hj
        rw [List.getElem?_take] at hj
        split at hj
        · rw [List.getElem?_drop] at hj
          obtain ⟨x, h1, h2, h3⟩ := hv _ v hj
          exact ⟨x, by rw [add_mk, cell_at hc, Nat.add_assoc]; exact h1, h2, h3⟩
        · simp at hj
      obtain ⟨xs, h1, h2, h3, h4, h5⟩ := cells_list key
      have hlen : ((L.drop off).take k).length = k := by simp; omega
      exact ⟨_, xs, rfl, h1, hlen, by omega, h3, h4, h5⟩
  case pv L =>
    simp only [VR] at hp
    obtain ⟨a, rfl, hc⟩ := hp
    split at hl <;> simp at hl
    rename_i hk
    subst hl
    have hc' := CR_take hc k
    rw [CR_iff] at hc'
    have key : ∀ (j : Nat) (v : AV), (L.take k)[j]? = some v → ∃ x, w.cell? (a.add j) = some x ∧ VR W ρ H.length v x ∧ v.one = true := by
      intro j v hj
      obtain ⟨x, h1, h2, h3⟩ := hc' j v hj
      rw [Nat.zero_add] at h1
      exact ⟨x, by rw [h.below.cell (World.block_lt_of_cell? W _ h1)]; exact h1, VR_mono (fun i hi => absurd hi (Nat.not_lt_zero i)) (Nat.zero_le _) v x h2, h3⟩
    obtain ⟨xs, h1, h2, h3, h4, h5⟩ := cells_list key
    have hlen : (L.take k).length = k := by simp; omega
    exact ⟨_, xs, rfl, h1, hlen, by omega, h3, h4, h5⟩

theorem run_loadCells_xs {a : Addr} {xs : List Value} {k : Nat} (hk : xs.length = k) (h : ∀ (j : Nat) (x : Value), xs[j]? = some x → w.cell? (a.add j) = some x) : (loadCells a k).run P w = .ok xs.toArray w := by
  subst hk
  exact run_loadCells_list w a xs h

/-! ### Stores -/
structure SetTo (b : Nat) (w w' : World) : Prop where
  size : w'.heap.size = w.heap.size
  os : w'.os = w.os
  tape : w'.tape = w.tape
  output : w'.output = w.output
  other : ∀ k, k ≠ b → w'.heap[k]? = w.heap[k]?
theorem setCells_heap (b : Nat) (e : TypeId) (fr : Nat × Nat) : ∀ (xs : List Value) (o : Nat) (w : World) (c : Array Value), w.heap[b]? = some (.cells c e fr) →
    ∃ c', (w.setCells b o xs).heap[b]? = some (.cells c' e fr) ∧ c'.size = c.size ∧ (∀ j, c'[j]? = if o ≤ j ∧ j < o + xs.length ∧ j < c.size then xs[j - o]? else c[j]?) ∧ SetTo b w (w.setCells b o xs)
  | [], o, w, c, h => ⟨c, by simpa [World.setCells] using h, rfl, fun j => by rw [if_neg (by simp; omega)], ⟨rfl, rfl, rfl, rfl, fun _ _ => rfl⟩⟩
  | x :: xs, o, w, c, h => by
    have hb : (w.setCell ⟨b, o, none⟩ x).heap[b]? = some (.cells (c.setIfInBounds o x) e fr) := by
      simp [World.setCell, Array.getElem?_modify, h]
    obtain ⟨c', h1, h2, h3, h4⟩ := setCells_heap b e fr xs (o + 1) _ _ hb
    refine ⟨c', by simpa [World.setCells] using h1, by simpa using h2, fun j => ?_, ?_⟩
    · rw [h3 j]
      simp only [Array.size_setIfInBounds, List.length_cons]
      by_cases hj : o + 1 ≤ j ∧ j < o + 1 + xs.length ∧ j < c.size
      · rw [if_pos hj, if_pos (by omega)]
        rw [show j - o = (j - (o + 1)) + 1 by omega, List.getElem?_cons_succ]
      · rw [if_neg hj]
        by_cases hjo : o = j
        · subst hjo
          by_cases hs : o < c.size
          · rw [if_pos (by omega)]; simp [Array.getElem?_setIfInBounds, hs]
          · rw [if_neg (by omega)]; simp [Array.getElem?_setIfInBounds, hs]
        · rw [if_neg (by omega), Array.getElem?_setIfInBounds_ne hjo]
    · refine ⟨?_, ?_, ?_, ?_, fun k hk => ?_⟩
      · simpa [World.setCells, World.setCell] using h4.size
      · simpa [World.setCells, World.setCell] using h4.os
      · simpa [World.setCells, World.setCell] using h4.tape
      · simpa [World.setCells, World.setCell] using h4.output
      · have := h4.other k hk
        simp only [World.setCells]
        rw [this]
        simp [World.setCell, Array.getElem?_modify, Ne.symm hk]

theorem splice_length {l vs : List AV} {off : Nat} (h : off + vs.length ≤ l.length) : (splice l off vs).length = l.length := by
  simp [splice]; omega
theorem splice_get {l vs : List AV} {off : Nat} (h : off + vs.length ≤ l.length) (j : Nat) : (splice l off vs)[j]? = if off ≤ j ∧ j < off + vs.length then vs[j - off]? else l[j]? := by
  unfold splice
  by_cases h1 : j < off
  · rw [if_neg (by omega), List.append_assoc, List.getElem?_append_left (by simp; omega)]
    simp [h1]
  · by_cases h2 : j < off + vs.length
    · rw [if_pos (by omega), List.append_assoc, List.getElem?_append_right (by simp; omega), List.getElem?_append_left (by simp; omega)]
      congr 1
      simp; omega
    · rw [if_neg (by omega), List.append_assoc, List.getElem?_append_right (by simp; omega), List.getElem?_append_right (by simp; omega), List.getElem?_drop]
      congr 1
      simp; omega

/-- Cells written into a block that a row knows from its first cell on. -/
theorem write_ok {n : Nat} {L vs : List AV} {e : TypeId} {rw : Bool} {s : Spot} (h : OR W ρ n (.cells L e rw) s w) {xs : List Value} {o : Nat} (hrw : rw = true ∨ (appf = true ∧ L.length ≤ o)) (hz : s.d + o + xs.length ≤ s.z) (hx : ∀ x ∈ xs, x.oneCell' = true) :
    (storeCells ⟨s.b, s.d + o, none⟩ xs).run P w = .ok () (w.setCells s.b (s.d + o) xs) ∧ SetTo s.b w (w.setCells s.b (s.d + o) xs) ∧
    ∃ c fr c', w.heap[s.b]? = some (.cells c e fr) ∧ c.size = s.z ∧ (w.setCells s.b (s.d + o) xs).heap[s.b]? = some (.cells c' e fr) ∧ c'.size = s.z ∧
      (∀ j, c'[j]? = if s.d + o ≤ j ∧ j < s.d + o + xs.length then xs[j - (s.d + o)]? else c[j]?) ∧ Fz rw fr (s.d + L.length) s.z := by
  obtain ⟨c, fr, hc, hcz, hl, hv, hf⟩ := h
  obtain ⟨c', h1, h2, h3, h4⟩ := setCells_heap s.b e fr xs (s.d + o) w c hc
  refine ⟨?_, h4, c, fr, c', hc, hcz, h1, by omega, fun j => ?_, hf.1⟩
  · have := run_storeCells_cells (P := P) s.b (s.d + o) xs 0 w (fun j hj => ?_) (fun j hj => ?_) hx
    · simpa using this
    · rw [Nat.add_zero, cell_at hc, Array.getElem?_eq_getElem (by omega)]; rfl
    · have := hf.1.not (o := s.d + o) (hrw.imp id fun h => ⟨h.1, Nat.add_le_add_left h.2 _⟩) (i := s.d + o + j) (by omega) (by omega)
      simp [World.frozen?, hc]
      intro h5
      omega
  · rw [h3 j]
    by_cases hj : s.d + o ≤ j ∧ j < s.d + o + xs.length
    · rw [if_pos (by omega), if_pos hj]
    · rw [if_neg (by omega), if_neg hj]

theorem astore_ok (h : Rel W ρ H w) {p : AV} {x : Value} (hp : VR W ρ H.length p x) {vs : List AV} {xs : List Value} (hvs : VRs W ρ H.length vs xs) {H' : Heap} (hs : astore H p vs = some H') :
    ∃ a w', x = .pointer (some a) ∧ (storeCells a xs).run P w = .ok () w' ∧ Stp W ρ H w ρ H' w' := by
  cases p <;> simp only [astore] at hs <;> try (cases hs; done)
  case ptr o off =>
    simp only [VR] at hp
    obtain ⟨ho, rfl⟩ := hp
    split at hs <;> try (cases hs; done)
    case h_2 L e hH =>
      split at hs <;> simp at hs
      rename_i hk
      subst hs
      have hlen := VRs_length hvs
      obtain ⟨c, fr, hc, hcz, hl, hv, hfz, hwe⟩ := h.obj o _ hH
      have hone : ∀ x ∈ xs, x.oneCell' = true := by
        intro x hx
        obtain ⟨j, hj, rfl⟩ := List.getElem_of_mem hx
        have hj' : j < vs.length := by omega
        have h1 := ((VRs_iff vs xs).1 hvs).2 j vs[j] xs[j] (List.getElem?_eq_getElem hj') (List.getElem?_eq_getElem hj)
        exact VR_one h1 (by have := hk.2; rw [List.all_eq_true] at this; exact this _ (List.getElem_mem hj'))
      obtain ⟨c', h1, h2, h3, h4⟩ := setCells_heap (ρ o).b e fr xs ((ρ o).d + off) w c hc
      have hrun : (storeCells ⟨(ρ o).b, (ρ o).d + off, none⟩ xs).run P w = .ok () (w.setCells (ρ o).b ((ρ o).d + off) xs) := by
        have := run_storeCells_cells (P := P) (ρ o).b ((ρ o).d + off) xs 0 w (fun j hj => ?_) (fun j hj => ?_) hone
        · simpa using this
        · rw [Nat.add_zero, cell_at hc, Array.getElem?_eq_getElem (by omega)]; rfl
        · have := hfz ((ρ o).d + off + j) (by omega)
          simp [World.frozen?, hc]
          intro h5
          omega
      refine ⟨_, _, rfl, hrun, stp_set h hH (by simp) h4.size h4.os h4.tape h4.output h4.other ?_⟩
      refine ⟨c', fr, h1, by omega, by rw [splice_length hk.1]; exact hl, fun j v hj => ?_, hfz, hwe⟩
      rw [splice_get hk.1] at hj
      rw [h3]
      split at hj
      · rename_i hj1
        obtain ⟨x, q1, q2⟩ := VRs_get hvs hj
        refine ⟨x, ?_, q2, ?_⟩
        · rw [if_pos (by omega), show (ρ o).d + j - ((ρ o).d + off) = j - off by omega]; exact q1
        · have := hk.2; rw [List.all_eq_true] at this; exact this v (List.mem_of_getElem? hj)
      · rename_i hj1
        obtain ⟨x, q1, q2, q3⟩ := hv j v hj
        exact ⟨x, by rw [if_neg (by omega)]; exact q1, q2, q3⟩
    rename_i L e hH
    split at hs <;> simp at hs
    rename_i hk
    subst hs
    have hlen := VRs_length hvs
    have hOR := h.obj o _ hH
    have hone : ∀ x ∈ xs, x.oneCell' = true := by
      intro x hx
      obtain ⟨j, hj, rfl⟩ := List.getElem_of_mem hx
      have hj' : j < vs.length := by omega
      have h1 := ((VRs_iff vs xs).1 hvs).2 j vs[j] xs[j] (List.getElem?_eq_getElem hj') (List.getElem?_eq_getElem hj)
      exact VR_one h1 (by have := hk.2; rw [List.all_eq_true] at this; exact this _ (List.getElem_mem hj'))
    have hzz : (ρ o).d + off + xs.length ≤ (ρ o).z := by
      obtain ⟨c, fr, _, _, hl, _⟩ := hOR
      omega
    obtain ⟨hrun, hset, c, fr, c', hc, hcz, hc', hcz', hget, hfr⟩ := write_ok (P := P) (vs := vs) hOR (o := off) (.inl rfl) hzz hone
    refine ⟨_, _, rfl, hrun, stp_set h hH (by simp) hset.size hset.os hset.tape hset.output hset.other ?_⟩
    obtain ⟨c0, fr0, hc0, _, hl, hv, _, hfw⟩ := hOR
    rw [hc] at hc0
    injection hc0 with hc0
    injection hc0 with hc0 _ hfr0
    subst hc0
    subst hfr0
    refine ⟨c', fr, hc', hcz', by rw [splice_length hk.1]; exact hl, fun j v hj => ?_, by rw [splice_length hk.1]; exact hfr, fun h => by rw [splice_length hk.1]; exact hfw h⟩
    rw [splice_get hk.1] at hj
    split at hj
    · rename_i hj1
      obtain ⟨x, h1, h2⟩ := VRs_get hvs hj
      refine ⟨x, ?_, h2, ?_⟩
      · rw [hget, if_pos (by omega), show (ρ o).d + j - ((ρ o).d + off) = j - off by omega]; exact h1
      · have := hk.2; rw [List.all_eq_true] at this; exact this v (List.mem_of_getElem? hj)
    · rename_i hj1
      obtain ⟨x, h1, h2, h3⟩ := hv j v hj
      exact ⟨x, by rw [hget, if_neg (by omega)]; exact h1, h2, h3⟩
end
end Go.Den

/- Each operation that the slim code takes: what the abstract machine says of it is what the model's run does. -/
set_option linter.unusedVariables false
set_option linter.unusedSimpArgs false
namespace Go.Den
open Go.RowKit (Below)

/-- The known tables hold what is said. -/
def GlobOk (W : World) : Prop := ∀ p ∈ globs, ∀ (i : Nat) (h : i < p.2.2.length), W.cell? ⟨p.1, i, none⟩ = some (.int p.2.1 p.2.2[i])
theorem GlobOk.below {W w : World} (h : GlobOk W) (hb : Below W.heap.size W w) : GlobOk w := fun p hp i hi => by
  have h1 := h p hp i hi
  have hlt : p.1 < W.heap.size := by
    refine Decidable.byContradiction fun hn => ?_
    simp [World.cell?, Array.getElem?_eq_none (Nat.le_of_not_lt hn)] at h1
  have h2 := hb.block p.1 hlt
  simp only [World.cell?] at h1 ⊢
  rw [h2]
  exact h1
theorem glob_cells {W : World} {ρ : Plan} {n : Nat} {g : Nat} {k : IntKind} : ∀ (l : List Int) (j : Nat), (∀ (i : Nat) (h : i < l.length), W.cell? ⟨g, j + i, none⟩ = some (.int k l[i])) → CR W ρ n ⟨g, 0, none⟩ j (l.map fun n => .int k n)
  | [], _, _ => by simp [CR]
  | x :: l, j, h => by
    simp only [List.map_cons, CR]
    have e : (⟨g, 0, none⟩ : Addr).add j = ⟨g, j, none⟩ := by unfold Addr.add; by_cases hj : j = 0 <;> simp [hj]
    refine ⟨⟨.int k x, by rw [e]; have := h 0 (by simp); simpa using this, by simp [VR], rfl⟩, glob_cells l (j + 1) fun i hi => ?_⟩
    have := h (i + 1) (by simpa using hi)
    rw [show j + 1 + i = j + (i + 1) by omega]
    simpa using this
structure AR (W : World) (ρ : Plan) (n : Nat) (t : List AV) (a : Act) : Prop where
  nod : a.defers = [] ∧ GlobOk W
  tmps : VRs W ρ n t a.tmps.toList

section
variable {P : Program} {W : World} {ρ : Plan} {H : Heap} {w : World} {t : List AV} {a : Act} {n : Nat}

theorem absV1_ok {v : Value} {av : AV} (h : absV1 v = some av) : VR W ρ n av v ∧ av.one = true := by
  unfold absV1 at h
  split at h <;> (try (cases h; done)) <;> (injection h with h; subst h; simp [VR, AV.one])
theorem absV1s_ok : ∀ {l : List Value} {m : List AV}, l.mapM absV1 = some m → VRs W ρ n m l
  | [], m, h => by simp at h; subst h; simp [VRs]
  | v :: l, m, h => by
    simp only [List.mapM_cons, Option.bind_eq_bind, Option.bind_eq_some_iff, Option.pure_def, Option.some.injEq] at h
    obtain ⟨x, hx, r, hr, rfl⟩ := h
    simp only [VRs]
    exact ⟨v, l, rfl, (absV1_ok hx).1, absV1s_ok hr⟩
theorem absV_ok {v : Value} {av : AV} (h : absV v = some av) : VR W ρ n av v := by
  unfold absV at h
  split at h
  · rename_i cs
    simp only [Option.map_eq_some_iff] at h
    obtain ⟨m, hm, rfl⟩ := h
    simp only [VR]
    exact ⟨cs.toList, by simp, absV1s_ok hm⟩
  · exact (absV1_ok h).1
theorem evx_ok (ha : AR W ρ n t a) {o : Operand} {s : SX} (h : slimX o = some s) : VR W ρ n (evx t s) (a.eval o) := by
  cases o with
  | tmp k =>
    simp only [slimX, Option.some.injEq] at h
    subst h
    simp only [evx, Act.eval]
    by_cases hk : k < t.length
    · obtain ⟨x, h1, h2⟩ := VRs_get ha.tmps (List.getElem?_eq_getElem hk)
      have h3 : a.tmps.getD k undef = x := by
        rw [Array.getElem?_toList] at h1
        simp [Array.getD_eq_getD_getElem?, h1]
      rw [h3]
      simpa [List.getD, hk] using h2
    · have hk' : a.tmps.size ≤ k := by have h9 := VRs_length ha.tmps; rw [Array.length_toList (xs := a.tmps)] at h9; exact Nat.le_trans (Nat.le_of_eq h9.symm) (Nat.le_of_not_lt hk)
      simp [List.getD, List.getElem?_eq_none (Nat.le_of_not_lt hk), VR, Array.getD_eq_getD_getElem?, Array.getElem?_eq_none hk']
  | const v =>
    simp only [slimX, Option.map_eq_some_iff] at h
    obtain ⟨av, h1, rfl⟩ := h
    exact absV_ok h1
  | global g =>
    simp only [slimX, Option.map_eq_some_iff] at h
    obtain ⟨p, hp, rfl⟩ := h
    have hg : p.1 = g := by simpa using List.find?_some hp
    have hc : CR W ρ 0 ⟨p.1, 0, none⟩ 0 (p.2.2.map fun n => .int p.2.1 n) := glob_cells p.2.2 0 fun i hi => by
      rw [Nat.zero_add]; exact ha.nod.2 p (List.mem_of_find?_eq_some hp) i hi
    simp only [evx, Act.eval, VR]
    exact ⟨_, by rw [hg], hc⟩
  | func f =>
    simp only [slimX, Option.some.injEq] at h
    subst h
    simp only [evx, Act.eval, VR, VRs]
    exact ⟨[], rfl, rfl⟩
theorem evxs_ok (ha : AR W ρ n t a) : ∀ {os : List Operand} {ss : List SX}, os.mapM slimX = some ss → VRs W ρ n (ss.map (evx t)) (os.map a.eval)
  | [], ss, h => by simp at h; subst h; simp [VRs]
  | o :: os, ss, h => by
    simp only [List.mapM_cons, Option.bind_eq_bind, Option.bind_eq_some_iff, Option.pure_def, Option.some.injEq] at h
    obtain ⟨x, hx, r, hr, rfl⟩ := h
    simp only [List.map_cons, VRs]
    exact ⟨_, _, rfl, evx_ok ha hx, evxs_ok ha hr⟩

/-- The operation runs, to this value and this heap. -/
def Fine (P : Program) (W : World) (ρ : Plan) (H : Heap) (w : World) (o : Oper) (a : Act) (v : AV) (H' : Heap) : Prop :=
  ∃ x w' ρ', ((execOp a.eval o).run P w = .ok (.value x) w' ∨ ((execOp a.eval o).run P w = .ok .skip w' ∧ x = undef)) ∧ Stp W ρ H w ρ' H' w' ∧ VR W ρ' H'.length v x
theorem fine_pure {o : Oper} {v : AV} {x : Value} (hr : Rel W ρ H w) (h : (execOp a.eval o).run P w = .ok (.value x) w) (hv : VR W ρ H.length v x) : Fine P W ρ H w o a v H :=
  ⟨x, w, ρ, .inl h, .refl hr, hv⟩

theorem run_underlying' {t : TypeId} {d : TypeDesc} (h : P.underlying t = some d) : (underlying t).run P w = .ok d w := by simp [underlying, h]
theorem run_typeInfo {t : TypeId} {i : TypeInfo} (h : P.info? t = some i) : (typeInfo t).run P w = .ok i w := by simp [typeInfo, h]
theorem run_sizeOf' {t : TypeId} {k : Nat} (h : sizeT P t = some k) : (sizeOf t).run P w = .ok k w := by
  simp only [sizeT, Option.map_eq_some_iff] at h
  obtain ⟨i, hi, rfl⟩ := h
  simp [sizeOf, typeInfo, hi]
theorem run_zeroValue {t : TypeId} {z : AV} (h : zeroT P t = some z) : ∃ x, (zeroValue t).run P w = .ok x w ∧ VR W ρ n z x := by
  simp only [zeroT, Option.bind_eq_some_iff] at h
  obtain ⟨i, hi, x, hx, hz⟩ := h
  exact ⟨x, by simp [zeroValue, typeInfo, hi, hx], absV_ok hz⟩
/-- a value's cells. -/
theorem cells_ok {v : AV} {x : Value} (h : VR W ρ n v x) (hv : v.cells.all AV.one = true) : VRs W ρ n v.cells x.cells.toList := by
  cases v <;> simp only [VR] at h <;> simp only [AV.cells, List.all_cons, AV.one, List.all_nil, Bool.and_true, Bool.false_eq_true] at hv ⊢
  case agg cs =>
    obtain ⟨l, rfl, hl⟩ := h
    simpa [Value.cells] using hl
  all_goals
    refine (?_ : VRs W ρ n [_] _)
    first
      | (subst h; simp [Value.cells, VRs, VR]; done)
      | (obtain ⟨h1, rfl⟩ := h; simp [Value.cells, VRs, VR, h1]; done)
      | (obtain ⟨a, rfl, h1⟩ := h; simp only [Value.cells, VRs, VR]; exact ⟨_, _, rfl, ⟨a, rfl, h1⟩, rfl⟩)
      | (obtain ⟨h0, a, c, rfl, h1⟩ := h; simp only [Value.cells, VRs, VR]; exact ⟨_, _, rfl, ⟨h0, a, c, rfl, h1⟩, rfl⟩)
      | (obtain ⟨a, c, rfl, h1⟩ := h; simp only [Value.cells, VRs, VR]; exact ⟨_, _, rfl, ⟨a, c, rfl, h1⟩, rfl⟩)
end

section
variable {P : Program} {W : World} {ρ : Plan} {H : Heap} {w : World} {t : List AV} {a : Act}
theorem op_move {o : Oper} {s : SO} {x : Operand} (ho : o.op = .move x ∨ o.op = .assign x) (hs : slimOp P o.op = some s) (hr : Rel W ρ H w) (ha : AR W ρ H.length t a) {v : AV} {H' : Heap} (he : aop (evx t) H s = some (v, H')) : Fine P W ρ H w o a v H' := by
  rcases ho with ho | ho <;> rw [ho] at hs <;> simp only [slimOp, Option.map_eq_some_iff] at hs <;> obtain ⟨sx, hx, rfl⟩ := hs <;> simp only [aop, Option.some.injEq, Prod.mk.injEq] at he <;> obtain ⟨rfl, rfl⟩ := he <;>
    exact fine_pure hr (by simp [execOp, ho]) (evx_ok ha hx)
theorem op_pick {o : Oper} {s : SO} {c x y : Operand} (ho : o.op = .pick c x y) (hs : slimOp P o.op = some s) (hr : Rel W ρ H w) (ha : AR W ρ H.length t a) {v : AV} {H' : Heap} (he : aop (evx t) H s = some (v, H')) : Fine P W ρ H w o a v H' := by
  rw [ho] at hs
  simp only [slimOp, Option.map_eq_some_iff, Option.bind_eq_some_iff] at hs
  obtain ⟨sc, hc, sx, hx, sy, hy, rfl⟩ := hs
  have h1 := evx_ok ha hc
  simp only [aop] at he
  split at he <;> (try (cases he; done)) <;> rename_i hb <;> rw [hb] at h1 <;> simp only [VR] at h1 <;> simp only [Option.some.injEq, Prod.mk.injEq] at he <;> obtain ⟨rfl, rfl⟩ := he
  · exact fine_pure hr (by simp [execOp, ho, h1, asBool]) (evx_ok ha hx)
  · exact fine_pure hr (by simp [execOp, ho, h1, asBool]) (evx_ok ha hy)
theorem anew_ok {e : TypeId} {l : List AV} {xs : List Value} (hr : Rel W ρ H w) (hl : VRs W ρ H.length l xs) {v : AV} {H' : Heap} (he : anew H l e = some (v, H')) :
    Stp W ρ H w (ρ.ext H.length ⟨w.heap.size, 0, xs.length⟩) H' { w with heap := w.heap.push (.cells xs.toArray e) } ∧ VR W (ρ.ext H.length ⟨w.heap.size, 0, xs.length⟩) H'.length v (.pointer (some ⟨w.heap.size, 0, none⟩)) := by
  unfold anew at he
  split at he <;> simp at he
  rename_i h1
  obtain ⟨rfl, rfl⟩ := he
  refine ⟨?_, ?_⟩
  · refine stp_new hr (c := xs.toArray) (by simp [VRs_length hl]) (fun j v hj => ?_) true (fun _ => by simp [VRs_length hl])
    obtain ⟨x, h2, h3⟩ := VRs_get hl hj
    exact ⟨x, by simpa using h2, h3, by rw [List.all_eq_true] at h1; exact h1 v (List.mem_of_getElem? hj)⟩
  · simp [VR, Plan.ext_at]
theorem anew_cells {H : Heap} {l : List AV} {e : TypeId} {r : AV × Heap} (h : anew H l e = some r) : l.all AV.one = true := by
  unfold anew at h
  split at h
  · assumption
  · cases h
theorem op_box {o : Oper} {s : SO} (ho : (∃ e x, o.op = .box e x) ∨ (∃ e, o.op = .alloc e)) (hs : slimOp P o.op = some s) (hr : Rel W ρ H w) (ha : AR W ρ H.length t a) {v : AV} {H' : Heap} (he : aop (evx t) H s = some (v, H')) : Fine P W ρ H w o a v H' := by
  rcases ho with ⟨e, x, ho⟩ | ⟨e, ho⟩ <;> rw [ho] at hs
  · simp only [slimOp, Option.map_eq_some_iff] at hs
    obtain ⟨sx, hx, rfl⟩ := hs
    simp only [aop] at he
    have h1 := cells_ok (evx_ok ha hx) (anew_cells he)
    obtain ⟨h2, h3⟩ := anew_ok hr h1 he
    refine ⟨_, _, _, .inl ?_, h2, h3⟩
    simp [execOp, ho, Instr.box, newVar, newRow]
  · simp only [slimOp, Option.map_eq_some_iff] at hs
    obtain ⟨z, hz, rfl⟩ := hs
    simp only [aop, evx] at he
    obtain ⟨x, hx, hv⟩ := run_zeroValue (P := P) (W := W) (ρ := ρ) (n := H.length) (w := w) hz
    have h1 := cells_ok hv (anew_cells he)
    obtain ⟨h2, h3⟩ := anew_ok hr h1 he
    refine ⟨_, _, _, .inl ?_, h2, h3⟩
    simp [execOp, ho, Instr.alloc, hx, newVar, newRow]
theorem op_load {o : Oper} {s : SO} {ty : TypeId} {p : Operand} (ho : o.op = .load ty p) (hs : slimOp P o.op = some s) (hr : Rel W ρ H w) (ha : AR W ρ H.length t a) {v : AV} {H' : Heap} (he : aop (evx t) H s = some (v, H')) : Fine P W ρ H w o a v H' := by
  rw [ho] at hs
  simp only [slimOp, Option.map_eq_some_iff, Option.bind_eq_some_iff] at hs
  obtain ⟨sh, hsh, sp, hp, rfl⟩ := hs
  simp only [aop, Option.bind_eq_some_iff, Option.map_eq_some_iff] at he
  obtain ⟨l, hl, u, hu, he⟩ := he
  obtain ⟨rfl, rfl⟩ := Prod.mk.inj he
  obtain ⟨ad, xs, h1, h2, h3, h4, h5, h6, h7⟩ := aload_ok hr (evx_ok ha hp) hl
  unfold shapeT at hsh
  split at hsh <;> (try (cases hsh; done))
  · rename_i i fs hi hu'
    injection hsh with hsh
    subst hsh
    simp only [shape, Option.some.injEq] at hu
    subst hu
    refine fine_pure hr (x := .agg xs.toArray) ?_ (by simp only [VR]; exact ⟨xs, rfl, h2⟩)
    have hl := run_loadCells_xs (P := P) h4 h5
    simp only [Option.getD_some] at hl
    simp [execOp, ho, h1, Instr.loadAt, Instr.sureAddr, loadVar, isAgg, run_underlying' hu', sizeOf, typeInfo, hi, hl]
  · rename_i i k e hi hu'
    injection hsh with hsh
    subst hsh
    simp only [shape, Option.some.injEq] at hu
    subst hu
    refine fine_pure hr (x := .agg xs.toArray) ?_ (by simp only [VR]; exact ⟨xs, rfl, h2⟩)
    have hl := run_loadCells_xs (P := P) h4 h5
    simp only [Option.getD_some] at hl
    simp [execOp, ho, h1, Instr.loadAt, Instr.sureAddr, loadVar, isAgg, run_underlying' hu', sizeOf, typeInfo, hi, hl]
  · rename_i i d hns hna hi hu'
    split at hsh <;> simp at hsh
    subst hsh
    simp only [shape] at hu
    simp only [Option.getD_none] at h3 h4
    match l, h3, xs, h4 with
    | [v0], _, [x0], _ =>
      simp only [one?, Option.some.injEq] at hu
      subst hu
      simp only [VRs] at h2
      obtain ⟨y, r, he, h2, _⟩ := h2
      injection he with he
      subst he
      have hc := h5 0 x0 rfl
      simp only [Addr.add, if_true] at hc
      refine fine_pure hr (x := x0) ?_ h2
      have hagg : (isAgg ty).run P w = .ok false w := by
        unfold isAgg
        simp only [Sem.run_bind, run_underlying' hu', Result.andThen_ok]
        first
          | rfl
          | (split
             · exact absurd rfl (hns _)
             · exact absurd rfl (hna _ _)
             · rfl)
      simp [execOp, ho, h1, Instr.loadAt, Instr.sureAddr, loadVar, hagg, hc]
theorem op_store {o : Oper} {s : SO} {ty : TypeId} {p x : Operand} (ho : o.op = .store ty p x) (hs : slimOp P o.op = some s) (hr : Rel W ρ H w) (ha : AR W ρ H.length t a) {v : AV} {H' : Heap} (he : aop (evx t) H s = some (v, H')) : Fine P W ρ H w o a v H' := by
  rw [ho] at hs
  simp only [slimOp, Option.map_eq_some_iff, Option.bind_eq_some_iff] at hs
  obtain ⟨k, hk, sp, hp, sx, hx, rfl⟩ := hs
  simp only [aop] at he
  split at he <;> simp only [Option.map_eq_some_iff, reduceCtorEq] at he
  rename_i hlen
  obtain ⟨H1, h1, he⟩ := he
  obtain ⟨rfl, rfl⟩ := Prod.mk.inj he
  have hone : (evx t sx).cells.all AV.one = true := by
    unfold astore at h1
    split at h1 <;> (try (cases h1; done))
    split at h1 <;> (try (cases h1; done)) <;> (split at h1 <;> (try (cases h1; done)); rename_i hh; exact hh.2)
  have hc := cells_ok (evx_ok ha hx) hone
  obtain ⟨ad, w', h2, h3, h4⟩ := astore_ok (P := P) hr (evx_ok ha hp) hc h1
  refine ⟨undef, w', ρ, .inr ⟨?_, rfl⟩, h4, by simp only [VR]⟩
  have hsz : (a.eval x).cells.size = k := by
    have := VRs_length hc
    simp at this
    omega
  simp [execOp, ho, h2, Instr.storeAt, Instr.sureAddr, storeVar, run_sizeOf' hk, hsz, h3]
theorem op_nilck {o : Oper} {s : SO} {x : Operand} (ho : o.op = .nilCheck x) (hs : slimOp P o.op = some s) (hr : Rel W ρ H w) (ha : AR W ρ H.length t a) {v : AV} {H' : Heap} (he : aop (evx t) H s = some (v, H')) : Fine P W ρ H w o a v H' := by
  rw [ho] at hs
  simp only [slimOp, Option.map_eq_some_iff] at hs
  obtain ⟨sx, hx, rfl⟩ := hs
  have h0 := evx_ok ha hx
  simp only [aop] at he
  split at he <;> (try (cases he; done)) <;> rename_i hv <;> rw [hv] at h0 <;> simp only [Option.some.injEq, Prod.mk.injEq] at he <;> obtain ⟨rfl, rfl⟩ := he <;> refine fine_pure hr (x := a.eval x) ?_ h0 <;> simp only [VR] at h0
  · obtain ⟨_, h1⟩ := h0; simp [execOp, ho, h1]
  · obtain ⟨_, h1, _⟩ := h0; simp [execOp, ho, h1]
  · obtain ⟨_, h1, _⟩ := h0; simp [execOp, ho, h1]
end
end Go.Den

/- Operations that only reckon. -/
set_option linter.unusedVariables false
set_option linter.unusedSimpArgs false
namespace Go.Den
open Go.RowKit (Below)
section
variable {P : Program} {W : World} {ρ : Plan} {H : Heap} {w : World} {t : List AV} {a : Act}

theorem aint_ok {n : Nat} {v : AV} {x : Value} (h : VR W ρ n v x) {i : Int} (hi : aint v = some i) : ∃ k, x = .int k i := by
  unfold aint at hi
  split at hi <;> simp at hi
  subst hi
  exact ⟨_, by simpa only [VR] using h⟩
theorem intBits_ok (op : BinOp) (hop : op = .and ∨ op = .or ∨ op = .xor ∨ op = .andNot) (k : IntKind) (x y : Int) : (Op.intBits op k x y).run P w = .ok (.int k (abits op k x y)) w := by
  rcases hop with rfl | rfl | rfl | rfl <;> rfl
theorem aint2_ok {op : BinOp} (hop : op ≠ .shl ∧ op ≠ .shr) {ty : TypeId} {k : IntKind} {x y : Int} {v : AV} (h : aint2 op k x y = some v) : ∃ z, (binOp op ty (.int k x) (.int k y)).run P w = .ok z w ∧ VR W ρ H.length v z := by
  cases op <;> simp only [aint2] at h <;> (try (cases h; done)) <;> (try (exact absurd rfl hop.1)) <;> (try (exact absurd rfl hop.2))
  case quo =>
    split at h <;> simp at h
    rename_i hy
    subst h
    exact ⟨_, by simp [binOp, Op.intDiv, hy], rfl⟩
  case rem =>
    split at h <;> simp at h
    rename_i hy
    subst h
    exact ⟨_, by simp [binOp, Op.intDiv, hy], rfl⟩
  all_goals
    injection h with h
    subst h
    refine ⟨_, ?_, rfl⟩
    first
      | (simp [binOp, Op.intArith]; done)
      | (simp [binOp, Op.intCmp]; done)
      | (simp only [binOp, ne_eq, not_true_eq_false, if_false]; exact intBits_ok _ (by simp) _ _ _)
theorem ashift_ok {op : BinOp} (hop : op = .shl ∨ op = .shr) {ty : TypeId} {k k' : IntKind} {x y : Int} {v : AV} (h : ashift op k x y = some v) : ∃ z, (binOp op ty (.int k x) (.int k' y)).run P w = .ok z w ∧ VR W ρ H.length v z := by
  unfold ashift at h
  split at h <;> (try (cases h; done))
  rename_i hy
  rcases hop with rfl | rfl <;> simp only [Option.some.injEq] at h <;> subst h <;> exact ⟨_, by simp [binOp, Op.shift, hy], rfl⟩
theorem astr2_ok {op : BinOp} {ty : TypeId} {x y : ByteArray} {v : AV} (h : astr2 op x y = some v) : ∃ z, (binOp op ty (.string x) (.string y)).run P w = .ok z w ∧ VR W ρ H.length v z := by
  cases op <;> simp only [astr2] at h <;> (try (cases h; done))
  case add =>
    split at h <;> simp at h
    rename_i hs
    subst h
    refine ⟨_, ?_, rfl⟩
    have : ¬ (((x.size + y.size : Nat) : Int) > IntKind.i64.max) := by
      have e : IntKind.i64.max = 9223372036854775807 := by decide
      rw [e]; omega
    simp only [binOp, Op.stringOp]
    rw [if_neg this]
    rfl
  all_goals
    injection h with h
    subst h
    refine ⟨_, ?_, rfl⟩
    simp [binOp, Op.stringOp]
theorem abin_ok {n : Nat} {op : BinOp} {ty : TypeId} {x y : AV} {u z : Value} (hx : VR W ρ n x u) (hy : VR W ρ n y z) {v : AV} (h : abin op x y = some v) :
    (∃ r, (binOp op ty u z).run P w = .ok r w ∧ VR W ρ H.length v r) ∧ ((∃ k i, u = .int k i) ∨ ∃ s, u = .string s) := by
  unfold abin at h
  split at h
  · rename_i k i k' j
    simp only [VR] at hx hy
    subst hx; subst hy
    refine ⟨?_, .inl ⟨_, _, rfl⟩⟩
    split at h
    · exact ashift_ok (.inl rfl) h
    · exact ashift_ok (.inr rfl) h
    · rename_i h1 h2
      split at h <;> (try (cases h; done))
      rename_i hk
      subst hk
      exact aint2_ok ⟨h1, h2⟩ h
  · simp only [VR] at hx hy
    subst hx; subst hy
    exact ⟨astr2_ok h, .inr ⟨_, rfl⟩⟩
  · cases h
theorem eqGuard_plain {op : BinOp} {ty : TypeId} {x y : Operand} {u z : Value} (h : (∃ k i, u = .int k i) ∨ (∃ s, u = .string s) ∨ (∃ b, u = .bool b) ∨ (∃ p, u = .pointer p) ∨ (∃ p n c, u = .slice p n c) ∨ u = .nilFunc ∨ (∃ f g c, u = .func f g c)) : eqGuard op ty x y u z = pure () := by
  rcases h with ⟨k, i, rfl⟩ | ⟨s, rfl⟩ | ⟨b, rfl⟩ | ⟨p, rfl⟩ | ⟨p, n, c, rfl⟩ | rfl | ⟨f, g, c, rfl⟩ <;> cases op <;> rfl
theorem op_bin {o : Oper} {op : BinOp} {ty ty' : TypeId} {x y : Operand} (ho : o.op = .binOp op ty x y ty') {sx sy : SX} (hx : slimX x = some sx) (hy : slimX y = some sy) (hr : Rel W ρ H w) (ha : AR W ρ H.length t a) {v : AV} {H' : Heap} (he : aop (evx t) H (.bin op sx sy) = some (v, H')) : Fine P W ρ H w o a v H' := by
  simp only [aop, Option.map_eq_some_iff] at he
  obtain ⟨u, hu, he⟩ := he
  obtain ⟨rfl, rfl⟩ := Prod.mk.inj he
  obtain ⟨⟨r, h1, h2⟩, h3⟩ := abin_ok (P := P) (H := H) (w := w) (ty := ty) (evx_ok ha hx) (evx_ok ha hy) hu
  refine fine_pure hr (x := r) ?_ h2
  have hg := eqGuard_plain (op := op) (ty := ty) (x := x) (y := y) (u := a.eval x) (z := a.eval y) (by rcases h3 with h3 | h3 <;> simp [h3])
  simp [execOp, ho, hg, h1]
theorem op_un {o : Oper} {op : UnOp} {s : SO} {ty : TypeId} {x : Operand} (ho : o.op = .unOp op ty x) (hs : slimOp P o.op = some s) (hr : Rel W ρ H w) (ha : AR W ρ H.length t a) {v : AV} {H' : Heap} (he : aop (evx t) H s = some (v, H')) : Fine P W ρ H w o a v H' := by
  rw [ho] at hs
  simp only [slimOp, Option.map_eq_some_iff] at hs
  obtain ⟨sx, hx, rfl⟩ := hs
  simp only [aop, Option.map_eq_some_iff] at he
  obtain ⟨u, hu, he⟩ := he
  obtain ⟨rfl, rfl⟩ := Prod.mk.inj he
  have h0 := evx_ok ha hx
  unfold aun at hu
  split at hu <;> rename_i hv <;> (try (cases hu; done)) <;> rw [hv] at h0 <;> simp only [VR] at h0
  · split at hu <;> (try (cases hu; done)) <;> injection hu with hu <;> subst hu
    · exact fine_pure hr (by simp only [execOp, ho, h0, Op.unary, Op.intArith]; rfl) rfl
    · exact fine_pure hr (by simp only [execOp, ho, h0, Op.unary]; simp [intBits_ok]) rfl
  · split at hu <;> (try (cases hu; done)) <;> injection hu with hu <;> subst hu
    exact fine_pure hr (by simp only [execOp, ho, h0, Op.unary]; rfl) rfl
theorem op_mkfn {o : Oper} {s : SO} {f : Fn} {first cap : Array Operand} (ho : o.op = .makeFunc f first cap) (hs : slimOp P o.op = some s) (hr : Rel W ρ H w) (ha : AR W ρ H.length t a) {v : AV} {H' : Heap} (he : aop (evx t) H s = some (v, H')) : Fine P W ρ H w o a v H' := by
  rw [ho] at hs
  simp only [slimOp, slimMk] at hs
  split at hs <;> (try (cases hs; done))
  rename_i f' hf
  simp only [Option.map_eq_some_iff] at hs
  obtain ⟨l, hl, rfl⟩ := hs
  have hf' : first = #[] := by simpa using hf
  subst hf'
  simp only [aop, Option.some.injEq, Prod.mk.injEq] at he
  obtain ⟨rfl, rfl⟩ := he
  refine fine_pure hr (x := .func (.func _) #[] ((cap.toList.map a.eval).toArray)) ?_ (by simp only [VR]; exact ⟨_, rfl, evxs_ok ha hl⟩)
  simp only [execOp, ho, Instr.makeFunc]
  have : Array.map a.eval cap = (List.map a.eval cap.toList).toArray := by apply Array.ext'; simp
  rw [this]
  simp
theorem op_extract {o : Oper} {s : SO} {x : Operand} {i : Nat} (ho : o.op = .extract x i) (hs : slimOp P o.op = some s) (hr : Rel W ρ H w) (ha : AR W ρ H.length t a) {v : AV} {H' : Heap} (he : aop (evx t) H s = some (v, H')) : Fine P W ρ H w o a v H' := by
  rw [ho] at hs
  simp only [slimOp, Option.map_eq_some_iff] at hs
  obtain ⟨sx, hx, rfl⟩ := hs
  have h0 := evx_ok ha hx
  simp only [aop] at he
  split at he <;> (try (cases he; done))
  rename_i vs hv
  rw [hv] at h0
  simp only [VR] at h0
  obtain ⟨l, h1, h2⟩ := h0
  simp only [Option.map_eq_some_iff] at he
  obtain ⟨u, hu, he⟩ := he
  obtain ⟨rfl, rfl⟩ := Prod.mk.inj he
  obtain ⟨y, h3, h4⟩ := VRs_get h2 hu
  exact fine_pure hr (x := y) (by simp [execOp, ho, h1, Instr.extract, h3]) h4
theorem op_faddr {o : Oper} {s : SO} {ty : TypeId} {x : Operand} {i : Nat} (ho : o.op = .fieldAddr ty x i) (hs : slimOp P o.op = some s) (hr : Rel W ρ H w) (ha : AR W ρ H.length t a) {v : AV} {H' : Heap} (he : aop (evx t) H s = some (v, H')) : Fine P W ρ H w o a v H' := by
  rw [ho] at hs
  simp only [slimOp] at hs
  split at hs <;> (try (cases hs; done))
  rename_i fs hu
  simp only [Option.bind_eq_some_iff] at hs
  obtain ⟨f, hf, k, hk, hs⟩ := hs
  split at hs <;> simp only [Option.map_eq_some_iff, reduceCtorEq] at hs
  rename_i hk0
  obtain ⟨sx, hx, rfl⟩ := hs
  have h0 := evx_ok ha hx
  have hplace : ∀ ad, (fieldPlace ad f).run P w = .ok (ad.add f.offset) w := fun ad => by simp [fieldPlace, run_sizeOf' hk, hk0]
  simp only [aop] at he
  split at he <;> (try (cases he; done)) <;> rename_i hv <;> rw [hv] at h0 <;> simp only [VR] at h0 <;> simp only [Option.some.injEq, Prod.mk.injEq] at he <;> obtain ⟨rfl, rfl⟩ := he
  · obtain ⟨h1, h2⟩ := h0
    refine fine_pure hr (x := .pointer (some ((⟨_, _, none⟩ : Addr).add f.offset))) (by simp [execOp, ho, h2, Instr.fieldAt, run_underlying' hu, hf, Instr.sureAddr, hplace]; rfl) ?_
    rw [add_mk]
    simp only [VR]
    exact ⟨h1, by rw [Nat.add_assoc]⟩
  · obtain ⟨ad, h1, h2⟩ := h0
    refine fine_pure hr (x := .pointer (some (ad.add f.offset))) (by simp [execOp, ho, h1, Instr.fieldAt, run_underlying' hu, hf, Instr.sureAddr, hplace]) ?_
    simp only [VR]
    exact ⟨_, rfl, CR_drop h2 _⟩
end
end Go.Den

/- Operations on slices, strings and structs. -/
set_option linter.unusedVariables false
set_option linter.unusedSimpArgs false
namespace Go.Den
open Go.RowKit (Below)
section
variable {P : Program} {W : World} {ρ : Plan} {H : Heap} {w : World} {t : List AV} {a : Act}

/-- A part of a value's cells, of a shape. -/
theorem part_ok {n : Nat} {ty : TypeId} {sh : Option Nat} (hsh : shapeT P ty = some sh) {l : List AV} {xs : List Value} (hv : VRs W ρ n l xs) {off : Nat} (hl : off + sh.getD 1 ≤ l.length) {u : AV} (hu : shape sh ((l.drop off).take (sh.getD 1)) = some u) :
    ∃ x, (part ty xs.toArray off).run P w = .ok x w ∧ VR W ρ n u x := by
  have h2 := VRs_take (VRs_drop hv off) (sh.getD 1)
  unfold shapeT at hsh
  split at hsh <;> (try (cases hsh; done))
  · rename_i i fs hi hu'
    injection hsh with hsh
    subst hsh
    simp only [shape, Option.some.injEq, Option.getD_some] at hu h2
    subst hu
    refine ⟨.agg ((xs.drop off).take i.size).toArray, ?_, by simp only [VR]; exact ⟨_, rfl, h2⟩⟩
    simp only [part, isAgg, Sem.run_bind, run_underlying' hu', Result.andThen_ok, Sem.run_pure, if_true, sizeOf, run_typeInfo hi]
    congr 2
    apply Array.ext'
    simp [List.take_drop, Nat.add_comm]
  · rename_i i k e hi hu'
    injection hsh with hsh
    subst hsh
    simp only [shape, Option.some.injEq, Option.getD_some] at hu h2
    subst hu
    refine ⟨.agg ((xs.drop off).take i.size).toArray, ?_, by simp only [VR]; exact ⟨_, rfl, h2⟩⟩
    simp only [part, isAgg, Sem.run_bind, run_underlying' hu', Result.andThen_ok, Sem.run_pure, if_true, sizeOf, run_typeInfo hi]
    congr 2
    apply Array.ext'
    simp [List.take_drop, Nat.add_comm]
  · rename_i i d hns hna hi hu'
    split at hsh <;> simp at hsh
    subst hsh
    simp only [shape, Option.getD_none] at hu h2 hl
    have hj : off < l.length := by omega
    have e1 : (l.drop off).take 1 = [l[off]] := by
      rw [List.drop_eq_getElem_cons hj]; rfl
    rw [e1] at hu
    simp only [one?, Option.some.injEq] at hu
    subst hu
    obtain ⟨x, h3, h4⟩ := VRs_get hv (List.getElem?_eq_getElem hj)
    refine ⟨x, ?_, h4⟩
    have hagg : (isAgg ty).run P w = .ok false w := by
      unfold isAgg
      simp only [Sem.run_bind, run_underlying' hu', Result.andThen_ok]
      first
        | rfl
        | (split
           · exact absurd rfl (hns _)
           · exact absurd rfl (hna _ _)
           · rfl)
    simp [part, hagg, h3]
theorem op_fld {o : Oper} {s : SO} {ty : TypeId} {x : Operand} {i : Nat} (ho : o.op = .field ty x i) (hs : slimOp P o.op = some s) (hr : Rel W ρ H w) (ha : AR W ρ H.length t a) {v : AV} {H' : Heap} (he : aop (evx t) H s = some (v, H')) : Fine P W ρ H w o a v H' := by
  rw [ho] at hs
  simp only [slimOp] at hs
  split at hs <;> (try (cases hs; done))
  rename_i fs hu
  simp only [Option.bind_eq_some_iff, Option.map_eq_some_iff] at hs
  obtain ⟨f, hf, sh, hsh, sx, hx, rfl⟩ := hs
  have h0 := evx_ok ha hx
  simp only [aop] at he
  split at he <;> (try (cases he; done))
  rename_i c hv
  rw [hv] at h0
  simp only [VR] at h0
  obtain ⟨l, h1, h2⟩ := h0
  split at he <;> (try (cases he; done))
  rename_i hle
  simp only [Option.map_eq_some_iff] at he
  obtain ⟨u, hu', he⟩ := he
  obtain ⟨rfl, rfl⟩ := Prod.mk.inj he
  obtain ⟨y, h3, h4⟩ := part_ok (P := P) (w := w) hsh h2 hle hu'
  exact fine_pure hr (x := y) (by simp [execOp, ho, h1, Instr.field, run_underlying' hu, hf, asAgg, h3]) h4
theorem op_iaddr {o : Oper} {s : SO} {ty : TypeId} {x i : Operand} (ho : o.op = .indexAddr ty x i) (hs : slimOp P o.op = some s) (hr : Rel W ρ H w) (ha : AR W ρ H.length t a) {v : AV} {H' : Heap} (he : aop (evx t) H s = some (v, H')) : Fine P W ρ H w o a v H' := by
  rw [ho] at hs
  simp only [slimOp, Option.bind_eq_some_iff] at hs
  obtain ⟨sx, hx, si, hi, hs⟩ := hs
  have h0 := evx_ok ha hx
  have h1 := evx_ok ha hi
  split at hs <;> (try (cases hs; done))
  · rename_i e hu
    simp only [Option.bind_eq_some_iff] at hs
    obtain ⟨k, hk, hs⟩ := hs
    split at hs <;> simp only [Option.some.injEq, reduceCtorEq] at hs
    subst hs
    simp only [aop, Option.bind_eq_some_iff] at he
    obtain ⟨j, hj, he⟩ := he
    obtain ⟨q, hq⟩ := aint_ok h1 hj
    split at he <;> (try (cases he; done)) <;> rename_i hv <;> rw [hv] at h0 <;> simp only [VR] at h0 <;> split at he <;> (try (cases he; done)) <;> rename_i hc <;> simp only [Option.some.injEq, Prod.mk.injEq] at he <;> obtain ⟨rfl, rfl⟩ := he
    · obtain ⟨h2, ad, c, h3, h4, h5, h6, h7⟩ := h0
      have hne : c ≠ 0 := by omega
      have had := h5.resolve_left hne
      subst had
      refine fine_pure hr (x := .pointer (some ((⟨_, _, none⟩ : Addr).add (j.toNat * k)))) (by simp [execOp, ho, h3, hq, Instr.indexAt, asIntOf, run_underlying' hu, hc.2.1, hc.2.2, run_sizeOf' hk]; rfl) ?_
      rw [add_mk]
      simp only [VR]
      exact ⟨h2, by rw [Nat.add_assoc]⟩
    · obtain ⟨ad, c, h3, h4, h5⟩ := h0
      refine fine_pure hr (x := .pointer (some (ad.add (j.toNat * k)))) (by simp [execOp, ho, h3, hq, Instr.indexAt, asIntOf, run_underlying' hu, hc.1, hc.2, run_sizeOf' hk]) ?_
      simp only [VR]
      exact ⟨_, rfl, CR_drop h5 _⟩
  · rename_i m e hu
    simp only [Option.bind_eq_some_iff] at hs
    obtain ⟨k, hk, hs⟩ := hs
    split at hs <;> simp only [Option.some.injEq, reduceCtorEq] at hs
    subst hs
    simp only [aop, Option.bind_eq_some_iff] at he
    obtain ⟨j, hj, he⟩ := he
    obtain ⟨q, hq⟩ := aint_ok h1 hj
    split at he <;> (try (cases he; done)) <;> rename_i hv <;> rw [hv] at h0 <;> simp only [VR] at h0 <;> split at he <;> (try (cases he; done)) <;> rename_i hc <;> simp only [Option.some.injEq, Prod.mk.injEq] at he <;> obtain ⟨rfl, rfl⟩ := he
    · obtain ⟨h2, h3⟩ := h0
      refine fine_pure hr (x := .pointer (some ((⟨_, _, none⟩ : Addr).add (j.toNat * k)))) (by simp [execOp, ho, h3, hq, Instr.indexAt, asIntOf, run_underlying' hu, Instr.sureAddr, hc.1, hc.2, run_sizeOf' hk]; rfl) ?_
      rw [add_mk]
      simp only [VR]
      exact ⟨h2, by rw [Nat.add_assoc]⟩
    · obtain ⟨ad, h3, h5⟩ := h0
      refine fine_pure hr (x := .pointer (some (ad.add (j.toNat * k)))) (by simp [execOp, ho, h3, hq, Instr.indexAt, asIntOf, run_underlying' hu, Instr.sureAddr, hc.1, hc.2, run_sizeOf' hk]) ?_
      simp only [VR]
      exact ⟨_, rfl, CR_drop h5 _⟩
theorem op_index {o : Oper} {s : SO} {ty : TypeId} {x i : Operand} (ho : o.op = .index ty x i) (hs : slimOp P o.op = some s) (hr : Rel W ρ H w) (ha : AR W ρ H.length t a) {v : AV} {H' : Heap} (he : aop (evx t) H s = some (v, H')) : Fine P W ρ H w o a v H' := by
  rw [ho] at hs
  simp only [slimOp, Option.bind_eq_some_iff] at hs
  obtain ⟨sx, hx, si, hi, hs⟩ := hs
  have h0 := evx_ok ha hx
  have h1 := evx_ok ha hi
  split at hs <;> (try (cases hs; done))
  · rename_i hu
    simp only [Option.some.injEq] at hs
    subst hs
    simp only [aop, Option.bind_eq_some_iff] at he
    obtain ⟨j, hj, he⟩ := he
    obtain ⟨q, hq⟩ := aint_ok h1 hj
    split at he <;> (try (cases he; done))
    rename_i b hv
    rw [hv] at h0
    simp only [VR] at h0
    split at he <;> (try (cases he; done))
    rename_i hj0
    simp only [Option.map_eq_some_iff] at he
    obtain ⟨c, hc, he⟩ := he
    obtain ⟨rfl, rfl⟩ := Prod.mk.inj he
    have hb : b[j.toNat]? = some c := by
      rw [Array.getElem?_toList] at hc
      obtain ⟨h2, h3⟩ := Array.getElem?_eq_some_iff.1 hc
      rw [getElem?_pos b j.toNat h2]
      exact congrArg some h3
    exact fine_pure hr (x := .int .u8 c.toNat) (by simp [execOp, ho, h0, hq, Instr.index, asIntOf, run_underlying' hu, hj0, hb]) (by simp [VR])
  · rename_i m e hu
    simp only [Option.bind_eq_some_iff, Option.map_eq_some_iff] at hs
    obtain ⟨k, hk, sh, hsh, rfl⟩ := hs
    simp only [aop, Option.bind_eq_some_iff] at he
    obtain ⟨j, hj, he⟩ := he
    obtain ⟨q, hq⟩ := aint_ok h1 hj
    split at he <;> (try (cases he; done))
    rename_i c hv
    rw [hv] at h0
    simp only [VR] at h0
    obtain ⟨l, h2, h3⟩ := h0
    split at he <;> (try (cases he; done))
    rename_i hc
    simp only [Option.map_eq_some_iff] at he
    obtain ⟨u, hu', he⟩ := he
    obtain ⟨rfl, rfl⟩ := Prod.mk.inj he
    obtain ⟨y, h4, h5⟩ := part_ok (P := P) (w := w) hsh h3 hc.2.2 hu'
    exact fine_pure hr (x := y) (by simp [execOp, ho, h2, hq, Instr.index, asIntOf, run_underlying' hu, hc.1, hc.2.1, run_sizeOf' hk, h4]) h5
end
end Go.Den

/- Cuts, conversions, lengths, least and greatest, strings gone over. -/
set_option linter.unusedVariables false
set_option linter.unusedSimpArgs false
namespace Go.Den
open Go.RowKit (Below)
section
variable {P : Program} {W : World} {ρ : Plan} {H : Heap} {w : World} {t : List AV} {a : Act}

/-! ### Cuts -/
theorem abound_ok {n : Nat} (ha : AR W ρ n t a) {x : Option Operand} {s : Option SX} (hs : slimO x = some s) {r : Option Nat} (hr : abound (evx t) s = some r) :
    (x = none ∧ r = none) ∨ ∃ o k i, x = some o ∧ a.eval o = .int k i ∧ 0 ≤ i ∧ r = some i.toNat := by
  cases x with
  | none =>
    simp only [slimO, Option.some.injEq] at hs
    subst hs
    simp only [abound, Option.some.injEq] at hr
    exact .inl ⟨rfl, hr.symm⟩
  | some o =>
    simp only [slimO, Option.map_eq_some_iff] at hs
    obtain ⟨sx, hx, rfl⟩ := hs
    simp only [abound, Option.bind_eq_some_iff] at hr
    obtain ⟨i, hi, hr⟩ := hr
    split at hr <;> simp at hr
    rename_i h0
    obtain ⟨k, hk⟩ := aint_ok (evx_ok ha hx) hi
    exact .inr ⟨o, k, i, rfl, hk, h0, hr.symm⟩
theorem sliceBound_ok {x : Value} {k : IntKind} {i : Int} (hx : x = .int k i) {y : Nat} (h0 : 0 ≤ i) (h1 : i.toNat ≤ y) (code : BoundsCode) : (Instr.sliceBound x y code).run P w = .ok i.toNat w := by
  subst hx
  have : i ≤ (y : Int) := by omega
  simp [Instr.sliceBound, asIntOf, h0, this]
theorem sliceBounds_ok {n : Nat} (ha : AR W ρ n t a) {lo hi mx : Option Operand} {slo shi smx : Option SX} (h1 : slimO lo = some slo) (h2 : slimO hi = some shi) (h3 : slimO mx = some smx) {l h m : Option Nat}
    (hl : abound (evx t) slo = some l) (hh : abound (evx t) shi = some h) (hm : abound (evx t) smx = some m) (hmh : smx.isSome = true → shi.isSome = true) {isS : Bool} {len cap : Nat}
    (c1 : l.getD 0 ≤ h.getD len) (c2 : h ≠ none → h.getD len ≤ m.getD cap) (c3 : m.getD cap ≤ cap) :
    (Instr.sliceBounds isS len cap (lo.map a.eval) (hi.map a.eval) (mx.map a.eval)).run P w = .ok (l.getD 0, h.getD len, m.getD cap) w := by
  unfold Instr.sliceBounds
  rcases abound_ok ha h3 hm with ⟨rfl, rfl⟩ | ⟨om, km, im, rfl, em, m0, rfl⟩ <;> rcases abound_ok ha h2 hh with ⟨rfl, rfl⟩ | ⟨oh, kh, ih, rfl, eh, h0, rfl⟩ <;> rcases abound_ok ha h1 hl with ⟨rfl, rfl⟩ | ⟨ol, kl, il, rfl, el, l0, rfl⟩ <;> simp only [Option.getD_some, Option.getD_none] at c1 c2 c3 ⊢
  · simp
  · simp [sliceBound_ok (P := P) (w := w) el l0 c1]
  · have := c2 (by simp)
    simp [sliceBound_ok (P := P) (w := w) eh h0 this]
  · have := c2 (by simp)
    simp [sliceBound_ok (P := P) (w := w) eh h0 this, sliceBound_ok (P := P) (w := w) el l0 c1]
  · simp [slimO] at h2 h3
    obtain ⟨q, _, rfl⟩ := h3
    subst h2
    simp at hmh
  · simp [slimO] at h2 h3
    obtain ⟨q, _, rfl⟩ := h3
    subst h2
    simp at hmh
  · have := c2 (by simp)
    simp [sliceBound_ok (P := P) (w := w) em m0 c3, sliceBound_ok (P := P) (w := w) eh h0 this]
  · have := c2 (by simp)
    simp [sliceBound_ok (P := P) (w := w) em m0 c3, sliceBound_ok (P := P) (w := w) eh h0 this, sliceBound_ok (P := P) (w := w) el l0 c1]
theorem alen_ok {n : Nat} {v : AV} {x : Value} (h : VR W ρ n v x) {k : Nat} (hk : alen v = some k) : (∃ p c, x = .slice p k c) ∨ ∃ s, x = .string s ∧ k = s.size ∧ v = .str s := by
  unfold alen at hk
  split at hk <;> (try (cases hk; done)) <;> simp only [Option.some.injEq] at hk <;> subst hk <;> simp only [VR] at h
  · obtain ⟨_, ad, c, h1, _⟩ := h; exact .inl ⟨_, _, h1⟩
  · obtain ⟨ad, c, h1, _⟩ := h; exact .inl ⟨_, _, h1⟩
  · exact .inl ⟨_, _, h⟩
  · exact .inr ⟨_, h, rfl, rfl⟩
theorem op_slice {o : Oper} {s : SO} {ty : TypeId} {x : Operand} {lo hi mx : Option Operand} (ho : o.op = .slice ty x lo hi mx) (hs : slimOp P o.op = some s) (hr : Rel W ρ H w) (ha : AR W ρ H.length t a) {v : AV} {H' : Heap} (he : aop (evx t) H s = some (v, H')) : Fine P W ρ H w o a v H' := by
  rw [ho] at hs
  simp only [slimOp, Option.bind_eq_some_iff] at hs
  obtain ⟨sx, hx, slo, h1, shi, h2, smx, h3, hs⟩ := hs
  have h0 := evx_ok ha hx
  split at hs <;> (try (cases hs; done))
  · rename_i e hu
    simp only [Option.bind_eq_some_iff] at hs
    obtain ⟨z, hz, hs⟩ := hs
    split at hs <;> simp only [Option.some.injEq, reduceCtorEq] at hs
    rename_i hc
    subst hs
    simp only [aop, Option.bind_eq_some_iff, Option.map_eq_some_iff] at he
    obtain ⟨len, hlen, l, hl, h, hh, m, hm, u, hu', he⟩ := he
    obtain ⟨rfl, rfl⟩ := Prod.mk.inj he
    unfold acut at hu'
    split at hu' <;> (try (cases hu'; done)) <;> rename_i hv <;> rw [hv] at h0 hlen <;> simp only [VR] at h0 <;> simp only [alen, Option.some.injEq] at hlen
    · rename_i ob off len' sz cap
      subst hlen
      obtain ⟨g1, ad, c, g2, g3, g4, g5, g6⟩ := h0
      split at hu'
      · split at hu' <;> simp only [Option.some.injEq, reduceCtorEq] at hu'
        rename_i hk
        subst hu'
        obtain ⟨rfl, hk1, hk2⟩ := hk
        have hb := sliceBounds_ok (P := P) (w := w) ha h1 h2 h3 hl hh hm hc.2 (isS := true) (len := len') (cap := c) hk1 (fun _ => by simp; omega) (by simp)
        simp only [Option.getD_none] at hb
        refine fine_pure hr (x := .slice (if c = l.getD 0 then some ad else some (ad.add (l.getD 0 * sz))) (h.getD len' - l.getD 0) (c - l.getD 0)) (by simp [execOp, ho, g2, Instr.sliceAt, Instr.slice, run_underlying' hu, hb, run_sizeOf' hz]) ?_
        simp only [VR]
        refine ⟨g1, if c = l.getD 0 then ad else ad.add (l.getD 0 * sz), c - l.getD 0, by split <;> rfl, by omega, ?_, ?_, ?_⟩
        · by_cases hcl : c = l.getD 0
          · exact .inl (by omega)
          · rw [if_neg hcl]
            have : c ≠ 0 := by omega
            rw [g4.resolve_left this, add_mk, Nat.add_assoc]
            exact .inr rfl
        · have : l.getD 0 * sz + (c - l.getD 0) * sz = c * sz := by rw [← Nat.add_mul]; congr 1; omega
          omega
        · intro k hk
          cases cap with
          | none => simp at hk
          | some k' => simp at hk; have := g6 k' rfl; omega
      · rename_i m'
        split at hu' <;> simp only [Option.some.injEq, reduceCtorEq] at hu'
        rename_i hk
        subst hu'
        obtain ⟨rfl, hk1, hk2, hk3⟩ := hk
        have hb := sliceBounds_ok (P := P) (w := w) ha h1 h2 h3 hl hh hm hc.2 (isS := true) (len := len') (cap := c) hk1 (fun _ => by simpa using hk2) (by simp; omega)
        simp only [Option.getD_some] at hb
        refine fine_pure hr (x := .slice (if m' = l.getD 0 then some ad else some (ad.add (l.getD 0 * sz))) (h.getD len' - l.getD 0) (m' - l.getD 0)) (by simp [execOp, ho, g2, Instr.sliceAt, Instr.slice, run_underlying' hu, hb, run_sizeOf' hz]) ?_
        simp only [VR]
        refine ⟨g1, if m' = l.getD 0 then ad else ad.add (l.getD 0 * sz), m' - l.getD 0, by split <;> rfl, by omega, ?_, ?_, ?_⟩
        · by_cases hcl : m' = l.getD 0
          · exact .inl (by omega)
          · rw [if_neg hcl]
            have : c ≠ 0 := by omega
            rw [g4.resolve_left this, add_mk, Nat.add_assoc]
            exact .inr rfl
        · have h5 : l.getD 0 * sz + (m' - l.getD 0) * sz = m' * sz := by rw [← Nat.add_mul]; congr 1; omega
          have h6 : m' * sz ≤ c * sz := Nat.mul_le_mul_right _ (by omega)
          omega
        · intro k hk
          simp at hk
          exact hk
    · rename_i cs len'
      subst hlen
      obtain ⟨ad, c, g2, g3, g4⟩ := h0
      split at hu' <;> (try (cases hu'; done))
      split at hu' <;> simp only [Option.some.injEq, reduceCtorEq] at hu'
      rename_i hk
      subst hu'
      obtain ⟨hk1, hk2⟩ := hk
      have hb := sliceBounds_ok (P := P) (w := w) ha h1 h2 h3 hl hh hm hc.2 (isS := true) (len := len') (cap := c) hk1 (fun _ => by simp; omega) (by simp)
      simp only [Option.getD_none] at hb
      refine fine_pure hr (x := .slice (if c = l.getD 0 then some ad else some (ad.add (l.getD 0 * z))) (h.getD len' - l.getD 0) (c - l.getD 0)) (by simp [execOp, ho, g2, Instr.sliceAt, Instr.slice, run_underlying' hu, hb, run_sizeOf' hz]) ?_
      simp only [VR]
      refine ⟨if c = l.getD 0 then ad else ad.add (l.getD 0 * z), c - l.getD 0, by split <;> rfl, by omega, ?_⟩
      by_cases hcl : c = l.getD 0
      · rw [if_pos hcl]
        have : h.getD len' - l.getD 0 = 0 := by omega
        rw [this]
        simp [CR]
      · rw [if_neg hcl]
        exact CR_take (CR_drop g4 _) _
    · subst hlen
      split at hu' <;> simp only [Option.some.injEq, reduceCtorEq] at hu'
      rename_i hk
      subst hu'
      obtain ⟨hk1, hk2, rfl⟩ := hk
      have hb := sliceBounds_ok (P := P) (w := w) ha h1 h2 h3 hl hh hm hc.2 (isS := true) (len := 0) (cap := 0) (by omega) (fun _ => by simp; omega) (by simp)
      simp only [Option.getD_none] at hb
      exact fine_pure hr (x := .slice none 0 0) (by simp [execOp, ho, h0, Instr.sliceAt, Instr.slice, run_underlying' hu, hb, run_sizeOf' hz, hk1, hk2]) rfl
  · rename_i hu
    split at hs <;> simp only [Option.some.injEq, reduceCtorEq] at hs
    rename_i hmx
    subst hs
    simp only [aop] at he
    split at he <;> (try (cases he; done))
    rename_i b hv
    rw [hv] at h0
    simp only [VR] at h0
    simp only [Option.bind_eq_some_iff] at he
    obtain ⟨l, hl, h, hh, he⟩ := he
    split at he <;> simp only [Option.some.injEq, reduceCtorEq, Prod.mk.injEq] at he
    rename_i hk
    obtain ⟨rfl, rfl⟩ := he
    have hm0 : smx = none := by simpa using hmx
    have hm1 : mx = none := by
      cases mx with
      | none => rfl
      | some q => simp [slimO] at h3; obtain ⟨q', _, h4⟩ := h3; rw [hm0] at h4; simp at h4
    subst hm0 hm1
    have hb := sliceBounds_ok (P := P) (w := w) (mx := none) ha h1 h2 (by rfl) hl hh (m := none) (by rfl) (by simp) (isS := false) (len := b.size) (cap := b.size) hk.1 (fun _ => by simpa using hk.2) (by simp)
    simp only [Option.getD_none, Option.map_none] at hb
    exact fine_pure hr (x := .string (b.extract (l.getD 0) (h.getD b.size))) (by simp [execOp, ho, h0, Instr.sliceAt, Instr.slice, run_underlying' hu, hb]) rfl
  · rename_i m e hu
    simp only [Option.bind_eq_some_iff] at hs
    obtain ⟨z, hz0, hs⟩ := hs
    split at hs <;> simp only [Option.some.injEq, reduceCtorEq] at hs
    rename_i hc
    subst hs
    simp only [aop] at he
    split at he <;> (try (cases he; done))
    rename_i ob off hv
    rw [hv] at h0
    simp only [VR] at h0
    obtain ⟨g1, g2⟩ := h0
    simp only [Option.bind_eq_some_iff] at he
    obtain ⟨row, hrow, l, hl, h, hh, m', hm, he⟩ := he
    split at he <;> simp only [Option.some.injEq, reduceCtorEq, Prod.mk.injEq] at he
    rename_i hk
    obtain ⟨rfl, rfl⟩ := he
    have hb := sliceBounds_ok (P := P) (w := w) ha h1 h2 h3 hl hh hm hc.2 (isS := false) (len := m) (cap := m) hk.1 (fun _ => hk.2.1) hk.2.2.1
    have hz : (ρ ob).d + row.length ≤ (ρ ob).z := by
      unfold arow at hrow
      split at hrow <;> simp only [Option.some.injEq, reduceCtorEq] at hrow <;> (subst hrow; rename_i hH; obtain ⟨c, fr, _, _, hl, _⟩ := hr.obj ob _ hH; exact hl)
    refine fine_pure hr (x := .slice (some (if m'.getD m = l.getD 0 then ⟨(ρ ob).b, (ρ ob).d + off, none⟩ else (⟨(ρ ob).b, (ρ ob).d + off, none⟩ : Addr).add (l.getD 0 * z))) (h.getD m - l.getD 0) (m'.getD m - l.getD 0)) (by simp [execOp, ho, g2, Instr.sliceAt, run_underlying' hu, Instr.sureAddr, hb, run_sizeOf' hz0]) ?_
    simp only [VR]
    refine ⟨g1, _, _, rfl, by omega, ?_, ?_, ?_⟩
    · by_cases hcl : m'.getD m = l.getD 0
      · exact .inl (by omega)
      · rw [if_neg hcl, add_mk, Nat.add_assoc]
        exact .inr rfl
    · have h5 : l.getD 0 * z + (m'.getD m - l.getD 0) * z = m'.getD m * z := by rw [← Nat.add_mul]; congr 1; omega
      have h6 : m'.getD m * z ≤ m * z := Nat.mul_le_mul_right _ hk.2.2.1
      omega
    · intro k hk'
      simp at hk'
      exact hk'

/-! ### Conversions -/
theorem bytesOf_ok : ∀ {l : List AV} {xs : List Value} {n : Nat} {bs : List UInt8}, VRs W ρ n l xs → bytesOf l = some bs → ∃ ns : List Int, xs = ns.map (Value.int .u8) ∧ bs = ns.map fun n => UInt8.ofNat n.toNat
  | [], xs, n, bs, h, hb => by
    simp only [VRs] at h; subst h
    simp only [bytesOf, Option.some.injEq] at hb; subst hb
    exact ⟨[], rfl, rfl⟩
  | v :: l, xs, n, bs, h, hb => by
    simp only [VRs] at h
    obtain ⟨x, r, rfl, hx, hr⟩ := h
    unfold bytesOf at hb
    split at hb
    · rename_i heq; cases heq
    · rename_i z l' heq
      injection heq with h1 h2
      subst h1; subst h2
      simp only [Option.map_eq_some_iff] at hb
      obtain ⟨q, hq, rfl⟩ := hb
      simp only [VR] at hx
      subst hx
      obtain ⟨ns, rfl, rfl⟩ := bytesOf_ok hr hq
      exact ⟨z :: ns, rfl, rfl⟩
    · cases hb
/-- A slice's cells, told: where they are. -/
theorem acells_ok (hr : Rel W ρ H w) {v : AV} {x : Value} (hv : VR W ρ H.length v x) {l : List AV} (hl : acells H v = some l) :
    (x = .slice none 0 0 ∧ l = []) ∨ ∃ p len c xs, x = .slice (some p) len c ∧ alen v = some len ∧ len ≤ c ∧ VRs W ρ H.length l xs ∧ xs.length = l.length ∧ (∀ (j : Nat) (x : Value), xs[j]? = some x → w.cell? (p.add j) = some x) ∧ (∀ x ∈ xs, x.oneCell' = true) := by
  unfold acells at hl
  split at hl <;> (try (cases hl; done))
  · rename_i o off len sz cap
    simp only [VR] at hv
    obtain ⟨h1, ad, c, rfl, h3, h4, h5, h6⟩ := hv
    obtain ⟨a', xs, h7, h8, h9, h10, h11, h12, h13⟩ := aload_ok (p := .ptr o off) (x := .pointer (some ⟨(ρ o).b, (ρ o).d + off, none⟩)) hr (by simp only [VR]; exact ⟨h1, trivial⟩) hl
    injection h7 with h7
    injection h7 with h7
    refine .inr ⟨ad, len, c, xs, rfl, rfl, h3, h8, by omega, ?_, h12⟩
    rcases h4 with h4 | h4
    · have : len = 0 := by omega
      subst this
      intro j x hj
      have : xs = [] := List.eq_nil_of_length_eq_zero (by omega)
      subst this
      simp at hj
    · rw [h4, h7]; exact h11
  · simp only [Option.some.injEq] at hl
    subst hl
    simp only [VR] at hv
    obtain ⟨ad, c, rfl, h3, h4⟩ := hv
    rw [CR_iff] at h4
    obtain ⟨xs, h5, h6, h7, h8, _⟩ := cells_list (W := W) (ρ := ρ) (n := H.length) (w := w) (a := ad) (fun j v hj => by
      obtain ⟨x, h1, h2, h3⟩ := h4 j v hj
      rw [Nat.zero_add] at h1
      exact ⟨x, by rw [hr.below.cell (World.block_lt_of_cell? W _ h1)]; exact h1, VR_mono (fun i hi => absurd hi (Nat.not_lt_zero i)) (Nat.zero_le _) v x h2, h3⟩)
    exact .inr ⟨ad, _, c, xs, rfl, rfl, h3, h5, h6, h7, h8⟩
  · simp only [Option.some.injEq] at hl
    subst hl
    simp only [VR] at hv
    exact .inl ⟨hv, rfl⟩
theorem op_convert {o : Oper} {s : SO} {src dst : TypeId} {x : Operand} (ho : o.op = .convert src dst x) (hs : slimOp P o.op = some s) (hr : Rel W ρ H w) (ha : AR W ρ H.length t a) {v : AV} {H' : Heap} (he : aop (evx t) H s = some (v, H')) : Fine P W ρ H w o a v H' := by
  rw [ho] at hs
  simp only [slimOp, Option.bind_eq_some_iff] at hs
  obtain ⟨sx, hx, hs⟩ := hs
  have h0 := evx_ok ha hx
  split at hs <;> (try (cases hs; done))
  · rename_i ks k hu hu'
    simp only [Option.some.injEq] at hs
    subst hs
    simp only [aop, Option.map_eq_some_iff] at he
    obtain ⟨i, hi, he⟩ := he
    obtain ⟨rfl, rfl⟩ := Prod.mk.inj he
    obtain ⟨q, hq⟩ := aint_ok h0 hi
    exact fine_pure hr (x := .int k (k.wrap i)) (by simp [execOp, ho, hq, convert, run_underlying' hu, run_underlying' hu', Conv.intToInt]) rfl
  · rename_i e hu hu'
    split at hs <;> (try (cases hs; done))
    rename_i hue
    simp only [Option.some.injEq] at hs
    subst hs
    simp only [aop, Option.map_eq_some_iff, Option.bind_eq_some_iff] at he
    obtain ⟨l, hl, he⟩ := he
    split at he <;> simp only [Option.map_eq_some_iff, reduceCtorEq] at he
    rename_i hlen
    obtain ⟨bs, hb, he⟩ := he
    obtain ⟨rfl, rfl⟩ := Prod.mk.inj he
    rcases acells_ok hr h0 hl with ⟨h1, rfl⟩ | ⟨p, len, c, xs, h1, h2, h3, h4, h5, h6, h7⟩
    · simp only [bytesOf, Option.some.injEq] at hb
      subst hb
      refine fine_pure hr (x := .string ByteArray.empty) ?_ (by simp only [VR]; rfl)
      simp [execOp, ho, h1, run_convert_bytes_string w src dst e _ _ _ hu hue hu', Conv.bytesToString]
    · obtain ⟨ns, rfl, rfl⟩ := bytesOf_ok h4 hb
      rw [h2] at hlen
      injection hlen with hlen
      have hload := run_loadCells_xs (P := P) (h5.trans hlen.symm) h6
      refine fine_pure hr (x := .string ⟨(ns.map fun n => UInt8.ofNat n.toNat).toArray⟩) ?_ (by simp only [VR])
      have := run_bytesToString (P := P) w p len c ns hload
      rw [foldl_push_bytes] at this
      simp only [ByteArray.empty, ByteArray.emptyWithCapacity] at this
      simp [execOp, ho, h1, run_convert_bytes_string w src dst e _ _ _ hu hue hu', this]
      try rfl
  · rename_i e hu hu'
    split at hs <;> (try (cases hs; done))
    rename_i hue
    split at hs <;> simp only [Option.some.injEq, reduceCtorEq] at hs
    rename_i hwe
    split at hs
    · rename_i hapf
      subst hs
      simp only [aop] at he
      split at he <;> (try (cases he; done))
      rename_i b hv
      rw [hv] at h0
      simp only [VR] at h0
      simp only [Option.some.injEq, Prod.mk.injEq] at he
      obtain ⟨rfl, rfl⟩ := he
      have hrun := Lib.run_convert_string_bytes (P := P) w src dst e b hu hu' hue
      have hge := grownCap_ge w b.size 0 e
      have hcell : (Lib.bytesCells w e b).size = grownCap w b.size 0 e := by
        simp only [Lib.bytesCells, Array.size_append, Array.size_map, Array.size_replicate, ByteArray.size] at hge ⊢
        omega
      have hlen : (strCells b).length = b.size := by unfold strCells; rw [List.length_map, Array.length_toList]; rfl
      refine ⟨.slice (some ⟨w.heap.size, 0, none⟩) b.size (grownCap w b.size 0 e), Lib.bytesWorld w e b, ρ.ext H.length ⟨w.heap.size, 0, grownCap w b.size 0 e⟩, .inl (by simp [execOp, ho, h0, hrun]), stp_push hr Plan.ext_lt (by rw [Plan.ext_at]) ⟨Lib.bytesWorld_size w e b, ?_, ?_, ?_, Lib.bytesWorld_at_old w e b⟩ ?_, ?_⟩
      · rfl
      · rfl
      · rfl
      · rw [Plan.ext_at]
        refine ⟨Lib.bytesCells w e b, _, Lib.bytesWorld_at_new w e b, hcell, by simp only [hlen]; omega, fun j v hj => ?_, fun i hi => ?_, hwe⟩
        · have hj' := (List.getElem?_eq_some_iff.1 hj).1
          rw [hlen] at hj'
          simp only [strCells, List.getElem?_map, Option.map_eq_some_iff] at hj
          obtain ⟨q, hq, rfl⟩ := hj
          refine ⟨.int .u8 q.toNat, ?_, by simp [VR], rfl⟩
          rw [Array.getElem?_toList] at hq
          have h1 : j < b.data.size := hj'
          simp only [Lib.bytesCells, Nat.zero_add]
          rw [Array.getElem?_append_left (by simpa using h1)]
          simp [hq]
        · simp only at hi ⊢; omega
      · simp only [VR, List.length_append, List.length_cons, List.length_nil]
        refine ⟨by omega, _, _, rfl, hge, ?_, ?_, fun k hk => by simp at hk⟩
        · rw [Plan.ext_at]; exact .inr rfl
        · rw [Plan.ext_at]; simp
    · rename_i hapf
      have hapf : appf = false := by simpa using hapf
      subst hs
      simp only [aop] at he
      split at he <;> (try (cases he; done))
      rename_i b hv
      rw [hv] at h0
      simp only [VR] at h0
      simp only [Option.some.injEq, Prod.mk.injEq] at he
      obtain ⟨rfl, rfl⟩ := he
      have hrun := Lib.run_convert_string_bytes (P := P) w src dst e b hu hu' hue
      have hge := grownCap_ge w b.size 0 e
      have hcell : (Lib.bytesCells w e b).size = grownCap w b.size 0 e := by
        simp only [Lib.bytesCells, Array.size_append, Array.size_map, Array.size_replicate, ByteArray.size] at hge ⊢
        omega
      have hlen : (strCells b).length = b.size := by unfold strCells; rw [List.length_map, Array.length_toList]; rfl
      refine ⟨.slice (some ⟨w.heap.size, 0, none⟩) b.size (grownCap w b.size 0 e), Lib.bytesWorld w e b, ρ.ext H.length ⟨w.heap.size, 0, grownCap w b.size 0 e⟩, .inl (by simp [execOp, ho, h0, hrun]), stp_push hr Plan.ext_lt (by rw [Plan.ext_at]) ⟨Lib.bytesWorld_size w e b, ?_, ?_, ?_, Lib.bytesWorld_at_old w e b⟩ ?_, ?_⟩
      · rfl
      · rfl
      · rfl
      · rw [Plan.ext_at]
        refine ⟨Lib.bytesCells w e b, _, Lib.bytesWorld_at_new w e b, hcell, by simp only [hlen]; omega, fun j v hj => ?_, .weak hapf fun _ i hi => ?_, fun h => by rw [hwe] at h; cases h⟩
        · have hj' := (List.getElem?_eq_some_iff.1 hj).1
          rw [hlen] at hj'
          simp only [strCells, List.getElem?_map, Option.map_eq_some_iff] at hj
          obtain ⟨q, hq, rfl⟩ := hj
          refine ⟨.int .u8 q.toNat, ?_, by simp [VR], rfl⟩
          rw [Array.getElem?_toList] at hq
          have h1 : j < b.data.size := hj'
          simp only [Lib.bytesCells, Nat.zero_add]
          rw [Array.getElem?_append_left (by simpa using h1)]
          simp [hq]
        · simp only at hi ⊢; omega
      · simp only [VR, List.length_append, List.length_cons, List.length_nil]
        refine ⟨by omega, _, _, rfl, hge, ?_, ?_, fun k hk => by simp at hk⟩
        · rw [Plan.ext_at]; exact .inr rfl
        · rw [Plan.ext_at]; simp
end
end Go.Den

/- Built-in functions, literals in memory, equality. -/
set_option linter.unusedVariables false
set_option linter.unusedSimpArgs false
namespace Go.Den
open Go.RowKit (Below)
section
variable {P : Program} {W : World} {ρ : Plan} {H : Heap} {w : World} {t : List AV} {a : Act}

theorem VRs_one {n : Nat} {p : AV} {l : List Value} (h : VRs W ρ n [p] l) : ∃ x, l = [x] ∧ VR W ρ n p x := by
  simp only [VRs] at h
  obtain ⟨x, r, rfl, hx, rfl⟩ := h
  exact ⟨x, rfl, hx⟩
theorem VRs_two {n : Nat} {p q : AV} {l : List Value} (h : VRs W ρ n [p, q] l) : ∃ x y, l = [x, y] ∧ VR W ρ n p x ∧ VR W ρ n q y := by
  simp only [VRs] at h
  obtain ⟨x, r, rfl, hx, y, r', rfl, hy, rfl⟩ := h
  exact ⟨x, y, rfl, hx, hy⟩
theorem run_builtin {o : Oper} {c : Call} {b : Builtin} (ho : o.op = .call c) (hb : c.callee = .builtin b) {vs : List Value} (hv : c.args.toList.map a.eval = vs) {ts : List TypeId} (ht : c.argTypes.toList = ts) :
    ∃ cs, (execOp a.eval o).run P w = (builtin b ts.toArray o.type cs vs.toArray).run P w := by
  subst hv; subst ht
  have h1 : c.args.map a.eval = (c.args.toList.map a.eval).toArray := by apply Array.ext'; simp
  have h2 : c.argTypes = c.argTypes.toList.toArray := by simp
  rw [← h1, ← h2]
  simp only [execOp, ho, resolve, hb, Sem.run_bind, Sem.run_pure, Result.andThen_ok, invoke]
  exact ⟨_, rfl⟩
theorem op_len {o : Oper} {c : Call} (ho : o.op = .call c) (hb : c.callee = .builtin .len) {ty : TypeId} (ht : c.argTypes.toList = [ty]) {sx : SX} (hx : c.args.toList.mapM slimX = some [sx]) {str : Bool} (hu : if str then P.underlying ty = some .string else ∃ e, P.underlying ty = some (.slice e)) (hr : Rel W ρ H w) (ha : AR W ρ H.length t a) {v : AV} {H' : Heap} (he : aop (evx t) H (.len str sx) = some (v, H')) : Fine P W ρ H w o a v H' := by
  obtain ⟨x, h1, h2⟩ := VRs_one (evxs_ok ha hx)
  obtain ⟨cs, hrun⟩ := run_builtin (P := P) (w := w) ho hb h1 ht
  simp only [aop] at he
  split at he
  · rename_i s hs
    rw [hs] at h2
    simp only [VR] at h2
    split at he <;> simp only [Option.some.injEq, reduceCtorEq, Prod.mk.injEq] at he
    rename_i hst
    obtain ⟨rfl, rfl⟩ := he
    rw [if_pos hst] at hu
    refine fine_pure hr (x := .int .i64 s.size) ?_ rfl
    rw [hrun, h2]
    simp [builtin, Builtin.len_, run_underlying' hu, goInt]
  · rename_i v' hns
    split at he <;> simp only [Option.map_eq_some_iff, reduceCtorEq] at he
    rename_i hst
    obtain ⟨n, hn, he⟩ := he
    obtain ⟨rfl, rfl⟩ := Prod.mk.inj he
    rw [if_neg hst] at hu
    obtain ⟨e, hu⟩ := hu
    rcases alen_ok h2 hn with ⟨p, k, rfl⟩ | ⟨s, _, _, hs⟩
    · refine fine_pure hr (x := .int .i64 n) ?_ rfl
      rw [hrun]
      simp [builtin, Builtin.len_, run_underlying' hu, goInt]
    · exact absurd hs (hns s)
theorem fold_ok {mx : Bool} {k : IntKind} : ∀ {l : List AV} {xs : List Value} {n : Nat}, VRs W ρ n l xs → ∀ {i : Int} {v : AV}, afoldInt mx k i l = some v → ∃ z, (xs.foldlM (if mx then Builtin.max2 else Builtin.min2) (.int k i)).run P w = .ok z w ∧ VR W ρ H.length v z
  | [], xs, n, h, i, v, he => by
    simp only [VRs] at h; subst h
    simp only [afoldInt, Option.some.injEq] at he; subst he
    exact ⟨_, rfl, rfl⟩
  | u :: l, xs, n, h, i, v, he => by
    simp only [VRs] at h
    obtain ⟨x, r, rfl, hx, hr⟩ := h
    unfold afoldInt at he
    split at he
    · rename_i heq; cases heq
    · rename_i k' b l' heq
      injection heq with e1 e2
      subst e1; subst e2
      split at he <;> (try (cases he; done))
      rename_i hk
      subst hk
      simp only [VR] at hx
      subst hx
      obtain ⟨z, h1, h2⟩ := fold_ok hr he
      refine ⟨z, ?_, h2⟩
      simp only [List.foldlM_cons, Sem.run_bind]
      cases mx
      · simp only [Bool.false_eq_true, if_false, Builtin.min2, Sem.run_pure, Result.andThen_ok] at h1 ⊢; exact h1
      · simp only [if_true, Builtin.max2, Sem.run_pure, Result.andThen_ok] at h1 ⊢; exact h1
    · cases he
theorem op_mnmx {o : Oper} {c : Call} {mx : Bool} (ho : o.op = .call c) (hb : c.callee = .builtin (if mx then .max else .min)) {xs : List SX} (hx : c.args.toList.mapM slimX = some xs) (hr : Rel W ρ H w) (ha : AR W ρ H.length t a) {v : AV} {H' : Heap} (he : aop (evx t) H (.mnmx mx xs) = some (v, H')) : Fine P W ρ H w o a v H' := by
  have h2 := evxs_ok ha hx
  obtain ⟨cs, hrun⟩ := run_builtin (P := P) (w := w) (a := a) ho hb rfl rfl
  simp only [aop] at he
  split at he <;> (try (cases he; done))
  rename_i k i l hl
  rw [hl] at h2
  simp only [VRs] at h2
  obtain ⟨x, r, h3, hx', hr'⟩ := h2
  simp only [VR] at hx'
  subst hx'
  simp only [Option.map_eq_some_iff] at he
  obtain ⟨u, hu, he⟩ := he
  obtain ⟨rfl, rfl⟩ := Prod.mk.inj he
  obtain ⟨z, h4, h5⟩ := fold_ok (P := P) (H := H) (w := w) hr' hu
  refine fine_pure hr (x := z) ?_ h5
  rw [hrun, h3]
  cases mx
  · simp only [Bool.false_eq_true, if_false] at h4
    simp [builtin, Builtin.min_, h4]
  · simp only [if_true] at h4
    simp [builtin, Builtin.max_, h4]
theorem op_range {o : Oper} {s : SO} {ty : TypeId} {x : Operand} (ho : o.op = .range ty x) (hs : slimOp P o.op = some s) (hr : Rel W ρ H w) (ha : AR W ρ H.length t a) {v : AV} {H' : Heap} (he : aop (evx t) H s = some (v, H')) : Fine P W ρ H w o a v H' := by
  rw [ho] at hs
  simp only [slimOp] at hs
  split at hs <;> (try (cases hs; done))
  rename_i hu
  simp only [Option.map_eq_some_iff] at hs
  obtain ⟨sx, hx, rfl⟩ := hs
  have h0 := evx_ok ha hx
  simp only [aop] at he
  split at he <;> (try (cases he; done))
  rename_i b hv
  rw [hv] at h0
  simp only [VR] at h0
  simp only [Option.some.injEq, Prod.mk.injEq] at he
  obtain ⟨rfl, rfl⟩ := he
  refine ⟨.pointer (some ⟨w.heap.size, 0, none⟩), { w with heap := w.heap.push (.stringIter b 0) }, ρ.ext H.length ⟨w.heap.size, 0, 0⟩, .inl (by simp [execOp, ho, h0, Instr.range, run_underlying' hu]), stp_push hr Plan.ext_lt (by rw [Plan.ext_at]) (.push _ _) ?_, ?_⟩
  · rw [Plan.ext_at]
    exact ⟨by simp, rfl⟩
  · simp only [VR, List.length_append, List.length_cons, List.length_nil]
    exact ⟨by omega, by rw [Plan.ext_at]⟩
theorem op_next {o : Oper} {s : SO} {x : Operand} {b : Bool} (ho : o.op = .next x b) (hs : slimOp P o.op = some s) (hr : Rel W ρ H w) (ha : AR W ρ H.length t a) {v : AV} {H' : Heap} (he : aop (evx t) H s = some (v, H')) : Fine P W ρ H w o a v H' := by
  rw [ho] at hs
  simp only [slimOp] at hs
  split at hs <;> simp only [Option.map_eq_some_iff, reduceCtorEq] at hs
  rename_i hb
  obtain ⟨sx, hx, rfl⟩ := hs
  have h0 := evx_ok ha hx
  simp only [aop] at he
  split at he <;> (try (cases he; done))
  rename_i ob hv
  rw [hv] at h0
  simp only [VR] at h0
  obtain ⟨h1, h2⟩ := h0
  split at he <;> (try (cases he; done))
  rename_i q pos hH
  obtain ⟨h3, h4⟩ := hr.obj ob _ hH
  rw [h4, Nat.zero_add] at h2
  have hget : (getObj (ρ ob).b).run P w = .ok (.stringIter q pos) w := by
    simp [getObj, Sem.run, h3]
  split at he
  · rename_i hlt
    simp only [Option.some.injEq, Prod.mk.injEq] at he
    obtain ⟨rfl, rfl⟩ := he
    refine ⟨.tuple #[.bool true, .int .i64 pos, .int .i32 (Utf8.decode q pos).1], { w with heap := w.heap.setIfInBounds (ρ ob).b (.stringIter q (pos + (Utf8.decode q pos).2)) }, ρ, .inl ?_, ?_, ?_⟩
    · simp [execOp, ho, h2, Instr.next, hget, hb, hlt, setObj, Sem.run, h3, goInt]
    · have hblt := (Array.getElem?_eq_some_iff.1 h3).1
      refine stp_set hr hH (by simp) (by simp) rfl rfl rfl (fun k hk => ?_) ⟨?_, h4⟩
      · simp [Array.getElem?_setIfInBounds, Ne.symm hk]
      · simp [Array.getElem?_setIfInBounds, hblt]
    · simp only [VR]
      exact ⟨[.bool true, .int .i64 pos, .int .i32 (Utf8.decode q pos).1], rfl, by simp [VRs, VR]⟩
  · rename_i hge
    simp only [Option.some.injEq, Prod.mk.injEq] at he
    obtain ⟨rfl, rfl⟩ := he
    refine fine_pure hr (x := .tuple #[.bool false]) (by simp [execOp, ho, h2, Instr.next, hget, hb, hge]) ?_
    simp only [VR]
    exact ⟨[.bool false], rfl, by simp [VRs, VR]⟩
end
end Go.Den

/- Structs, arrays and slices that are built; rows that are made, grown, copied, cleared. -/
set_option linter.unusedVariables false
set_option linter.unusedSimpArgs false
namespace Go.Den
open Go.RowKit (Below)
section
variable {P : Program} {W : World} {ρ : Plan} {H : Heap} {w : World} {t : List AV} {a : Act}

theorem put_all (off : Nat) : ∀ (vs : List Value) (k : Nat) (c : Array Value), ∃ c' : Array Value, (vs.zipIdx k).foldl (fun (cs : Array Value) (p : Value × Nat) => cs.setIfInBounds (off + p.2) p.1) c = c' ∧ c'.size = c.size ∧
    ∀ j, c'[j]? = if off + k ≤ j ∧ j < off + k + vs.length ∧ j < c.size then vs[j - (off + k)]? else c[j]?
  | [], k, c => ⟨c, rfl, rfl, fun j => by rw [if_neg (by simp; omega)]⟩
  | v :: vs, k, c => by
    obtain ⟨c', h1, h2, h3⟩ := put_all off vs (k + 1) (c.setIfInBounds (off + k) v)
    refine ⟨c', by simpa [List.zipIdx_cons] using h1, by simpa using h2, fun j => ?_⟩
    rw [h3 j]
    simp only [Array.size_setIfInBounds, List.length_cons]
    by_cases hj : off + (k + 1) ≤ j ∧ j < off + (k + 1) + vs.length ∧ j < c.size
    · rw [if_pos hj, if_pos (by omega), show j - (off + k) = (j - (off + (k + 1))) + 1 by omega, List.getElem?_cons_succ]
    · rw [if_neg hj]
      by_cases hjo : off + k = j
      · subst hjo
        by_cases hs : off + k < c.size
        · rw [if_pos (by omega)]; simp [Array.getElem?_setIfInBounds, hs]
        · rw [if_neg (by omega)]; simp [Array.getElem?_setIfInBounds, hs]
      · rw [if_neg (by omega), Array.getElem?_setIfInBounds_ne hjo]
theorem fold_zip (off : Nat) (vs c : Array Value) : vs.zipIdx.foldl (fun (cs : Array Value) (p : Value × Nat) => cs.setIfInBounds (off + p.2) p.1) c = (vs.toList.zipIdx 0).foldl (fun (cs : Array Value) (p : Value × Nat) => cs.setIfInBounds (off + p.2) p.1) c := by
  rw [← Array.foldl_toList]
  simp
theorem fill_ok {n : Nat} (ha : AR W ρ n t a) {place : Nat → Option (Nat × Nat)} : ∀ {parts : List (Nat × Operand)} {ps : List (Nat × Nat × SX)} (hp : slimParts place parts = some ps) {z z' : List AV} {c : Array Value} (hz : VRs W ρ n z c.toList) (hf : fillIn (evx t) z ps = some z'),
    ∃ c', Instr.fill place c (parts.map fun p => (p.1, a.eval p.2)) = some c' ∧ VRs W ρ n z' c'.toList
  | [], ps, hp, z, z', c, hz, hf => by
    simp [slimParts] at hp
    subst hp
    simp only [fillIn, Option.some.injEq] at hf
    subst hf
    exact ⟨c, rfl, hz⟩
  | p :: parts, ps, hp, z, z', c, hz, hf => by
    simp only [slimParts, List.mapM_cons, Option.bind_eq_bind, Option.bind_eq_some_iff, Option.pure_def, Option.some.injEq, Option.map_eq_some_iff] at hp
    obtain ⟨q, ⟨⟨off, k⟩, hpl, sx, hx, rfl⟩, ps', hps, rfl⟩ := hp
    simp only [fillIn] at hf
    split at hf <;> (try (cases hf; done))
    rename_i hc
    obtain ⟨hc1, hc2, hc3⟩ := hc
    have hv := cells_ok (evx_ok ha hx) hc3
    have hlen := VRs_length hv
    have hzl := VRs_length hz
    simp only [Array.length_toList] at hzl hlen
    obtain ⟨c', h1, h2, h3⟩ := put_all off (a.eval p.2).cells.toList 0 c
    have hz' : VRs W ρ n (splice z off (evx t sx).cells) c'.toList := by
      rw [VRs_iff]
      refine ⟨by have h0 := splice_length (l := z) (vs := (evx t sx).cells) (off := off) (by omega); simp only [Array.length_toList]; omega, fun j v x hj hxj => ?_⟩
      rw [splice_get (by omega)] at hj
      rw [Array.getElem?_toList, h3 j] at hxj
      split at hj
      · rename_i hr
        have hjz : j < c.size := by omega
        rw [if_pos (by simp only [Array.length_toList]; omega), Nat.add_zero] at hxj
        exact ((VRs_iff _ _).1 hv).2 _ v x hj hxj
      · rename_i hr
        rw [if_neg (by simp only [Array.length_toList]; omega)] at hxj
        exact ((VRs_iff _ _).1 hz).2 j v x hj (by rw [Array.getElem?_toList]; exact hxj)
    obtain ⟨c2, h4, h5⟩ := fill_ok ha (parts := parts) (ps := ps') (by simpa [slimParts] using hps) hz' hf
    refine ⟨c2, ?_, h5⟩
    simp only [List.map_cons, Instr.fill, hpl]
    rw [if_neg (by simp only [Bool.or_eq_true, decide_eq_true_eq]; omega)]
    have := fold_zip off (a.eval p.2).cells c
    rw [this, h1]
    exact h4
theorem mapM_places {fs : List Field} {pl : List (Nat × Nat)} (h : (fs.mapM fun f => (sizeT P f.type).map fun n => (f.offset, n)) = some pl) : (fs.mapM fun f => (do pure (f.offset, ← sizeOf f.type) : Sem (Nat × Nat))).run P w = .ok pl w := by
  induction fs generalizing pl with
  | nil => simp at h; subst h; simp
  | cons f fs ih =>
    simp only [List.mapM_cons, Option.bind_eq_bind, Option.bind_eq_some_iff, Option.pure_def, Option.some.injEq, Option.map_eq_some_iff] at h
    obtain ⟨q, ⟨n, hn, rfl⟩, pl', hpl, rfl⟩ := h
    simp only [List.mapM_cons, Sem.run_bind, run_sizeOf' hn, Result.andThen_ok, Sem.run_pure, ih hpl]
theorem zero_cells {ty : TypeId} {z : AV} (hz : zeroT P ty = some z) : ∃ x, (zeroValue ty).run P w = .ok x w ∧ VRs W ρ H.length z.cells x.cells.toList := by
  simp only [zeroT, Option.bind_eq_some_iff] at hz
  obtain ⟨i, hi, x, hx, hz⟩ := hz
  refine ⟨x, by simp [zeroValue, typeInfo, hi, hx], ?_⟩
  unfold absV at hz
  split at hz
  · rename_i cs
    simp only [Option.map_eq_some_iff] at hz
    obtain ⟨m, hm, rfl⟩ := hz
    simpa [AV.cells, Value.cells] using absV1s_ok hm
  · rename_i v hna
    obtain ⟨h1, h2⟩ := absV1_ok (W := W) (ρ := ρ) (n := H.length) hz
    refine cells_ok h1 ?_
    cases z <;> simp_all [AV.one, AV.cells]
theorem op_build {o : Oper} {s : SO} {ty : TypeId} {parts : Array (Nat × Operand)} (ho : o.op = .build ty parts) (hs : slimOp P o.op = some s) (hr : Rel W ρ H w) (ha : AR W ρ H.length t a) {v : AV} {H' : Heap} (he : aop (evx t) H s = some (v, H')) : Fine P W ρ H w o a v H' := by
  rw [ho] at hs
  simp only [slimOp, Option.bind_eq_some_iff] at hs
  obtain ⟨z, hz, hs⟩ := hs
  obtain ⟨zv, hzr, hzc⟩ := zero_cells (P := P) (W := W) (ρ := ρ) (H := H) (w := w) hz
  have hparts : (parts.map fun (p : Nat × Operand) => (p.1, a.eval p.2)).toList = parts.toList.map fun p => (p.1, a.eval p.2) := by simp
  split at hs <;> (try (cases hs; done))
  · rename_i fs hu
    simp only [Option.bind_eq_some_iff, Option.map_eq_some_iff] at hs
    obtain ⟨pl, hpl, ps, hps, rfl⟩ := hs
    simp only [aop, Option.map_eq_some_iff] at he
    obtain ⟨c, hc, he⟩ := he
    obtain ⟨rfl, rfl⟩ := Prod.mk.inj he
    obtain ⟨c', h1, h2⟩ := fill_ok ha hps hzc hc
    refine fine_pure hr (x := .agg c') ?_ (by simp only [VR]; exact ⟨c'.toList, by simp, h2⟩)
    have hm := mapM_places (P := P) (w := w) hpl
    have hfill : Instr.fill (fun x => pl.toArray[x]?) zv.cells (parts.toList.map fun p => (p.1, a.eval p.2)) = some c' := by simpa using h1
    have hm2 : (fs.mapM fun f => (do pure (f.offset, ← sizeOf f.type) : Sem (Nat × Nat))).run P w = .ok pl.toArray w := by
      rw [Array.mapM_eq_mapM_toList]
      simp only [Sem.run_map, hm, Result.andThen_ok]
    simp only [execOp, ho, Instr.build, Sem.run_bind, hzr, Result.andThen_ok, run_underlying' hu, hm2, hparts, hfill, Sem.run_pure]
  · rename_i m e hu
    simp only [Option.bind_eq_some_iff, Option.map_eq_some_iff] at hs
    obtain ⟨k, hk, ps, hps, rfl⟩ := hs
    simp only [aop, Option.map_eq_some_iff] at he
    obtain ⟨c, hc, he⟩ := he
    obtain ⟨rfl, rfl⟩ := Prod.mk.inj he
    obtain ⟨c', h1, h2⟩ := fill_ok ha hps hzc hc
    refine fine_pure hr (x := .agg c') ?_ (by simp only [VR]; exact ⟨c'.toList, by simp, h2⟩)
    simp only [execOp, ho, Instr.build, Sem.run_bind, hzr, Result.andThen_ok, run_underlying' hu, run_sizeOf' hk, hparts, h1, Sem.run_pure]
/-- Zeros again and again. -/
theorem again_get {z : List AV} (hz : z.length ≠ 0) : ∀ (n j : Nat), j < n * z.length → ((List.replicate n z).flatten)[j]? = z[j % z.length]?
  | 0, j, h => by simp at h
  | n + 1, j, h => by
    rw [List.replicate_succ, List.flatten_cons]
    by_cases hj : j < z.length
    · rw [List.getElem?_append_left hj, Nat.mod_eq_of_lt hj]
    · rw [List.getElem?_append_right (by omega), again_get hz n (j - z.length) (by rw [Nat.succ_mul] at h; omega)]
      congr 1
      conv => rhs; rw [show j = (j - z.length) + z.length by omega, Nat.add_mod_right]
theorem again_length {z : List AV} (n : Nat) : ((List.replicate n z).flatten).length = n * z.length := by simp
theorem again_ok {n : Nat} {z : List AV} {c : Array Value} (h : VRs W ρ n z c.toList) (hz : z.length ≠ 0) (k : Nat) : VRs W ρ n ((List.replicate k z).flatten) ((Array.range (k * z.length)).map (c[· % c.size]!)).toList := by
  have hl := VRs_length h
  simp only [Array.length_toList] at hl
  rw [VRs_iff]
  refine ⟨by rw [again_length]; simp, fun j v x hj hx => ?_⟩
  have hj' := (List.getElem?_eq_some_iff.1 hj).1
  rw [again_length] at hj'
  rw [again_get hz k j hj'] at hj
  rw [Array.getElem?_toList] at hx
  have hlt : j % c.size < c.size := Nat.mod_lt _ (by omega)
  simp [hj', getElem!_pos c (j % c.size) hlt] at hx
  subst hx
  rw [hl] at hj
  exact ((VRs_iff _ _).1 h).2 _ v _ hj (by rw [Array.getElem?_toList, Array.getElem?_eq_getElem hlt])
end
end Go.Den

/- Slices that are made, grown, copied into, cleared. -/
set_option linter.unusedVariables false
set_option linter.unusedSimpArgs false
namespace Go.Den
open Go.RowKit (Below)
section
variable {P : Program} {W : World} {ρ : Plan} {H : Heap} {w : World} {t : List AV} {a : Act}

theorem VRs_all {n : Nat} {l : List AV} {xs : List Value} (h : VRs W ρ n l xs) (h1 : l.all AV.one = true) : ∀ (j : Nat) (v : AV), l[j]? = some v → ∃ x, xs[j]? = some x ∧ VR W ρ n v x ∧ v.one = true := by
  intro j v hj
  obtain ⟨x, h2, h3⟩ := VRs_get h hj
  rw [List.all_eq_true] at h1
  exact ⟨x, h2, h3, h1 v (List.mem_of_getElem? hj)⟩
theorem absV1s_one : ∀ {l : List Value} {m : List AV}, l.mapM absV1 = some m → m.all AV.one = true
  | [], m, h => by simp at h; subst h; rfl
  | v :: l, m, h => by
    simp only [List.mapM_cons, Option.bind_eq_bind, Option.bind_eq_some_iff, Option.pure_def, Option.some.injEq] at h
    obtain ⟨x, hx, r, hr, rfl⟩ := h
    simp only [List.all_cons, Bool.and_eq_true]
    exact ⟨(absV1_ok (W := default) (ρ := fun _ => ⟨0, 0, 0⟩) (n := 0) hx).2, absV1s_one hr⟩
theorem zeroT_one {e : TypeId} {z : AV} (hz : zeroT P e = some z) : z.cells.all AV.one = true := by
  simp only [zeroT, Option.bind_eq_some_iff] at hz
  obtain ⟨i', _, x, _, hz⟩ := hz
  unfold absV at hz
  split at hz
  · simp only [Option.map_eq_some_iff] at hz
    obtain ⟨m', hm', rfl⟩ := hz
    exact absV1s_one hm'
  · obtain ⟨_, h2⟩ := absV1_ok (W := default) (ρ := fun _ => ⟨0, 0, 0⟩) (n := 0) hz
    cases z <;> simp_all [AV.one, AV.cells]
theorem again_one {z : List AV} (h : z.all AV.one = true) (n : Nat) : ((List.replicate n z).flatten).all AV.one = true := by
  rw [List.all_eq_true] at h ⊢
  intro v hv
  simp only [List.mem_flatten, List.mem_replicate] at hv
  obtain ⟨l', ⟨_, rfl⟩, hv⟩ := hv
  exact h v hv
theorem fill_size {place : Nat → Option (Nat × Nat)} : ∀ {parts : List (Nat × Value)} {c c' : Array Value}, Instr.fill place c parts = some c' → c'.size = c.size
  | [], c, c', h => by simp [Instr.fill] at h; subst h; rfl
  | p :: parts, c, c', h => by
    simp only [Instr.fill] at h
    split at h <;> (try (cases h; done))
    rename_i off sz hp
    split at h <;> (try (cases h; done))
    have h0 := fill_size h
    rw [h0, fold_zip]
    obtain ⟨c2, h5, h6, _⟩ := put_all off p.2.cells.toList 0 c
    rw [h5]; exact h6
theorem op_bsl {o : Oper} {s : SO} {ty : TypeId} {len : Nat} {parts : Array (Nat × Operand)} (ho : o.op = .buildSlice ty len parts) (hs : slimOp P o.op = some s) (hr : Rel W ρ H w) (ha : AR W ρ H.length t a) {v : AV} {H' : Heap} (he : aop (evx t) H s = some (v, H')) : Fine P W ρ H w o a v H' := by
  rw [ho] at hs
  simp only [slimOp] at hs
  split at hs <;> (try (cases hs; done))
  rename_i e hu
  simp only [Option.bind_eq_some_iff] at hs
  obtain ⟨k, hk, z, hz, hs⟩ := hs
  split at hs <;> simp only [Option.map_eq_some_iff, reduceCtorEq] at hs
  rename_i hc
  obtain ⟨hc1, hc2, hc3⟩ := hc
  obtain ⟨ps, hps, rfl⟩ := hs
  obtain ⟨zv, hzr, hzc⟩ := zero_cells (P := P) (W := W) (ρ := ρ) (H := H) (w := w) hz
  have hzl := VRs_length hzc
  simp only [Array.length_toList] at hzl
  simp only [aop, Option.bind_eq_some_iff] at he
  obtain ⟨c, hc, he⟩ := he
  split at he <;> simp only [Option.some.injEq, Prod.mk.injEq, reduceCtorEq] at he
  rename_i hall
  obtain ⟨rfl, rfl⟩ := he
  have hrow := again_ok hzc (by omega) len
  obtain ⟨c', h1, h2⟩ := fill_ok ha hps hrow hc
  have hcl := VRs_length h2
  have hnew := stp_new hr (l := c) (c := c') (e := e) (by simp only [Array.length_toList] at hcl; omega) (fun j v hj => by
    obtain ⟨x, h3, h4, h5⟩ := VRs_all h2 hall j v hj
    exact ⟨x, by rwa [Array.getElem?_toList] at h3, h4, h5⟩) true (fun _ => by simpa using hcl)
  refine ⟨.slice (some ⟨w.heap.size, 0, none⟩) len len, _, _, .inl ?_, hnew, ?_⟩
  · have hparts : (parts.map fun (p : Nat × Operand) => (p.1, a.eval p.2)).toList = parts.toList.map fun p => (p.1, a.eval p.2) := by simp
    have hsz : ¬ len * k > 2 ^ 24 := by omega
    rw [hc2] at h1
    by_cases h0 : len * k = 0
    · have hlen : len = 0 := by
        rcases Nat.mul_eq_zero.1 h0 with h | h
        · exact h
        · exact absurd h hc3
      subst hlen
      simp only [Nat.zero_mul] at h1
      have : ((Array.range 0).map fun x => (#[] : Array Value)[x % (#[] : Array Value).size]!) = (Array.range 0).map fun x => zv.cells[x % zv.cells.size]! := by simp
      simp only [execOp, ho, Instr.buildSlice, Sem.run_bind, run_underlying' hu, Result.andThen_ok, run_sizeOf' hk, Nat.zero_mul, Sem.run_ite, hparts]
      rw [if_neg (by omega)]
      simp only [Result.andThen_ok, Sem.run_pure, if_true, this, h1, newRow, Sem.run_bind, run_newObj]
    · simp only [execOp, ho, Instr.buildSlice, Sem.run_bind, run_underlying' hu, Result.andThen_ok, run_sizeOf' hk, Sem.run_ite, hparts]
      rw [if_neg hsz, if_neg h0]
      simp only [Result.andThen_ok, Sem.run_pure, Sem.run_bind, hzr, h1, newRow, run_newObj]
  · have hcc : c'.size = len * k := by
      have h3 := VRs_length hrow
      have h4 : c'.size = ((Array.range (len * z.cells.length)).map (zv.cells[· % zv.cells.size]!)).size := by
        exact fill_size h1
      rw [h4]; simp [hc2]
    simp only [VR, List.length_append, List.length_cons, List.length_nil, Plan.ext_at]
    exact ⟨by omega, _, _, rfl, Nat.le_refl _, .inr rfl, by omega, fun q hq => by injection hq⟩
theorem wrap64_small {n : Int} (h0 : 0 ≤ n) (h1 : n ≤ 4294967296) : IntKind.i64.wrap n = n := by
  have h2 : n % (2 ^ IntKind.i64.bits : Int) = n := by
    have e : (2 ^ IntKind.i64.bits : Int) = 18446744073709551616 := by decide
    rw [e]; omega
  have e : (2 ^ (IntKind.i64.bits - 1) : Int) = 9223372036854775808 := by decide
  unfold IntKind.wrap
  simp only [h2, e]
  rw [if_neg (by simp; omega)]
theorem op_mksl {o : Oper} {s : SO} {ty : TypeId} {l c : Operand} (ho : o.op = .makeSlice ty l c) (hs : slimOp P o.op = some s) (hr : Rel W ρ H w) (ha : AR W ρ H.length t a) {v : AV} {H' : Heap} (he : aop (evx t) H s = some (v, H')) : Fine P W ρ H w o a v H' := by
  rw [ho] at hs
  simp only [slimOp] at hs
  split at hs <;> (try (cases hs; done))
  rename_i e hu
  simp only [Option.bind_eq_some_iff] at hs
  obtain ⟨i, hi, z, hz, hs⟩ := hs
  split at hs <;> simp only [Option.bind_eq_some_iff, Option.map_eq_some_iff, reduceCtorEq] at hs
  rename_i hc
  obtain ⟨hc1, hc2, hc3⟩ := hc
  obtain ⟨sl, hl, sc, hcc, rfl⟩ := hs
  obtain ⟨zv, hzr, hzc⟩ := zero_cells (P := P) (W := W) (ρ := ρ) (H := H) (w := w) hz
  have hzl := VRs_length hzc
  simp only [Array.length_toList] at hzl
  simp only [aop] at he
  split at he <;> (try (cases he; done))
  rename_i k1 n k2 m hn hm
  have h1 := evx_ok ha hl
  have h2 := evx_ok ha hcc
  rw [hn] at h1
  rw [hm] at h2
  simp only [VR] at h1 h2
  split at he <;> simp only [Option.some.injEq, Prod.mk.injEq, reduceCtorEq] at he
  rename_i hb
  obtain ⟨hb0, hb1, hb2⟩ := hb
  simp only [roomy, decide_eq_true_eq] at hb2
  obtain ⟨rfl, rfl⟩ := he
  have hrow := again_ok hzc (by omega) m.toNat
  have hall := again_one (zeroT_one hz) m.toNat
  have hnew := stp_new hr (l := (List.replicate m.toNat z.cells).flatten) (c := (Array.range (m.toNat * z.cells.length)).map (zv.cells[· % zv.cells.size]!)) (e := e) (by simp) (fun j v hj => by
    obtain ⟨x, h3, h4, h5⟩ := VRs_all hrow hall j v hj
    exact ⟨x, by rwa [Array.getElem?_toList] at h3, h4, h5⟩) true (fun _ => by simp)
  have hw1 := wrap64_small (n := n) hb0 (by omega)
  have hw2 := wrap64_small (n := m) (by omega) (by omega)
  have hbig : ¬ ((i.bytes : Int) * m > 2 ^ 48) := by
    have : (i.bytes : Int) * m ≤ 1024 * 4294967296 := Int.mul_le_mul (by omega) (by omega) (by omega) (by omega)
    omega
  refine ⟨.slice (some ⟨w.heap.size, 0, none⟩) n.toNat m.toNat, _, _, .inl ?_, hnew, ?_⟩
  · simp only [execOp, ho, Instr.makeSlice, Sem.run_bind, run_underlying' hu, Result.andThen_ok, h1, h2, asInt, asIntOf, Sem.run_pure, run_typeInfo hi, hw1, hw2, Sem.run_ite]
    have e1 : decide (m < 0) = false := by simp; omega
    have e2 : decide ((i.bytes : Int) * m > 2 ^ 48) = false := by simpa using hbig
    have e3 : decide (n < 0) = false := by simp; omega
    have e4 : decide (n > m) = false := by simp; omega
    simp only [e1, e2, e3, e4, Bool.or_false, Bool.false_eq_true, if_false, run_askRoom, Result.andThen_ok, Sem.run_pure, sizeOf, Sem.run_bind, run_typeInfo hi, newRow, run_newObj]
    by_cases h0 : m.toNat * i.size = 0
    · have hm0 : m.toNat = 0 := by
        rcases Nat.mul_eq_zero.1 h0 with h | h
        · exact h
        · exact absurd h hc3
      simp [hm0, show Array.range 0 = #[] from rfl]
    · rw [if_neg h0, hc2]
      simp only [hzr, Result.andThen_ok]
  · simp only [VR, List.length_append, List.length_cons, List.length_nil, Plan.ext_at]
    refine ⟨by omega, _, _, rfl, by omega, .inr rfl, ?_, fun q hq => by injection hq⟩
    simp
end
end Go.Den

/- append, copy, clear. -/
set_option linter.unusedVariables false
set_option linter.unusedSimpArgs false
namespace Go.Den
open Go.RowKit (Below)
section
variable {P : Program} {W : World} {ρ : Plan} {H : Heap} {w : World} {t : List AV} {a : Act}

theorem Stp.kill {ρ' : Plan} {H' : Heap} {w' : World} (h : Stp W ρ H w ρ' H' w') (o : Nat) : Stp W ρ H w ρ' (H'.set o .dead) w' := by
  refine ⟨h.same, by rw [List.length_set]; exact h.len, h.size, h.frame, fun i ⟨y, hy, hyd⟩ => h.own i ?_, h.rel.kill o⟩
  rw [List.getElem?_set] at hy
  split at hy
  · split at hy <;> simp at hy; exact absurd hy.symm hyd
  · exact ⟨y, hy, hyd⟩
/-- A row that grows in its block: the old one is forgotten. -/
theorem stp_regrow {w' : World} (h : Rel W ρ H w) {o : Nat} {L : List AV} {e : TypeId} {r : Bool} (hx : H[o]? = some (.cells L e r)) (hset : SetTo (ρ o).b w w') {s : Spot} (hs : s.b = (ρ o).b) {n : AO}
    (hn : OR W (ρ.ext H.length s) (H.length + 1) n s w') : Stp W ρ H w (ρ.ext H.length s) (H.set o .dead ++ [n]) w' := by
  have hlo : live H o := ⟨_, hx, by simp⟩
  have hbo := h.lo o hlo
  have hlo' := live_lt hlo
  have hlen : (H.set o AO.dead).length = H.length := List.length_set
  have hlive : ∀ i, live (H.set o .dead ++ [n]) i → i = H.length ∨ (live H i ∧ i ≠ o) := fun i ⟨y, hy, hyd⟩ => by
    rcases Nat.lt_or_ge i H.length with h1 | h1
    · rw [List.getElem?_append_left (by omega), List.getElem?_set] at hy
      split at hy
      · rename_i he
        subst he
        injection hy with hy
        exact absurd hy.symm hyd
      · rename_i hne; exact .inr ⟨⟨y, hy, hyd⟩, fun he => hne he.symm⟩
    · have := (List.getElem?_eq_some_iff.1 hy).1; simp at this; exact .inl (by omega)
  refine ⟨Plan.ext_lt, by simp, by have := hset.size; omega, fun b hb hnb => hset.other b (fun he => hnb o hlo he.symm), fun i hi => ?_, ⟨⟨hset.os.trans h.below.os, hset.tape.trans h.below.tape, hset.output.trans h.below.output, by have := h.below.size; have := hset.size; omega, fun k hk => ?_⟩, fun i hi => ?_, fun i y hy => ?_, fun i j hi hj hij => ?_⟩⟩
  · rcases hlive i hi with rfl | ⟨h1, _⟩
    · exact .inr ⟨o, hlo, by rw [Plan.ext_at]; exact hs.symm⟩
    · exact .inr ⟨i, h1, by rw [Plan.ext_lt i (live_lt h1)]⟩
  · rw [hset.other k (by omega)]; exact h.below.block k hk
  · rcases hlive i hi with rfl | ⟨h1, _⟩
    · rw [Plan.ext_at, hs]; exact hbo
    · rw [Plan.ext_lt i (live_lt h1)]; exact h.lo i h1
  · simp only [List.length_append, hlen, List.length_cons, List.length_nil]
    rcases Nat.lt_or_ge i H.length with h1 | h1
    · rw [List.getElem?_append_left (by omega), List.getElem?_set] at hy
      split at hy
      · rename_i he
        subst he
        injection hy with hy
        subst hy
        trivial
      · rename_i hne
        rw [Plan.ext_lt i h1]
        exact OR_same (h.obj i y hy) Plan.ext_lt (by omega) (fun hyd => hset.other _ fun heq => hne (h.inj o i hlo ⟨y, hy, hyd⟩ heq.symm))
    · have h2 := (List.getElem?_eq_some_iff.1 hy).1
      simp at h2
      obtain rfl : i = H.length := by omega
      rw [List.getElem?_append_right (by omega)] at hy
      simp [hlen] at hy
      subst hy
      rw [Plan.ext_at]
      exact hn
  · rcases hlive i hi with rfl | ⟨h1, h1'⟩ <;> rcases hlive j hj with rfl | ⟨h2, h2'⟩
    · rfl
    · rw [Plan.ext_at, Plan.ext_lt j (live_lt h2), hs] at hij; exact absurd (h.inj o j hlo h2 hij).symm h2'
    · rw [Plan.ext_at, Plan.ext_lt i (live_lt h1), hs] at hij; exact absurd (h.inj i o h1 hlo hij) h1'
    · rw [Plan.ext_lt i (live_lt h1), Plan.ext_lt j (live_lt h2)] at hij; exact h.inj i j h1 h2 hij
theorem cell_heap {w w1 : World} (h : w1.heap = w.heap) (p : Addr) : w1.cell? p = w.cell? p := by simp [World.cell?, h]
/-- What is appended, or copied. -/
theorem source_ok (hr : Rel W ρ H w) {x : AV} {xv : Value} (hx : VR W ρ H.length x xv) {n sz : Nat} (hn : alen x = some n) {l : List AV}
    (hl : newOf H sz x = some l) (hln : l.length = n * sz) :
    (∀ w1 : World, w1.heap = w.heap → (Builtin.lenOf xv).run P w1 = .ok n w1) ∧ ∃ xs : List Value, VRs W ρ H.length l xs ∧ xs.length = l.length ∧ (∀ x ∈ xs, x.oneCell' = true) ∧
      ∀ w1 : World, w1.heap = w.heap → ∀ k, k ≤ n → (Builtin.firstCells sz k xv).run P w1 = .ok (xs.take (k * sz)).toArray w1 := by
  by_cases hstr : ∃ s, x = .str s
  · obtain ⟨s, rfl⟩ := hstr
    simp only [newOf] at hl
    split at hl <;> simp only [Option.some.injEq, reduceCtorEq] at hl
    rename_i hsz
    subst hl
    subst hsz
    simp only [VR] at hx
    subst hx
    simp only [alen, Option.some.injEq] at hn
    subst hn
    refine ⟨fun w1 _ => by simp [Builtin.lenOf], s.data.toList.map fun b => .int .u8 b.toNat, ?_, by simp [strCells], by simp [Value.oneCell'], fun w1 _ k hk => ?_⟩
    · unfold strCells
      generalize s.data.toList = q
      induction q with
      | nil => simp [VRs]
      | cons b q ih => simp only [List.map_cons, VRs, VR]; exact ⟨_, _, rfl, rfl, ih⟩
    · simp only [Builtin.firstCells, Sem.run_pure]
      congr 1
      apply Array.ext'
      simp only [Array.toList_map, Nat.mul_one]
      rw [← List.map_take]
      congr 1
      rw [ByteArray.data_extract]
      simp
  · have hns : ∀ s, x ≠ .str s := fun s h => hstr ⟨s, h⟩
    have hl' : acells H x = some l := by
      cases x
      case str s => exact absurd rfl (hns s)
      all_goals exact hl
    rcases acells_ok hr hx hl' with ⟨h1, rfl⟩ | ⟨p, len, c, xs, h1, h2, h3, h4, h5, h6, h7⟩
    · subst h1
      cases x <;> simp only [VR] at hx <;> simp only [alen, Option.some.injEq, reduceCtorEq] at hn
      case nils =>
        subst hn
        exact ⟨fun w1 _ => by simp [Builtin.lenOf], [], by simp [VRs], rfl, by simp, fun w1 _ k hk => by simp [Builtin.firstCells]⟩
      case vs =>
        obtain ⟨_, _, h, _⟩ := hx
        cases h
      case sl =>
        obtain ⟨_, _, _, h, _⟩ := hx
        cases h
      case str => exact absurd rfl (hns _)
    · subst h1
      rw [h2] at hn
      injection hn with hn
      subst hn
      refine ⟨fun w1 _ => by simp [Builtin.lenOf], xs, h4, h5, h7, fun w1 hw1 k hk => ?_⟩
      have hk' : k * sz ≤ len * sz := Nat.mul_le_mul_right _ hk
      have hload := run_loadCells_xs (P := P) (w := w1) (a := p) (xs := xs.take (k * sz)) (k := k * sz) (by simp; omega) (fun j x hj => by
        rw [List.getElem?_take] at hj
        split at hj
        · rw [cell_heap hw1]; exact h6 j x hj
        · simp at hj)
      simpa [Builtin.firstCells] using hload
theorem growBy_le (N : Nat) : ∀ (r c : Nat), Builtin.growBy N r c ≤ max c (2 * N + 192)
  | 0, c => by simp only [Builtin.growBy]; omega
  | r + 1, c => by
    simp only [Builtin.growBy]
    split
    · omega
    · have := growBy_le N r (c + (c + 768) / 4)
      omega
theorem nextcap_le {N c : Nat} (h : c < N) : Builtin.nextslicecap N c ≤ 2 * N + 192 := by
  unfold Builtin.nextslicecap
  split
  · omega
  · split
    · omega
    · have := growBy_le N 4 c
      omega
theorem not_int : ∀ {ud : TypeDesc}, (∀ k, ud ≠ .int k) → (match ud with | .int _ => true | _ => false) = false := by
  intro ud hni
  cases ud <;> first | rfl | exact absurd rfl (hni _)
/-- 'append' where there is no room: a new row. -/
theorem append_new {ty u e : TypeId} {ud : TypeDesc} {i : TypeInfo} {z : AV} (hu : P.underlying ty = some (.slice e)) (hud : P.underlying u = some ud) (hni : ∀ k, ud ≠ .int k) (hi : P.info? e = some i) (hz : zeroT P e = some z) (hb : i.bytes ≤ 1024) (hzl : z.cells.length = i.size)
    {sv xv : Value} {base : Option Addr} {sLen sCap n : Nat} (hsv : sv = .slice base sLen sCap) {os ns : List Value} (hlen : ∀ w1 : World, w1.heap = w.heap → (Builtin.lenOf xv).run P w1 = .ok n w1)
    (hold : ∀ w1 : World, w1.heap = w.heap → (Builtin.firstCells i.size sLen sv).run P w1 = .ok os.toArray w1) (hnew : ∀ w1 : World, w1.heap = w.heap → (Builtin.firstCells i.size n xv).run P w1 = .ok ns.toArray w1) (hcap : sCap < sLen + n) (hroom : sLen + n ≤ 4294967296) (ty' : TypeId) :
    ∃ (newCap : Nat) (rest : Array Value) (w' : World), sLen + n ≤ newCap ∧ rest.size = (newCap - (sLen + n)) * i.size ∧ OneMore w w' ∧ w'.heap[w.heap.size]? = some (.cells (os.toArray ++ ns.toArray ++ rest) e (0, 0)) ∧
      (Builtin.append_ #[ty, u] ty' #[sv, xv]).run P w = .ok (.slice (some ⟨w.heap.size, 0, none⟩) (sLen + n) newCap) w' := by
  obtain ⟨zv, hzr, hzc⟩ := zero_cells (P := P) (W := default) (ρ := fun _ => ⟨0, 0, 0⟩) (H := []) (w := { w with drawn := w.drawn + 1 }) hz
  have hzs := VRs_length hzc
  simp only [Array.length_toList] at hzs
  refine ⟨grownCap w (sLen + n) sCap e, Builtin.zeroCells zv.cells (grownCap w (sLen + n) sCap e - (sLen + n)), { w with drawn := w.drawn + 1, heap := w.heap.push (.cells (os.toArray ++ ns.toArray ++ Builtin.zeroCells zv.cells (grownCap w (sLen + n) sCap e - (sLen + n))) e) }, grownCap_ge w _ _ e, ?_, ⟨by simp, rfl, rfl, rfl, fun b hb => by simp [Array.getElem?_push, show b ≠ w.heap.size by omega]⟩, by simp, ?_⟩
  · simp [Builtin.zeroCells]; rw [← hzs, hzl]
  · subst hsv
    have h1 : ¬ (sLen + n ≤ sCap) := by omega
    have h2 : ¬ (((sLen + n : Nat) : Int) > IntKind.i64.max ∧ (False ∨ i.bytes = 0)) := by
      rintro ⟨h, _⟩
      have e : IntKind.i64.max = 9223372036854775807 := by decide
      rw [e] at h; omega
    have h3 : ¬ (Builtin.nextslicecap (sLen + n) sCap * i.bytes > 2 ^ 48) := by
      have h4 := nextcap_le (N := sLen + n) (c := sCap) (by omega)
      have h5 : Builtin.nextslicecap (sLen + n) sCap * i.bytes ≤ (2 * 4294967296 + 192) * 1024 := Nat.mul_le_mul (by omega) hb
      omega
    have hints := not_int hni
    unfold Builtin.append_
    simp only [List.getElem?_toArray, List.getElem?_cons_zero, List.getElem?_cons_succ, Sem.run_bind, run_underlying' hu, Result.andThen_ok, sizeOf, run_typeInfo hi, Sem.run_pure, run_underlying' hud]
    have e1 := hlen w rfl
    simp only [Bool.false_eq_true, if_false, Sem.run_bind, Result.andThen_ok, e1, if_neg h1, Bool.not_false, if_true]
    have hf : (Question.appendCap (sLen + n) sCap e).forced = false := rfl
    simp only [run_typeInfo hi, Result.andThen_ok, if_neg h2, if_neg h3, Sem.run_bind, run_choose, hf, Bool.false_eq_true, if_false, run_askRoom]
    have e2 := hold { w with drawn := w.drawn + 1 } rfl
    have e3 := hnew { w with drawn := w.drawn + 1 } rfl
    have e4 : (Question.appendCap (sLen + n) sCap e).cut (w.tape w.drawn (Question.appendCap (sLen + n) sCap e)) = grownCap w (sLen + n) sCap e := rfl
    simp only [run_typeInfo hi, Result.andThen_ok, run_askRoom, e2, e3, hzr, newRow, Sem.run_bind, run_newObj, Sem.run_pure, e4]
/-- 'append' where there is room. -/
theorem append_old {ty u e : TypeId} {ud : TypeDesc} {i : TypeInfo} (hu : P.underlying ty = some (.slice e)) (hud : P.underlying u = some ud) (hni : ∀ k, ud ≠ .int k) (hi : P.info? e = some i)
    {sv xv : Value} {base : Addr} {sLen sCap n : Nat} (hsv : sv = .slice (some base) sLen sCap) {ns : List Value} (hlen : (Builtin.lenOf xv).run P w = .ok n w) (hnew : (Builtin.firstCells i.size n xv).run P w = .ok ns.toArray w)
    (hcap : sLen + n ≤ sCap) {w' : World} (hst : (storeCells (base.add (sLen * i.size)) ns).run P w = .ok () w') (ty' : TypeId) :
    (Builtin.append_ #[ty, u] ty' #[sv, xv]).run P w = .ok (.slice (some base) (sLen + n) sCap) w' := by
  subst hsv
  have hints := not_int hni
  unfold Builtin.append_
  simp only [List.getElem?_toArray, List.getElem?_cons_zero, List.getElem?_cons_succ, Sem.run_bind, run_underlying' hu, Result.andThen_ok, sizeOf, run_typeInfo hi, Sem.run_pure, run_underlying' hud]
  simp only [Bool.false_eq_true, if_false, Sem.run_bind, Result.andThen_ok, hlen, if_pos hcap, Bool.not_false, if_true, hnew, hst, Sem.run_pure]
theorem append_none {ty u e : TypeId} {ud : TypeDesc} {i : TypeInfo} (hu : P.underlying ty = some (.slice e)) (hud : P.underlying u = some ud) (hni : ∀ k, ud ≠ .int k) (hi : P.info? e = some i)
    {xv : Value} {cs : Array Value} (hlen : (Builtin.lenOf xv).run P w = .ok 0 w) (hnew : (Builtin.firstCells i.size 0 xv).run P w = .ok cs w) (ty' : TypeId) :
    (Builtin.append_ #[ty, u] ty' #[.slice none 0 0, xv]).run P w = .ok (.slice none 0 0) w := by
  have hints := not_int hni
  unfold Builtin.append_
  simp only [List.getElem?_toArray, List.getElem?_cons_zero, List.getElem?_cons_succ, Sem.run_bind, run_underlying' hu, Result.andThen_ok, sizeOf, run_typeInfo hi, Sem.run_pure, run_underlying' hud]
  simp [hlen, hnew]
theorem nothing_new {x : AV} {xv : Value} {n sz : Nat} (hx : VR W ρ n x xv) (h0 : alen x = some 0) : (Builtin.lenOf xv).run P w = .ok 0 w ∧ (Builtin.firstCells sz 0 xv).run P w = .ok (([] : List Value).toArray) w := by
  rcases alen_ok hx h0 with ⟨p, c, rfl⟩ | ⟨s, rfl, hs, _⟩
  · refine ⟨by simp [Builtin.lenOf], ?_⟩
    cases p with
    | none => simp [Builtin.firstCells]
    | some p =>
      have := run_loadCells_xs (P := P) (w := w) (a := p) (xs := []) (k := 0) rfl (fun j x hj => by simp at hj)
      simpa [Builtin.firstCells] using this
  · refine ⟨by simp [Builtin.lenOf, ← hs], ?_⟩
    simp only [Builtin.firstCells, Sem.run_pure]
    congr 1
    apply Array.ext'
    rw [ByteArray.data_extract]
    simp
/-- 'append' of so many zero elements to nil. -/
theorem append_made {ty u e : TypeId} {k : IntKind} {i : TypeInfo} {z : AV} (hu : P.underlying ty = some (.slice e)) (hud : P.underlying u = some (.int k)) (hi : P.info? e = some i) (hz : zeroT P e = some z) (hb : i.bytes ≤ 1024) (hi0 : i.size ≠ 0) (hzl : z.cells.length = i.size)
    {k' : IntKind} {n : Int} (h0 : 0 < n) (hroom : n ≤ 4294967296) (ty' : TypeId) :
    ∃ (newCap : Nat) (rest : Array Value) (w' : World) (zv : Value), n.toNat ≤ newCap ∧ rest.size = (newCap - n.toNat) * i.size ∧ OneMore w w' ∧ zv.cells.size = i.size ∧
      (∀ (W : World) (ρ : Plan) (m : Nat), VRs W ρ m z.cells zv.cells.toList) ∧ w'.heap[w.heap.size]? = some (.cells (#[] ++ Builtin.zeroCells zv.cells n.toNat ++ rest) e (0, 0)) ∧
      (Builtin.append_ #[ty, u] ty' #[.slice none 0 0, .int k' n]).run P w = .ok (.slice (some ⟨w.heap.size, 0, none⟩) n.toNat newCap) w' := by
  obtain ⟨zv, hzr, _⟩ := zero_cells (P := P) (W := default) (ρ := fun _ => ⟨0, 0, 0⟩) (H := []) (w := { w with drawn := w.drawn + 1 }) hz
  have hzc : ∀ (W : World) (ρ : Plan) (H : Heap), VRs W ρ H.length z.cells zv.cells.toList := fun W ρ H => by
    obtain ⟨zv', hzr', hzc'⟩ := zero_cells (P := P) (W := W) (ρ := ρ) (H := H) (w := { w with drawn := w.drawn + 1 }) hz
    rw [hzr] at hzr'
    injection hzr' with h _
    rw [h]; exact hzc'
  have hzs := VRs_length (hzc default (fun _ => ⟨0, 0, 0⟩) [])
  simp only [Array.length_toList] at hzs
  have hg := grownCap_ge w n.toNat 0 e
  refine ⟨grownCap w n.toNat 0 e, Builtin.zeroCells zv.cells (grownCap w n.toNat 0 e - n.toNat), { w with drawn := w.drawn + 1, heap := w.heap.push (.cells (#[] ++ Builtin.zeroCells zv.cells n.toNat ++ Builtin.zeroCells zv.cells (grownCap w n.toNat 0 e - n.toNat)) e) }, zv, hg, ?_, ⟨by simp, rfl, rfl, rfl, fun b hb => by simp [Array.getElem?_push, show b ≠ w.heap.size by omega]⟩, by omega, fun W ρ m => ?_, by simp, ?_⟩
  · simp [Builtin.zeroCells]; rw [← hzs, hzl]
  · simpa using hzc W ρ (List.replicate m .dead)
  · have hw := wrap64_small (n := n) (by omega) (by omega)
    have h1 : ¬ (0 + n.toNat ≤ 0) := by omega
    have h2 : ¬ (((0 + n.toNat : Nat) : Int) > IntKind.i64.max ∧ (True ∨ i.bytes = 0)) := by
      rintro ⟨h, _⟩
      have e : IntKind.i64.max = 9223372036854775807 := by decide
      rw [e] at h; omega
    have h3 : ¬ (Builtin.nextslicecap (0 + n.toNat) 0 * i.bytes > 2 ^ 48) := by
      have h4 := nextcap_le (N := 0 + n.toNat) (c := 0) (by omega)
      have h5 : Builtin.nextslicecap (0 + n.toNat) 0 * i.bytes ≤ (2 * 4294967296 + 192) * 1024 := Nat.mul_le_mul (by omega) hb
      omega
    have h4 : ¬ (n * (i.bytes : Int) > 2 ^ 48) := by
      have : n * (i.bytes : Int) ≤ 4294967296 * 1024 := Int.mul_le_mul (by omega) (by omega) (by omega) (by omega)
      omega
    have h5 : ¬ (n < 0) := by omega
    have h6 : ¬ (n.toNat * i.size = 0) := by
      have := Nat.mul_pos (show 0 < n.toNat by omega) (show 0 < i.size by omega); omega
    have hf : (Question.appendCap (0 + n.toNat) 0 e).forced = false := rfl
    have e4 : (Question.appendCap (0 + n.toNat) 0 e).cut (w.tape w.drawn (Question.appendCap (0 + n.toNat) 0 e)) = grownCap w n.toNat 0 e := by rw [Nat.zero_add]; rfl
    unfold Builtin.append_
    simp only [List.getElem?_toArray, List.getElem?_cons_zero, List.getElem?_cons_succ, Sem.run_bind, run_underlying' hu, Result.andThen_ok, sizeOf, run_typeInfo hi, Sem.run_pure, run_underlying' hud]
    simp only [if_true, Sem.run_bind, asInt, asIntOf, Sem.run_pure, Result.andThen_ok, hw, if_neg h5, run_typeInfo hi, if_neg h4, if_neg h1]
    simp only [run_typeInfo hi, Result.andThen_ok, if_neg h2, if_neg h3, Sem.run_bind, run_choose, hf, Bool.false_eq_true, if_false, run_askRoom, Bool.not_true]
    simp only [run_typeInfo hi, Result.andThen_ok, run_askRoom, Builtin.firstCells, if_neg h6, hzr, newRow, Sem.run_bind, run_newObj, Sem.run_pure, Nat.zero_add]
    rfl
theorem op_appn {o : Oper} {c : Call} (ho : o.op = .call c) (hb : c.callee = .builtin .append) {ty u e : TypeId} {k : IntKind} {i : TypeInfo} {z : AV} (ht : c.argTypes.toList = [ty, u]) {ss sx : SX} (hx : c.args.toList.mapM slimX = some [ss, sx])
    (hu : P.underlying ty = some (.slice e)) (hud : P.underlying u = some (.int k)) (hi : P.info? e = some i) (hz : zeroT P e = some z) (hbt : i.bytes ≤ 1024) (hi0 : i.size ≠ 0) (hzl : z.cells.length = i.size) (hwe : whole e = false)
    (hr : Rel W ρ H w) (ha : AR W ρ H.length t a) {v : AV} {H' : Heap} (he : aop (evx t) H (.appn e z.cells ss sx) = some (v, H')) : Fine P W ρ H w o a v H' := by
  obtain ⟨sv, xv, h1, h2, h3⟩ := VRs_two (evxs_ok ha hx)
  obtain ⟨cs, hrun⟩ := run_builtin (P := P) (w := w) ho hb h1 ht
  simp only [aop] at he
  generalize evx t ss = s at he h2
  generalize evx t sx = x at he h3
  have hfin : ∀ {v1 : Value} {w1 : World} {ρ' : Plan}, (Builtin.append_ #[ty, u] o.type #[sv, xv]).run P w = .ok v1 w1 → Stp W ρ H w ρ' H' w1 → VR W ρ' H'.length v v1 → Fine P W ρ H w o a v H' := fun hv hs hw =>
    ⟨_, _, _, .inl (by rw [hrun]; simp only [builtin, Sem.run_bind, hv, Result.andThen_ok, Sem.run_pure]), hs, hw⟩
  split at he <;> (try (cases he; done))
  rename_i k' n
  simp only [VR] at h2 h3
  subst h2
  subst h3
  split at he
  · rename_i h0
    subst h0
    simp only [Option.some.injEq, Prod.mk.injEq] at he
    obtain ⟨rfl, rfl⟩ := he
    refine hfin (v1 := .slice none 0 0) ?_ (.refl hr) (by simp only [VR])
    have hw := wrap64_small (n := 0) (by omega) (by omega)
    unfold Builtin.append_
    simp only [List.getElem?_toArray, List.getElem?_cons_zero, List.getElem?_cons_succ, Sem.run_bind, run_underlying' hu, Result.andThen_ok, sizeOf, run_typeInfo hi, Sem.run_pure, run_underlying' hud]
    simp [asInt, asIntOf, hw, run_typeInfo hi]
  · rename_i hn0
    split at he <;> simp only [Option.some.injEq, Prod.mk.injEq, reduceCtorEq] at he
    rename_i hg
    obtain ⟨hg1, hg2⟩ := hg
    simp only [roomy, decide_eq_true_eq] at hg2
    obtain ⟨rfl, rfl⟩ := he
    obtain ⟨newCap, rest, w', zv, j1, j2, j3, j6, j7, j4, j5⟩ := append_made (P := P) (w := w) (k' := k') hu hud hi hz hbt hi0 hzl (n := n) (by omega) (by omega) o.type
    have hrow := again_ok (j7 W ρ H.length) (by omega) n.toNat
    have hall := again_one (zeroT_one hz) n.toNat
    have hlen : ((List.replicate n.toNat z.cells).flatten).length = n.toNat * i.size := by simp [hzl]
    have hzsz : (Builtin.zeroCells zv.cells n.toNat).size = n.toNat * i.size := by simp [Builtin.zeroCells, j6]
    have hsize : (#[] ++ Builtin.zeroCells zv.cells n.toNat ++ rest).size = newCap * i.size := by
      simp only [Array.size_append, Array.size_empty, hzsz, j2]
      have e1 : newCap * i.size = n.toNat * i.size + (newCap - n.toNat) * i.size := by rw [← Nat.add_mul]; congr 1; omega
      omega
    refine hfin j5 (stp_push hr Plan.ext_lt (by rw [Plan.ext_at]) j3 (ρ' := ρ.ext H.length ⟨w.heap.size, 0, newCap * i.size⟩) ?_) ?_
    · rw [Plan.ext_at]
      refine ⟨_, (0, 0), j4, hsize, ?_, fun j v hj => ?_, .zero, fun h => by rw [hwe] at h; cases h⟩
      · simp only [Nat.zero_add, hlen]
        exact Nat.mul_le_mul_right _ j1
      · obtain ⟨y, q1, q2, q3⟩ := VRs_all hrow hall j v hj
        refine ⟨y, ?_, VR_mono Plan.ext_lt (by omega) v y q2, q3⟩
        have hlt : j < (Builtin.zeroCells zv.cells n.toNat).size := by
          have := (List.getElem?_eq_some_iff.1 hj).1
          omega
        rw [Nat.zero_add, Array.getElem?_append_left (by simpa using hlt), Array.empty_append]
        rw [Array.getElem?_toList, hzl, ← j6] at q1
        exact q1
    · simp only [VR, Plan.ext_at, List.length_append, List.length_cons, List.length_nil]
      exact ⟨by omega, _, _, rfl, j1, .inr (by simp), by simp [hzl], fun q hq => by cases hq⟩
theorem op_cap {o : Oper} {c : Call} (ho : o.op = .call c) (hb : c.callee = .builtin .cap) {ty e : TypeId} (ht : c.argTypes.toList = [ty]) {sx : SX} (hx : c.args.toList.mapM slimX = some [sx]) (hu : P.underlying ty = some (.slice e))
    (hr : Rel W ρ H w) (ha : AR W ρ H.length t a) {v : AV} {H' : Heap} (he : aop (evx t) H (.cap sx) = some (v, H')) : Fine P W ρ H w o a v H' := by
  obtain ⟨x, h1, h2⟩ := VRs_one (evxs_ok ha hx)
  obtain ⟨cs, hrun⟩ := run_builtin (P := P) (w := w) ho hb h1 ht
  simp only [aop] at he
  generalize evx t sx = s at he h2
  split at he <;> simp only [Option.some.injEq, Prod.mk.injEq, reduceCtorEq] at he
  · obtain ⟨rfl, rfl⟩ := he
    simp only [VR] at h2
    subst h2
    refine fine_pure hr (x := .int .i64 0) ?_ (by simp only [VR])
    rw [hrun]
    simp [builtin, Builtin.cap_, run_underlying' hu, goInt]
  · obtain ⟨rfl, rfl⟩ := he
    simp only [VR] at h2
    obtain ⟨_, ad, cc, rfl, _, _, _, hc⟩ := h2
    rename_i cap
    have := hc _ rfl
    subst this
    refine fine_pure hr (x := .int .i64 cc) ?_ (by simp only [VR])
    rw [hrun]
    simp [builtin, Builtin.cap_, run_underlying' hu, goInt]
theorem op_app {o : Oper} {c : Call} (ho : o.op = .call c) (hb : c.callee = .builtin .append) {ty u e : TypeId} {ud : TypeDesc} {i : TypeInfo} {z : AV} (ht : c.argTypes.toList = [ty, u]) {ss sx : SX} (hx : c.args.toList.mapM slimX = some [ss, sx])
    (hu : P.underlying ty = some (.slice e)) (hud : P.underlying u = some ud) (hni : ∀ k, ud ≠ .int k) (hi : P.info? e = some i) (hz : zeroT P e = some z) (hbt : i.bytes ≤ 1024) (hi0 : i.size ≠ 0) (hzl : z.cells.length = i.size) (hwe : whole e = false)
    (hr : Rel W ρ H w) (ha : AR W ρ H.length t a) {v : AV} {H' : Heap} (he : aop (evx t) H (.app e i.size ss sx) = some (v, H')) : Fine P W ρ H w o a v H' := by
  obtain ⟨sv, xv, h1, h2, h3⟩ := VRs_two (evxs_ok ha hx)
  obtain ⟨cs, hrun⟩ := run_builtin (P := P) (w := w) ho hb h1 ht
  simp only [aop] at he
  generalize evx t ss = s at he h2
  generalize evx t sx = x at he h3
  have hfin : ∀ {v1 : Value} {w1 : World} {ρ' : Plan}, (Builtin.append_ #[ty, u] o.type #[sv, xv]).run P w = .ok v1 w1 → Stp W ρ H w ρ' H' w1 → VR W ρ' H'.length v v1 → Fine P W ρ H w o a v H' := fun hv hs hw =>
    ⟨_, _, _, .inl (by rw [hrun]; simp only [builtin, Sem.run_bind, hv, Result.andThen_ok, Sem.run_pure]), hs, hw⟩
  unfold aapp at he
  split at he <;> (try (cases he; done))
  rename_i n l hn hl
  by_cases hn0 : n = 0
  · subst hn0
    rw [if_pos rfl] at he
    obtain ⟨k1, k2⟩ := nothing_new (P := P) (w := w) (sz := i.size) h3 hn
    have key : v = s ∧ H' = H := by
      split at he <;> (try (cases he; done)) <;> (simp only [Option.some.injEq, Prod.mk.injEq] at he; exact ⟨he.1.symm, he.2.symm⟩)
    obtain ⟨rfl, rfl⟩ := key
    refine hfin ?_ (.refl hr) h2
    cases v <;> simp only [reduceCtorEq] at he <;> simp only [VR] at h2
    case nils =>
      subst h2
      exact append_none hu hud hni hi k1 k2 _
    case sl =>
      obtain ⟨_, ad, cc, rfl, hle, _⟩ := h2
      exact append_old hu hud hni hi rfl k1 k2 hle rfl _
    case vs =>
      obtain ⟨ad, cc, rfl, hle, _⟩ := h2
      exact append_old hu hud hni hi rfl k1 k2 hle rfl _
  · rw [if_neg hn0] at he
    split at he <;> (try (cases he; done))
    rename_i hnew
    obtain ⟨k1, xs, k2, k3, k4, k5⟩ := source_ok (P := P) hr h3 hn hl hnew.1
    have hfirst : ∀ w1 : World, w1.heap = w.heap → (Builtin.firstCells i.size n xv).run P w1 = .ok xs.toArray w1 := fun w1 hw1 => by
      have := k5 w1 hw1 n (Nat.le_refl n)
      rwa [List.take_of_length_le (by omega)] at this
    have hall : ∀ v ∈ l, v.one = true := by have := hnew.2; rwa [List.all_eq_true] at this
    /- a new row -/
    have fresh : ∀ (fl : Bool) (base : Option Addr) (sLen sCap : Nat) (old : List AV) (os : List Value), sv = .slice base sLen sCap → VRs W ρ H.length old os → old.length = sLen * i.size → (∀ v ∈ old, v.one = true) →
        (∀ w1 : World, w1.heap = w.heap → (Builtin.firstCells i.size sLen sv).run P w1 = .ok os.toArray w1) → sCap < sLen + n → roomy (sLen + n) = true →
        ∃ v1 w1 ρ', (Builtin.append_ #[ty, u] o.type #[sv, xv]).run P w = .ok v1 w1 ∧ Stp W ρ H w ρ' (H ++ [.cells (old ++ l) e fl]) w1 ∧ VR W ρ' (H.length + 1) (.sl H.length 0 (sLen + n) i.size none) v1 := by
      intro fl base sLen sCap old os h4 h5 h6 h6' h7 h8 h9
      simp only [roomy, decide_eq_true_eq] at h9
      obtain ⟨newCap, rest, w', j1, j2, j3, j4, j5⟩ := append_new (P := P) (w := w) hu hud hni hi hz hbt hzl h4 k1 h7 hfirst h8 h9 o.type
      have hos := VRs_length h5
      have hxs := VRs_length k2
      have hrow : VRs W ρ H.length (old ++ l) (os ++ xs) := VRs_append h5 k2
      have hsize : (os.toArray ++ xs.toArray ++ rest).size = newCap * i.size := by
        simp only [Array.size_append, List.size_toArray, j2]
        have e1 : newCap * i.size = (sLen + n) * i.size + (newCap - (sLen + n)) * i.size := by rw [← Nat.add_mul]; congr 1; omega
        rw [Nat.add_mul] at e1
        have := hnew.1
        omega
      refine ⟨_, w', ρ.ext H.length ⟨w.heap.size, 0, newCap * i.size⟩, j5, stp_push hr Plan.ext_lt (by rw [Plan.ext_at]) j3 ?_, ?_⟩
      · rw [Plan.ext_at]
        refine ⟨_, (0, 0), j4, hsize, ?_, fun j v hj => ?_, .zero, fun h => by rw [hwe] at h; cases h⟩
        · simp only [List.length_append, Nat.zero_add, h6, hnew.1, ← Nat.add_mul]
          exact Nat.mul_le_mul_right _ j1
        · obtain ⟨y, q1, q2⟩ := VRs_get hrow hj
          refine ⟨y, ?_, VR_mono Plan.ext_lt (by omega) v y q2, ?_⟩
          · have hlt := (List.getElem?_eq_some_iff.1 q1).1
            rw [Nat.zero_add, Array.getElem?_append_left (by simpa using hlt)]
            simpa using q1
          · have := List.mem_of_getElem? hj
            rw [List.mem_append] at this
            rcases this with h | h
            · exact h6' v h
            · exact hall v h
      · simp only [VR, Plan.ext_at]
        exact ⟨by omega, _, _, rfl, j1, .inr (by simp), by simp, fun q hq => by cases hq⟩
    cases s <;> simp only [reduceCtorEq] at he
    case nils =>
      split at he <;> simp only [Option.some.injEq, Prod.mk.injEq, reduceCtorEq] at he
      rename_i hro
      obtain ⟨rfl, rfl⟩ := he
      simp only [VR] at h2
      obtain ⟨v1, w1, ρ', q1, q2, q3⟩ := fresh true none 0 0 [] [] h2 (by simp [VRs]) (by simp) (by simp) (fun w1 _ => by subst h2; simp [Builtin.firstCells]) (by omega) (by rwa [Nat.zero_add])
      exact hfin q1 (by simpa using q2) (by simpa using q3)
    case sl so off len sz' cap =>
      split at he <;> (try (cases he; done))
      rename_i L e' rw hH
      split at he <;> (try (cases he; done))
      rename_i hg
      obtain ⟨hg1, hg2, hg3, hg4⟩ := hg
      subst hg1
      obtain rfl : e' = e := hg2
      simp only [VR] at h2
      obtain ⟨hso, ad, cc, hsv, hlc, had, hcz, hcap⟩ := h2
      have hlo : live H so := ⟨_, hH, by simp⟩
      have hOR := hr.obj so _ hH
      obtain ⟨ch, fr, hch, hchz, hLz, hLv, hLf⟩ := hOR
      /- what is there -/
      have hold : aload H (len * i.size) (.ptr so off) = some ((L.drop off).take (len * i.size)) := by simp only [aload, arow, hH, if_pos hg3]
      obtain ⟨a', os, p1, p2, p3, p4, p5, p6, p7⟩ := aload_ok (p := .ptr so off) (x := .pointer (some ⟨(ρ so).b, (ρ so).d + off, none⟩)) hr (by simp only [VR]; exact ⟨hso, trivial⟩) hold
      injection p1 with p1
      injection p1 with p1
      have p5' : ∀ (j : Nat) (x : Value), os[j]? = some x → w.cell? (ad.add j) = some x := by
        intro j x hj
        rcases had with h | h
        · have : len = 0 := by omega
          subst this
          have : os = [] := List.eq_nil_of_length_eq_zero (by omega)
          subst this
          simp at hj
        · rw [h, p1]; exact p5 j x hj
      have hone : ∀ v ∈ (L.drop off).take (len * i.size), v.one = true := by rwa [List.all_eq_true] at p7
      have hfc : ∀ w1 : World, w1.heap = w.heap → (Builtin.firstCells i.size len sv).run P w1 = .ok os.toArray w1 := fun w1 hw1 => by
        rw [hsv]
        simp only [Builtin.firstCells]
        exact run_loadCells_xs p4 (fun j x hj => by rw [cell_heap hw1]; exact p5' j x hj)
      have fresh' := fun fl => fresh fl (some ad) len cc _ os hsv p2 p3 hone hfc
      have kill : (∃ k, cap = some k ∧ ¬ (len + n > k)) ∨ cap = none → (rw = true ∨ (appf = true ∧ L.length ≤ off + len * i.size)) → v = .sl H.length 0 (len + n) i.size none → H' = H.set so .dead ++ [.cells ((L.drop off).take (len * i.size) ++ l) e' rw] → Fine P W ρ H w o a v H' := by
        intro hc hrw hv hH'
        subst hv
        subst hH'
        by_cases hroom : cc < len + n
        · obtain ⟨v1, w1, ρ', q1, q2, q3⟩ := fresh' rw hroom hg4
          refine hfin q1 ?_ (by simpa using q3)
          have q4 := q2.kill so
          rwa [List.set_append_left so .dead (live_lt hlo)] at q4
        · have had' : ad = ⟨(ρ so).b, (ρ so).d + off, none⟩ := by
            rcases had with h | h
            · omega
            · exact h
          have hmul : (len + n) * i.size ≤ cc * i.size := Nat.mul_le_mul_right _ (by omega)
          have hadd : (len + n) * i.size = len * i.size + n * i.size := Nat.add_mul _ _ _
          have hz' : (ρ so).d + (off + len * i.size) + xs.length ≤ (ρ so).z := by
            have := hnew.1
            omega
          obtain ⟨r1, r2, c1, fr1, c2, r3, r4, r5, r6, r7, r8⟩ := write_ok (P := P) (vs := l) (hr.obj so _ hH) (o := off + len * i.size) hrw hz' k4
          rw [hch] at r3
          injection r3 with r3
          injection r3 with r3 _ r3'
          subst r3
          subst r3'
          have hst : (storeCells (ad.add (len * i.size)) xs).run P w = .ok () (w.setCells (ρ so).b ((ρ so).d + (off + len * i.size)) xs) := by
            rw [had', add_mk, Nat.add_assoc]; exact r1
          have q1 := append_old (P := P) (w := w) hu hud hni hi hsv (k1 w rfl) (hfirst w rfl) (by omega) hst o.type
          refine hfin q1 (stp_regrow hr hH r2 (s := ⟨(ρ so).b, (ρ so).d + off, (ρ so).z⟩) rfl ?_) ?_
          · refine ⟨c2, fr, r5, r6, ?_, fun j v hj => ?_, r8.more ?_, fun h => by rw [hwe] at h; cases h⟩
            · simp only [List.length_append, p3, hnew.1]
              omega
            · simp only
              rw [r7]
              rw [List.getElem?_append] at hj
              split at hj
              · rename_i hj1
                rw [p3] at hj1
                rw [if_neg (by omega)]
                rw [List.getElem?_take, if_pos hj1, List.getElem?_drop] at hj
                obtain ⟨y, y1, y2, y3⟩ := hLv _ v hj
                exact ⟨y, by rw [Nat.add_assoc]; exact y1, VR_mono Plan.ext_lt (by omega) v y y2, y3⟩
              · rename_i hj1
                rw [p3] at hj1 hj
                obtain ⟨y, y1, y2⟩ := VRs_get k2 hj
                have y3 := (List.getElem?_eq_some_iff.1 y1).1
                rw [if_pos (by omega)]
                refine ⟨y, ?_, VR_mono Plan.ext_lt (by omega) v y y2, hall v (List.mem_of_getElem? hj)⟩
                rw [show (ρ so).d + off + j - ((ρ so).d + (off + len * i.size)) = j - len * i.size by omega]
                exact y1
            · rcases hrw with h | ⟨_, h⟩
              · exact .inl h
              · exact .inr (.inr (by simp only [List.length_append, p3]; omega))
          · simp only [VR, List.length_append, List.length_set, List.length_cons, List.length_nil, Plan.ext_at]
            exact ⟨by omega, _, _, rfl, by omega, .inr (by rw [had']; simp), by simp; omega, fun q hq => by cases hq⟩
      cases cap with
      | none =>
        simp only at he
        split at he
        · rename_i hrw
          simp only [Option.some.injEq, Prod.mk.injEq] at he
          subst hrw
          exact kill (.inr rfl) (.inl rfl) he.1.symm he.2.symm
        · rename_i hrw
          split at he <;> simp only [Option.some.injEq, Prod.mk.injEq, reduceCtorEq] at he
          rename_i hap
          obtain rfl : rw = false := by simpa using hrw
          exact kill (.inr rfl) (.inr ⟨hap.1, by omega⟩) he.1.symm he.2.symm
      | some k =>
        simp only at he
        split at he
        · rename_i hk
          simp only [Option.some.injEq, Prod.mk.injEq] at he
          obtain ⟨rfl, rfl⟩ := he
          have hck := hcap k rfl
          obtain ⟨v1, w1, ρ', q1, q2, q3⟩ := fresh' true (by omega) hg4
          exact hfin q1 q2 (by simpa using q3)
        · rename_i hk
          split at he <;> simp only [Option.some.injEq, Prod.mk.injEq, reduceCtorEq] at he
          rename_i hrw
          subst hrw
          exact kill (.inl ⟨k, rfl, hk⟩) (.inl rfl) he.1.symm he.2.symm
/-- unsafe.SliceData. -/
theorem op_sdata {o : Oper} {c : Call} (ho : o.op = .call c) (hb : c.callee = .builtin .unsafeSliceData) {ty : TypeId} (ht : c.argTypes.toList = [ty]) {sx : SX} (hx : c.args.toList.mapM slimX = some [sx])
    (hr : Rel W ρ H w) (ha : AR W ρ H.length t a) {v : AV} {H' : Heap} (he : aop (evx t) H (.sdata sx) = some (v, H')) : Fine P W ρ H w o a v H' := by
  obtain ⟨x, h1, h2⟩ := VRs_one (evxs_ok ha hx)
  obtain ⟨cs, hrun⟩ := run_builtin (P := P) (w := w) ho hb h1 ht
  simp only [aop] at he
  generalize evx t sx = s at he h2
  split at he <;> (try (cases he; done))
  · simp only [Option.some.injEq, Prod.mk.injEq] at he
    obtain ⟨rfl, rfl⟩ := he
    simp only [VR] at h2
    subst h2
    refine fine_pure hr (x := .pointer none) ?_ (by simp only [VR])
    rw [hrun]
    have : (Builtin.unsafeSliceData_ [ty].toArray o.type [Value.slice none 0 0].toArray).run P w = .ok (.pointer none) w := rfl
    simp only [builtin, Sem.run_bind, this, Result.andThen_ok, Sem.run_pure]
  · split at he <;> simp only [Option.some.injEq, Prod.mk.injEq, reduceCtorEq] at he
    rename_i so off len sz cap h0
    obtain ⟨rfl, rfl⟩ := he
    simp only [VR] at h2
    obtain ⟨hso, ad, cc, rfl, hlc, had, _, _⟩ := h2
    have had' : ad = ⟨(ρ so).b, (ρ so).d + off, none⟩ := had.resolve_left (by omega)
    refine fine_pure hr (x := .pointer (some ad)) ?_ (by simp only [VR]; exact ⟨hso, by rw [had']⟩)
    rw [hrun]
    obtain ⟨k, rfl⟩ : ∃ k, cc = k + 1 := ⟨cc - 1, by omega⟩
    have : (Builtin.unsafeSliceData_ [ty].toArray o.type [Value.slice (some ad) len (k + 1)].toArray).run P w = .ok (.pointer (some ad)) w := rfl
    simp only [builtin, Sem.run_bind, this, Result.andThen_ok, Sem.run_pure]
theorem run_loadBytes' {w : World} : ∀ (l : List Int) (a : Addr) (acc : ByteArray), (∀ (j : Nat) (x : Value), (l.map (Value.int .u8))[j]? = some x → w.cell? (a.add j) = some x) →
    (loadBytes a acc l.length).run P w = .ok ⟨acc.data ++ (l.map fun n => UInt8.ofNat n.toNat).toArray⟩ w
  | [], a, acc, _ => by simp [loadBytes]
  | x :: l, a, acc, h => by
    have h0 : w.cell? a = some (.int .u8 x) := by
      have := h 0 _ rfl
      simpa [Addr.add] using this
    have ih := run_loadBytes' l (a.add 1) (acc.push (UInt8.ofNat x.toNat)) (fun j y hy => by
      have := h (j + 1) y (by simpa using hy)
      have e : (a.add 1).add j = a.add (j + 1) := by
        unfold Addr.add
        by_cases hj : j = 0
        · subst hj; simp
        · simp [hj]; omega
      rw [e]; exact this)
    have hx : x.toNat.toUInt8 = UInt8.ofNat x.toNat := rfl
    simp only [List.length_cons, loadBytes, Sem.run_bind, run_load, h0, Result.andThen, hx]
    rw [ih]
    congr 1
    apply ByteArray.ext
    simp [ByteArray.push]
theorem liesAt_byte {e : TypeId} (hc : P.cellsOf e = 1) (count off n : Nat) (hn : off + n ≤ count) : liesAt P P.depth e count off e n = true := by
  have hd : P.depth = (2 * (P.types.size + Made.depth) + 1) + 1 := rfl
  rw [hd]
  simp only [liesAt, Bool.or_eq_true]
  left
  rw [hd]
  simp [rowAt, hc, hn, sameLayout, Nat.mod_one]
/-- unsafe.String: the bytes, copied; the row is not written any more. -/
theorem op_ustr {o : Oper} {c : Call} (ho : o.op = .call c) (hb : c.callee = .builtin .unsafeString) {ty u e : TypeId} (ht : c.argTypes.toList = [ty, u]) {sp sn : SX} (hx : c.args.toList.mapM slimX = some [sp, sn])
    (hu : P.underlying ty = some (.pointer e)) (hce : P.cellsOf e = 1)
    (hr : Rel W ρ H w) (ha : AR W ρ H.length t a) {v : AV} {H' : Heap} (he : aop (evx t) H (.ustr e sp sn) = some (v, H')) : Fine P W ρ H w o a v H' := by
  obtain ⟨pv, nv, h1, h2, h3⟩ := VRs_two (evxs_ok ha hx)
  obtain ⟨cs, hrun⟩ := run_builtin (P := P) (w := w) ho hb h1 ht
  simp only [aop] at he
  generalize evx t sp = p at he h2
  generalize evx t sn = n at he h3
  have hfin : ∀ {v1 : Value} {w1 : World} {ρ' : Plan}, (Builtin.unsafeString_ #[ty, u] o.type #[pv, nv]).run P w = .ok v1 w1 → Stp W ρ H w ρ' H' w1 → VR W ρ' H'.length v v1 → Fine P W ρ H w o a v H' := fun hv hs hw =>
    ⟨_, _, _, .inl (by rw [hrun]; simp only [builtin, Sem.run_bind, hv, Result.andThen_ok, Sem.run_pure]), hs, hw⟩
  split at he <;> (try (cases he; done))
  · rename_i m
    split at he <;> simp only [Option.some.injEq, Prod.mk.injEq, reduceCtorEq] at he
    rename_i hm
    subst hm
    obtain ⟨rfl, rfl⟩ := he
    simp only [VR] at h2 h3
    subst h2 h3
    exact hfin (v1 := .string .empty) (Lib.run_unsafeString_none w _ _ _ _) (.refl hr) (by simp only [VR]; rfl)
  · rename_i ob off m
    split at he <;> (try (cases he; done))
    rename_i L e' rw hH
    split at he <;> simp only [Option.map_eq_some_iff, Prod.mk.injEq, reduceCtorEq] at he
    rename_i hg
    obtain ⟨rfl, hm0, hm1, hg3⟩ := hg
    obtain ⟨bs, hbs, rfl, rfl⟩ := he
    simp only [VR] at h2 h3
    obtain ⟨hob, rfl⟩ := h2
    subst h3
    have hOR := hr.obj ob _ hH
    obtain ⟨ch, fr, hch, hchz, hLz, hLv, hLf⟩ := hOR
    have hold : aload H m.toNat (.ptr ob off) = some ((L.drop off).take m.toNat) := by simp only [aload, arow, hH, if_pos hg3]
    obtain ⟨a', xs, p1, p2, p3, p4, p5, p6, p7⟩ := aload_ok (p := .ptr ob off) (x := .pointer (some ⟨(ρ ob).b, (ρ ob).d + off, none⟩)) hr (by simp only [VR]; exact ⟨hob, trivial⟩) hold
    injection p1 with p1
    injection p1 with p1
    obtain ⟨ns, rfl, rfl⟩ := bytesOf_ok p2 hbs
    simp only [List.length_map] at p4
    have hload := run_loadBytes' (P := P) (w := w) ns a' .empty p5
    rw [p4] at hload
    have hsh : w.shape? (ρ ob).b = some (e', ch.size) := by simp [World.shape?, hch]
    have hlies := liesAt_byte (P := P) hce (ch.size / P.cellsOf e') ((ρ ob).d + off) m.toNat (by rw [hce, Nat.div_one]; omega)
    have hmax : IntKind.i64.max = 9223372036854775807 := rfl
    have hdef : Builtin.unsafeString_ #[ty, u] o.type #[.pointer (some ⟨(ρ ob).b, (ρ ob).d + off, none⟩), .int .i64 m] =
        (do
          let n ← asInt (.int .i64 m)
          if n < 0 then runtimePanic (.error "unsafe.String: len out of range")
          if n > IntKind.i64.max then unsupported (.unsafePointer "String: a length above the largest int")
          if n = 0 then pure (.string .empty)
          else if ← variablesAt ⟨(ρ ob).b, (ρ ob).d + off, none⟩ (← elemOf ty) n.toNat then do
            let s ← loadBytes ⟨(ρ ob).b, (ρ ob).d + off, none⟩ .empty n.toNat
            freeze ⟨(ρ ob).b, (ρ ob).d + off, none⟩ n.toNat
            pure (.string s)
          else unsupported (.unsafePointer "String: not so many bytes at ptr")) := rfl
    have h4 : ¬ (m < 0) := by omega
    have h5 : ¬ (9223372036854775807 < m) := by omega
    have h6 : ¬ (m = 0) := by omega
    rw [p1] at hdef
    have hrun1 : (Builtin.unsafeString_ #[ty, u] o.type #[.pointer (some a'), .int .i64 m]).run P w = .ok (.string ⟨(ns.map fun n => UInt8.ofNat n.toNat).toArray⟩) (w.freeze a' m.toNat) := by
      rw [hdef]
      have hvar : (variablesAt a' e' m.toNat).run P w = .ok true w := by
        rw [← p1]
        simp [variablesAt, hsh, hlies]
      simp [asInt, asIntOf, hmax, h4, h5, h6, elemOf, run_underlying' hu, hvar, hload]
    rw [p1]  at hfin
    have hfr : ∃ fr', (w.freeze a' m.toNat).heap[(ρ ob).b]? = some (.cells ch e' fr') ∧ Fz false fr' ((ρ ob).d + L.length) (ρ ob).z := by
      refine ⟨if fr.1 == fr.2 then (a'.off, a'.off + m.toNat) else (min fr.1 a'.off, max fr.2 (a'.off + m.toNat)), ?_, fun hap => ⟨fun h => by (cases h), fun _ => ?_⟩, fun h => by (cases h)⟩
      · unfold World.freeze
        rw [if_neg (by omega), ← p1]
        simp [Array.getElem?_modify, hch]
      · have hoff : a'.off = (ρ ob).d + off := by rw [← p1]
        have hf := hLf.1.1 hap
        split
        · simp only [hoff]; omega
        · rename_i hne
          have : fr.2 ≤ (ρ ob).d + L.length := by
            cases rw with
            | true => exact absurd (hf.1 rfl) (by simpa using hne)
            | false => exact hf.2 rfl
          simp only [hoff]
          omega
    obtain ⟨fr', hfr', hFz⟩ := hfr
    refine hfin hrun1 (stp_set hr hH (by simp) ?_ ?_ ?_ ?_ (fun b hb => ?_) ⟨ch, fr', hfr', hchz, hLz, hLv, hFz, hLf.2⟩) (by simp only [VR])
    all_goals unfold World.freeze
    all_goals rw [if_neg (by omega)]
    · simp
    · rw [← p1]; simp [Array.getElem?_modify, Ne.symm hb]
theorem op_copy {o : Oper} {c : Call} (ho : o.op = .call c) (hb : c.callee = .builtin .copy) {ty u e : TypeId} {sz : Nat} (ht : c.argTypes.toList = [ty, u]) {sd ss : SX} (hx : c.args.toList.mapM slimX = some [sd, ss])
    (hu : P.underlying ty = some (.slice e)) (hsz : sizeT P e = some sz) (hsz0 : sz ≠ 0)
    (hr : Rel W ρ H w) (ha : AR W ρ H.length t a) {v : AV} {H' : Heap} (he : aop (evx t) H (.copy sz sd ss) = some (v, H')) : Fine P W ρ H w o a v H' := by
  obtain ⟨dv, xv, h1, h2, h3⟩ := VRs_two (evxs_ok ha hx)
  obtain ⟨cs, hrun⟩ := run_builtin (P := P) (w := w) ho hb h1 ht
  simp only [aop] at he
  generalize evx t sd = d at he h2
  generalize evx t ss = x at he h3
  have hfin : ∀ {v1 : Value} {w1 : World} {ρ' : Plan}, (Builtin.copy_ #[ty, u] o.type #[dv, xv]).run P w = .ok v1 w1 → Stp W ρ H w ρ' H' w1 → VR W ρ' H'.length v v1 → Fine P W ρ H w o a v H' := fun hv hs hw =>
    ⟨_, _, _, .inl (by rw [hrun]; simp only [builtin, Sem.run_bind, hv, Result.andThen_ok, Sem.run_pure]), hs, hw⟩
  split at he <;> (try (cases he; done))
  · simp only [Option.map_eq_some_iff] at he
    obtain ⟨n, hn, he⟩ := he
    obtain ⟨rfl, rfl⟩ := Prod.mk.inj he
    simp only [VR] at h2
    subst h2
    have h0 : (Builtin.lenOf xv).run P w = .ok n w ∧ ∃ cs, (Builtin.firstCells sz 0 xv).run P w = .ok cs w := by
      rcases alen_ok h3 hn with ⟨p, c, rfl⟩ | ⟨s, rfl, hs, _⟩
      · refine ⟨by simp [Builtin.lenOf], ?_⟩
        cases p with
        | none => exact ⟨#[], by simp [Builtin.firstCells]⟩
        | some p =>
          have := run_loadCells_xs (P := P) (w := w) (a := p) (xs := []) (k := 0) rfl (fun j x hj => by simp at hj)
          exact ⟨#[], by simpa [Builtin.firstCells] using this⟩
      · exact ⟨by simp [Builtin.lenOf, ← hs], _, by simp only [Builtin.firstCells, Sem.run_pure]; rfl⟩
    obtain ⟨k1, c', k2⟩ := h0
    refine hfin (v1 := .int .i64 0) (w1 := w) (ρ' := ρ) ?_ (.refl hr) (by simp [VR])
    unfold Builtin.copy_
    simp only [List.getElem?_toArray, List.getElem?_cons_zero, List.getElem?_cons_succ, Sem.run_bind, run_underlying' hu, Result.andThen_ok, run_sizeOf' hsz, Sem.run_pure, k1, show Nat.min n 0 = 0 by simp, k2]
    rfl
  · rename_i o' off len sz' cap
    split at he <;> (try (cases he; done))
    rename_i n l hn hl
    split at he <;> simp only [Option.map_eq_some_iff, reduceCtorEq] at he
    rename_i hg
    obtain ⟨hg1, hg2⟩ := hg
    subst hg1
    obtain ⟨H1, hst, he⟩ := he
    obtain ⟨rfl, rfl⟩ := Prod.mk.inj he
    obtain ⟨k1, xs, k2, k3, k4, k5⟩ := source_ok (P := P) hr h3 hn hl hg2
    simp only [VR] at h2
    obtain ⟨hso, ad, cc, hsv, hlc, had, hcz, hcap⟩ := h2
    subst hsv
    have hmin : min n len = Nat.min n len := rfl
    have k6 := k5 w rfl (Nat.min n len) (Nat.min_le_left _ _)
    by_cases hc0 : cc = 0
    · have hl0 : len = 0 := by omega
      have hm0 : Nat.min n len = 0 := by rw [hl0]; simp
      have hH : H1 = H := by
        simp only [hmin, hm0, Nat.zero_mul, List.take_zero, astore] at hst
        split at hst <;> (try (cases hst; done))
        all_goals
          rename_i L e2 hH
          split at hst <;> simp only [Option.some.injEq, reduceCtorEq] at hst
          rw [← hst]
          apply List.ext_getElem?
          intro j
          rw [List.getElem?_set]
          split
          · rename_i hj
            subst hj
            rw [hH]
            simp [splice]
          · rfl
      subst hH
      refine hfin (v1 := .int .i64 (Nat.min n len : Nat)) (w1 := w) (ρ' := ρ) ?_ (.refl hr) (by simp only [VR])
      unfold Builtin.copy_
      simp only [List.getElem?_toArray, List.getElem?_cons_zero, List.getElem?_cons_succ, Sem.run_bind, run_underlying' hu, Result.andThen_ok, run_sizeOf' hsz, Sem.run_pure, k1 w rfl, k6]
      rw [hm0]
      simp only [Nat.zero_mul, List.take_zero, Sem.run_pure, Result.andThen_ok, goInt]
      rfl
    · have had' : ad = ⟨(ρ o').b, (ρ o').d + off, none⟩ := by
        rcases had with h | h
        · exact absurd h hc0
        · exact h
      obtain ⟨a', w', q1, q2, q3⟩ := astore_ok (P := P) (p := .ptr o' off) (x := .pointer (some ad)) hr (by simp only [VR]; exact ⟨hso, by rw [had']⟩) (VRs_take k2 (min n len * sz')) hst
      injection q1 with q1
      injection q1 with q1
      subst q1
      refine hfin (v1 := .int .i64 (Nat.min n len : Nat)) (w1 := w') (ρ' := ρ) ?_ q3 (by simp only [VR])
      unfold Builtin.copy_
      simp only [List.getElem?_toArray, List.getElem?_cons_zero, List.getElem?_cons_succ, Sem.run_bind, run_underlying' hu, Result.andThen_ok, run_sizeOf' hsz, Sem.run_pure, k1 w rfl, k6]
      rw [hmin] at q2
      simp only [q2, Result.andThen_ok, Sem.run_pure, goInt]
theorem op_clear {o : Oper} {c : Call} (ho : o.op = .call c) (hb : c.callee = .builtin .clear) {ty e : TypeId} {z : AV} (ht : c.argTypes.toList = [ty]) {sx : SX} (hx : c.args.toList.mapM slimX = some [sx])
    (hu : P.underlying ty = some (.slice e)) (hz : zeroT P e = some z) (hz0 : z.cells.length ≠ 0)
    (hr : Rel W ρ H w) (ha : AR W ρ H.length t a) {v : AV} {H' : Heap} (he : aop (evx t) H (.clear z.cells sx) = some (v, H')) : Fine P W ρ H w o a v H' := by
  obtain ⟨xv, h1, h2⟩ := VRs_one (evxs_ok ha hx)
  obtain ⟨cs, hrun⟩ := run_builtin (P := P) (w := w) ho hb h1 ht
  simp only [aop] at he
  generalize evx t sx = x at he h2
  have hfin : ∀ {v1 : Value} {w1 : World} {ρ' : Plan}, (Builtin.clear_ #[ty] o.type #[xv]).run P w = .ok v1 w1 → Stp W ρ H w ρ' H' w1 → VR W ρ' H'.length v v1 → Fine P W ρ H w o a v H' := fun hv hs hw =>
    ⟨_, _, _, .inl (by rw [hrun]; simp only [builtin, Sem.run_bind, hv, Result.andThen_ok, Sem.run_pure]), hs, hw⟩
  have htup : VR W ρ H'.length (.tup []) (.tuple #[]) := by simp only [VR]; exact ⟨[], rfl, rfl⟩
  split at he <;> (try (cases he; done))
  · simp only [Option.some.injEq, Prod.mk.injEq] at he
    obtain ⟨rfl, rfl⟩ := he
    simp only [VR] at h2
    subst h2
    refine hfin (v1 := .tuple #[]) (w1 := w) (ρ' := ρ) ?_ (.refl hr) htup
    unfold Builtin.clear_
    simp [run_underlying' hu]
  · rename_i o' off len sz' cap
    simp only [VR] at h2
    obtain ⟨hso, ad, cc, hsv, hlc, had, hcz, hcap⟩ := h2
    subst hsv
    split at he
    · rename_i hl0
      simp only [Option.some.injEq, Prod.mk.injEq] at he
      obtain ⟨rfl, rfl⟩ := he
      subst hl0
      refine hfin (v1 := .tuple #[]) (w1 := w) (ρ' := ρ) ?_ (.refl hr) htup
      unfold Builtin.clear_
      simp [run_underlying' hu]
    · rename_i hl0
      simp only [Option.map_eq_some_iff] at he
      obtain ⟨H1, hst, he⟩ := he
      obtain ⟨rfl, rfl⟩ := Prod.mk.inj he
      obtain ⟨zv, hzr, hzc⟩ := zero_cells (P := P) (W := W) (ρ := ρ) (H := H) (w := w) hz
      have hrow := again_ok hzc hz0 len
      have hzl := VRs_length hzc
      simp only [Array.length_toList] at hzl
      have had' : ad = ⟨(ρ o').b, (ρ o').d + off, none⟩ := by
        rcases had with h | h
        · omega
        · exact h
      obtain ⟨a', w', q1, q2, q3⟩ := astore_ok (P := P) (p := .ptr o' off) (x := .pointer (some ad)) hr (by simp only [VR]; exact ⟨hso, by rw [had']⟩) hrow hst
      injection q1 with q1
      injection q1 with q1
      subst q1
      refine hfin (v1 := .tuple #[]) (w1 := w') (ρ' := ρ) ?_ q3 htup
      unfold Builtin.clear_
      match len, hl0 with
      | len + 1, _ =>
        rw [hzl] at q2
        simp only [List.getElem?_toArray, List.getElem?_cons_zero, Sem.run_bind, run_underlying' hu, Result.andThen_ok, hzr, Sem.run_pure, Builtin.zeroCells, q2]
end
end Go.Den

/- == of what isn't a number or a string. -/
set_option linter.unusedVariables false
set_option linter.unusedSimpArgs false
namespace Go.Den
open Go.RowKit (Below)
section
variable {P : Program} {W : World} {ρ : Plan} {H : Heap} {w : World} {t : List AV} {a : Act}

theorem aeqs_append : ∀ {ta tb : List Nat} {l m : List AV} {b : Bool}, aeqs (ta ++ tb) l m = some b → ∃ b1 b2, aeqs ta (l.take ta.length) (m.take ta.length) = some b1 ∧ aeqs tb (l.drop ta.length) (m.drop ta.length) = some b2 ∧ b = (b1 && b2)
  | [], tb, l, m, b, h => ⟨true, b, by simp [aeqs], by simpa using h, by simp⟩
  | g :: ta, tb, [], m, b, h => by simp [aeqs] at h
  | g :: ta, tb, x :: l, [], b, h => by simp [aeqs] at h
  | g :: ta, tb, x :: l, y :: m, b, h => by
    simp only [List.cons_append, aeqs] at h
    split at h <;> (try (cases h; done))
    · simp only [Option.map_eq_some_iff] at h
      obtain ⟨b', h1, rfl⟩ := h
      obtain ⟨b1, b2, h2, h3, rfl⟩ := aeqs_append h1
      exact ⟨_, b2, by simp only [List.length_cons, List.take_succ_cons, aeqs, h2, Option.map_some]; rfl, by simpa using h3, by rw [Bool.and_assoc]⟩
    · split at h <;> simp only [Option.map_eq_some_iff, reduceCtorEq] at h
      rename_i hk
      obtain ⟨b', h1, rfl⟩ := h
      obtain ⟨b1, b2, h2, h3, rfl⟩ := aeqs_append h1
      exact ⟨_, b2, by simp only [List.length_cons, List.take_succ_cons, aeqs, h2, Option.map_some, if_pos hk]; rfl, by simpa using h3, by rw [Bool.and_assoc]⟩
    · simp only [Option.map_eq_some_iff] at h
      obtain ⟨b', h1, rfl⟩ := h
      obtain ⟨b1, b2, h2, h3, rfl⟩ := aeqs_append h1
      exact ⟨_, b2, by simp only [List.length_cons, List.take_succ_cons, aeqs, h2, Option.map_some]; rfl, by simpa using h3, by rw [Bool.and_assoc]⟩
/-- parts of two values, compared. -/
def PartEq (P : Program) (W : World) (ρ : Plan) (n : Nat) (w : World) (D : Nat) (ty : TypeId) (tags : List Nat) : Prop :=
  ∀ (l m : List AV) (xs ys : List Value), VRs W ρ n l xs → VRs W ρ n m ys → ∀ (off : Nat) (b : Bool), off + tags.length ≤ l.length → off + tags.length ≤ m.length → aeqs tags ((l.drop off).take tags.length) ((m.drop off).take tags.length) = some b →
    ∃ x y, (part ty xs.toArray off).run P w = .ok x w ∧ (part ty ys.toArray off).run P w = .ok y w ∧ (Op.equalIn D ty x y).run P w = .ok b w
theorem fields_eq {n D : Nat} {g : TypeId → Option (List Nat)} (ih : ∀ ty tags, g ty = some tags → PartEq P W ρ n w D ty tags) {l m : List AV} {xs ys : List Value} (hx : VRs W ρ n l xs) (hy : VRs W ρ n m ys) :
    ∀ (fs : List Field) (off : Nat) (tags : List Nat) (b : Bool), tagsL g off fs = some tags → off + tags.length ≤ l.length → off + tags.length ≤ m.length → aeqs tags ((l.drop off).take tags.length) ((m.drop off).take tags.length) = some b →
      (Op.eqFields D xs.toArray ys.toArray fs).run P w = .ok b w
  | [], off, tags, b, ht, _, _, hb => by
    simp only [tagsL, Option.some.injEq] at ht
    subst ht
    simp only [List.length_nil, List.take_zero, aeqs, Option.some.injEq] at hb
    subst hb
    simp [Op.eqFields]
  | f :: fs, off, tags, b, ht, h1, h2, hb => by
    simp only [tagsL] at ht
    split at ht <;> simp only [Option.bind_eq_some_iff, Option.map_eq_some_iff, reduceCtorEq] at ht
    rename_i hf
    obtain ⟨ta, hta, tb, htb, rfl⟩ := ht
    have hf1 : f.name ≠ "_" := fun h => hf (.inl h)
    have hf2 : f.offset = off := by
      refine Decidable.byContradiction fun h => hf (.inr h)
    simp only [List.length_append] at h1 h2 hb
    obtain ⟨b1, b2, e1, e2, rfl⟩ := aeqs_append hb
    rw [List.take_take, List.take_take, Nat.min_eq_left (by omega)] at e1
    rw [List.drop_take, List.drop_take, List.drop_drop, List.drop_drop, show ta.length + tb.length - ta.length = tb.length by omega] at e2
    obtain ⟨x, y, p1, p2, p3⟩ := ih _ _ hta l m xs ys hx hy off b1 (by omega) (by omega) e1
    have hrest := fields_eq ih hx hy fs (off + ta.length) tb b2 htb (by omega) (by omega) e2
    simp only [Op.eqFields, ne_eq, hf1, not_false_eq_true, if_true, Sem.run_bind, hf2, p1, p2, p3, Result.andThen_ok]
    cases b1
    · simp
    · simpa using hrest
theorem one_cell {l : List AV} {xs : List Value} {n off : Nat} (hx : VRs W ρ n l xs) (h : off + 1 ≤ l.length) : ∃ v x, (l.drop off).take 1 = [v] ∧ xs[off]? = some x ∧ VR W ρ n v x := by
  have hj : off < l.length := by omega
  obtain ⟨x, h1, h2⟩ := VRs_get hx (List.getElem?_eq_getElem hj)
  exact ⟨l[off], x, by rw [List.drop_eq_getElem_cons hj]; rfl, h1, h2⟩
theorem info_of {ty : TypeId} {d : TypeDesc} (h : P.underlying ty = some d) : ∃ i, P.info? ty = some i := by
  cases hi : P.info? ty with
  | some i => exact ⟨i, rfl⟩
  | none => simp [Program.underlying, hi] at h
theorem eqTags_len {d : Nat} {t : TypeId} {r : List Nat} (h : eqTags P d t = some r) : r.length = P.cellsOf t := by
  cases d with
  | zero => simp [eqTags] at h
  | succ d =>
    simp only [eqTags, Option.bind_eq_some_iff] at h
    obtain ⟨r', _, h2⟩ := h
    split at h2 <;> simp only [Option.some.injEq, reduceCtorEq] at h2
    rename_i h3
    rw [← h2, h3]
theorem items_eq {n D : Nat} {e : TypeId} {r : List Nat} (ih : PartEq P W ρ n w D e r) (hc : r.length = P.cellsOf e) {l m : List AV} {xs ys : List Value} (hx : VRs W ρ n l xs) (hy : VRs W ρ n m ys) :
    ∀ (k i off : Nat) (b : Bool), off = i * r.length → off + k * r.length ≤ l.length → off + k * r.length ≤ m.length → aeqs (List.replicate k r).flatten ((l.drop off).take (k * r.length)) ((m.drop off).take (k * r.length)) = some b →
      (Op.eqItems D e (P.cellsOf e) xs.toArray ys.toArray (List.range' i k)).run P w = .ok b w
  | 0, i, off, b, _, _, _, hb => by
    simp only [List.replicate_zero, List.flatten_nil, Nat.zero_mul, List.take_zero, aeqs, Option.some.injEq] at hb
    subst hb
    simp [Op.eqItems]
  | k + 1, i, off, b, ho, h1, h2, hb => by
    rw [Nat.succ_mul] at h1 h2 hb
    simp only [List.replicate_succ, List.flatten_cons] at hb
    obtain ⟨b1, b2, e1, e2, rfl⟩ := aeqs_append hb
    rw [List.take_take, List.take_take, Nat.min_eq_left (by omega)] at e1
    rw [List.drop_take, List.drop_take, List.drop_drop, List.drop_drop, show k * r.length + r.length - r.length = k * r.length by omega] at e2
    obtain ⟨x, y, p1, p2, p3⟩ := ih l m xs ys hx hy off b1 (by omega) (by omega) e1
    have hrest := items_eq ih hc hx hy k (i + 1) (off + r.length) b2 (by rw [ho, Nat.succ_mul]) (by omega) (by omega) e2
    rw [List.range'_succ]
    rw [ho, hc] at p1 p2
    simp only [Op.eqItems, Sem.run_bind, p1, p2, p3, Result.andThen_ok]
    cases b1
    · simp
    · simpa using hrest
theorem part_eq {n : Nat} : ∀ (d : Nat) (ty : TypeId) (tags : List Nat), eqTags P d ty = some tags → ∀ D, d ≤ D → PartEq P W ρ n w D ty tags
  | 0, ty, tags, h, _, _ => by simp [eqTags] at h
  | d + 1, ty, tags, h, 0, hD => by omega
  | d + 1, ty, tags, h, D + 1, hD => by
    simp only [eqTags, Option.bind_eq_some_iff] at h
    obtain ⟨r, h1, h2⟩ := h
    split at h2 <;> simp only [Option.some.injEq, reduceCtorEq] at h2
    rename_i hlen
    subst h2
    intro l m xs ys hx hy off b hl hm hb
    split at h1 <;> (try (cases h1; done))
    · rename_i hu
      injection h1 with h1
      subst h1
      obtain ⟨v, x, q1, q2, q3⟩ := one_cell hx hl
      obtain ⟨u, y, q4, q5, q6⟩ := one_cell hy hm
      simp only [List.length_cons, List.length_nil, Nat.zero_add] at hb
      rw [q1, q4] at hb
      refine ⟨x, y, by simp [part, isAgg, run_underlying' hu, q2], by simp [part, isAgg, run_underlying' hu, q5], ?_⟩
      simp only [aeqs] at hb
      split at hb <;> (try (cases hb; done))
      all_goals rename_i hg; first | (cases hg; done) | skip
      all_goals
        simp only [VR] at q3 q6
        subst q3 q6
        simp [aeqs] at hb
        subst hb
        simp [Op.equalIn, run_underlying' hu]
    · rename_i k hu
      injection h1 with h1
      subst h1
      obtain ⟨v, x, q1, q2, q3⟩ := one_cell hx hl
      obtain ⟨u, y, q4, q5, q6⟩ := one_cell hy hm
      simp only [List.length_cons, List.length_nil, Nat.zero_add] at hb
      rw [q1, q4] at hb
      refine ⟨x, y, by simp [part, isAgg, run_underlying' hu, q2], by simp [part, isAgg, run_underlying' hu, q5], ?_⟩
      simp only [aeqs] at hb
      split at hb <;> (try (cases hb; done))
      all_goals rename_i hg; first | (cases hg; done) | skip
      all_goals
        simp only [VR] at q3 q6
        subst q3 q6
        split at hb <;> simp at hb
        rename_i hk
        subst hk
        subst hb
        simp [Op.equalIn, run_underlying' hu]
    · rename_i hu
      injection h1 with h1
      subst h1
      obtain ⟨v, x, q1, q2, q3⟩ := one_cell hx hl
      obtain ⟨u, y, q4, q5, q6⟩ := one_cell hy hm
      simp only [List.length_cons, List.length_nil, Nat.zero_add] at hb
      rw [q1, q4] at hb
      refine ⟨x, y, by simp [part, isAgg, run_underlying' hu, q2], by simp [part, isAgg, run_underlying' hu, q5], ?_⟩
      simp only [aeqs] at hb
      split at hb <;> (try (cases hb; done))
      all_goals rename_i hg; first | (cases hg; done) | skip
      all_goals
        simp only [VR] at q3 q6
        subst q3 q6
        simp at hb
        subst hb
        simp [Op.equalIn, run_underlying' hu]
    · rename_i fs hu
      split at h1 <;> (try (cases h1; done))
      rename_i hst
      obtain ⟨i, hi⟩ := info_of hu
      have hsz : i.size = r.length := by rw [hlen]; simp [Program.cellsOf, hi]
      have hp : ∀ zs : List Value, (part ty zs.toArray off).run P w = .ok (.agg ((zs.drop off).take r.length).toArray) w := fun zs => by
        simp only [part, isAgg, Sem.run_bind, run_underlying' hu, Result.andThen_ok, Sem.run_pure, if_true, sizeOf, run_typeInfo hi, hsz]
        congr 2
        apply Array.ext'
        simp [List.take_drop, Nat.add_comm]
      refine ⟨_, _, hp xs, hp ys, ?_⟩
      have hfs : P.fieldsOf ty = fs := by simp [Program.fieldsOf, hu]
      rw [run_equalIn_struct w D ty _ _ (by rw [hfs]; exact hu) (by simpa using hst), hfs]
      refine fields_eq (fun ty tags h => part_eq d ty tags h D (by omega)) (VRs_take (VRs_drop hx off) r.length) (VRs_take (VRs_drop hy off) r.length) fs.toList 0 r b h1 (by simp; omega) (by simp; omega) ?_
      simpa [List.take_take] using hb
    · rename_i len e hu
      simp only [Option.map_eq_some_iff] at h1
      obtain ⟨q, h3, rfl⟩ := h1
      have hq := eqTags_len h3
      have hfl : (List.replicate len q).flatten.length = len * q.length := by simp
      obtain ⟨i, hi⟩ := info_of hu
      have hsz : i.size = (List.replicate len q).flatten.length := by rw [hlen]; simp [Program.cellsOf, hi]
      have hie : ∃ j, P.info? e = some j := by
        cases d with
        | zero => simp [eqTags] at h3
        | succ d =>
          cases hj : P.info? e with
          | some j => exact ⟨j, rfl⟩
          | none =>
            have hun : P.underlying e = none := by simp [Program.underlying, hj]
            simp [eqTags, hun] at h3
      obtain ⟨j, hj⟩ := hie
      have hp : ∀ zs : List Value, (part ty zs.toArray off).run P w = .ok (.agg ((zs.drop off).take (List.replicate len q).flatten.length).toArray) w := fun zs => by
        simp only [part, isAgg, Sem.run_bind, run_underlying' hu, Result.andThen_ok, Sem.run_pure, if_true, sizeOf, run_typeInfo hi, hsz]
        congr 2
        apply Array.ext'
        simp [List.take_drop, Nat.add_comm]
      refine ⟨_, _, hp xs, hp ys, ?_⟩
      rw [run_equalIn_array w D _ _ hu hj, List.range_eq_range']
      rw [hfl] at hl hm hb ⊢
      refine items_eq (part_eq d e q h3 D (by omega)) hq (VRs_take (VRs_drop hx off) (len * q.length)) (VRs_take (VRs_drop hy off) (len * q.length)) len 0 0 b (by simp) (by simp; omega) (by simp; omega) ?_
      simpa [List.take_take] using hb
theorem eql_ways {ty : TypeId} {x y : Value} {b : Bool} (hxy : (∃ p q, x = .pointer p ∧ y = .pointer q) ∨ (∃ p q, x = .bool p ∧ y = .bool q) ∨ (∃ p n c q m d, x = .slice p n c ∧ y = .slice q m d) ∨ (x = .nilFunc ∧ y = .nilFunc) ∨ (x = .nilFunc ∧ ∃ f g c, y = .func f g c) ∨ (y = .nilFunc ∧ ∃ f g c, x = .func f g c))
    (h : ∀ d, (Op.equalIn (d + 1) ty x y).run P w = .ok b w) : (binOp .eql ty x y).run P w = .ok (.bool b) w ∧ (binOp .neq ty x y).run P w = .ok (.bool !b) w ∧ ∀ (op : BinOp) (u z : Operand), (eqGuard op ty u z x y).run P w = .ok () w := by
  have h' : (Op.equal ty x y).run P w = .ok b w := h 9999
  refine ⟨?_, ?_, ?_⟩
  · rcases hxy with ⟨p, q, rfl, rfl⟩ | ⟨p, q, rfl, rfl⟩ | ⟨p, n, c, q, m, d, rfl, rfl⟩ | ⟨rfl, rfl⟩ | ⟨rfl, f, g, c, rfl⟩ | ⟨rfl, f, g, c, rfl⟩ <;> simp only [binOp, Sem.run_bind, h', Result.andThen_ok, Sem.run_pure]
  · rcases hxy with ⟨p, q, rfl, rfl⟩ | ⟨p, q, rfl, rfl⟩ | ⟨p, n, c, q, m, d, rfl, rfl⟩ | ⟨rfl, rfl⟩ | ⟨rfl, f, g, c, rfl⟩ | ⟨rfl, f, g, c, rfl⟩ <;> simp only [binOp, Sem.run_bind, h', Result.andThen_ok, Sem.run_pure]
  · intro op u z
    rw [eqGuard_plain]
    · rfl
    · rcases hxy with ⟨p, q, rfl, rfl⟩ | ⟨p, q, rfl, rfl⟩ | ⟨p, n, c, q, m, d, rfl, rfl⟩ | ⟨rfl, rfl⟩ | ⟨rfl, f, g, c, rfl⟩ | ⟨rfl, f, g, c, rfl⟩ <;> simp
theorem op_binop {o : Oper} {s : SO} {op : BinOp} {ty ty' : TypeId} {x y : Operand} (ho : o.op = .binOp op ty x y ty') (hs : slimOp P o.op = some s) (hr : Rel W ρ H w) (ha : AR W ρ H.length t a) {v : AV} {H' : Heap} (he : aop (evx t) H s = some (v, H')) : Fine P W ρ H w o a v H' := by
  rw [ho] at hs
  simp only [slimOp, Option.bind_eq_some_iff] at hs
  obtain ⟨sx, hx, sy, hy, hs⟩ := hs
  split at hs <;> (try (cases hs; done))
  · injection hs with hs; subst hs; exact op_bin ho hx hy hr ha he
  · injection hs with hs; subst hs; exact op_bin ho hx hy hr ha he
  rename_i d hn1 hn2 hu
  split at hs <;> (try (cases hs; done))
  rename_i hop
  have h1 := evx_ok ha hx
  have h2 := evx_ok ha hy
  have ways : ∀ {b : Bool}, ((binOp .eql ty (a.eval x) (a.eval y)).run P w = .ok (.bool b) w ∧ (binOp .neq ty (a.eval x) (a.eval y)).run P w = .ok (.bool !b) w ∧ ∀ (op : BinOp) (u z : Operand), (eqGuard op ty u z (a.eval x) (a.eval y)).run P w = .ok () w) → ((binOp .eql ty (a.eval x) (a.eval y)).run P w = .ok (.bool b) w ∧ (binOp .neq ty (a.eval x) (a.eval y)).run P w = .ok (.bool !b) w ∧ ∀ op', (eqGuard op' ty x y (a.eval x) (a.eval y)).run P w = .ok () w) := fun h => ⟨h.1, h.2.1, fun op' => h.2.2 op' x y⟩
  have fin : ∀ {k : Nat} {tags : List Nat}, s = .eqs k tags (decide (op = .neq)) sx sy → (∀ b, aeq tags k (evx t sx) (evx t sy) = some b → (binOp .eql ty (a.eval x) (a.eval y)).run P w = .ok (.bool b) w ∧ (binOp .neq ty (a.eval x) (a.eval y)).run P w = .ok (.bool !b) w ∧ ∀ op', (eqGuard op' ty x y (a.eval x) (a.eval y)).run P w = .ok () w) → Fine P W ρ H w o a v H' := by
    intro k tags hs hk
    subst hs
    simp only [aop, Option.map_eq_some_iff] at he
    obtain ⟨b, hb, he⟩ := he
    obtain ⟨rfl, rfl⟩ := Prod.mk.inj he
    obtain ⟨h3, h4, h5⟩ := hk b hb
    rcases hop with rfl | rfl
    · exact fine_pure hr (x := .bool b) (by simp [execOp, ho, h3, h5]) (by simp [VR])
    · exact fine_pure hr (x := .bool !b) (by simp [execOp, ho, h4, h5]) (by simp [VR])
  split at hs
  · injection hs with hs
    rename_i hd
    refine fin hs.symm fun b hb => ?_
    generalize hk : (0 : Nat) = k at hb
    unfold aeq at hb
    split at hb <;> (try (cases hb; done)) <;> (try (cases hk; done)) <;> rename_i e1 e2 <;> rw [e1] at h1 <;> rw [e2] at h2 <;> simp only [VR] at h1 h2 <;> injection hb with hb <;> subst hb <;> exact ways (by rw [h1, h2]; exact eql_ways (by simp) (fun d => by simp [Op.equalIn, run_underlying' hu]))
  · injection hs with hs
    refine fin hs.symm fun b hb => ?_
    generalize hk : (1 : Nat) = k at hb
    unfold aeq at hb
    split at hb <;> (try (cases hb; done)) <;> (try (cases hk; done)) <;> rename_i e1 e2 <;> rw [e1] at h1 <;> rw [e2] at h2 <;> simp only [VR] at h1 h2 <;> injection hb with hb <;> subst hb
    · exact ways (by rw [h1, h2]; exact eql_ways (by simp) (fun d => by simp [Op.equalIn, run_underlying' hu]))
    all_goals
      first
        | (obtain ⟨_, h2⟩ := h2; exact ways (by rw [h1, h2]; exact eql_ways (by simp) (fun d => by simp [Op.equalIn, run_underlying' hu])))
        | (obtain ⟨_, h2, _⟩ := h2; exact ways (by rw [h1, h2]; exact eql_ways (by simp) (fun d => by simp [Op.equalIn, run_underlying' hu])))
        | (obtain ⟨_, h1⟩ := h1; exact ways (by rw [h1, h2]; exact eql_ways (by simp) (fun d => by simp [Op.equalIn, run_underlying' hu])))
        | (obtain ⟨_, h1, _⟩ := h1; exact ways (by rw [h1, h2]; exact eql_ways (by simp) (fun d => by simp [Op.equalIn, run_underlying' hu])))
  · injection hs with hs
    refine fin hs.symm fun b hb => ?_
    generalize hk : (2 : Nat) = k at hb
    unfold aeq at hb
    split at hb <;> (try (cases hb; done)) <;> (try (cases hk; done)) <;> rename_i e1 e2 <;> rw [e1] at h1 <;> rw [e2] at h2 <;> simp only [VR] at h1 h2 <;> injection hb with hb <;> subst hb
    · exact ways (by rw [h1, h2]; exact eql_ways (by simp) (fun d => by simp [Op.equalIn, run_underlying' hu]))
    all_goals
      first
        | (obtain ⟨_, _, _, h2, _⟩ := h2; exact ways (by rw [h1, h2]; exact eql_ways (by simp) (fun d => by simp [Op.equalIn, run_underlying' hu])))
        | (obtain ⟨_, _, h2, _⟩ := h2; exact ways (by rw [h1, h2]; exact eql_ways (by simp) (fun d => by simp [Op.equalIn, run_underlying' hu])))
        | (obtain ⟨_, _, _, h1, _⟩ := h1; exact ways (by rw [h1, h2]; exact eql_ways (by simp) (fun d => by simp [Op.equalIn, run_underlying' hu])))
        | (obtain ⟨_, _, h1, _⟩ := h1; exact ways (by rw [h1, h2]; exact eql_ways (by simp) (fun d => by simp [Op.equalIn, run_underlying' hu])))
  · injection hs with hs
    refine fin hs.symm fun b hb => ?_
    generalize hk : (3 : Nat) = k at hb
    unfold aeq at hb
    split at hb <;> (try (cases hb; done)) <;> (try (cases hk; done)) <;> rename_i e1 e2 <;> rw [e1] at h1 <;> rw [e2] at h2 <;> simp only [VR] at h1 h2 <;> injection hb with hb <;> subst hb
    · exact ways (by rw [h1, h2]; exact eql_ways (by simp) (fun d => by simp [Op.equalIn, run_underlying' hu]))
    all_goals
      first
        | (obtain ⟨_, h2, _⟩ := h2; exact ways (by rw [h1, h2]; exact eql_ways (by simp) (fun d => by simp [Op.equalIn, run_underlying' hu])))
        | (obtain ⟨_, h1, _⟩ := h1; exact ways (by rw [h1, h2]; exact eql_ways (by simp) (fun d => by simp [Op.equalIn, run_underlying' hu])))
  · simp only [Option.bind_eq_some_iff] at hs
    obtain ⟨tags, htags, hs⟩ := hs
    split at hs <;> (try (cases hs; done))
    rename_i hg
    injection hs with hs
    refine fin hs.symm fun b hb => ?_
    generalize hk : (4 : Nat) = k at hb
    unfold aeq at hb
    split at hb <;> (try (cases hb; done)) <;> (try (cases hk; done))
    rename_i l m e1 e2
    rw [e1] at h1
    rw [e2] at h2
    simp only [VR] at h1 h2
    obtain ⟨xs, q1, q2⟩ := h1
    obtain ⟨ys, q3, q4⟩ := h2
    rw [q1, q3]
    have hlen : ∀ {tags : List Nat} {l m : List AV} {b : Bool}, aeqs tags l m = some b → l.length = tags.length ∧ m.length = tags.length := by
      intro tags
      induction tags with
      | nil => intro l m b h; cases l <;> cases m <;> simp [aeqs] at h; exact ⟨rfl, rfl⟩
      | cons g tags ih =>
        intro l m b h
        cases l <;> cases m <;> simp only [aeqs, reduceCtorEq] at h
        split at h <;> (try (cases h; done))
        · simp only [Option.map_eq_some_iff] at h; obtain ⟨b', h1, _⟩ := h; obtain ⟨h2, h3⟩ := ih h1; exact ⟨by simp [h2], by simp [h3]⟩
        · split at h <;> simp only [Option.map_eq_some_iff, reduceCtorEq] at h; obtain ⟨b', h1, _⟩ := h; obtain ⟨h2, h3⟩ := ih h1; exact ⟨by simp [h2], by simp [h3]⟩
        · simp only [Option.map_eq_some_iff] at h; obtain ⟨b', h1, _⟩ := h; obtain ⟨h2, h3⟩ := ih h1; exact ⟨by simp [h2], by simp [h3]⟩
    obtain ⟨hl, hm⟩ := hlen hb
    obtain ⟨X, Y, p1, p2, p3⟩ := part_eq (P := P) (w := w) 20 ty tags htags 10000 (by omega) l m xs ys q2 q4 0 b (by omega) (by omega) (by rw [List.drop_zero, List.drop_zero, List.take_of_length_le (by omega), List.take_of_length_le (by omega)]; exact hb)
    obtain ⟨i, hi⟩ := info_of hu
    have hxs := VRs_length q2
    have hys := VRs_length q4
    have hcells : i.size = tags.length := by
      simp only [eqTags, Option.bind_eq_some_iff] at htags
      obtain ⟨r, _, h2⟩ := htags
      split at h2 <;> simp only [Option.some.injEq, reduceCtorEq] at h2
      rename_i h3
      rw [← h2, h3]
      simp [Program.cellsOf, hi]
    have hagg : (isAgg ty).run P w = .ok true w := by
      have := hg.1
      unfold isAggT at this
      rw [hu] at this
      unfold isAgg
      simp only [Sem.run_bind, run_underlying' hu, Result.andThen_ok]
      split at this <;> (try (cases this; done)) <;> rename_i h9 <;> injection h9 with h9 <;> subst h9 <;> rfl
    have hpart : ∀ zs : List Value, zs.length = tags.length → (part ty zs.toArray 0).run P w = .ok (.agg zs.toArray) w := fun zs hz => by
      simp only [part, Sem.run_bind, hagg, Result.andThen_ok, Sem.run_pure, if_true, sizeOf, run_typeInfo hi, hcells]
      congr 2
      apply Array.ext'
      simp [← hz]
    rw [hpart xs (by omega)] at p1
    rw [hpart ys (by omega)] at p2
    injection p1 with p1
    injection p2 with p2
    subst p1 p2
    exact ⟨by rw [run_eql_struct, p3]; rfl, by rw [run_neq_struct, p3]; rfl, fun op' => run_eqGuard_agg w op' ty x y _ _ hg.2⟩
end
end Go.Den

/- Maps. -/
set_option linter.unusedVariables false
set_option linter.unusedSimpArgs false
namespace Go.Den
open Go.RowKit (Below)
section
variable {P : Program} {W : World} {ρ : Plan} {H : Heap} {w : World} {t : List AV} {a : Act} {n : Nat}
theorem aeqs_true {tags : List Nat} : ∀ {l m : List AV}, aeqs tags l m = some true → l.all AV.isInt = true → l = m := by
  induction tags with
  | nil => intro l m h _; cases l <;> cases m <;> simp [aeqs] at h <;> rfl
  | cons g tags ih =>
    intro l m h hi
    cases l with
    | nil => simp [aeqs] at h
    | cons a l =>
      cases m with
      | nil => simp [aeqs] at h
      | cons b m =>
        simp only [List.all_cons, Bool.and_eq_true] at hi
        simp only [aeqs] at h
        split at h <;> (try (cases h; done))
        · exact absurd hi.1 (by simp [AV.isInt])
        · split at h <;> simp only [Option.map_eq_some_iff, Bool.and_eq_true, beq_iff_eq, reduceCtorEq] at h
          rename_i hk
          obtain ⟨c, h1, h2, h3⟩ := h
          subst h2 h3 hk
          rw [ih h1 hi.2]
        · exact absurd hi.1 (by simp [AV.isInt])
/-- Keys that are equal are the same. -/
theorem akey_eq {tags : List Nat} {a b : AV} (h : akey tags a b = some true) : a = b := by
  unfold akey at h
  split at h <;> (try (cases h; done))
  · split at h <;> simp only [Option.some.injEq, beq_iff_eq, reduceCtorEq] at h
    rename_i hk
    obtain ⟨hk, _⟩ := hk
    subst hk h; rfl
  · split at h <;> (try (cases h; done))
    rename_i hh
    rw [aeqs_true h hh.2.2.2]
theorem lits_det : ∀ {l : List AV} (hl : l.all AV.isInt = true) {x y : List Value} (hx : VRs W ρ n l x) (hy : VRs W ρ n l y), x = y ∧ ∀ k, ∀ z ∈ x, Instr.sameBits k z z = true
  | [], _, x, y, hx, hy => by simp only [VRs] at hx hy; subst hx hy; exact ⟨rfl, by simp⟩
  | a :: l, hl, x, y, hx, hy => by
    simp only [List.all_cons, Bool.and_eq_true] at hl
    simp only [VRs] at hx hy
    obtain ⟨x0, xr, rfl, h1, h2⟩ := hx
    obtain ⟨y0, yr, rfl, h3, h4⟩ := hy
    obtain ⟨e3, e4⟩ := lits_det hl.2 h2 h4
    subst e3
    cases a <;> simp only [AV.isInt, Bool.false_eq_true, false_and] at hl
    simp only [VR] at h1 h3
    subst h1 h3
    exact ⟨rfl, fun k z hz => by
      rcases List.mem_cons.1 hz with rfl | hz
      · cases k <;> simp [Instr.sameBits]
      · exact e4 k z hz⟩
/-- A key stands for one value. -/
theorem key_det {tags : List Nat} {a : AV} (h : akey tags a a = some true) {x y : Value} (hx : VR W ρ n a x) (hy : VR W ρ n a y) : x = y ∧ Instr.sameBits 10000 x x = true := by
  cases a <;> simp only [akey, reduceCtorEq] at h
  case int k i =>
    simp only [VR] at hx hy
    subst hx hy
    exact ⟨rfl, by simp [Instr.sameBits]⟩
  case agg l =>
    split at h <;> (try (cases h; done))
    rename_i hh
    simp only [VR] at hx hy
    obtain ⟨xs, rfl, h1⟩ := hx
    obtain ⟨ys, rfl, h2⟩ := hy
    obtain ⟨e3, e4⟩ := lits_det hh.2.2.2 h1 h2
    subst e3
    refine ⟨rfl, ?_⟩
    simp only [Instr.sameBits, beq_self_eq_true, Bool.true_and, List.all_eq_true]
    intro p hp
    have hz : ∀ (l : List Value) (p : Value × Value), p ∈ l.zip l → p.1 = p.2 ∧ p.1 ∈ l := by
      intro l
      induction l with
      | nil => intro p hp; simp at hp
      | cons a l ih =>
        intro p hp
        rw [List.zip_cons_cons, List.mem_cons] at hp
        rcases hp with rfl | hp
        · exact ⟨rfl, by simp⟩
        · obtain ⟨q1, q2⟩ := ih p hp; exact ⟨q1, by simp [q2]⟩
    obtain ⟨q1, q2⟩ := hz _ p hp
    obtain ⟨p1, p2⟩ := p
    simp only at q1 q2 ⊢
    subst q1
    exact e4 _ _ (by simpa using q2)
/-- What the type of keys says. -/
inductive KeyT (P : Program) (t : TypeId) (tags : List Nat) : Prop where
  | int (k : IntKind) (h : P.underlying t = some (.int k)) (ht : tags = [])
  | str (fs : Array Field) (h : P.underlying t = some (.struct fs)) (hf : ∀ f ∈ fs.toList, ∃ k, P.underlying f.type = some (.int k)) (ht : eqTags P 20 t = some tags) (h0 : tags.length ≠ 0)
theorem keyT {t : TypeId} {tags : List Nat} (h : keyTags P t = some tags) : KeyT P t tags := by
  unfold keyTags at h
  split at h <;> (try (cases h; done))
  · rename_i k hk
    injection h with h
    exact .int k hk h.symm
  · rename_i fs hk
    split at h <;> simp only [Option.bind_eq_some_iff, reduceCtorEq] at h
    rename_i hf
    obtain ⟨r, hr, h⟩ := h
    split at h <;> simp only [Option.some.injEq, reduceCtorEq] at h
    rename_i h0
    subst h
    refine .str fs hk (fun f hm => ?_) hr h0
    have := List.all_eq_true.1 hf f hm
    split at this
    · exact ⟨_, by assumption⟩
    · cases this
theorem part_whole {ty : TypeId} {fs : Array Field} {i : TypeInfo} (hu : P.underlying ty = some (.struct fs)) (hi : P.info? ty = some i) {zs : List Value} (hl : zs.length = i.size) : (part ty zs.toArray 0).run P w = .ok (.agg zs.toArray) w := by
  simp only [part, isAgg, Sem.run_bind, run_underlying' hu, Result.andThen_ok, Sem.run_pure, if_true, sizeOf, run_typeInfo hi]
  congr 2
  apply Array.ext'
  simp [List.take_of_length_le, hl]
theorem key_int {ty : TypeId} {a b : AV} {x y : Value} (ha : VR W ρ n a x) (hb : VR W ρ n b y) {c : Bool} (h : akey [] a b = some c) : ∃ k i j, x = .int k i ∧ y = .int k j ∧ c = (i == j) := by
  unfold akey at h
  split at h <;> (try (cases h; done))
  · split at h <;> simp only [Option.some.injEq, reduceCtorEq] at h
    rename_i hkk
    obtain ⟨hkk, _⟩ := hkk
    subst hkk
    simp only [VR] at ha hb
    exact ⟨_, _, _, ha, hb, h.symm⟩
  · split at h <;> (try (cases h; done))
    rename_i hh
    exact absurd rfl hh.2.2.1
theorem key_str {ty : TypeId} {tags : List Nat} {fs : Array Field} (hu : P.underlying ty = some (.struct fs)) (ht : eqTags P 20 ty = some tags) (h0 : tags.length ≠ 0) {a b : AV} {x y : Value} (ha : VR W ρ n a x) (hb : VR W ρ n b y) {c : Bool} (h : akey tags a b = some c) :
    ∃ xs : List Value, x = .agg xs.toArray ∧ xs.length = tags.length ∧ (Op.equal ty x y).run P w = .ok c w := by
  unfold akey at h
  split at h <;> (try (cases h; done))
  · split at h <;> (try (cases h; done))
    rename_i hh
    exact absurd hh.2 h0
  · rename_i l m
    split at h <;> (try (cases h; done))
    rename_i hlm
    simp only [VR] at ha hb
    obtain ⟨xs, rfl, hx⟩ := ha
    obtain ⟨ys, rfl, hy⟩ := hb
    obtain ⟨i, hi⟩ := info_of hu
    have hsz : i.size = tags.length := by
      simp only [eqTags, Option.bind_eq_some_iff] at ht
      obtain ⟨r, _, h2⟩ := ht
      split at h2 <;> simp only [Option.some.injEq, reduceCtorEq] at h2
      rename_i hlen
      subst h2
      rw [hlen]; simp [Program.cellsOf, hi]
    have hxl := VRs_length hx
    have hyl := VRs_length hy
    refine ⟨xs, rfl, by omega, ?_⟩
    obtain ⟨x', y', p1, p2, p3⟩ := part_eq (P := P) (W := W) (ρ := ρ) (n := n) (w := w) 20 ty tags ht 10000 (by decide) l m xs ys hx hy 0 c (by omega) (by omega) (by
      rw [List.drop_zero, List.drop_zero, List.take_of_length_le (by omega), List.take_of_length_le (by omega)]; exact h)
    rw [part_whole hu hi (by omega)] at p1 p2
    injection p1 with p1
    injection p2 with p2
    subst p1 p2
    exact p3
theorem tags_struct {d : Nat} {ty : TypeId} {fs : Array Field} {tags : List Nat} (hu : P.underlying ty = some (.struct fs)) (h : eqTags P (d + 1) ty = some tags) : tagsL (eqTags P d) 0 fs.toList = some tags := by
  simp only [eqTags, Option.bind_eq_some_iff] at h
  obtain ⟨r, h1, h2⟩ := h
  split at h2 <;> simp only [Option.some.injEq, reduceCtorEq] at h2
  subst h2
  rw [hu] at h1
  simp only at h1
  split at h1 <;> (try (cases h1; done))
  exact h1
theorem tags_int {d : Nat} {ty : TypeId} {k : IntKind} {tags : List Nat} (hu : P.underlying ty = some (.int k)) (h : eqTags P (d + 1) ty = some tags) : tags.length = 1 := by
  simp only [eqTags, Option.bind_eq_some_iff] at h
  obtain ⟨r, h1, h2⟩ := h
  split at h2 <;> simp only [Option.some.injEq, reduceCtorEq] at h2
  subst h2
  rw [hu] at h1
  simp only [Option.some.injEq] at h1
  subst h1; rfl
/-- The fields of a key. -/
theorem fields_check (em : Bool) {xs : List Value} {g : TypeId → Option (List Nat)} (hg : ∀ ty k r, P.underlying ty = some (.int k) → g ty = some r → r.length = 1) : ∀ (fs : List Field) (off : Nat) (tags : List Nat), tagsL g off fs = some tags → (∀ f ∈ fs, ∃ k, P.underlying f.type = some (.int k)) → off + tags.length ≤ xs.length →
    (forIn fs PUnit.unit fun f _ => do
      if f.name ≠ "_" then do
        let v ← part f.type xs.toArray f.offset
        Instr.checkKey em 9999 f.type v
        pure (ForInStep.yield PUnit.unit)
      else pure (ForInStep.yield PUnit.unit) : Sem PUnit).run P w = .ok PUnit.unit w
  | [], off, tags, _, _, _ => by simp
  | f :: fs, off, tags, ht, hf, hl => by
    simp only [tagsL] at ht
    split at ht <;> simp only [Option.bind_eq_some_iff, Option.map_eq_some_iff, reduceCtorEq] at ht
    rename_i hh
    obtain ⟨ta, hta, tb, htb, rfl⟩ := ht
    have hf1 : f.name ≠ "_" := fun h => hh (.inl h)
    have hf2 : f.offset = off := Decidable.byContradiction fun h => hh (.inr h)
    obtain ⟨k, hk⟩ := hf f (by simp)
    have h1 : ta.length = 1 := hg f.type k ta hk hta
    rw [List.length_append] at hl
    have hlt : off < xs.length := by omega
    have hget : xs[off]? = some xs[off] := List.getElem?_eq_getElem hlt
    have hp : (part f.type xs.toArray f.offset).run P w = .ok xs[off] w := by simp [part, isAgg, run_underlying' hk, hf2, hget]
    have hc : ∀ v, (Instr.checkKey em 9999 f.type v).run P w = .ok () w := fun v => by
      show (Instr.checkKey em (9998 + 1) f.type v).run P w = _
      unfold Instr.checkKey
      simp only [Sem.run_bind, run_underlying' hk, Result.andThen_ok]
      cases v <;> simp
    have ih := fields_check (xs := xs) em hg fs (off + ta.length) tb htb (fun f hm => hf f (by simp [hm])) (by omega)
    simp only [List.forIn_cons, Sem.run_bind, hf1, ne_eq, not_false_eq_true, if_true, hp, hc, Result.andThen_ok, Sem.run_pure]
    exact ih
theorem key_check {ty : TypeId} {tags : List Nat} (hk : KeyT P ty tags) {a : AV} {x : Value} (ha : VR W ρ n a x) (h : akey tags a a = some true) (em : Bool) : (Instr.checkKey em 10000 ty x).run P w = .ok () w := by
  show (Instr.checkKey em (9999 + 1) ty x).run P w = _
  unfold Instr.checkKey
  cases hk with
  | int k hu ht =>
    subst ht
    obtain ⟨k', i, j, rfl, _⟩ := key_int (ty := ty) ha ha h
    simp only [Sem.run_bind, run_underlying' hu, Result.andThen_ok]
    rfl
  | str fs hu hf ht h0 =>
    obtain ⟨xs, rfl, hl, _⟩ := key_str (w := w) hu ht h0 ha ha h
    simp only [Sem.run_bind, run_underlying' hu, Result.andThen_ok]
    rw [← Array.forIn_toList]
    rw [fields_check (w := w) (xs := xs) em (fun ty k r hk hr => tags_int (d := 18) hk hr) fs.toList 0 tags (tags_struct (d := 19) hu ht) hf (by omega)]
    rfl
/-- Where a key is. -/
theorem find_from {ty : TypeId} {tags : List Nat} (hk : KeyT P ty tags) {a : AV} {x : Value} (ha : VR W ρ n a x) : ∀ (ks : List AV) (es : List MapEntry) (i : Nat) (r : Option Nat), ks.length = es.length → (∀ j (h : j < es.length) k, ks[j]? = some k → VR W ρ n k es[j].key) → afind tags a ks i = some r →
    (∀ m, r = some m → ∃ (h : m - i < es.length), i ≤ m ∧ akey tags a (ks.getD (m - i) .undef) = some true) ∧
    ((∃ d, P.underlying ty = some (.int d) ∧ Instr.findNow (.int d) x es i = some (r.map fun m => (m, (es.getD (m - i) default).val))) ∨
     (∃ fs, P.underlying ty = some (.struct fs) ∧ (Instr.findAsking ty x es i).run P w = .ok (r.map fun m => (m, (es.getD (m - i) default).val)) w))
  | [], [], i, r, _, _, h => by
    simp only [afind, Option.some.injEq] at h
    subst h
    refine ⟨fun m hm => (by cases hm), ?_⟩
    cases hk with
    | int k hu ht => exact .inl ⟨k, hu, rfl⟩
    | str fs hu hf ht h0 => exact .inr ⟨fs, hu, by simp [Instr.findAsking]⟩
  | [], e :: es, i, r, hl, _, _ => by simp at hl
  | b :: ks, [], i, r, hl, _, _ => by simp at hl
  | b :: ks, e :: es, i, r, hl, hr, h => by
    simp only [afind] at h
    have hb := hr 0 (by simp) b rfl
    simp only [List.getElem_cons_zero] at hb
    have hr' : ∀ j (h : j < es.length) k, ks[j]? = some k → VR W ρ n k es[j].key := fun j h k hk => by
      have := hr (j + 1) (by simp; omega) k (by simpa using hk)
      simpa using this
    split at h <;> (try (cases h; done))
    · rename_i hc
      injection h with h
      subst h
      refine ⟨fun m hm => ?_, ?_⟩
      · injection hm with hm
        subst hm
        refine ⟨by simp, Nat.le_refl _, ?_⟩
        rw [Nat.sub_self]; exact hc
      · cases hk with
        | int k hu ht =>
          subst ht
          obtain ⟨k', p, q, rfl, hy, h3⟩ := key_int (ty := ty) ha hb hc
          have hpq : p = q := by simpa using h3.symm
          subst hpq
          refine .inl ⟨k, hu, ?_⟩
          simp [Instr.findNow, Instr.sameNow, hy]
        | str fs hu hf ht h0 =>
          obtain ⟨_, _, _, h3⟩ := key_str (w := w) hu ht h0 ha hb hc
          refine .inr ⟨fs, hu, ?_⟩
          simp [Instr.findAsking, h3]
    · rename_i hc
      obtain ⟨g1, g2⟩ := find_from hk ha ks es (i + 1) r (by simpa using hl) hr' h
      have hget : ∀ m, i + 1 ≤ m → (e :: es).getD (m - i) default = es.getD (m - (i + 1)) default := fun m hm => by
        obtain ⟨d, rfl⟩ : ∃ d, m = i + 1 + d := ⟨m - (i + 1), by omega⟩
        rw [show i + 1 + d - i = d + 1 by omega, show i + 1 + d - (i + 1) = d by omega, List.getD_cons_succ]
      have hmap : (r.map fun m => (m, ((e :: es).getD (m - i) default).val)) = r.map fun m => (m, (es.getD (m - (i + 1)) default).val) := by
        cases r with
        | none => rfl
        | some m =>
          obtain ⟨_, hm, _⟩ := g1 m rfl
          simp only [Option.map_some]
          rw [hget m hm]
      refine ⟨fun m hm => ?_, ?_⟩
      · obtain ⟨q1, q2, q3⟩ := g1 m hm
        refine ⟨by simp; omega, by omega, ?_⟩
        obtain ⟨d, rfl⟩ : ∃ d, m = i + 1 + d := ⟨m - (i + 1), by omega⟩
        rw [show i + 1 + d - i = d + 1 by omega, List.getD_cons_succ]
        rwa [show i + 1 + d - (i + 1) = d by omega] at q3
      · rw [hmap]
        rcases g2 with ⟨d, hu, h3⟩ | ⟨fs, hu, h3⟩
        · cases hk with
          | int k hu' ht =>
            subst ht
            obtain ⟨k', p, q, rfl, hy, h4⟩ := key_int (ty := ty) ha hb hc
            refine .inl ⟨d, hu, ?_⟩
            have hpq : (p == q) = false := h4.symm
            simp only [Instr.findNow, Instr.sameNow, hy, if_true, hpq]
            exact h3
          | str fs hu' _ _ _ => rw [hu] at hu'; cases hu'
        · cases hk with
          | int k hu' ht => rw [hu] at hu'; cases hu'
          | str fs' hu' hf ht h0 =>
            obtain ⟨_, _, _, h4⟩ := key_str (w := w) hu' ht h0 ha hb hc
            refine .inr ⟨fs, hu, ?_⟩
            simp only [Instr.findAsking, Sem.run_bind, h4, Result.andThen_ok, Bool.false_eq_true, if_false]
            exact h3
theorem find_ok {ty : TypeId} {tags : List Nat} (hk : KeyT P ty tags) {a : AV} {x : Value} (ha : VR W ρ n a x) {ks : List AV} {es : List MapEntry} {r : Option Nat} (hl : ks.length = es.length) (hr : ∀ j (h : j < es.length) k, ks[j]? = some k → VR W ρ n k es[j].key) (h : afind tags a ks 0 = some r) :
    (∀ m, r = some m → m < es.length ∧ ks[m]? = some a) ∧ (Instr.findKey ty x es).run P w = .ok (r.map fun m => (m, (es.getD m default).val)) w := by
  obtain ⟨g1, g2⟩ := find_from (w := w) hk ha ks es 0 r hl hr h
  refine ⟨fun m hm => ?_, ?_⟩
  · obtain ⟨q1, _, q3⟩ := g1 m hm
    rw [Nat.sub_zero] at q1 q3
    have := akey_eq q3
    refine ⟨q1, ?_⟩
    rw [List.getD, List.getElem?_eq_getElem (by omega)] at this
    rw [List.getElem?_eq_getElem (by omega)]
    simp only [Option.getD_some] at this
    rw [this]
  · simp only [Nat.sub_zero] at g2
    unfold Instr.findKey
    rcases g2 with ⟨d, hu, h3⟩ | ⟨fs, hu, h3⟩
    · simp only [Sem.run_bind, run_underlying' hu, Result.andThen_ok, h3, Sem.run_pure]
    · simp only [Sem.run_bind, run_underlying' hu, Result.andThen_ok]
      cases es with
      | nil =>
        cases ks with
        | nil =>
          simp only [afind, Option.some.injEq] at h
          subst h
          simp [Instr.findNow]
        | cons b ks => simp at hl
      | cons e es =>
        have : Instr.findNow (.struct fs) x (e :: es) 0 = none := by simp [Instr.findNow, Instr.sameNow]
        rw [this]
        exact h3
/-- A map that is known. -/
theorem amap_ok (hr : Rel W ρ H w) {x : AV} {xv : Value} (hx : VR W ρ H.length x xv) {o : Nat} {ks vs : List AV} (h : amap H x = some (o, ks, vs)) :
    H[o]? = some (.mp ks vs) ∧ o < H.length ∧ xv = .map (some (ρ o).b) ∧ ∃ es : Array MapEntry, w.heap[(ρ o).b]? = some (.map es es.size) ∧ ks.length = es.size ∧ vs.length = es.size ∧
      ∀ j (h : j < es.size), es[j].born = j ∧ (∀ k, ks[j]? = some k → VR W ρ H.length k es[j].key) ∧ (∀ v, vs[j]? = some v → VR W ρ H.length v es[j].val) := by
  unfold amap at h
  split at h <;> (try (cases h; done))
  rename_i o'
  split at h <;> simp only [Option.some.injEq, Prod.mk.injEq, reduceCtorEq] at h
  rename_i hH
  obtain ⟨rfl, rfl, rfl⟩ := h
  simp only [VR] at hx
  exact ⟨hH, hx.1, hx.2, hr.obj _ _ hH⟩
theorem getObj_map {r : Nat} {es : Array MapEntry} {c : Nat} (h : w.heap[r]? = some (.map es c)) : (getObj r).run P w = .ok (.map es c) w := by simp [getObj, Sem.run, h]
theorem setObj_map {r : Nat} {es : Array MapEntry} {c : Nat} (o : Obj) (h : w.heap[r]? = some (.map es c)) : (setObj r o).run P w = .ok () { w with heap := w.heap.setIfInBounds r o } := by simp [setObj, Sem.run, h]
/-- A map that is another one now. -/
theorem stp_map (hr : Rel W ρ H w) {o : Nat} {ks vs ks' vs' : List AV} (hH : H[o]? = some (.mp ks vs)) {es es' : Array MapEntry} (hw : w.heap[(ρ o).b]? = some (.map es es.size))
    (h1 : ks'.length = es'.size) (h2 : vs'.length = es'.size) (h3 : ∀ j (h : j < es'.size), es'[j].born = j ∧ (∀ k, ks'[j]? = some k → VR W ρ H.length k es'[j].key) ∧ (∀ v, vs'[j]? = some v → VR W ρ H.length v es'[j].val)) :
    Stp W ρ H w ρ (H.set o (.mp ks' vs')) { w with heap := w.heap.setIfInBounds (ρ o).b (.map es' es'.size) } := by
  have hlt : (ρ o).b < w.heap.size := (Array.getElem?_eq_some_iff.1 hw).1
  refine stp_set hr hH (by simp) (by simp) rfl rfl rfl (fun b hb => by simp [Array.getElem?_setIfInBounds, Ne.symm hb]) ?_
  exact ⟨es', by simp [hlt], h1, h2, h3⟩
theorem op_mkmap {o : Oper} {s : SO} {ty : TypeId} {r : Option Operand} (ho : o.op = .makeMap ty r) (hs : slimOp P o.op = some s) (hr : Rel W ρ H w) (ha : AR W ρ H.length t a) {v : AV} {H' : Heap} (he : aop (evx t) H s = some (v, H')) : Fine P W ρ H w o a v H' := by
  rw [ho] at hs
  simp only [slimOp] at hs
  have key : s = .mkmap ∧ (Instr.makeMap ty (r.map a.eval)).run P w = .ok (.map (some w.heap.size)) { w with heap := w.heap.push (.map #[] 0) } := by
    split at hs <;> simp only [Option.some.injEq, reduceCtorEq] at hs
    · exact ⟨hs.symm, by simp [Instr.makeMap]⟩
    · rename_i kt e k i hu
      refine ⟨hs.symm, ?_⟩
      simp [Instr.makeMap, run_underlying' hu, Act.eval, asInt, asIntOf]
  obtain ⟨rfl, hrun⟩ := key
  simp only [aop, Option.some.injEq, Prod.mk.injEq] at he
  obtain ⟨rfl, rfl⟩ := he
  refine ⟨.map (some w.heap.size), { w with heap := w.heap.push (.map #[] 0) }, ρ.ext H.length ⟨w.heap.size, 0, 0⟩, .inl (by simp [execOp, ho, hrun]), stp_push hr Plan.ext_lt (by rw [Plan.ext_at]) (.push _ _) ?_, ?_⟩
  · rw [Plan.ext_at]
    exact ⟨#[], by simp, rfl, rfl, fun j h => by simp at h⟩
  · simp only [VR, Plan.ext_at, List.length_append, List.length_cons, List.length_nil]
    exact ⟨by omega, trivial⟩
theorem op_mlen {o : Oper} {c : Call} (ho : o.op = .call c) (hb : c.callee = .builtin .len) {ty : TypeId} (ht : c.argTypes.toList = [ty]) {sx : SX} (hx : c.args.toList.mapM slimX = some [sx]) {kt et : TypeId} (hu : P.underlying ty = some (.map kt et))
    (hr : Rel W ρ H w) (ha : AR W ρ H.length t a) {v : AV} {H' : Heap} (he : aop (evx t) H (.mlen sx) = some (v, H')) : Fine P W ρ H w o a v H' := by
  obtain ⟨x, h1, h2⟩ := VRs_one (evxs_ok ha hx)
  obtain ⟨cs, hrun⟩ := run_builtin (P := P) (w := w) ho hb h1 ht
  simp only [aop, Option.map_eq_some_iff, Prod.mk.injEq] at he
  obtain ⟨⟨o', ks, vs⟩, hm, rfl, rfl⟩ := he
  obtain ⟨hH, hlt, rfl, es, hw, h3, h4, h5⟩ := amap_ok hr h2 hm
  refine fine_pure hr (x := .int .i64 (ks.length : Int)) ?_ (by simp only [VR])
  rw [hrun]
  have hg := getObj_map (P := P) hw
  simp [builtin, Builtin.len_, run_underlying' hu, hg, goInt, h3]
theorem op_lookup {o : Oper} {s : SO} {ty : TypeId} {x i : Operand} {ok : Bool} (ho : o.op = .lookup ty x i ok) (hs : slimOp P o.op = some s) (hr : Rel W ρ H w) (ha : AR W ρ H.length t a) {v : AV} {H' : Heap} (he : aop (evx t) H s = some (v, H')) : Fine P W ρ H w o a v H' := by
  rw [ho] at hs
  simp only [slimOp] at hs
  split at hs <;> (try (cases hs; done))
  rename_i kt et hu
  simp only [Option.bind_eq_some_iff, Option.map_eq_some_iff] at hs
  obtain ⟨tags, hk, z, hz, sx, hx, si, hi, rfl⟩ := hs
  have hk := keyT hk
  simp only [aop, Option.bind_eq_some_iff] at he
  obtain ⟨⟨o', ks, vs⟩, hm, he⟩ := he
  obtain ⟨hH, hlt, hxv, es, hw, h3, h4, h5⟩ := amap_ok hr (evx_ok ha hx) hm
  split at he <;> simp only [Option.bind_eq_some_iff, Option.some.injEq, Prod.mk.injEq, reduceCtorEq] at he
  rename_i hkk
  obtain ⟨r, hf, he⟩ := he
  obtain ⟨hv, rfl⟩ := he
  have hiv := evx_ok ha hi
  have hg := getObj_map (P := P) hw
  have hc := key_check (P := P) (w := w) hk hiv hkk es.isEmpty
  obtain ⟨f1, f2⟩ := find_ok (P := P) (w := w) hk hiv (ks := ks) (es := es.toList) (by simpa using h3) (fun j h k hk => by
    have := (h5 j (by simpa using h)).2.1 k hk
    simpa using this) hf
  obtain ⟨zv, hz1, hz2⟩ := run_zeroValue (P := P) (W := W) (ρ := ρ) (n := H.length) (w := w) hz
  cases r with
  | none =>
    simp only [Option.map_none] at f2
    have hrun : (Instr.lookup ty (a.eval x) (a.eval i) ok).run P w = .ok (if ok then .tuple #[zv, .bool false] else zv) w := by
      unfold Instr.lookup
      rw [hxv]
      simp only [Sem.run_bind, run_underlying' hu, Result.andThen_ok, hg, Sem.run_pure, hc, f2, hz1]
    refine fine_pure hr (x := if ok then .tuple #[zv, .bool false] else zv) (by simp [execOp, ho, hrun]) ?_
    simp only at hv
    subst hv
    cases ok
    · simpa using hz2
    · simp only [if_true, VR]; exact ⟨[zv, .bool false], rfl, by simp only [VRs, VR]; exact ⟨_, _, rfl, hz2, _, _, rfl, rfl, rfl⟩⟩
  | some m =>
    obtain ⟨hm1, _⟩ := f1 m rfl
    have hm1 : m < es.size := by simpa using hm1
    have hval := (h5 m hm1).2.2 vs[m] (List.getElem?_eq_getElem (by omega))
    have hgd : vs.getD m .undef = vs[m] := by rw [List.getD, List.getElem?_eq_getElem (by omega)]; rfl
    have hed : (es.toList.getD m default) = es[m] := by rw [List.getD, List.getElem?_eq_getElem (by simpa using hm1)]; simp
    simp only [Option.map_some, hed] at f2
    have hrun : (Instr.lookup ty (a.eval x) (a.eval i) ok).run P w = .ok (if ok then .tuple #[es[m].val, .bool true] else es[m].val) w := by
      unfold Instr.lookup
      rw [hxv]
      simp only [Sem.run_bind, run_underlying' hu, Result.andThen_ok, hg, Sem.run_pure, hc, f2]
    refine fine_pure hr (x := if ok then .tuple #[es[m].val, .bool true] else es[m].val) (by simp [execOp, ho, hrun]) ?_
    simp only [hgd] at hv
    subst hv
    cases ok
    · simpa using hval
    · simp only [if_true, VR]; exact ⟨[es[m].val, .bool true], rfl, by simp only [VRs, VR]; exact ⟨_, _, rfl, hval, _, _, rfl, rfl, rfl⟩⟩
theorem set_self {H : Heap} {o : Nat} {x : AO} (h : H[o]? = some x) : H.set o x = H := by
  apply List.ext_getElem?
  intro i
  rw [List.getElem?_set]
  split
  · rename_i hi; subst hi
    split
    · rw [h]
    · rename_i hlt
      rw [List.getElem?_eq_none (by omega)] at h; cases h
  · rfl
/-- Entries with one more. -/
theorem more_entries {es : Array MapEntry} {ks vs : List AV} (h3 : ks.length = es.size) (h4 : vs.length = es.size) (h5 : ∀ j (h : j < es.size), es[j].born = j ∧ (∀ k, ks[j]? = some k → VR W ρ n k es[j].key) ∧ (∀ v, vs[j]? = some v → VR W ρ n v es[j].val))
    {k v : AV} {x y : Value} (hk : VR W ρ n k x) (hv : VR W ρ n v y) : let es' := es.push { key := x, val := y, born := es.size }
    (ks ++ [k]).length = es'.size ∧ (vs ++ [v]).length = es'.size ∧ ∀ j (h : j < es'.size), es'[j].born = j ∧ (∀ u, (ks ++ [k])[j]? = some u → VR W ρ n u es'[j].key) ∧ (∀ u, (vs ++ [v])[j]? = some u → VR W ρ n u es'[j].val) := by
  refine ⟨by simp [h3], by simp [h4], fun j hj => ?_⟩
  by_cases hj2 : j < es.size
  · obtain ⟨q1, q2, q3⟩ := h5 j hj2
    simp only [Array.getElem_push_lt hj2]
    refine ⟨q1, fun u hu => q2 u ?_, fun u hu => q3 u ?_⟩
    · rwa [List.getElem?_append_left (by omega)] at hu
    · rwa [List.getElem?_append_left (by omega)] at hu
  · have hje : j = es.size := by simp at hj; omega
    subst hje
    simp only [Array.getElem_push_eq]
    refine ⟨trivial, fun u hu => ?_, fun u hu => ?_⟩
    · rw [← h3, List.getElem?_append_right (Nat.le_refl _), Nat.sub_self] at hu
      simp at hu; subst hu; exact hk
    · rw [← h4, List.getElem?_append_right (Nat.le_refl _), Nat.sub_self] at hu
      simp at hu; subst hu; exact hv
/-- Entries of which one is another one. -/
theorem other_entry {es : Array MapEntry} {ks vs : List AV} (h3 : ks.length = es.size) (h4 : vs.length = es.size) (h5 : ∀ j (h : j < es.size), es[j].born = j ∧ (∀ k, ks[j]? = some k → VR W ρ n k es[j].key) ∧ (∀ v, vs[j]? = some v → VR W ρ n v es[j].val))
    {m : Nat} {v : AV} {y : Value} (hv : VR W ρ n v y) {f : MapEntry → MapEntry} (hf : ∀ (h : m < es.size), (f es[m]).born = es[m].born ∧ (f es[m]).key = es[m].key ∧ (f es[m]).val = y) :
    ks.length = (es.modify m f).size ∧ (vs.set m v).length = (es.modify m f).size ∧ ∀ j (h : j < (es.modify m f).size), (es.modify m f)[j].born = j ∧ (∀ u, ks[j]? = some u → VR W ρ n u (es.modify m f)[j].key) ∧ (∀ u, (vs.set m v)[j]? = some u → VR W ρ n u (es.modify m f)[j].val) := by
  refine ⟨by simp [h3], by simp [h4], fun j hj => ?_⟩
  have hj2 : j < es.size := by simpa using hj
  obtain ⟨q1, q2, q3⟩ := h5 j hj2
  by_cases hmj : m = j
  · subst hmj
    obtain ⟨f1, f2, f3⟩ := hf hj2
    simp only [Array.getElem_modify, if_true]
    refine ⟨by rw [f1, q1], fun u hu => by rw [f2]; exact q2 u hu, fun u hu => ?_⟩
    rw [List.getElem?_set] at hu
    simp only [if_true] at hu
    split at hu <;> simp only [Option.some.injEq, reduceCtorEq] at hu
    subst hu
    rw [f3]; exact hv
  · simp only [Array.getElem_modify, if_neg hmj]
    refine ⟨q1, q2, fun u hu => q3 u ?_⟩
    rwa [List.getElem?_set, if_neg hmj] at hu
theorem key_stays {tags : List Nat} {k : AV} (hkk : akey tags k k = some true) {x y : Value} (hx : VR W ρ n k x) (hy : VR W ρ n k y) : (Instr.keyThatStays y x).run P w = .ok y w := by
  obtain ⟨rfl, h2⟩ := key_det hkk hx hy
  simp [Instr.keyThatStays, h2]
theorem op_mapup {o : Oper} {s : SO} {ty : TypeId} {m k x : Operand} (ho : o.op = .mapUpdate ty m k x ∨ o.op = .insert ty m k x) (hs : slimOp P o.op = some s) (hr : Rel W ρ H w) (ha : AR W ρ H.length t a) {v : AV} {H' : Heap} (he : aop (evx t) H s = some (v, H')) : Fine P W ρ H w o a v H' := by
  have hs : (match P.underlying ty with
    | some (.map kt _) => (keyTags P kt).bind fun tags => (slimX m).bind fun m => (slimX k).bind fun k => (slimX x).map fun x => .mapup tags m k x
    | _ => none) = some s := by rcases ho with ho | ho <;> (rw [ho] at hs; exact hs)
  have hex : ∀ {w' : World}, (Instr.mapUpdate ty (a.eval m) (a.eval k) (a.eval x)).run P w = .ok () w' → (execOp a.eval o).run P w = .ok .skip w' := fun h => by rcases ho with ho | ho <;> simp [execOp, ho, h]
  split at hs <;> (try (cases hs; done))
  rename_i kt et hu
  simp only [Option.bind_eq_some_iff, Option.map_eq_some_iff] at hs
  obtain ⟨tags, hk, sm, hm, sk, hsk, sx, hx, rfl⟩ := hs
  have hk := keyT hk
  simp only [aop, Option.bind_eq_some_iff] at he
  obtain ⟨⟨o', ks, vs⟩, hmm, he⟩ := he
  obtain ⟨hH, hlt, hxv, es, hw, h3, h4, h5⟩ := amap_ok hr (evx_ok ha hm) hmm
  split at he <;> simp only [Option.bind_eq_some_iff, Option.some.injEq, Prod.mk.injEq, reduceCtorEq] at he
  rename_i hkk
  obtain ⟨r, hf, rfl, he⟩ := he
  have hiv := evx_ok ha hsk
  have hvv := evx_ok ha hx
  have hg := getObj_map (P := P) hw
  have hc := key_check (P := P) (w := w) hk hiv hkk false
  obtain ⟨f1, f2⟩ := find_ok (P := P) (w := w) hk hiv (ks := ks) (es := es.toList) (by simpa using h3) (fun j h k hk => by
    have := (h5 j (by simpa using h)).2.1 k hk
    simpa using this) hf
  cases r with
  | none =>
    simp only [Option.map_none] at f2 he
    subst he
    obtain ⟨g1, g2, g3⟩ := more_entries h3 h4 h5 hiv hvv
    have hst := stp_map hr hH hw g1 g2 g3
    refine ⟨undef, _, ρ, .inr ⟨hex ?_, rfl⟩, hst, by simp only [VR]⟩
    unfold Instr.mapUpdate
    rw [hxv]
    simp only [Sem.run_bind, run_underlying' hu, Result.andThen_ok, hg, hc, f2, setObj_map (P := P) _ hw, Array.size_push]
  | some j =>
    obtain ⟨hj, hkj⟩ := f1 j rfl
    have hj : j < es.size := by simpa using hj
    have hed : (es.toList.getD j default) = es[j] := by rw [List.getD, List.getElem?_eq_getElem (by simpa using hj)]; simp
    simp only [Option.map_some, hed] at f2 he
    subst he
    have hks := (h5 j hj).2.1 _ hkj
    obtain ⟨g1, g2, g3⟩ := other_entry h3 h4 h5 (m := j) hvv (f := fun e => { e with key := es[j].key, val := a.eval x }) (fun _ => ⟨rfl, rfl, rfl⟩)
    have hst := stp_map hr hH hw g1 g2 g3
    refine ⟨undef, _, ρ, .inr ⟨hex ?_, rfl⟩, hst, by simp only [VR]⟩
    have hold : ((es[j]?).map (·.key)).getD (a.eval k) = es[j].key := by rw [Array.getElem?_eq_getElem hj]; rfl
    obtain ⟨hkx, _⟩ := key_det hkk hiv hks
    have hst2 := key_stays (P := P) (w := w) hkk hiv hks
    unfold Instr.mapUpdate
    rw [hxv]
    simp only [Sem.run_bind, run_underlying' hu, Result.andThen_ok, hg, hc, f2, hold, hst2, setObj_map (P := P) _ hw, Array.size_modify]
theorem op_mapent {o : Oper} {s : SO} {ty : TypeId} {m k : Operand} (ho : o.op = .mapEntry ty m k) (hs : slimOp P o.op = some s) (hr : Rel W ρ H w) (ha : AR W ρ H.length t a) {v : AV} {H' : Heap} (he : aop (evx t) H s = some (v, H')) : Fine P W ρ H w o a v H' := by
  rw [ho] at hs
  simp only [slimOp] at hs
  split at hs <;> (try (cases hs; done))
  rename_i kt et hu
  simp only [Option.bind_eq_some_iff, Option.map_eq_some_iff] at hs
  obtain ⟨tags, hk, z, hz, sm, hm, sk, hsk, rfl⟩ := hs
  have hk := keyT hk
  simp only [aop, Option.bind_eq_some_iff] at he
  obtain ⟨⟨o', ks, vs⟩, hmm, he⟩ := he
  obtain ⟨hH, hlt, hxv, es, hw, h3, h4, h5⟩ := amap_ok hr (evx_ok ha hm) hmm
  split at he <;> simp only [Option.bind_eq_some_iff, Option.some.injEq, reduceCtorEq] at he
  rename_i hkk
  obtain ⟨r, hf, he⟩ := he
  have hiv := evx_ok ha hsk
  have hg := getObj_map (P := P) hw
  have hc := key_check (P := P) (w := w) hk hiv hkk false
  obtain ⟨f1, f2⟩ := find_ok (P := P) (w := w) hk hiv (ks := ks) (es := es.toList) (by simpa using h3) (fun j h k hk => by
    have := (h5 j (by simpa using h)).2.1 k hk
    simpa using this) hf
  cases r with
  | none =>
    simp only [Option.map_none, Prod.mk.injEq] at f2 he
    obtain ⟨rfl, rfl⟩ := he
    obtain ⟨zv, hz1, hz2⟩ := run_zeroValue (P := P) (W := W) (ρ := ρ) (n := H.length) (w := w) hz
    obtain ⟨g1, g2, g3⟩ := more_entries h3 h4 h5 hiv hz2
    have hst := stp_map hr hH hw g1 g2 g3
    have hrun : (Instr.mapEntry ty (a.eval m) (a.eval k)).run P w = .ok (.tuple #[zv, .int .i64 es.size]) { w with heap := w.heap.setIfInBounds (ρ o').b (.map (es.push { key := a.eval k, val := zv, born := es.size }) (es.push { key := a.eval k, val := zv, born := es.size }).size) } := by
      unfold Instr.mapEntry
      rw [hxv]
      simp only [Sem.run_bind, run_underlying' hu, Result.andThen_ok, hg, hc, f2, hz1, setObj_map (P := P) _ hw, Array.size_push, Sem.run_pure, goInt]
    refine ⟨.tuple #[zv, .int .i64 es.size], _, ρ, .inl (by simp only [execOp, ho, Sem.run_bind, hrun, Result.andThen_ok, Sem.run_pure]), hst, ?_⟩
    simp only [VR, List.length_set]
    exact ⟨[zv, .int .i64 es.size], rfl, by simp only [VRs, VR]; exact ⟨_, _, rfl, hz2, _, _, rfl, by rw [h3], rfl⟩⟩
  | some j =>
    obtain ⟨hj, hkj⟩ := f1 j rfl
    have hj : j < es.size := by simpa using hj
    have hed : (es.toList.getD j default) = es[j] := by rw [List.getD, List.getElem?_eq_getElem (by simpa using hj)]; simp
    have hgd : vs.getD j .undef = vs[j] := by rw [List.getD, List.getElem?_eq_getElem (by omega)]; rfl
    simp only [Option.map_some, hed, hgd, Prod.mk.injEq] at f2 he
    obtain ⟨rfl, rfl⟩ := he
    have hks := (h5 j hj).2.1 _ hkj
    have hval := (h5 j hj).2.2 vs[j] (List.getElem?_eq_getElem (by omega))
    obtain ⟨g1, g2, g3⟩ := other_entry h3 h4 h5 (m := j) hval (f := fun e => { e with key := es[j].key }) (fun _ => ⟨rfl, rfl, rfl⟩)
    have hst := stp_map hr hH hw g1 g2 g3
    rw [List.set_getElem_self, set_self hH] at hst
    have hold : ((es[j]?).map (·.key)).getD (a.eval k) = es[j].key := by rw [Array.getElem?_eq_getElem hj]; rfl
    have hborn : ((es[j]?).map (·.born)).getD 0 = j := by rw [Array.getElem?_eq_getElem hj]; exact (h5 j hj).1
    have hborn' : ((es[j]?).map fun x => (x.born : Int)).getD 0 = (j : Int) := by
      rw [Array.getElem?_eq_getElem hj]
      show ((es[j].born : Nat) : Int) = _
      rw [(h5 j hj).1]
    have hst2 := key_stays (P := P) (w := w) hkk hiv hks
    have hrun : (Instr.mapEntry ty (a.eval m) (a.eval k)).run P w = .ok (.tuple #[es[j].val, .int .i64 j]) { w with heap := w.heap.setIfInBounds (ρ o').b (.map (es.modify j fun e => { e with key := es[j].key }) (es.modify j fun e => { e with key := es[j].key }).size) } := by
      unfold Instr.mapEntry
      rw [hxv]
      simp only [Sem.run_bind, run_underlying' hu, Result.andThen_ok, hg, hc, f2, hold, hst2, hborn, hborn', setObj_map (P := P) _ hw, Array.size_modify, Sem.run_pure, goInt]
    refine ⟨.tuple #[es[j].val, .int .i64 j], _, ρ, .inl (by simp only [execOp, ho, Sem.run_bind, hrun, Result.andThen_ok, Sem.run_pure]), hst, ?_⟩
    simp only [VR]
    exact ⟨[es[j].val, .int .i64 j], rfl, by simp only [VRs, VR]; exact ⟨_, _, rfl, hval, _, _, rfl, rfl, rfl⟩⟩
theorem op_entst {o : Oper} {s : SO} {ty : TypeId} {m k x : Operand} (ho : o.op = .entryStore ty m k x) (hs : slimOp P o.op = some s) (hr : Rel W ρ H w) (ha : AR W ρ H.length t a) {v : AV} {H' : Heap} (he : aop (evx t) H s = some (v, H')) : Fine P W ρ H w o a v H' := by
  rw [ho] at hs
  simp only [slimOp, Option.bind_eq_some_iff, Option.map_eq_some_iff] at hs
  obtain ⟨sm, hm, sk, hsk, sx, hx, rfl⟩ := hs
  simp only [aop, Option.bind_eq_some_iff] at he
  obtain ⟨⟨o', ks, vs⟩, hmm, he⟩ := he
  obtain ⟨hH, hlt, hxv, es, hw, h3, h4, h5⟩ := amap_ok hr (evx_ok ha hm) hmm
  have hkv := evx_ok ha hsk
  have hvv := evx_ok ha hx
  split at he <;> (try (cases he; done))
  rename_i j hj
  rw [hj] at hkv
  simp only [VR] at hkv
  split at he <;> simp only [Option.some.injEq, Prod.mk.injEq, reduceCtorEq] at he
  rename_i hjj
  obtain ⟨rfl, rfl⟩ := he
  obtain ⟨i, rfl⟩ : ∃ i : Nat, j = i := ⟨j.toNat, by omega⟩
  simp only [Int.toNat_natCast] at hjj ⊢
  have hi : i < es.size := by omega
  obtain ⟨g1, g2, g3⟩ := other_entry h3 h4 h5 (m := i) hvv (f := fun e => { e with val := a.eval x }) (fun _ => ⟨rfl, rfl, rfl⟩)
  have hst := stp_map hr hH hw g1 g2 g3
  have hg := getObj_map (P := P) hw
  have hfi : es.findIdx? (fun e => (e.born : Int) == (i : Int)) = some i := by
    rw [Array.findIdx?_eq_some_iff_getElem]
    refine ⟨hi, by rw [(h5 i hi).1]; simp, fun k hk => ?_⟩
    rw [(h5 k (by omega)).1]
    simp; omega
  have hrun : (Instr.entryStore ty (a.eval m) (a.eval k) (a.eval x)).run P w = .ok () { w with heap := w.heap.setIfInBounds (ρ o').b (.map (es.modify i fun e => { e with val := a.eval x }) (es.modify i fun e => { e with val := a.eval x }).size) } := by
    unfold Instr.entryStore
    rw [hxv, hkv]
    simp only [asInt, asIntOf, Sem.run_bind, hg, Result.andThen_ok, Sem.run_pure, hfi, setObj_map (P := P) _ hw, Array.size_modify]
  exact ⟨undef, _, ρ, .inr ⟨by simp only [execOp, ho, Sem.run_bind, hrun, Result.andThen_ok, Sem.run_pure], rfl⟩, hst, by simp only [VR]⟩
end
end Go.Den

/- Every operation that isn't a call of a function. -/
set_option linter.unusedVariables false
set_option linter.unusedSimpArgs false
namespace Go.Den
open Go.RowKit (Below)
section
variable {P : Program} {W : World} {ρ : Plan} {H : Heap} {w : World} {t : List AV} {a : Act}

theorem op_call {o : Oper} {c : Call} {s : SO} (ho : o.op = .call c) (hs : slimCall P c = some s) (hc : s.calls = false) (hr : Rel W ρ H w) (ha : AR W ρ H.length t a) {v : AV} {H' : Heap} (he : aop (evx t) H s = some (v, H')) : Fine P W ρ H w o a v H' := by
  simp only [slimCall, Option.bind_eq_some_iff] at hs
  obtain ⟨xs, hx, hs⟩ := hs
  split at hs <;> (try (cases hs; done))
  · injection hs with hs; subst hs; cases hc
  · injection hs with hs; subst hs; cases hc
  · rename_i b hb
    split at hs <;> (try (cases hs; done))
    · rename_i ty u ss sx ht
      split at hs <;> (try (cases hs; done))
      · rename_i e e' hu hud
        simp only [Option.bind_eq_some_iff] at hs
        obtain ⟨i, hi, z, hz, hs⟩ := hs
        split at hs <;> simp only [Option.some.injEq, reduceCtorEq] at hs
        rename_i hg
        subst hs
        exact op_app ho hb ht hx hu hud (by simp) hi hz hg.1 hg.2.1 hg.2.2.1 hg.2.2.2 hr ha he
      · rename_i e hu hud
        simp only [Option.bind_eq_some_iff] at hs
        obtain ⟨i, hi, z, hz, hs⟩ := hs
        split at hs <;> simp only [Option.some.injEq, reduceCtorEq] at hs
        rename_i hg
        subst hs
        exact op_app ho hb ht hx hu hud (by simp) hi hz hg.1 hg.2.1 hg.2.2.1 hg.2.2.2 hr ha he
      · rename_i e k hu hud
        simp only [Option.bind_eq_some_iff] at hs
        obtain ⟨i, hi, z, hz, hs⟩ := hs
        split at hs <;> simp only [Option.some.injEq, reduceCtorEq] at hs
        rename_i hg
        subst hs
        exact op_appn ho hb ht hx hu hud hi hz hg.1 hg.2.1 hg.2.2.1 hg.2.2.2 hr ha he
    · rename_i ty sx ht
      split at hs <;> simp only [Option.some.injEq, reduceCtorEq] at hs
      rename_i e hu
      subst hs
      exact op_cap ho hb ht hx hu hr ha he
    · rename_i ty sx ht
      split at hs <;> simp only [Option.some.injEq, reduceCtorEq] at hs
      subst hs
      exact op_sdata ho hb ht hx hr ha he
    · rename_i ty u sp sn ht
      split at hs <;> (try (cases hs; done))
      rename_i e hu
      split at hs <;> simp only [Option.some.injEq, reduceCtorEq] at hs
      rename_i hce
      subst hs
      exact op_ustr ho hb ht hx hu hce hr ha he
    · rename_i ty sx ht
      split at hs <;> simp only [Option.some.injEq, reduceCtorEq] at hs
      · rename_i e hu
        subst hs
        exact op_len ho hb ht hx (str := false) (by simp [hu]) hr ha he
      · rename_i kt et hu
        subst hs
        exact op_mlen ho hb ht hx hu hr ha he
      · rename_i hu
        subst hs
        exact op_len ho hb ht hx (str := true) (by simp [hu]) hr ha he
      · rename_i n e hu
        subst hs
        simp only [aop, evx, Option.some.injEq, Prod.mk.injEq] at he
        obtain ⟨rfl, rfl⟩ := he
        obtain ⟨x, h1, h2⟩ := VRs_one (evxs_ok ha hx)
        obtain ⟨cs, hrun⟩ := run_builtin (P := P) (w := w) ho hb h1 ht
        refine fine_pure hr (x := .int .i64 n) ?_ (by simp only [VR])
        rw [hrun]
        simp [builtin, Builtin.len_, run_underlying' hu, goInt]
    · rename_i ty u sd ss ht
      split at hs <;> (try (cases hs; done))
      rename_i e hu
      simp only [Option.bind_eq_some_iff] at hs
      obtain ⟨n, hn, hs⟩ := hs
      split at hs <;> simp only [Option.some.injEq, reduceCtorEq] at hs
      rename_i hg
      subst hs
      exact op_copy ho hb ht hx hu hn hg hr ha he
    · rename_i ty sx ht
      split at hs <;> (try (cases hs; done))
      rename_i e hu
      simp only [Option.bind_eq_some_iff] at hs
      obtain ⟨z, hz, hs⟩ := hs
      split at hs <;> simp only [Option.some.injEq, reduceCtorEq] at hs
      rename_i hg
      subst hs
      exact op_clear ho hb ht hx hu hz hg hr ha he
    · injection hs with hs; subst hs
      exact op_mnmx (mx := false) ho hb hx hr ha he
    · injection hs with hs; subst hs
      exact op_mnmx (mx := true) ho hb hx hr ha he
theorem op_ok {o : Oper} {s : SO} (hs : slimOp P o.op = some s) (hc : s.calls = false) (hr : Rel W ρ H w) (ha : AR W ρ H.length t a) {v : AV} {H' : Heap} (he : aop (evx t) H s = some (v, H')) : Fine P W ρ H w o a v H' := by
  cases ho : o.op
  case move x => exact op_move (.inl ho) hs hr ha he
  case assign x => exact op_move (.inr ho) hs hr ha he
  case pick => exact op_pick ho hs hr ha he
  case alloc e => exact op_box (.inr ⟨_, ho⟩) hs hr ha he
  case box e x => exact op_box (.inl ⟨_, _, ho⟩) hs hr ha he
  case build => exact op_build ho hs hr ha he
  case buildSlice => exact op_bsl ho hs hr ha he
  case load => exact op_load ho hs hr ha he
  case store => exact op_store ho hs hr ha he
  case nilCheck => exact op_nilck ho hs hr ha he
  case binOp => exact op_binop ho hs hr ha he
  case unOp => exact op_un ho hs hr ha he
  case convert => exact op_convert ho hs hr ha he
  case makeFunc => exact op_mkfn ho hs hr ha he
  case makeSlice => exact op_mksl ho hs hr ha he
  case slice => exact op_slice ho hs hr ha he
  case fieldAddr => exact op_faddr ho hs hr ha he
  case field => exact op_fld ho hs hr ha he
  case indexAddr => exact op_iaddr ho hs hr ha he
  case index => exact op_index ho hs hr ha he
  case extract => exact op_extract ho hs hr ha he
  case call c => rw [ho] at hs; exact op_call ho hs hc hr ha he
  case range => exact op_range ho hs hr ha he
  case makeMap => exact op_mkmap ho hs hr ha he
  case lookup => exact op_lookup ho hs hr ha he
  case mapUpdate => exact op_mapup (.inl ho) hs hr ha he
  case insert => exact op_mapup (.inr ho) hs hr ha he
  case mapEntry => exact op_mapent ho hs hr ha he
  case entryStore => exact op_entst ho hs hr ha he
  case next => exact op_next ho hs hr ha he
  all_goals (rw [ho] at hs; simp [slimOp] at hs)
end
end Go.Den

/- Calls of functions, and regions in the order of their list. -/
set_option linter.unusedVariables false
set_option linter.unusedSimpArgs false
namespace Go.Den
open Go.RowKit (Below)

/-- A call, seen from the operation that calls. -/
def OpCalls (P : Program) (f : Nat) (args : Array Value) (w : World) (R : Value → World → Prop) : Prop :=
  (∃ x w', (callFunc f args).run P w = .ok (.value x) w' ∧ R x w') ∨
  ((callFunc f args).run P w = .ok (.enter f args) w ∧ Calls P f args w fun | .returned v, w' => R v w' | _, _ => False)
/-- What the abstract machine says of calls is so. -/
def ClOk (P : Program) (cl : CL) : Prop :=
  ∀ (f : Nat) (args : List AV) (H : Heap) (v : AV) (H' : Heap), cl f args H = some (v, H') → ∀ (W : World) (ρ : Plan) (w : World) (vs : List Value), GlobOk W → Rel W ρ H w → VRs W ρ H.length args vs →
    OpCalls P f vs.toArray w fun x w' => ∃ ρ', Stp W ρ H w ρ' H' w' ∧ VR W ρ' H'.length v x
section
variable {P : Program} {W : World} {ρ : Plan} {H : Heap} {w : World} {t : List AV} {a : Act} {cl : CL}

theorem OpCalls.mono {f : Nat} {args : Array Value} {R R' : Value → World → Prop} (h : OpCalls P f args w R) (hr : ∀ x w', R x w' → R' x w') : OpCalls P f args w R' := by
  rcases h with ⟨x, w', h1, h2⟩ | ⟨h1, h2⟩
  · exact .inl ⟨x, w', h1, hr _ _ h2⟩
  · exact .inr ⟨h1, h2.mono fun e w' he => by cases e <;> first | exact hr _ _ he | exact he⟩
theorem slimOne_ways {op : Op} {s : SO} (h : slimOne P op = some s) : (s.calls = false ∧ slimOp P op = some s) ∨
    ∃ c xs, op = .call c ∧ c.args.toList.mapM slimX = some xs ∧ ((∃ f, c.callee = .value (.func f) ∧ s = .call f xs) ∨ ∃ k, c.callee = .value (.tmp k) ∧ s = .callv (.t k) xs) := by
  unfold slimOne at h
  split at h
  · rename_i c
    cases hc : s.calls
    · exact .inl ⟨rfl, by simpa [slimOp] using h⟩
    · refine .inr ⟨c, ?_⟩
      simp only [slimCall, Option.bind_eq_some_iff] at h
      obtain ⟨xs, hx, h⟩ := h
      refine ⟨xs, rfl, hx, ?_⟩
      split at h <;> (try (cases h; done))
      · rename_i f hf
        injection h with h
        exact .inl ⟨f, hf, h.symm⟩
      · rename_i k hk
        injection h with h
        exact .inr ⟨k, hk, h.symm⟩
      · exfalso
        split at h <;> (try (cases h; done))
        · split at h <;> (try (cases h; done))
          all_goals
            simp only [Option.bind_eq_some_iff] at h
            obtain ⟨i, hi, z, hz, h⟩ := h
            split at h <;> simp only [Option.some.injEq, reduceCtorEq] at h
            subst h; cases hc
        · split at h <;> simp only [Option.some.injEq, reduceCtorEq] at h <;> (subst h; cases hc)
        · split at h <;> simp only [Option.some.injEq, reduceCtorEq] at h <;> (subst h; cases hc)
        · split at h <;> (try (cases h; done))
          split at h <;> simp only [Option.some.injEq, reduceCtorEq] at h <;> (subst h; cases hc)
        · split at h <;> simp only [Option.some.injEq, reduceCtorEq] at h <;> (subst h; cases hc)
        · split at h <;> (try (cases h; done))
          simp only [Option.bind_eq_some_iff] at h
          obtain ⟨i, hi, h⟩ := h
          split at h <;> simp only [Option.some.injEq, reduceCtorEq] at h
          subst h; cases hc
        · split at h <;> (try (cases h; done))
          simp only [Option.bind_eq_some_iff] at h
          obtain ⟨i, hi, h⟩ := h
          split at h <;> simp only [Option.some.injEq, reduceCtorEq] at h
          subst h; cases hc
        · injection h with h; subst h; cases hc
        · injection h with h; subst h; cases hc
  · simp only [Option.bind_eq_some_iff] at h
    obtain ⟨s', h1, h2⟩ := h
    split at h2 <;> simp only [Option.some.injEq, reduceCtorEq] at h2
    rename_i hc
    subst h2
    exact .inl ⟨by simpa using hc, h1⟩
/-- The operation's run: a value, or a call that returns one. -/
def Runs (P : Program) (o : Oper) (a : Act) (w : World) (R : Value → World → Prop) : Prop :=
  (∃ x w', ((execOp a.eval o).run P w = .ok (.value x) w' ∨ ((execOp a.eval o).run P w = .ok .skip w' ∧ x = undef)) ∧ R x w') ∨
  ∃ f args, (execOp a.eval o).run P w = .ok (.enter f args) w ∧ Calls P f args w fun | .returned v, w' => R v w' | _, _ => False
theorem wp_of_runs {o : Oper} {R : Value → World → Prop} (h : Runs P o a w R) {next : Act → World → Prop} {Q : Exit → Act → World → Prop} (hn : ∀ x w', R x w' → next (a.put o.dst x) w') : o.wp P a w next Q := by
  unfold Oper.wp
  rcases h with ⟨x, w', hrun | ⟨hrun, rfl⟩, h2⟩ | ⟨f, args, h1, h2⟩
  · rw [hrun, Oper.upon_value]; exact hn _ _ h2
  · rw [hrun, Oper.upon_skip]; exact hn _ _ h2
  · rw [h1, Oper.upon_enter]
    exact h2.mono fun e w' he => by cases e <;> first | exact hn _ _ he | exact he.elim
theorem runs_of_calls {o : Oper} {f : Nat} {args : Array Value} {R : Value → World → Prop} (hrun : (execOp a.eval o).run P w = (callFunc f args).run P w) (h : OpCalls P f args w R) : Runs P o a w R := by
  rcases h with ⟨x, w', h1, h2⟩ | ⟨h1, h2⟩
  · exact .inl ⟨x, w', .inl (hrun.trans h1), h2⟩
  · exact .inr ⟨f, args, hrun.trans h1, h2⟩
theorem sop_run (hcl : ClOk P cl) {o : Oper} {s : SO} (hs : slimOne P o.op = some s) (hr : Rel W ρ H w) (ha : AR W ρ H.length t a) {v : AV} {H' : Heap} (he : sop cl t H s = some (v, H')) :
    Runs P o a w fun x w' => ∃ ρ', Stp W ρ H w ρ' H' w' ∧ VR W ρ' H'.length v x := by
  rcases slimOne_ways hs with ⟨h1, h2⟩ | ⟨c, xs, ho, hx, h⟩
  · have he' : aop (evx t) H s = some (v, H') := by
      cases s <;> first | exact he | (cases h1; done)
    obtain ⟨x, w', ρ', hrun, hst, hv⟩ := op_ok h2 h1 hr ha he'
    exact .inl ⟨x, w', hrun, ρ', hst, hv⟩
  · have hargs := evxs_ok ha hx
    have hargs' : c.args.map a.eval = (c.args.toList.map a.eval).toArray := by apply Array.ext'; simp
    rcases h with ⟨f, hc, rfl⟩ | ⟨k, hc, rfl⟩
    · simp only [sop] at he
      refine runs_of_calls (f := f) (args := (c.args.toList.map a.eval).toArray) ?_ (hcl _ _ _ _ _ he W ρ w _ ha.nod.2 hr hargs)
      simp only [execOp, ho, resolve, hc, Act.eval, Deferred.ofValue, Sem.run_bind, Sem.run_pure, Result.andThen_ok, invoke, ← hargs']
      simp
    · simp only [sop] at he
      split at he <;> (try (cases he; done))
      rename_i f cap hf
      have hfv := evx_ok ha (o := .tmp k) (s := .t k) rfl
      rw [hf] at hfv
      simp only [VR] at hfv
      obtain ⟨l, hl, hcap⟩ := hfv
      refine runs_of_calls (f := f) (args := (c.args.toList.map a.eval ++ l).toArray) ?_ (hcl _ _ _ _ _ he W ρ w _ ha.nod.2 hr (VRs_append hargs hcap))
      simp only [execOp, ho, resolve, hc, hl, Deferred.ofValue, Sem.run_bind, Sem.run_pure, Result.andThen_ok, invoke]
      rw [hargs']
      simp
theorem sop_ok (hcl : ClOk P cl) {o : Oper} {s : SO} (hs : slimOne P o.op = some s) (hr : Rel W ρ H w) (ha : AR W ρ H.length t a) {v : AV} {H' : Heap} (he : sop cl t H s = some (v, H')) {next : Act → World → Prop} {Q : Exit → Act → World → Prop}
    (hn : ∀ x w' ρ', Stp W ρ H w ρ' H' w' → VR W ρ' H'.length v x → next (a.put o.dst x) w') : o.wp P a w next Q :=
  wp_of_runs (sop_run hcl hs hr ha he) fun x w' ⟨ρ', h1, h2⟩ => hn x w' ρ' h1 h2
theorem put_ok {n : Nat} (ha : AR W ρ n t a) (d : Option Nat) {v : AV} {x : Value} (hv : VR W ρ n v x) : AR W ρ n (put t d v) (a.put d x) := by
  cases d with
  | none => exact ha
  | some d => exact ⟨ha.nod, by simpa [put, Act.put] using VRs_set ha.tmps d hv⟩
theorem AR.step {ρ' : Plan} {H' : Heap} {w' : World} (ha : AR W ρ H.length t a) (h : Stp W ρ H w ρ' H' w') : AR W ρ' H'.length t a :=
  ⟨ha.nod, VRs_mono h.same h.len _ _ ha.tmps⟩
theorem wants_ok {n : Nat} (ha : AR W ρ n t a) {os : Array Oper} {o : Oper} {g : Option (Nat × Bool)} (hg : slimG os o.guard = some g) : Region.wanted o (yielded os a.tmps) = wants t g := by
  unfold Region.wanted
  cases hgo : o.guard with
  | none =>
    rw [hgo] at hg
    simp only [slimG, Option.some.injEq] at hg
    subst hg
    rfl
  | some q =>
    obtain ⟨j, b⟩ := q
    rw [hgo] at hg
    simp only [slimG, Option.map_eq_some_iff] at hg
    obtain ⟨d, hd, rfl⟩ := hg
    simp only [wants, yielded, hd, Option.bind_some]
    by_cases hk : d < t.length
    · obtain ⟨x, h1, h2⟩ := VRs_get ha.tmps (List.getElem?_eq_getElem hk)
      rw [Array.getElem?_toList] at h1
      have h3 : t.getD d .undef = t[d] := by simp [List.getD, hk]
      rw [h1, h3]
      generalize t[d] = v at h2
      cases v <;> simp only [VR] at h2 <;> simp only [bool?]
      case bool c => subst h2; simp
      all_goals
        first
          | (subst h2; rfl)
          | (obtain ⟨_, rfl⟩ := h2; rfl)
          | (obtain ⟨_, rfl, _⟩ := h2; rfl)
          | (obtain ⟨_, _, rfl, _⟩ := h2; rfl)
          | (obtain ⟨_, _, _, rfl, _⟩ := h2; rfl)
    · have h9 := VRs_length ha.tmps
      rw [Array.length_toList (xs := a.tmps)] at h9
      have hk' : a.tmps.size ≤ d := Nat.le_trans (Nat.le_of_eq h9.symm) (Nat.le_of_not_lt hk)
      simp [List.getD, List.getElem?_eq_none (Nat.le_of_not_lt hk), Array.getElem?_eq_none hk', bool?]
theorem ops_ok (hcl : ClOk P cl) {os : Array Oper} {Q : Exit → Act → World → Prop} : ∀ {l : List Oper} {sl : List SOp}, l.mapM (slimOper P os) = some sl → ∀ {ρ : Plan} {H : Heap} {w : World} {t : List AV} {a : Act}, Rel W ρ H w → AR W ρ H.length t a → ∀ {t' : List AV} {H' : Heap}, ops cl sl t H = some (t', H') →
    (∀ a' w' ρ', Stp W ρ H w ρ' H' w' → AR W ρ' H'.length t' a' → Q .normal a' w') → wpList P os Q l a w
  | [], sl, hs, ρ, H, w, t, a, hr, ha, t', H', he, hq => by
    simp at hs
    subst hs
    simp only [ops, Option.some.injEq, Prod.mk.injEq] at he
    obtain ⟨rfl, rfl⟩ := he
    exact hq _ _ _ (.refl hr) ha
  | o :: l, sl, hs, ρ, H, w, t, a, hr, ha, t', H', he, hq => by
    simp only [List.mapM_cons, Option.bind_eq_bind, Option.bind_eq_some_iff, Option.pure_def, Option.some.injEq] at hs
    obtain ⟨so, hso, sl, hsl, rfl⟩ := hs
    simp only [slimOper, Option.map_eq_some_iff] at hso
    obtain ⟨g, hg, rfl⟩ := hso
    simp only [ops] at he
    simp only [wpList, wants_ok ha hg]
    split at he
    · rename_i hw
      rw [if_pos hw]
      simp only [Option.bind_eq_some_iff] at he
      obtain ⟨⟨v, H1⟩, h1, h2⟩ := he
      cases hone : slimOne P o.op with
      | none => simp [hone, sop, aop] at h1
      | some s =>
        simp only [hone, Option.getD_some] at h1
        refine .inl (sop_ok hcl hone hr ha h1 fun x w' ρ' hst hv => ?_)
        refine ops_ok hcl hsl hst.rel (put_ok (ha.step hst) _ hv) h2 fun a' w'' ρ'' hst' ha' => hq _ _ _ (hst.trans hst') ha'
    · rename_i hw
      rw [if_neg hw]
      exact ops_ok hcl hsl hr (put_ok ha _ (by simp only [VR])) he hq
end
end Go.Den

/- Code: what the abstract machine says of it. -/
set_option linter.unusedVariables false
set_option linter.unusedSimpArgs false
namespace Go.Den
open Go.RowKit (Below)

def exitOf : AX → Exit
  | .normal => .normal
  | .exit id => .exit id
  | .ret => .ret
/-- Regions that draw their order. -/
def RegdOk (P : Program) (cl : CL) : Prop :=
  ∀ (id : Nat) (os : Array Oper) (l : List SOp), slimReg P os true = some (.regd l) → ∀ (W : World) (ρ : Plan) (H : Heap) (w : World) (t : List AV) (a : Act), Rel W ρ H w → AR W ρ H.length t a →
    ∀ (t' : List AV) (H' : Heap), opsd cl 0 [] l t H = some (t', H') → ∀ Q : Exit → Act → World → Prop, (∀ a' w' ρ', Stp W ρ H w ρ' H' w' → AR W ρ' H'.length t' a' → Q .normal a' w') → (Code.region id os true).wp P Q a w
section
variable {P : Program} {W : World} {ρ : Plan} {H : Heap} {w : World} {t : List AV} {a : Act} {cl : CL}

theorem slimReg_true {os : Array Oper} {sc : SC} (h : slimReg P os true = some sc) : ∃ l, sc = .regd l := by
  simp only [slimReg, if_true, Option.bind_eq_some_iff] at h
  obtain ⟨l, _, h⟩ := h
  split at h <;> simp only [Option.some.injEq, reduceCtorEq] at h
  exact ⟨_, h.symm⟩
/-- What a stretch of code does, of the abstract machine. -/
def CodeOk (P : Program) (cl : CL) (k : Nat) : Prop :=
  ∀ (c : Code) (sc : SC), slimC P c = some sc → ∀ (W : World) (ρ : Plan) (H : Heap) (w : World) (t : List AV) (a : Act), Rel W ρ H w → AR W ρ H.length t a → ∀ s : St, codeW cl k sc t H = some s →
    ∀ Q : Exit → Act → World → Prop, (∀ a' w' ρ', Stp W ρ H w ρ' s.H w' → AR W ρ' s.H.length s.t a' → Q (exitOf s.x) a' w') → c.wp P Q a w
theorem loop_ok {c : Code} {sc : SC} (hc : slimC P c = some sc) {n : Nat} (ih : ∀ k, k ≤ n → CodeOk P cl k) : ∀ k, k ≤ n + 1 → ∀ (W : World) (ρ : Plan) (H : Heap) (w : World) (t : List AV) (a : Act), Rel W ρ H w → AR W ρ H.length t a → ∀ s : St, codeW cl k (.loop sc) t H = some s →
    ∀ Q : Exit → Act → World → Prop, (∀ a' w' ρ', Stp W ρ H w ρ' s.H w' → AR W ρ' s.H.length s.t a' → Q (exitOf s.x) a' w') → Code.rounds P c Q k a w
  | 0, _, W, ρ, H, w, t, a, hr, ha, s, he, Q, hq => by simp [codeW] at he
  | k + 1, hk, W, ρ, H, w, t, a, hr, ha, s, he, Q, hq => by
    simp only [codeW, Option.bind_eq_some_iff] at he
    obtain ⟨s1, h1, h2⟩ := he
    rw [rounds_succ]
    refine ih k (by omega) c sc hc W ρ H w t a hr ha s1 h1 _ fun a' w' ρ' hst ha' => ?_
    cases hx : s1.x with
    | normal =>
      rw [hx] at h2
      simp only [exitOf, Exit.then]
      exact loop_ok hc ih k (by omega) W ρ' s1.H w' s1.t a' hst.rel ha' s h2 Q fun a'' w'' ρ'' hst' ha'' => hq _ _ _ (hst.trans hst') ha''
    | exit id =>
      rw [hx] at h2
      simp only [Option.some.injEq] at h2
      subst h2
      have := hq _ _ _ hst ha'
      rw [hx] at this
      exact this
    | ret =>
      rw [hx] at h2
      simp only [Option.some.injEq] at h2
      subst h2
      have := hq _ _ _ hst ha'
      rw [hx] at this
      exact this
theorem code_ok (hcl : ClOk P cl) (hrd : RegdOk P cl) : ∀ k, CodeOk P cl k := by
  intro k
  induction k using Nat.strongRecOn with
  | _ k ih =>
    intro c sc hc W ρ H w t a hr ha s he Q hq
    match k, ih, he with
    | 0, _, he => simp [codeW] at he
    | k + 1, ih, he =>
      cases c <;> simp only [slimC, reduceCtorEq] at hc
      case skip =>
        injection hc with hc; subst hc
        simp only [codeW, Option.some.injEq] at he
        subst he
        exact wp_skip (hq _ _ _ (.refl hr) ha)
      case region id os draw =>
        cases draw
        · simp only [slimReg, Bool.false_eq_true, if_false, Option.bind_eq_some_iff, Option.some.injEq] at hc
          obtain ⟨l, hl, rfl⟩ := hc
          simp only [codeW, Option.map_eq_some_iff] at he
          obtain ⟨⟨t', H'⟩, h1, rfl⟩ := he
          exact wp_region_list (ops_ok hcl hl hr ha h1 fun a' w' ρ' hst ha' => hq _ _ _ hst ha')
        · obtain ⟨l, rfl⟩ := slimReg_true hc
          simp only [codeW, Option.map_eq_some_iff] at he
          obtain ⟨⟨t', H'⟩, h1, rfl⟩ := he
          exact hrd id os l hc W ρ H w t a hr ha t' H' h1 Q fun a' w' ρ' hst ha' => hq _ _ _ hst ha'
      case seq x y =>
        simp only [Option.bind_eq_some_iff, Option.map_eq_some_iff] at hc
        obtain ⟨sx, hx, sy, hy, rfl⟩ := hc
        simp only [codeW, Option.bind_eq_some_iff] at he
        obtain ⟨s1, h1, h2⟩ := he
        refine wp_seq (ih k (by omega) x sx hx W ρ H w t a hr ha s1 h1 _ fun a' w' ρ' hst ha' => ?_)
        cases hx1 : s1.x with
        | normal =>
          rw [hx1] at h2
          simp only [exitOf, Exit.then]
          exact ih k (by omega) y sy hy W ρ' s1.H w' s1.t a' hst.rel ha' s h2 Q fun a'' w'' ρ'' hst' ha'' => hq _ _ _ (hst.trans hst') ha''
        | exit id =>
          rw [hx1] at h2
          simp only [Option.some.injEq] at h2
          subst h2
          have := hq _ _ _ hst ha'
          rw [hx1] at this
          exact this
        | ret =>
          rw [hx1] at h2
          simp only [Option.some.injEq] at h2
          subst h2
          have := hq _ _ _ hst ha'
          rw [hx1] at this
          exact this
      case cond c x y =>
        simp only [Option.bind_eq_some_iff, Option.map_eq_some_iff] at hc
        obtain ⟨scc, hcc, sx, hx, sy, hy, rfl⟩ := hc
        simp only [codeW] at he
        have hcv := evx_ok ha hcc
        split at he <;> (try (cases he; done))
        · rename_i hb
          rw [hb] at hcv
          simp only [VR] at hcv
          exact wp_cond_true hcv (ih k (by omega) x sx hx W ρ H w t a hr ha s he Q hq)
        · rename_i hb
          rw [hb] at hcv
          simp only [VR] at hcv
          exact wp_cond_false hcv (ih k (by omega) y sy hy W ρ H w t a hr ha s he Q hq)
      case block id x =>
        simp only [Option.map_eq_some_iff] at hc
        obtain ⟨sx, hx, rfl⟩ := hc
        simp only [codeW, Option.map_eq_some_iff] at he
        obtain ⟨s1, h1, h2⟩ := he
        refine wp_block (ih k (by omega) x sx hx W ρ H w t a hr ha s1 h1 _ fun a' w' ρ' hst ha' => ?_)
        cases hx1 : s1.x with
        | normal =>
          rw [hx1] at h2
          subst h2
          have := hq _ _ _ hst ha'
          rw [hx1] at this
          exact this
        | ret =>
          rw [hx1] at h2
          subst h2
          have := hq _ _ _ hst ha'
          rw [hx1] at this
          exact this
        | exit j =>
          rw [hx1] at h2
          simp only at h2
          simp only [exitOf, Exit.inBlock]
          by_cases hj : j = id
          · rw [if_pos hj] at h2 ⊢
            subst h2
            exact hq _ _ _ hst ha'
          · rw [if_neg hj] at h2 ⊢
            subst h2
            have := hq _ _ _ hst ha'
            rw [hx1] at this
            exact this
      case loop x =>
        simp only [Option.map_eq_some_iff] at hc
        obtain ⟨sx, hx, rfl⟩ := hc
        exact wp_loop_rounds (k + 1) (loop_ok hx (n := k) (fun j hj => ih j (by omega)) (k + 1) (Nat.le_refl _) W ρ H w t a hr ha s he Q hq)
      case exit id =>
        injection hc with hc; subst hc
        simp only [codeW, Option.some.injEq] at he
        subst he
        exact wp_exit (hq _ _ _ (.refl hr) ha)
      case ret =>
        injection hc with hc; subst hc
        simp only [codeW, Option.some.injEq] at he
        subst he
        exact wp_ret (hq _ _ _ (.refl hr) ha)
end
end Go.Den

/- Behind a call; whole calls. -/
set_option linter.unusedVariables false
set_option linter.unusedSimpArgs false
namespace Go.Den
open Go.RowKit (Below)

mutual
theorem same_eq : ∀ (a b : AV), a.same b = true → a = b
  | .int k n, b, h => by cases b <;> simp [AV.same] at h <;> simp [h]
  | .bool x, b, h => by cases b <;> simp [AV.same] at h <;> simp [h]
  | .str s, b, h => by cases b <;> simp [AV.same] at h <;> simp [h]
  | .ptr o a, b, h => by cases b <;> simp [AV.same] at h <;> simp [h]
  | .pv c, b, h => by cases b <;> simp [AV.same] at h; rw [sames_eq _ _ h]
  | .nilp, b, h => by cases b <;> simp [AV.same] at h <;> rfl
  | .nili, b, h => by cases b <;> simp [AV.same] at h <;> rfl
  | .sl o a l z c, b, h => by cases b <;> simp [AV.same] at h <;> simp [h]
  | .vs c n, b, h => by cases b <;> simp [AV.same] at h; rw [h.1, sames_eq _ _ h.2]
  | .nils, b, h => by cases b <;> simp [AV.same] at h <;> rfl
  | .fn f c, b, h => by cases b <;> simp [AV.same] at h; rw [h.1, sames_eq _ _ h.2]
  | .nilf, b, h => by cases b <;> simp [AV.same] at h <;> rfl
  | .mp o, b, h => by cases b <;> simp [AV.same] at h <;> simp [h]
  | .agg c, b, h => by cases b <;> simp [AV.same] at h; rw [sames_eq _ _ h]
  | .tup c, b, h => by cases b <;> simp [AV.same] at h; rw [sames_eq _ _ h]
  | .undef, b, h => by cases b <;> simp [AV.same] at h <;> rfl
theorem sames_eq : ∀ (l m : List AV), sames l m = true → l = m
  | [], [], _ => rfl
  | [], _ :: _, h => by simp [sames] at h
  | _ :: _, [], h => by simp [sames] at h
  | a :: l, b :: m, h => by
    simp only [sames, Bool.and_eq_true] at h
    rw [same_eq a b h.1, sames_eq l m h.2]
end
theorem AO.same_eq {a b : AO} (h : a.same b = true) : a = b := by
  cases a <;> cases b <;> simp only [AO.same, Bool.false_eq_true, Bool.and_eq_true, beq_iff_eq, decide_eq_true_eq] at h
  · rw [h.1.1, h.1.2, sames_eq _ _ h.2]
  · rw [h.1, sames_eq _ _ h.2]
  · rw [sames_eq _ _ h.1, sames_eq _ _ h.2]
  · rw [h.1, h.2]
  · rfl
theorem leadss_all {p : Nat → Bool} : ∀ {l : List AV}, leadss p l = true ↔ ∀ v ∈ l, v.leads p = true
  | [] => by simp [leadss]
  | a :: l => by simp only [leadss, Bool.and_eq_true, leadss_all, List.mem_cons, forall_eq_or_imp]
section
variable {P : Program} {W : World} {ρ ρ' : Plan} {H H1 : Heap} {w w' : World} {n : Nat}

/-- The values in a row. -/
def AO.vals : AO → List AV
  | .cells l _ _ => l
  | .raw l _ => l
  | .mp k v => k ++ v
  | _ => []
theorem AO.under_vals {n : Nat} {o : AO} : o.under n = true ↔ ∀ v ∈ o.vals, v.under n = true := by
  cases o <;> simp only [AO.under, AO.vals, unders, Bool.and_eq_true, leadss_all, List.mem_append, List.not_mem_nil, false_implies, implies_true, AV.under]
  exact ⟨fun h v hv => hv.elim (h.1 v) (h.2 v), fun h => ⟨fun v hv => h v (.inl hv), fun v hv => h v (.inr hv)⟩⟩
theorem AO.leads_vals {p : Nat → Bool} {o : AO} : o.leads p = true ↔ ∀ v ∈ o.vals, v.leads p = true := by
  cases o <;> simp only [AO.leads, AO.vals, Bool.and_eq_true, leadss_all, List.mem_append, List.not_mem_nil, false_implies, implies_true]
  exact ⟨fun h v hv => hv.elim (h.1 v) (h.2 v), fun h => ⟨fun v hv => h v (.inl hv), fun v hv => h v (.inr hv)⟩⟩
/-- A row that stands, its values told otherwise. -/
theorem OR_vals {W : World} {ρ ρ' : Plan} {n m : Nat} {o : AO} {s : Spot} {w w' : World} (h : OR W ρ n o s w) (hb : o ≠ .dead → w'.heap[s.b]? = w.heap[s.b]?) (hv : ∀ v ∈ o.vals, ∀ x, VR W ρ n v x → VR W ρ' m v x) : OR W ρ' m o s w' := by
  cases o with
  | cells l e rw =>
    obtain ⟨c, fr, hc, hz, hl, h2, hf⟩ := h
    exact ⟨c, fr, by rw [hb (by simp)]; exact hc, hz, hl, fun j v hj => let ⟨x, q1, q2, q3⟩ := h2 j v hj; ⟨x, q1, hv v (List.mem_of_getElem? hj) x q2, q3⟩, hf⟩
  | raw l e =>
    obtain ⟨c, fr, hc, hz, hl, h2, hf⟩ := h
    exact ⟨c, fr, by rw [hb (by simp)]; exact hc, hz, hl, fun j v hj => let ⟨x, q1, q2, q3⟩ := h2 j v hj; ⟨x, q1, hv v (List.mem_of_getElem? hj) x q2, q3⟩, hf⟩
  | mp ks vs =>
    obtain ⟨es, hc, h1, h2, h3⟩ := h
    exact ⟨es, by rw [hb (by simp)]; exact hc, h1, h2, fun j hj => ⟨(h3 j hj).1, fun k hk => hv k (List.mem_append_left _ (List.mem_of_getElem? hk)) _ ((h3 j hj).2.1 k hk), fun v hv' => hv v (List.mem_append_right _ (List.mem_of_getElem? hv')) _ ((h3 j hj).2.2 v hv')⟩⟩
  | iter t p => exact ⟨by rw [hb (by simp)]; exact h.1, h.2⟩
  | dead => trivial
/-- A row that leads to rows below n alone is known by n. -/
theorem OR_under {o : AO} {s : Spot} {m : Nat} (h : OR W ρ m o s w) (hu : o.under n = true) (hρ : ∀ i, i < n → ρ' i = ρ i) : OR W ρ' n o s w := by
  cases o with
  | cells l e rw =>
    obtain ⟨c, fr, hc, hz, hl, hv, hf⟩ := h
    refine ⟨c, fr, hc, hz, hl, fun j v hj => ?_, hf⟩
    obtain ⟨x, h1, h2, h3⟩ := hv j v hj
    simp only [AO.under, unders, leadss_all] at hu
    exact ⟨x, h1, VR_under hρ v x (hu v (List.mem_of_getElem? hj)) h2, h3⟩
  | raw l e =>
    obtain ⟨c, fr, hc, hz, hl, hv, hf⟩ := h
    refine ⟨c, fr, hc, hz, hl, fun j v hj => ?_, hf⟩
    obtain ⟨x, h1, h2, h3⟩ := hv j v hj
    simp only [AO.under, unders, leadss_all] at hu
    exact ⟨x, h1, VR_under hρ v x (hu v (List.mem_of_getElem? hj)) h2, h3⟩
  | mp ks vs =>
    obtain ⟨es, hc, h1, h2, h3⟩ := h
    simp only [AO.under, unders, Bool.and_eq_true, leadss_all] at hu
    exact ⟨es, hc, h1, h2, fun j hj => ⟨(h3 j hj).1, fun k hk => VR_under hρ k _ (hu.1 k (List.mem_of_getElem? hk)) ((h3 j hj).2.1 k hk), fun v hv => VR_under hρ v _ (hu.2 v (List.mem_of_getElem? hv)) ((h3 j hj).2.2 v hv)⟩⟩
  | iter t p => exact h
  | dead => trivial
theorem OR_bound {o : AO} {s : Spot} (h : OR W ρ n o s w) : o.under n = true := by
  cases o with
  | cells l e rw =>
    obtain ⟨c, fr, hc, hz, hl, hv, hf⟩ := h
    simp only [AO.under, unders, leadss_all]
    intro v hv'
    obtain ⟨j, hj, rfl⟩ := List.getElem_of_mem hv'
    obtain ⟨x, h1, h2, h3⟩ := hv j _ (List.getElem?_eq_getElem hj)
    exact VR_bound _ _ h2
  | raw l e =>
    obtain ⟨c, fr, hc, hz, hl, hv, hf⟩ := h
    simp only [AO.under, unders, leadss_all]
    intro v hv'
    obtain ⟨j, hj, rfl⟩ := List.getElem_of_mem hv'
    obtain ⟨x, h1, h2, h3⟩ := hv j _ (List.getElem?_eq_getElem hj)
    exact VR_bound _ _ h2
  | mp ks vs =>
    obtain ⟨es, hc, h1, h2, h3⟩ := h
    simp only [AO.under, unders, Bool.and_eq_true, leadss_all]
    refine ⟨fun v hv' => ?_, fun v hv' => ?_⟩
    · obtain ⟨j, hj, rfl⟩ := List.getElem_of_mem hv'
      exact VR_bound _ _ ((h3 j (by omega)).2.1 _ (List.getElem?_eq_getElem hj))
    · obtain ⟨j, hj, rfl⟩ := List.getElem_of_mem hv'
      exact VR_bound _ _ ((h3 j (by omega)).2.2 _ (List.getElem?_eq_getElem hj))
  | iter t p => rfl
  | dead => rfl
theorem keepOld_spec {n : Nat} : ∀ {H H1 : Heap}, keepOld n H H1 = true → H.length ≤ H1.length ∧ ∀ (i : Nat) (a b : AO), H[i]? = some a → H1[i]? = some b → a = b ∨ b.under n = true
  | [], H1, _ => ⟨Nat.zero_le _, fun i a b h => by simp at h⟩
  | a :: H, [], h => by simp [keepOld] at h
  | a :: H, b :: H1, h => by
    simp only [keepOld, Bool.and_eq_true, Bool.or_eq_true] at h
    obtain ⟨h1, h2⟩ := keepOld_spec h.2
    refine ⟨by simpa using h1, fun i x y hx hy => ?_⟩
    cases i with
    | zero =>
      simp at hx hy
      subst hx hy
      exact h.1.imp AO.same_eq id
    | succ i => simp at hx hy; exact h2 i x y hx hy
/-- What has been carried so far: of which rows, and where they stand now. -/
structure MO (W : World) (ρ : Plan) (n : Nat) (H1 : Heap) (w1 : World) (m : Moved) (ρ' : Plan) : Prop where
  len : m.1.length = m.2.length
  same : ∀ i, i < n → ρ' i = ρ i
  rows : ∀ (j o : Nat) (r : AO), m.1[j]? = some o → m.2[j]? = some r → live H1 o ∧ n ≤ o ∧ (ρ' (n + j)).b = (ρ o).b ∧ OR W ρ' n r (ρ' (n + j)) w1
  nodup : m.1.Nodup
/-- One row more. -/
theorem MO.push {w1 : World} {m : Moved} {ρ2 : Plan} (h : MO W ρ n H1 w1 m ρ2) {o : Nat} {r : AO} {s : Spot} (hno : n ≤ o) (hlive : live H1 o) (hnew : m.1.contains o = false) (hb : s.b = (ρ o).b) (hr : OR W ρ n r s w1) :
    MO W ρ n H1 w1 (m.1 ++ [o], m.2 ++ [r]) (ρ2.ext (n + m.2.length) s) := by
  refine ⟨by simp [h.len], fun i hi => by rw [Plan.ext_lt i (by omega)]; exact h.same i hi, fun j p q hp hq => ?_, ?_⟩
  · rcases Nat.lt_or_ge j m.1.length with hj | hj
    · have hj2 : j < m.2.length := by rw [← h.len]; exact hj
      simp only at hp hq
      rw [List.getElem?_append_left hj] at hp
      rw [List.getElem?_append_left hj2] at hq
      obtain ⟨h1, h2, h3, h4⟩ := h.rows j p q hp hq
      rw [Plan.ext_lt (n + j) (by omega)]
      exact ⟨h1, h2, h3, OR_same h4 (fun i hi => Plan.ext_lt i (by omega)) (Nat.le_refl _) (fun _ => rfl)⟩
    · have := (List.getElem?_eq_some_iff.1 hp).1
      simp at this
      have hj' : j = m.1.length := by omega
      subst hj'
      have hl := h.len
      simp only at hp hq
      rw [List.getElem?_append_right (Nat.le_refl _)] at hp
      rw [hl, List.getElem?_append_right (Nat.le_refl _)] at hq
      simp at hp hq
      subst hp hq
      rw [hl, Plan.ext_at]
      exact ⟨hlive, hno, hb, OR_same hr (fun i hi => by rw [Plan.ext_lt i (by omega)]; exact h.same i hi) (Nat.le_refl _) (fun _ => rfl)⟩
  · simp only
    rw [List.nodup_append]
    refine ⟨h.nodup, by simp, fun x hx y hy => ?_⟩
    simp at hy
    subst hy
    intro hxy
    subst hxy
    rw [List.contains_eq_mem] at hnew
    simp at hnew
    exact hnew hx
mutual
theorem carry_ok {w1 : World} (h : Rel W ρ H1 w1) : ∀ (v : AV) (x : Value) (m m' : Moved) (v' : AV), VR W ρ H1.length v x → v.carry n H1 m = some (v', m') → ∀ ρ2, MO W ρ n H1 w1 m ρ2 →
    ∃ ρ3, MO W ρ n H1 w1 m' ρ3 ∧ (∀ i, i < n + m.2.length → ρ3 i = ρ2 i) ∧ m.2.length ≤ m'.2.length ∧ VR W ρ3 (n + m'.2.length) v' x
  | .ptr o off, x, m, m', v', hv, hc, ρ2, hm => by
    simp only [AV.carry] at hc
    simp only [VR] at hv
    split at hc
    · rename_i ho
      simp only [Option.some.injEq, Prod.mk.injEq] at hc
      obtain ⟨rfl, rfl⟩ := hc
      exact ⟨ρ2, hm, fun _ _ => rfl, Nat.le_refl _, by simp only [VR]; rw [hm.same o ho]; exact ⟨by omega, hv.2⟩⟩
    · rename_i ho
      split at hc <;> (try (cases hc; done))
      rename_i l e rw hH
      split at hc <;> simp only [Option.some.injEq, Prod.mk.injEq, reduceCtorEq] at hc
      rename_i hg
      obtain ⟨rfl, rfl⟩ := hc
      refine ⟨_, hm.push (by omega) ⟨_, hH, by simp⟩ hg.1 rfl (OR_under (h.obj o _ hH) hg.2 (fun _ _ => rfl)), fun i hi => Plan.ext_lt i hi, by simp, ?_⟩
      simp only [VR, Plan.ext_at, List.length_append, List.length_cons, List.length_nil]
      exact ⟨by omega, hv.2⟩
  | .sl o off len sz cap, x, m, m', v', hv, hc, ρ2, hm => by
    simp only [AV.carry] at hc
    simp only [VR] at hv
    split at hc
    · rename_i ho
      simp only [Option.some.injEq, Prod.mk.injEq] at hc
      obtain ⟨rfl, rfl⟩ := hc
      exact ⟨ρ2, hm, fun _ _ => rfl, Nat.le_refl _, by simp only [VR]; rw [hm.same o ho]; exact ⟨by omega, hv.2⟩⟩
    · rename_i ho
      split at hc <;> (try (cases hc; done))
      rename_i l e rw hH
      split at hc <;> simp only [Option.some.injEq, Prod.mk.injEq, reduceCtorEq] at hc
      rename_i hg
      obtain ⟨rfl, rfl⟩ := hc
      obtain ⟨hv1, ad, c, rfl, hv2, hv3, hv4, hv5⟩ := hv
      refine ⟨_, hm.push (s := ⟨(ρ o).b, (ρ o).d + off, (ρ o).z⟩) (by omega) ⟨_, hH, by simp⟩ hg.1 rfl ?_, fun i hi => Plan.ext_lt i hi, by simp, ?_⟩
      · obtain ⟨cc, fr, q1, q2, q3, q4, q5⟩ := h.obj o _ hH
        refine ⟨cc, fr, q1, q2, ?_, fun j v hj => ?_, q5.1.more ?_, fun h => by rw [hg.2.2.2.1] at h; cases h⟩
        · simp only [List.length_take, List.length_drop]
          have := hg.2.2.1
          omega
        · have hj0 := hj
          rw [List.getElem?_take] at hj
          split at hj
          · rw [List.getElem?_drop] at hj
            obtain ⟨y, y1, y2, y3⟩ := q4 _ v hj
            have hu := hg.2.1
            simp only [unders, leadss_all] at hu
            exact ⟨y, by simp only; rw [Nat.add_assoc]; exact y1, VR_under (fun _ _ => rfl) v y (hu v (List.mem_of_getElem? hj0)) y2, y3⟩
          · simp at hj
        · have h4 := hg.2.2.2.2
          cases rw with
          | true => exact .inl rfl
          | false =>
            cases hap : appf with
            | false => exact .inr (.inl rfl)
            | true =>
              simp only [hap, Bool.false_or, Bool.not_true, beq_iff_eq] at h4
              exact .inr (.inr (by simp only [List.length_take, List.length_drop]; omega))
      · simp only [VR, Plan.ext_at, List.length_append, List.length_cons, List.length_nil]
        exact ⟨by omega, ad, c, rfl, hv2, by simpa using hv3, by simpa using hv4, hv5⟩
  | .mp o, x, m, m', v', hv, hc, ρ2, hm => by
    simp only [AV.carry] at hc
    simp only [VR] at hv
    split at hc <;> simp only [Option.some.injEq, Prod.mk.injEq, reduceCtorEq] at hc
    rename_i ho
    obtain ⟨rfl, rfl⟩ := hc
    exact ⟨ρ2, hm, fun _ _ => rfl, Nat.le_refl _, by simp only [VR]; rw [hm.same o ho]; exact ⟨by omega, hv.2⟩⟩
  | .fn f c, x, m, m', v', hv, hc, ρ2, hm => by
    simp only [AV.carry] at hc
    split at hc <;> simp only [Option.some.injEq, Prod.mk.injEq, reduceCtorEq] at hc
    rename_i hu
    obtain ⟨rfl, rfl⟩ := hc
    exact ⟨ρ2, hm, fun _ _ => rfl, Nat.le_refl _, VR_mono (n := n) (fun _ _ => rfl) (by omega) _ _ (VR_under (fun i hi => hm.same i hi) _ _ hu hv)⟩
  | .agg c, x, m, m', v', hv, hc, ρ2, hm => by
    simp only [AV.carry, Option.map_eq_some_iff] at hc
    obtain ⟨⟨c', m1⟩, h1, h2⟩ := hc
    simp only [Prod.mk.injEq] at h2
    obtain ⟨rfl, rfl⟩ := h2
    simp only [VR] at hv
    obtain ⟨l, rfl, hl⟩ := hv
    obtain ⟨ρ3, q1, q2, q3, q4⟩ := carries_ok h c l m m1 c' hl h1 ρ2 hm
    exact ⟨ρ3, q1, q2, q3, by simp only [VR]; exact ⟨l, rfl, q4⟩⟩
  | .tup c, x, m, m', v', hv, hc, ρ2, hm => by
    simp only [AV.carry, Option.map_eq_some_iff] at hc
    obtain ⟨⟨c', m1⟩, h1, h2⟩ := hc
    simp only [Prod.mk.injEq] at h2
    obtain ⟨rfl, rfl⟩ := h2
    simp only [VR] at hv
    obtain ⟨l, rfl, hl⟩ := hv
    obtain ⟨ρ3, q1, q2, q3, q4⟩ := carries_ok h c l m m1 c' hl h1 ρ2 hm
    exact ⟨ρ3, q1, q2, q3, by simp only [VR]; exact ⟨l, rfl, q4⟩⟩
  | .int _ _, x, m, m', v', hv, hc, ρ2, hm => by
    simp only [AV.carry, Option.some.injEq, Prod.mk.injEq] at hc; obtain ⟨rfl, rfl⟩ := hc; exact ⟨ρ2, hm, fun _ _ => rfl, Nat.le_refl _, by simpa only [VR] using hv⟩
  | .bool _, x, m, m', v', hv, hc, ρ2, hm => by
    simp only [AV.carry, Option.some.injEq, Prod.mk.injEq] at hc; obtain ⟨rfl, rfl⟩ := hc; exact ⟨ρ2, hm, fun _ _ => rfl, Nat.le_refl _, by simpa only [VR] using hv⟩
  | .str _, x, m, m', v', hv, hc, ρ2, hm => by
    simp only [AV.carry, Option.some.injEq, Prod.mk.injEq] at hc; obtain ⟨rfl, rfl⟩ := hc; exact ⟨ρ2, hm, fun _ _ => rfl, Nat.le_refl _, by simpa only [VR] using hv⟩
  | .pv c, x, m, m', v', hv, hc, ρ2, hm => by
    simp only [AV.carry, Option.some.injEq, Prod.mk.injEq] at hc; obtain ⟨rfl, rfl⟩ := hc; exact ⟨ρ2, hm, fun _ _ => rfl, Nat.le_refl _, VR_leads (p := fun _ => false) (fun i hi => by cases hi) _ _ rfl hv⟩
  | .nilp, x, m, m', v', hv, hc, ρ2, hm => by
    simp only [AV.carry, Option.some.injEq, Prod.mk.injEq] at hc; obtain ⟨rfl, rfl⟩ := hc; exact ⟨ρ2, hm, fun _ _ => rfl, Nat.le_refl _, by simpa only [VR] using hv⟩
  | .nili, x, m, m', v', hv, hc, ρ2, hm => by
    simp only [AV.carry, Option.some.injEq, Prod.mk.injEq] at hc; obtain ⟨rfl, rfl⟩ := hc; exact ⟨ρ2, hm, fun _ _ => rfl, Nat.le_refl _, by simpa only [VR] using hv⟩
  | .vs c n, x, m, m', v', hv, hc, ρ2, hm => by
    simp only [AV.carry, Option.some.injEq, Prod.mk.injEq] at hc; obtain ⟨rfl, rfl⟩ := hc; exact ⟨ρ2, hm, fun _ _ => rfl, Nat.le_refl _, VR_leads (p := fun _ => false) (fun i hi => by cases hi) _ _ rfl hv⟩
  | .nils, x, m, m', v', hv, hc, ρ2, hm => by
    simp only [AV.carry, Option.some.injEq, Prod.mk.injEq] at hc; obtain ⟨rfl, rfl⟩ := hc; exact ⟨ρ2, hm, fun _ _ => rfl, Nat.le_refl _, by simpa only [VR] using hv⟩
  | .nilf, x, m, m', v', hv, hc, ρ2, hm => by
    simp only [AV.carry, Option.some.injEq, Prod.mk.injEq] at hc; obtain ⟨rfl, rfl⟩ := hc; exact ⟨ρ2, hm, fun _ _ => rfl, Nat.le_refl _, by simpa only [VR] using hv⟩
  | .undef, x, m, m', v', hv, hc, ρ2, hm => by
    simp only [AV.carry, Option.some.injEq, Prod.mk.injEq] at hc; obtain ⟨rfl, rfl⟩ := hc; exact ⟨ρ2, hm, fun _ _ => rfl, Nat.le_refl _, by simpa only [VR] using hv⟩
theorem carries_ok {w1 : World} (h : Rel W ρ H1 w1) : ∀ (l : List AV) (xs : List Value) (m m' : Moved) (l' : List AV), VRs W ρ H1.length l xs → carries n H1 m l = some (l', m') → ∀ ρ2, MO W ρ n H1 w1 m ρ2 →
    ∃ ρ3, MO W ρ n H1 w1 m' ρ3 ∧ (∀ i, i < n + m.2.length → ρ3 i = ρ2 i) ∧ m.2.length ≤ m'.2.length ∧ VRs W ρ3 (n + m'.2.length) l' xs
  | [], xs, m, m', l', hv, hc, ρ2, hm => by
    simp only [carries, Option.some.injEq, Prod.mk.injEq] at hc
    obtain ⟨rfl, rfl⟩ := hc
    exact ⟨ρ2, hm, fun _ _ => rfl, Nat.le_refl _, by simpa only [VRs] using hv⟩
  | a :: l, xs, m, m', l', hv, hc, ρ2, hm => by
    simp only [carries, Option.bind_eq_some_iff, Option.map_eq_some_iff] at hc
    obtain ⟨⟨a', m1⟩, h1, ⟨l1, m2⟩, h2, h3⟩ := hc
    simp only [Prod.mk.injEq] at h3
    obtain ⟨rfl, rfl⟩ := h3
    simp only [VRs] at hv
    obtain ⟨x, r, rfl, hx, hr⟩ := hv
    obtain ⟨ρ3, q1, q2, q3, q4⟩ := carry_ok h a x m m1 a' hx h1 ρ2 hm
    obtain ⟨ρ4, q5, q6, q7, q8⟩ := carries_ok h l r m1 m2 l1 hr h2 ρ3 q1
    refine ⟨ρ4, q5, fun i hi => by rw [q6 i (by omega), q2 i hi], by omega, ?_⟩
    simp only [VRs]
    exact ⟨x, r, rfl, VR_mono q6 (by omega) _ _ q4, q8⟩
end
end
end Go.Den

/- Whole calls. -/
set_option linter.unusedVariables false
set_option linter.unusedSimpArgs false
namespace Go.Den
open Go.RowKit (Below)
section
variable {P : Program} {W : World} {ρ ρ' : Plan} {H H1 : Heap} {w w' w1 : World} {t : List AV} {a : Act} {n : Nat}

theorem tidy_ok (hr : Rel W ρ H w) (h : Stp W ρ H w ρ' H1 w1) {v v' : AV} {x : Value} {H2 : Heap} (hv : VR W ρ' H1.length v x) (ht : tidy H v H1 = (v', H2)) : ∃ ρ2, Stp W ρ H w ρ2 H2 w1 ∧ VR W ρ2 H2.length v' x := by
  unfold tidy at ht
  split at ht
  · rename_i hk
    split at ht
    · rename_i v2 m hc
      simp only [Prod.mk.injEq] at ht
      obtain ⟨rfl, rfl⟩ := ht
      have hrel := h.rel
      obtain ⟨ρ3, hm, hs, _, hv3⟩ := carry_ok (n := H.length) hrel v x ([], []) m v2 hv hc ρ' ⟨rfl, fun _ _ => rfl, fun j o r hj => by simp at hj, by simp⟩
      obtain ⟨hlen, hkeep⟩ := keepOld_spec hk
      have hlen' : (H1.take H.length).length = H.length := by simp; omega
      have hlt : (H1.take H.length ++ m.2).length = H.length + m.2.length := by simp; omega
      have hget : ∀ i y, (H1.take H.length ++ m.2)[i]? = some y → (i < H.length ∧ H1[i]? = some y) ∨ (∃ j o, i = H.length + j ∧ m.2[j]? = some y ∧ m.1[j]? = some o) := by
        intro i y hy
        rcases Nat.lt_or_ge i H.length with hi | hi
        · rw [List.getElem?_append_left (by omega), List.getElem?_take, if_pos hi] at hy
          exact .inl ⟨hi, hy⟩
        · rw [List.getElem?_append_right (by omega), hlen'] at hy
          have hj := (List.getElem?_eq_some_iff.1 hy).1
          have hl := hm.len
          exact .inr ⟨i - H.length, m.1[i - H.length]'(by omega), by omega, hy, List.getElem?_eq_getElem (by omega)⟩
      have hlive : ∀ i, live (H1.take H.length ++ m.2) i → (i < H.length ∧ live H1 i ∧ ρ3 i = ρ' i) ∨ ∃ j o, i = H.length + j ∧ m.1[j]? = some o ∧ live H1 o ∧ H.length ≤ o ∧ (ρ3 i).b = (ρ' o).b := by
        rintro i ⟨y, hy, hyd⟩
        rcases hget i y hy with ⟨hi, hy1⟩ | ⟨j, o, rfl, hj, ho⟩
        · exact .inl ⟨hi, ⟨y, hy1, hyd⟩, hm.same i hi⟩
        · obtain ⟨q1, q2, q3, q4⟩ := hm.rows j o y ho hj
          exact .inr ⟨j, o, rfl, ho, q1, q2, q3⟩
      refine ⟨ρ3, ⟨fun i hi => by rw [hm.same i hi]; exact h.same i hi, by omega, h.size, h.frame, fun i hi => ?_, ⟨hrel.below, fun i hi => ?_, fun i y hy => ?_, fun i j hi hj hij => ?_⟩⟩, ?_⟩
      · rcases hlive i hi with ⟨q1, q2, q3⟩ | ⟨j, o, rfl, q1, q2, q3, q4⟩
        · rw [q3]; exact h.own i q2
        · rw [q4]; exact h.own o q2
      · rcases hlive i hi with ⟨q1, q2, q3⟩ | ⟨j, o, rfl, q1, q2, q3, q4⟩
        · rw [q3]; exact hrel.lo i q2
        · rw [q4]; exact hrel.lo o q2
      · rw [hlt]
        rcases hget i y hy with ⟨hi, hy1⟩ | ⟨j, o, rfl, hj, ho⟩
        · rw [hm.same i hi]
          have hOR := hrel.obj i y hy1
          have hu : y.under H.length = true := by
            rcases hkeep i H[i] y (List.getElem?_eq_getElem hi) hy1 with hyy | hyy
            · rw [← hyy]; exact OR_bound (hr.obj i _ (List.getElem?_eq_getElem hi))
            · exact hyy
          exact OR_same (OR_under hOR hu (fun i hi => hm.same i hi)) (fun _ _ => rfl) (by omega) (fun _ => rfl)
        · obtain ⟨q1, q2, q3, q4⟩ := hm.rows j o y ho hj
          exact OR_same q4 (fun _ _ => rfl) (by omega) (fun _ => rfl)
      · rcases hlive i hi with ⟨q1, q2, q3⟩ | ⟨j1, o, rfl, q1, q2, q3, q4⟩ <;> rcases hlive j hj with ⟨p1, p2, p3⟩ | ⟨j2, o2, rfl, p1, p2, p3, p4⟩
        · rw [q3, p3] at hij; exact hrel.inj i j q2 p2 hij
        · rw [q3, p4] at hij; have := hrel.inj i o2 q2 p2 hij; omega
        · rw [q4, p3] at hij; have := hrel.inj o j q2 p2 hij; omega
        · rw [q4, p4] at hij
          have ho := hrel.inj o o2 q2 p2 hij
          subst ho
          have := (List.getElem?_inj (List.getElem?_eq_some_iff.1 q1).1 hm.nodup).1 (q1.trans p1.symm)
          omega
      · rw [hlt]; exact hv3
    · simp only [Prod.mk.injEq] at ht
      obtain ⟨rfl, rfl⟩ := ht
      exact ⟨ρ', h, hv⟩
  · simp only [Prod.mk.injEq] at ht
    obtain ⟨rfl, rfl⟩ := ht
    exact ⟨ρ', h, hv⟩
theorem loadVar_ok {ty : TypeId} {sh : Option Nat} (hsh : shapeT P ty = some sh) (hr : Rel W ρ H w) {p : AV} {px : Value} (hp : VR W ρ H.length p px) {l : List AV} (hl : aload H (sh.getD 1) p = some l) {u : AV} (hu : shape sh l = some u) :
    ∃ ad x, px = .pointer (some ad) ∧ (loadVar ty ad).run P w = .ok x w ∧ VR W ρ H.length u x := by
  obtain ⟨ad, xs, h1, h2, h3, h4, h5, h6, h7⟩ := aload_ok hr hp hl
  refine ⟨ad, ?_⟩
  unfold shapeT at hsh
  split at hsh <;> (try (cases hsh; done))
  · rename_i i fs hi hu'
    injection hsh with hsh
    subst hsh
    simp only [shape, Option.some.injEq] at hu
    subst hu
    refine ⟨.agg xs.toArray, h1, ?_, by simp only [VR]; exact ⟨xs, rfl, h2⟩⟩
    have hl := run_loadCells_xs (P := P) h4 h5
    simp only [Option.getD_some] at hl
    simp [loadVar, isAgg, run_underlying' hu', sizeOf, typeInfo, hi, hl]
  · rename_i i k e hi hu'
    injection hsh with hsh
    subst hsh
    simp only [shape, Option.some.injEq] at hu
    subst hu
    refine ⟨.agg xs.toArray, h1, ?_, by simp only [VR]; exact ⟨xs, rfl, h2⟩⟩
    have hl := run_loadCells_xs (P := P) h4 h5
    simp only [Option.getD_some] at hl
    simp [loadVar, isAgg, run_underlying' hu', sizeOf, typeInfo, hi, hl]
  · rename_i i d hns hna hi hu'
    split at hsh <;> simp at hsh
    subst hsh
    simp only [shape] at hu
    simp only [Option.getD_none] at h3 h4
    match l, h3, xs, h4 with
    | [v0], _, [x0], _ =>
      simp only [one?, Option.some.injEq] at hu
      subst hu
      simp only [VRs] at h2
      obtain ⟨y, r, he, h2, _⟩ := h2
      injection he with he
      subst he
      have hc := h5 0 x0 rfl
      simp only [Addr.add, if_true] at hc
      refine ⟨x0, h1, ?_, h2⟩
      have hagg : (isAgg ty).run P w = .ok false w := by
        unfold isAgg
        simp only [Sem.run_bind, run_underlying' hu', Result.andThen_ok]
        first
          | rfl
          | (split
             · exact absurd rfl (hns _)
             · exact absurd rfl (hna _ _)
             · rfl)
      simp [loadVar, hagg, hc]
theorem getD_ok {n : Nat} (ha : AR W ρ n t a) (k : Nat) : VR W ρ n (t.getD k .undef) (a.tmps.getD k undef) := evx_ok ha (o := .tmp k) (s := .t k) rfl
theorem results_mapM (hr : Rel W ρ H w) (ha : AR W ρ H.length t a) : ∀ {rs : List ResultVar} {ss : List SRes}, rs.mapM (slimRes P) = some ss → ∀ {vs : List AV}, ss.mapM (result1 t H) = some vs →
    ∃ xs : List Value, (rs.mapM fun r => (match r with | .tmp k => pure (a.tmps.getD k undef) | .cell k ty => do loadVar ty (← asAddr (a.tmps.getD k undef)) : Sem Value)).run P w = .ok xs w ∧ VRs W ρ H.length vs xs
  | [], ss, hs, vs, hv => by
    simp at hs
    subst hs
    simp at hv
    subst hv
    exact ⟨[], by simp, by simp [VRs]⟩
  | r :: rs, ss, hs, vs, hv => by
    simp only [List.mapM_cons, Option.bind_eq_bind, Option.bind_eq_some_iff, Option.pure_def, Option.some.injEq] at hs
    obtain ⟨s, h1, ss, h2, rfl⟩ := hs
    simp only [List.mapM_cons, Option.bind_eq_bind, Option.bind_eq_some_iff, Option.pure_def, Option.some.injEq] at hv
    obtain ⟨v, h3, vs, h4, rfl⟩ := hv
    obtain ⟨xs, h5, h6⟩ := results_mapM hr ha h2 h4
    cases r with
    | tmp k =>
      simp only [slimRes, Option.some.injEq] at h1
      subst h1
      simp only [result1, Option.some.injEq] at h3
      subst h3
      refine ⟨a.tmps.getD k undef :: xs, ?_, by simp only [VRs]; exact ⟨_, _, rfl, getD_ok ha k, h6⟩⟩
      simp only [List.mapM_cons, Sem.run_bind, Sem.run_pure, Result.andThen_ok, h5]
    | cell k ty =>
      simp only [slimRes, Option.map_eq_some_iff] at h1
      obtain ⟨sh, hsh, rfl⟩ := h1
      simp only [result1, Option.bind_eq_some_iff] at h3
      obtain ⟨l, hl, hu⟩ := h3
      obtain ⟨ad, x, q1, q2, q3⟩ := loadVar_ok hsh hr (getD_ok ha k) hl hu
      refine ⟨x :: xs, ?_, by simp only [VRs]; exact ⟨_, _, rfl, q3, h6⟩⟩
      simp only [List.mapM_cons, Sem.run_bind, Sem.run_pure, Result.andThen_ok, h5, q1, show asAddr (.pointer (some ad)) = pure ad from rfl, q2]
theorem resultOf_ways {ss : List SRes} {v : AV} (h : resultOf t H ss = some v) : (∃ vs, ss.mapM (result1 t H) = some vs ∧ ((∃ u, vs = [u] ∧ v = u) ∨ (vs.length ≠ 1 ∧ v = .tup vs))) := by
  unfold resultOf at h
  split at h
  · rename_i r
    exact ⟨[v], by simp [h], .inl ⟨v, rfl, rfl⟩⟩
  · rename_i hne
    simp only [Option.map_eq_some_iff] at h
    obtain ⟨vs, h1, rfl⟩ := h
    refine ⟨vs, h1, .inr ⟨?_, rfl⟩⟩
    intro hl
    have : ∀ {ss : List SRes} {vs : List AV}, ss.mapM (result1 t H) = some vs → ss.length = vs.length := by
      intro ss
      induction ss with
      | nil => intro vs h; simp at h; subst h; rfl
      | cons s ss ih =>
        intro vs h
        simp only [List.mapM_cons, Option.bind_eq_bind, Option.bind_eq_some_iff, Option.pure_def, Option.some.injEq] at h
        obtain ⟨u, _, us, h2, rfl⟩ := h
        simp [ih h2]
    have h3 := this h1
    match ss, h3, hne with
    | [], h3, _ => simp at h3; omega
    | [s], _, hne => exact hne s rfl
    | _ :: _ :: _, h3, _ => simp at h3; omega
theorem results_ok {fn : Func} {ss : List SRes} (hs : fn.results.toList.mapM (slimRes P) = some ss) (hr : Rel W ρ H w) (ha : AR W ρ H.length t a) {v : AV} (hv : resultOf t H ss = some v) :
    ∃ x, (results fn a.tmps).run P w = .ok x w ∧ VR W ρ H.length v x := by
  obtain ⟨vs, h1, h2⟩ := resultOf_ways hv
  obtain ⟨xs, h3, h4⟩ := results_mapM hr ha hs h1
  have hlen := VRs_length h4
  have hrun : (results fn a.tmps).run P w = .ok (if h : xs.toArray.size = 1 then xs.toArray[0] else .tuple xs.toArray) w := by
    have h6 : ∀ m : Sem (List Value), m.run P w = .ok xs w → (List.toArray <$> m).run P w = .ok xs.toArray w := fun m h => by simp [h]
    have h5 := h6 _ h3
    unfold results
    rw [Array.mapM_eq_mapM_toList]
    rw [Sem.run_bind]
    refine (congrArg (fun r => Result.andThen r _) h5).trans ?_
    simp only [Result.andThen_ok, Sem.run_pure]
  rcases h2 with ⟨u, rfl, rfl⟩ | ⟨h2, rfl⟩
  · obtain ⟨x, rfl, hx⟩ := VRs_one h4
    exact ⟨x, by simpa using hrun, hx⟩
  · refine ⟨.tuple xs.toArray, ?_, by simp only [VR]; exact ⟨xs, rfl, h4⟩⟩
    rw [hrun]
    have : ¬ (xs.toArray.size = 1) := by simp; omega
    rw [dif_neg this]
theorem start_ok {args : List AV} {vs : List Value} (hg : GlobOk W) (hv : VRs W ρ n args vs) (k : Nat) : AR W ρ n (args ++ List.replicate (k - args.length) .undef) { tmps := vs.toArray ++ Array.replicate (k - vs.toArray.size) undef, defers := [] } := by
  refine ⟨⟨rfl, hg⟩, ?_⟩
  have hl := VRs_length hv
  have hrep : ∀ m, VRs W ρ n (List.replicate m AV.undef) (List.replicate m undef) := by
    intro m
    induction m with
    | zero => simp [VRs]
    | succ m ih => simp only [List.replicate_succ, VRs, VR]; exact ⟨_, _, rfl, rfl, ih⟩
  have := VRs_append hv (hrep (k - args.length))
  simpa [hl] using this
/-- What is told of the functions is theirs. -/
structure EnvOk (P : Program) (e : Env) : Prop where
  fns : ∀ f s, e.isI f = false → e.E f = some s → ∃ fn, P.funcs[f]? = some fn ∧ slimF P fn = some s
  intr : ∀ f args H v H', e.isI f = true → e.I f args H = some (v, H') → ∀ (W : World) (ρ : Plan) (w : World) (vs : List Value), GlobOk W → Rel W ρ H w → VRs W ρ H.length args vs →
    OpCalls P f vs.toArray w fun x w' => ∃ ρ', Stp W ρ H w ρ' H' w' ∧ VR W ρ' H'.length v x
theorem callN_ok {e : Env} (he : EnvOk P e) (hrd : ∀ cl, ClOk P cl → RegdOk P cl) : ∀ n, ClOk P (callN e n)
  | 0 => fun f args H v H' h => by simp [callN] at h
  | n + 1 => by
    intro f args H v H' h W ρ w vs hg hr hv
    simp only [callN] at h
    split at h
    · rename_i hI
      exact he.intr f args H v H' hI h W ρ w vs hg hr hv
    · rename_i hI
      simp only [Option.bind_eq_some_iff] at h
      obtain ⟨s, hs, st, hst, hl⟩ := h
      obtain ⟨fn, hf, hfs⟩ := he.fns f s (by simpa using hI) hs
      simp only [slimF, Option.bind_eq_some_iff] at hfs
      obtain ⟨c, hc, b, hb, rs, hrs, hfs⟩ := hfs
      split at hfs <;> simp only [Option.some.injEq, reduceCtorEq] at hfs
      rename_i hname
      subst hfs
      simp only at hst hl
      refine .inr ⟨?_, ?_⟩
      · simp only [callFunc, Sem.run_bind, run_program, Result.andThen_ok, hf, hname, hc]
        simp
      refine calls_of_wp hf hc ?_
      refine code_ok (callN_ok he hrd n) (hrd _ (callN_ok he hrd n)) n c b hb W ρ H w _ _ hr (start_ok hg hv fn.ntmps) st hst _ fun a' w' ρ' hstp ha' => ?_
      unfold leave at hl
      have key : ∀ ex : Exit, (ex = .normal ∨ ex = .ret) → ((resultOf st.t st.H rs).map fun v => tidy H v st.H) = some (v, H') → bodyPost P fn (fun | .returned v', w' => (∃ ρ', Stp W ρ H w ρ' H' w' ∧ VR W ρ' H'.length v v') | _, _ => False) ex a' w' := by
        intro ex hex hl
        simp only [Option.map_eq_some_iff] at hl
        obtain ⟨u, hu, ht⟩ := hl
        obtain ⟨x, h1, h2⟩ := results_ok hrs hstp.rel ha' hu
        obtain ⟨ρ2, h3, h4⟩ := tidy_ok hr hstp h2 ht
        rcases hex with rfl | rfl
        · exact ⟨ha'.nod.1, x, h1, ρ2, h3, h4⟩
        · exact ⟨ha'.nod.1, x, h1, ρ2, h3, h4⟩
      split at hl
      · cases hl
      · rename_i hx
        cases hx1 : st.x with
        | normal => exact key _ (.inl rfl) hl
        | ret => exact key _ (.inr rfl) hl
        | exit id => exact absurd hx1 (hx id)
end
end Go.Den
