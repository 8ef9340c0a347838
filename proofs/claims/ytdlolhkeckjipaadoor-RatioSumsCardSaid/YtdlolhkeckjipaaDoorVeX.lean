/- Regions that draw their order: rows that a call made, of which it isn't known how many. -/
import Derived.Test.YtdlolhkeckjipaaDoorTyX
set_option linter.unusedVariables false
set_option linter.unusedSimpArgs false
set_option maxRecDepth 100000
set_option maxHeartbeats 2000000
namespace Go.Proofs.YtdlolhkeckjipaaDoor
open Go Go.Den
/-- All that was made lies between. -/
def Mds (a b : Nat) (M : List (Nat × Nat × Nat)) : Prop := ∀ p ∈ M, a ≤ p.2.1 ∧ p.2.1 + p.2.2 ≤ b
theorem Mds.nil {a b : Nat} : Mds a b [] := fun p hp => by cases hp
theorem Mds.add {a b c d i : Nat} {M : List (Nat × Nat × Nat)} (h : Mds a b M) (h1 : b ≤ c) (h2 : c ≤ d) (h3 : a ≤ c) : Mds a d (addMade M i c d) := fun p hp => by
  unfold addMade at hp
  split at hp
  · have := h p hp; omega
  · rcases List.mem_append.1 hp with hp | hp
    · have := h p hp; omega
    · have : p = (i, c, d - c) := by simpa using hp
      subst this
      simp only
      omega
theorem Mds.wide {a b c : Nat} {M : List (Nat × Nat × Nat)} (h : Mds a b M) (h1 : b ≤ c) : Mds a c M := fun p hp => by have := h p hp; omega
theorem Mds.cast {a b a' b' : Nat} {M : List (Nat × Nat × Nat)} (h : Mds a b M) (ha : a = a') (hb : b = b') : Mds a' b' M := by
  subst ha hb
  exact h
/-- What lies ahead of them is known all the same. -/
theorem mds_veil {u : List Nat} {B : Heap} : ∀ {M : List (Nat × Nat × Nat)} {X : Heap}, Mds B.length (B.length + X.length) M → ∃ X' : Heap, X'.length = X.length ∧ veil u M (B ++ X) = B ++ X'
  | [], X, _ => ⟨X, rfl, rfl⟩
  | (i, a, c) :: M, X, h => by
    have hp := h (i, a, c) (by simp)
    simp only at hp
    have hM : Mds B.length (B.length + X.length) M := fun p hp => h p (by simp [hp])
    rw [veil_cons]
    simp only
    by_cases hc : u.contains i = true
    · rw [if_pos hc]
      obtain ⟨k, rfl⟩ : ∃ k, a = B.length + k := ⟨a - B.length, by omega⟩
      have e : List.take (B.length + k) (B ++ X) ++ List.replicate c AO.dead ++ List.drop (B.length + k + c) (B ++ X) = B ++ (X.take k ++ (List.replicate c .dead ++ X.drop (k + c))) := by
        rw [take_app, Nat.add_assoc, drop_app]
        simp
      rw [e]
      have hl : (X.take k ++ (List.replicate c AO.dead ++ X.drop (k + c))).length = X.length := by
        simp only [List.length_append, List.length_take, List.length_replicate, List.length_drop]
        omega
      obtain ⟨X', h1, h2⟩ := mds_veil (u := u) (B := B) (M := M) (X := X.take k ++ (List.replicate c AO.dead ++ X.drop (k + c))) (by rw [hl]; exact hM)
      exact ⟨X', by rw [h1, hl], h2⟩
    · rw [if_neg hc]
      exact mds_veil hM
/-- The same for all that may be unknown. -/
theorem mds_fam {B X : Heap} {M : List (Nat × Nat × Nat)} (h : Mds B.length (B.length + X.length) M) : ∃ F : List Nat → Heap, (∀ u, (F u).length = X.length) ∧ ∀ u, veil u M (B ++ X) = B ++ F u :=
  ⟨fun u => (mds_veil (u := u) h).choose, fun u => (mds_veil (u := u) h).choose_spec.1, fun u => (mds_veil (u := u) h).choose_spec.2⟩
theorem shun_flat {u : List Nat} {M : List (Nat × Nat × Nat)} {v : AV} (h : v.still = true) (hf : ∀ p, v.leads p = true) : shun u M v [] = true := by
  simp [shun, hf]
theorem still_leads {v : AV} (h : v.flat = true) (p : Nat → Bool) : v.leads p = true := by cases v <;> simp only [AV.flat, Bool.false_eq_true] at h <;> simp [AV.leads]
theorem shun_int {u : List Nat} {M : List (Nat × Nat × Nat)} {k : IntKind} {n : Int} : shun u M (.int k n) [] = true := by simp [shun, AV.leads]
theorem shun_bool {u : List Nat} {M : List (Nat × Nat × Nat)} {b : Bool} : shun u M (.bool b) [] = true := by simp [shun, AV.leads]
theorem shun_old {u : List Nat} {a b o off : Nat} {M : List (Nat × Nat × Nat)} (h : Mds a b M) (ho : o < a) : shun u M (.ptr o off) [] = true := by
  simp only [shun, List.all_eq_true]
  intro p hp
  have := h p hp
  simp [AV.leads, inRows, show ¬ p.2.1 ≤ o by omega]
/-- A row made behind them. -/
theorem shun_box {u : List Nat} {a b o : Nat} {M : List (Nat × Nat × Nat)} {l : List AV} {e : TypeId} {w : Bool} (h : Mds a b M) (ho : b ≤ o) (hl : l.all AV.flat = true) : shun u M (.ptr o 0) [.cells l e w] = true := by
  simp only [shun, List.all_eq_true]
  intro p hp
  have := h p hp
  simp [AV.leads, inRows, AO.leads, show ¬ o < p.2.1 + p.2.2 by omega]
  exact .inr (leadss_flat hl)
section
variable {cl : CL} {x : Option (AV × Heap)} {W : AV → Heap → Prop} {d : Option Nat} {r : List SOp} {t : List AV} {H : Heap} {Q : AX → List AV → Heap → Prop}
theorem gets_comesS {i : Nat} {m : List (Nat × Nat × Nat)} {c : Bool} (h : Comes x W) (hl : ∀ v H1, W v H1 → ∃ X, H1 = H ++ X) (k : ∀ v X, W v (H ++ X) → Gets (opsd cl (i + 1) (addMade m i H.length (H ++ X).length) r (put t d v) (H ++ X)) Q) : Gets (thenSome cl i m [] c x d r t H) Q := by
  obtain ⟨v, H1, rfl, hw⟩ := h
  obtain ⟨X, rfl⟩ := hl v H1 hw
  rw [thenSome_some, if_pos ⟨fun _ => by rw [take_app0, veil_un]; exact sameH_refl _, shun_un⟩, drop_app0]
  exact k v X hw
variable {B Y : Heap} {i : Nat} {m : List (Nat × Nat × Nat)}
theorem mds_next (hm : Mds B.length (B.length + Y.length) m) (X : Heap) : Mds B.length (B.length + (Y ++ X).length) (addMade m i (B ++ Y).length (B ++ Y ++ X).length) := by
  have := hm.add (i := i) (c := (B ++ Y).length) (d := (B ++ Y ++ X).length) (by simp) (by simp) (by simp)
  simpa [Nat.add_assoc] using this
/-- The first such call of a region, and a later one: what it made is M; what lies ahead of that is known. -/
theorem gets_mA {K : Heap} (B Y : Heap) (hK : K = B ++ Y) {l : List (Option (Nat × Bool) × SX)} (hm : Mds B.length (B.length + Y.length) m) (h : Comes x W) (hl : ∀ v H1, W v H1 → ∃ X, H1 = K ++ X) (ha : ∀ v X, W v (K ++ X) → apartAll t K (K ++ X) l = true)
    (k : ∀ (v : AV) (X : Heap) (M : List (Nat × Nat × Nat)) (F : List Nat → Heap), W v (K ++ X) → Mds B.length (B.length + (Y ++ X).length) M → (∀ u, (F u).length = (Y ++ X).length) → (∀ u Z, (F u ++ Z).drop (Y ++ X).length = Z) → (∀ u, (F u).drop (Y ++ X).length = []) → (∀ a u, veil (a :: u) M (B ++ (Y ++ X)) = B ++ F (a :: u)) → Gets (opsd cl (i + 1) M r (put t d v) (K ++ X)) Q) : Gets (thenAllA cl i m l x d r t K) Q := by
  obtain ⟨v, H1, rfl, hw⟩ := h
  obtain ⟨X, rfl⟩ := hl v H1 hw
  rw [thenAllA_some, if_pos ⟨by simp, ha v X hw⟩]
  have hM := mds_next (i := i) hm X
  obtain ⟨F, f1, f2⟩ := mds_fam hM
  have := k v X _ F hw hM f1 (fun u Z => List.drop_left' (f1 u)) (fun u => List.drop_of_length_le (by rw [f1 u]; exact Nat.le_refl _)) (fun a u => f2 (a :: u))
  subst hK
  exact this
theorem gets_mN {K : Heap} (B Y : Heap) (hK : K = B ++ Y) (hm : Mds B.length (B.length + Y.length) m) (h : Comes x W) (hl : ∀ v H1, W v H1 → ∃ X, H1 = K ++ X)
    (k : ∀ (v : AV) (X : Heap) (M : List (Nat × Nat × Nat)) (F : List Nat → Heap), W v (K ++ X) → Mds B.length (B.length + (Y ++ X).length) M → (∀ u, (F u).length = (Y ++ X).length) → (∀ u Z, (F u ++ Z).drop (Y ++ X).length = Z) → (∀ u, (F u).drop (Y ++ X).length = []) → (∀ a u, veil (a :: u) M (B ++ (Y ++ X)) = B ++ F (a :: u)) → Gets (opsd cl (i + 1) M r (put t d v) (K ++ X)) Q) : Gets (thenAll cl i m x d r t K) Q := by
  obtain ⟨v, H1, rfl, hw⟩ := h
  obtain ⟨X, rfl⟩ := hl v H1 hw
  rw [thenAll_some, if_pos (by simp)]
  have hM := mds_next (i := i) hm X
  obtain ⟨F, f1, f2⟩ := mds_fam hM
  have := k v X _ F hw hM f1 (fun u Z => List.drop_left' (f1 u)) (fun u => List.drop_of_length_le (by rw [f1 u]; exact Nat.le_refl _)) (fun a u => f2 (a :: u))
  subst hK
  exact this
theorem gets_mS {K : Heap} (B Y : Heap) (hK : K = B ++ Y) {c : Bool} (hm : Mds B.length (B.length + Y.length) m) (h : Comes x W) (hl : ∀ v H1, W v H1 → ∃ X, H1 = K ++ X)
    (k : ∀ (v : AV) (X : Heap) (M : List (Nat × Nat × Nat)) (F : List Nat → Heap), W v (K ++ X) → Mds B.length (B.length + (Y ++ X).length) M → (∀ u, (F u).length = (Y ++ X).length) → (∀ u Z, (F u ++ Z).drop (Y ++ X).length = Z) → (∀ u, (F u).drop (Y ++ X).length = []) → (∀ a u, veil (a :: u) M (B ++ (Y ++ X)) = B ++ F (a :: u)) → Gets (opsd cl (i + 1) M r (put t d v) (K ++ X)) Q) : Gets (thenSome cl i m [] c x d r t K) Q := by
  refine gets_comesS h hl fun v X hw => ?_
  have hM := mds_next (i := i) hm X
  obtain ⟨F, f1, f2⟩ := mds_fam hM
  have := k v X _ F hw hM f1 (fun u Z => List.drop_left' (f1 u)) (fun u => List.drop_of_length_le (by rw [f1 u]; exact Nat.le_refl _)) (fun a u => f2 (a :: u))
  subst hK
  exact this
theorem gets_sA {l : List (Option (Nat × Bool) × SX)} (h : Comes x W) (hl : ∀ v H1, W v H1 → ∃ X, H1 = B ++ X) (ha : ∀ v X, W v (B ++ X) → apartAll t B (B ++ X) l = true)
    (k : ∀ (v : AV) (X : Heap) (M : List (Nat × Nat × Nat)) (F : List Nat → Heap), W v (B ++ X) → Mds B.length (B.length + X.length) M → (∀ u, (F u).length = X.length) → (∀ u Z, (F u ++ Z).drop X.length = Z) → (∀ u, (F u).drop X.length = []) → (∀ a u, veil (a :: u) M (B ++ X) = B ++ F (a :: u)) → Gets (opsd cl (i + 1) M r (put t d v) (B ++ X)) Q) : Gets (thenAllA cl i [] l x d r t B) Q := by
  have := gets_mA (cl := cl) (x := x) (W := W) (K := B) (B := B) (Y := []) (i := i) (m := []) (l := l) (d := d) (r := r) (t := t) (Q := Q) (by simp) Mds.nil h (by simpa using hl) (by simpa using ha) (by simpa using k)
  simpa using this
theorem gets_sN (h : Comes x W) (hl : ∀ v H1, W v H1 → ∃ X, H1 = B ++ X)
    (k : ∀ (v : AV) (X : Heap) (M : List (Nat × Nat × Nat)) (F : List Nat → Heap), W v (B ++ X) → Mds B.length (B.length + X.length) M → (∀ u, (F u).length = X.length) → (∀ u Z, (F u ++ Z).drop X.length = Z) → (∀ u, (F u).drop X.length = []) → (∀ a u, veil (a :: u) M (B ++ X) = B ++ F (a :: u)) → Gets (opsd cl (i + 1) M r (put t d v) (B ++ X)) Q) : Gets (thenAll cl i [] x d r t B) Q := by
  have := gets_mN (cl := cl) (x := x) (W := W) (K := B) (B := B) (Y := []) (i := i) (m := []) (d := d) (r := r) (t := t) (Q := Q) (by simp) Mds.nil h (by simpa using hl) (by simpa using k)
  simpa using this
theorem gets_sS {c : Bool} (h : Comes x W) (hl : ∀ v H1, W v H1 → ∃ X, H1 = B ++ X)
    (k : ∀ (v : AV) (X : Heap) (M : List (Nat × Nat × Nat)) (F : List Nat → Heap), W v (B ++ X) → Mds B.length (B.length + X.length) M → (∀ u, (F u).length = X.length) → (∀ u Z, (F u ++ Z).drop X.length = Z) → (∀ u, (F u).drop X.length = []) → (∀ a u, veil (a :: u) M (B ++ X) = B ++ F (a :: u)) → Gets (opsd cl (i + 1) M r (put t d v) (B ++ X)) Q) : Gets (thenSome cl i [] [] c x d r t B) Q := by
  have := gets_mS (cl := cl) (x := x) (W := W) (K := B) (B := B) (Y := []) (i := i) (m := []) (c := c) (d := d) (r := r) (t := t) (Q := Q) (by simp) Mds.nil h (by simpa using hl) (by simpa using k)
  simpa using this
end
end Go.Proofs.YtdlolhkeckjipaaDoor
