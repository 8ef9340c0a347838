/- In the middle of code; a slice that grows through calls. -/
import Derived.Test.YthfpndelfbeknaaDen35
set_option linter.unusedVariables false
set_option linter.unusedSimpArgs false
namespace Go.Den
section
variable {cl : CL} {t : List AV} {H : Heap} {Q : AX → List AV → Heap → Prop}
/-- Between two pieces of code. -/
def mid (M : List AV → Heap → Prop) (Q : AX → List AV → Heap → Prop) : AX → List AV → Heap → Prop
  | .normal, t, H => M t H
  | x, t, H => Q x t H
theorem mid_normal {M} : mid M Q .normal t H = M t H := _root_.id rfl
theorem mid_exit {M id} : mid M Q (.exit id) t H = Q (.exit id) t H := _root_.id rfl
theorem mid_ret {M} : mid M Q .ret t H = Q .ret t H := _root_.id rfl
theorem ends_mid {a b : SC} (M : List AV → Heap → Prop) (h1 : Ends cl a t H (mid M Q)) (h2 : ∀ t H, M t H → Ends cl b t H Q) : Ends cl (.seq a b) t H Q := by
  rw [ends_seq]
  refine h1.mono fun x t H h => ?_
  cases x with
  | normal => exact h2 t H h
  | exit id => exact h
  | ret => exact h
end
section
variable {α : Type} {H0 Hn H1 B : Heap} {e : TypeId} {sz : Nat} {g : α → List AV} {v v1 : AV} {l m : List α}
/-- A slice that came in, grown since heap Hn; B lies behind it. -/
structure Pushed (H0 Hn B : Heap) (e : TypeId) (sz : Nat) (g : α → List AV) (v : AV) (l : List α) (K X : Heap) (v1 : AV) (m : List α) : Prop where
  acc : Acc H0 Hn e sz g v l
  size : ∀ a ∈ m, (g a).length = sz
  ones : ∀ a ∈ m, (g a).all AV.one = true
  klen : K.length = Hn.length
  old : ∃ Y, K = H0 ++ Y
  kept : ∀ i : Nat, K[i]? = Hn[i]? ∨ (K[i]? = some .dead)
  case : (m = [] ∧ v1 = v ∧ K = Hn) ∨ (m ≠ [] ∧ ∃ o, v1 = .sl (Hn.length + B.length + o) 0 (l.length + m.length) sz none ∧ X[o]? = some (.cells ((l ++ m).flatMap g) e true))
theorem Pushed.start (h : Acc H0 Hn e sz g v l) : Pushed H0 Hn B e sz g v l Hn [] v [] :=
  ⟨h, by simp, by simp, rfl, h.above, fun i => .inl rfl, .inl ⟨rfl, rfl, rfl⟩⟩
theorem getElem?_keep {X Y : Heap} {o : Nat} {x : AO} (h : X[o]? = some x) : (X ++ Y)[o]? = some x := by
  have : o < X.length := (List.getElem?_eq_some_iff.1 h).1
  rw [List.getElem?_append_left this]; exact h
theorem Pushed.junk {K X : Heap} (h : Pushed H0 Hn B e sz g v l K X v1 m) (Y : Heap) : Pushed H0 Hn B e sz g v l K (X ++ Y) v1 m :=
  ⟨h.acc, h.size, h.ones, h.klen, h.old, h.kept, by
    rcases h.case with h1 | ⟨h1, o, h2, h3⟩
    · exact .inl h1
    · exact .inr ⟨h1, o, h2, getElem?_keep h3⟩⟩
theorem all_flatMap_one {m : List α} (h : ∀ a ∈ m, (g a).all AV.one = true) : (m.flatMap g).all AV.one = true := by
  simp only [List.all_flatMap, List.all_eq_true] at h ⊢
  exact h
theorem Pushed.push {K X : Heap} (h : Pushed H0 Hn B e sz g v l K X v1 m) {n : List α} {x : AV} (hn : n ≠ []) (hs : ∀ a ∈ n, (g a).length = sz) (ho : ∀ a ∈ n, (g a).all AV.one = true)
    (hl : alen x = some n.length) (hx : newOf (K ++ (B ++ X)) sz x = some (n.flatMap g)) (hr : l.length + (m.length + n.length) ≤ 4294967296) :
    ∃ v2 K2 X2, aapp (K ++ (B ++ X)) e sz v1 x = some (v2, K2 ++ (B ++ X2)) ∧ Pushed H0 Hn B e sz g v l K2 X2 v2 (m ++ n) := by
  have hn0 : n.length ≠ 0 := by simpa using hn
  have hnf := flat_len hs
  have hone := all_flatMap_one ho
  have hsz : ∀ a ∈ m ++ n, (g a).length = sz := by intro a ha; rcases List.mem_append.1 ha with ha | ha; exact h.size a ha; exact hs a ha
  have hon : ∀ a ∈ m ++ n, (g a).all AV.one = true := by intro a ha; rcases List.mem_append.1 ha with ha | ha; exact h.ones a ha; exact ho a ha
  have hne : m ++ n ≠ [] := by simp [hn]
  rcases h.case with ⟨h1, h2, h3⟩ | ⟨h0, o, h1, h2⟩
  · subst h1 h2 h3
    obtain ⟨Z, hZ, hv⟩ := h.acc.heap
    rcases hv with ⟨hv1, hv2⟩ | ⟨hv0, o, hv1, hv2⟩
    · subst hv1 hv2
      have hr' : roomy n.length = true := by simp [roomy] at hr ⊢; exact hr
      refine ⟨_, K, X ++ [.cells (n.flatMap g) e true], ?_, h.acc, hsz, hon, h.klen, h.old, h.kept, .inr ⟨hne, X.length, rfl, by simp⟩⟩
      simp only [aapp, hl, hx, if_neg hn0, hnf, hone, and_self, if_true, hr']
      simp [Nat.add_assoc]
    · subst hv1
      have hlf := flat_len h.acc.size
      have hrow : K[H0.length + o]? = some (.cells (l.flatMap g) e true) := by
        rw [hZ, List.getElem?_append_right (by omega), Nat.add_sub_cancel_left]; exact hv2
      have hlt : H0.length + o < K.length := (List.getElem?_eq_some_iff.1 hrow).1
      have hH : (K ++ (B ++ X))[H0.length + o]? = some (.cells (l.flatMap g) e true) := getElem?_keep hrow
      have hr' : roomy (l.length + n.length) = true := by simpa [roomy] using hr
      refine ⟨_, K.set (H0.length + o) .dead, X ++ [.cells ((l ++ n).flatMap g) e true], ?_, h.acc, hsz, hon, by simp, ?_, ?_, .inr ⟨hne, X.length, rfl, by simp⟩⟩
      · simp only [aapp, hl, hx, if_neg hn0, hnf, hone, and_self, if_true, hH, hr']
        simp [hlf, List.take_of_length_le, List.set_append_left _ _ hlt, h.klen, Nat.add_assoc]
      · obtain ⟨Y, hY⟩ := h.old
        refine ⟨Y.set o .dead, ?_⟩
        rw [hY, List.set_append_right _ _ (by omega), Nat.add_sub_cancel_left]
      · intro i
        rw [List.getElem?_set]
        split
        · rename_i hi; subst hi
          exact .inr rfl
        · exact h.kept i
  · subst h1
    have hlm := flat_len (g := g) (l := l ++ m) (sz := sz) (by intro a ha; rcases List.mem_append.1 ha with ha | ha; exact h.acc.size a ha; exact h.size a ha)
    have hlt : o < X.length := (List.getElem?_eq_some_iff.1 h2).1
    have hH : (K ++ (B ++ X))[Hn.length + B.length + o]? = some (.cells ((l ++ m).flatMap g) e true) := by
      rw [← h.klen, List.getElem?_append_right (by omega), Nat.add_assoc, Nat.add_sub_cancel_left, List.getElem?_append_right (by omega), Nat.add_sub_cancel_left]
      exact h2
    have hr' : roomy (l.length + m.length + n.length) = true := by simp [roomy]; omega
    have hcn : ((l ++ m).flatMap g).length = (l.length + m.length) * sz := by rw [hlm, List.length_append]
    refine ⟨_, K, X.set o .dead ++ [.cells ((l ++ (m ++ n)).flatMap g) e true], ?_, h.acc, hsz, hon, h.klen, h.old, h.kept, .inr ⟨hne, X.length, rfl, by simp⟩⟩
    have hset : (K ++ (B ++ X)).set (Hn.length + B.length + o) .dead = K ++ (B ++ X.set o .dead) := by
      rw [← h.klen, Nat.add_assoc, List.set_append_right _ _ (by omega), Nat.add_sub_cancel_left, List.set_append_right _ _ (by omega), Nat.add_sub_cancel_left]
    have ht : List.take ((l.length + m.length) * sz) ((l ++ m).flatMap g) = (l ++ m).flatMap g := List.take_of_length_le (by omega)
    have e3 : (l ++ (m ++ n)).flatMap g = (l ++ m).flatMap g ++ n.flatMap g := by simp
    simp only [aapp, hl, hx, if_neg hn0, hnf, hone, and_self, if_true, hH, hr', hset, hcn, e3, List.drop_zero, ht, Nat.zero_add, Nat.le_refl]
    simp only [List.length_append, h.klen, List.length_set, Nat.add_assoc, List.append_assoc]
theorem keepOld_kept (n : Nat) : ∀ (H K X : Heap), K.length = H.length → (∀ i : Nat, K[i]? = H[i]? ∨ K[i]? = some .dead) → keepOld n H (K ++ X) = true
  | [], K, X, hl, h => by simp [keepOld]
  | a :: H, [], X, hl, h => by simp at hl
  | a :: H, k :: K, X, hl, h => by
    have h0 := h 0
    simp only [List.getElem?_cons_zero, Option.some.injEq] at h0
    have ih := keepOld_kept n H K X (by simpa using hl) (fun i => by simpa using h (i + 1))
    rcases h0 with h0 | h0
    · subst h0; simp [keepOld, AO.same_refl, ih]
    · subst h0; simp [keepOld, AO.under, ih]
/-- Behind the call. -/
theorem Pushed.tidy {K X : Heap} (h : Pushed H0 Hn B e sz g v l K X v1 m) (hf : ∀ a ∈ l ++ m, (g a).all AV.flat = true) (hw : whole e = false := by decide) :
    ∃ v2 H2, tidy Hn v1 (K ++ (B ++ X)) = (v2, H2) ∧ Acc H0 H2 e sz g v2 (l ++ m) := by
  have hk := keepOld_kept Hn.length Hn K (B ++ X) h.klen h.kept
  have hsz : ∀ a ∈ l ++ m, (g a).length = sz := by intro a ha; rcases List.mem_append.1 ha with ha | ha; exact h.acc.size a ha; exact h.size a ha
  have hon : ∀ a ∈ l ++ m, (g a).all AV.one = true := by intro a ha; rcases List.mem_append.1 ha with ha | ha; exact h.acc.ones a ha; exact h.ones a ha
  rcases h.case with ⟨h1, h2, h3⟩ | ⟨h0, o, h1, h2⟩
  · subst h1 h2 h3
    obtain ⟨Z, hZ, hv⟩ := h.acc.heap
    refine ⟨v1, K, ?_, by rw [List.append_nil]; exact h.acc⟩
    rcases hv with ⟨hv1, hv2⟩ | ⟨hv0, o, hv1, hv2⟩
    · subst hv1 hv2
      simp [Den.tidy, hk, AV.carry]
    · subst hv1
      have hlt : H0.length + o < K.length := by
        have : o < Z.length := (List.getElem?_eq_some_iff.1 hv2).1
        rw [hZ, List.length_append]; omega
      simp [Den.tidy, hk, AV.carry, hlt]
  · subst h1
    obtain ⟨Y, hY⟩ := h.old
    have hH : (K ++ (B ++ X))[Hn.length + B.length + o]? = some (.cells ((l ++ m).flatMap g) e true) := by
      rw [← h.klen, List.getElem?_append_right (by omega), Nat.add_assoc, Nat.add_sub_cancel_left, List.getElem?_append_right (by omega), Nat.add_sub_cancel_left]
      exact h2
    have hfl : ((l ++ m).flatMap g).all AV.flat = true := by
      simp only [List.all_flatMap, List.all_eq_true] at hf ⊢
      exact hf
    have hlm := flat_len hsz
    rw [List.length_append] at hlm
    refine ⟨.sl Hn.length 0 (l.length + m.length) sz none, K ++ [.cells ((l ++ m).flatMap g) e true], ?_, hsz, hon, Y ++ [.cells ((l ++ m).flatMap g) e true], by rw [hY]; simp, .inr ⟨by simp [h0], Y.length, ?_, by simp⟩⟩
    · have hc : (AV.sl (Hn.length + B.length + o) 0 (l.length + m.length) sz none).carry Hn.length (K ++ (B ++ X)) ([], []) = some (.sl (Hn.length + 0) 0 (l.length + m.length) sz none, [Hn.length + B.length + o], [.cells ((l ++ m).flatMap g) e true]) := by
        simp only [AV.carry]
        rw [if_neg (by omega)]
        simp only [hH]
        have ht : List.take ((l.length + m.length) * sz) ((l ++ m).flatMap g) = (l ++ m).flatMap g := List.take_of_length_le (by omega)
        have hge : (l.length + m.length) * sz ≤ ((l ++ m).flatMap g).length := by omega
        simp only [List.drop_zero, ht, unders, leadss_flat hfl, Nat.zero_add, hge, hw, List.contains_nil, and_self, if_true, List.length_nil, List.nil_append]
      simp only [Den.tidy, hk, if_true, hc, Nat.add_zero]
      rw [List.take_append_of_le_length (by rw [h.klen]; exact Nat.le_refl _), List.take_of_length_le (by rw [h.klen]; exact Nat.le_refl _)]
    · rw [← h.klen, hY, List.length_append]
      simp
end
end Go.Den
