/- Slices in rows whose type is known; what a call comes to, told by a condition. -/
import Derived.Test.YtdlolhkeckjipaaDoorGrowX
import Derived.Test.YtdlolhkeckjipaaDoorLeftX
set_option linter.unusedVariables false
set_option linter.unusedSimpArgs false
set_option maxRecDepth 100000
set_option maxHeartbeats 2000000
namespace Go.Proofs.YtdlolhkeckjipaaDoor
open Go Go.Den
/-- Rows of this type stay as they are. -/
def Kept (e : TypeId) (K K' : Heap) : Prop := ∀ (o : Nat) (row : List AV) (w : Bool), K[o]? = some (AO.cells row e w) → ∃ w', K'[o]? = some (AO.cells row e w')
theorem Kept.refl {e : TypeId} (K : Heap) : Kept e K K := fun o row w h => ⟨w, h⟩
theorem Kept.trans {e : TypeId} {A B C : Heap} (h : Kept e A B) (h' : Kept e B C) : Kept e A C := fun o row w q => by
  obtain ⟨w', q⟩ := h o row w q
  exact h' o row w' q
theorem Kept.more {e : TypeId} (K X : Heap) : Kept e K (K ++ X) := fun o row w h => ⟨w, getElem?_keep h⟩
theorem Kept.nil {e : TypeId} (X : Heap) : Kept e [] X := fun o row w h => by simp at h
theorem Kept.same {e : TypeId} {a : AO} {T T' : Heap} (h : Kept e T T') : Kept e (a :: T) (a :: T') := fun o row w q => by
  cases o with
  | zero => exact ⟨w, q⟩
  | succ o => exact h o row w q
theorem Kept.box {e f : TypeId} {a : AO} {c : List AV} {w : Bool} {T T' : Heap} (hf : f ≠ e) (h : Kept e T T') : Kept e (.cells c f w :: T) (a :: T') := fun o row w q => by
  cases o with
  | zero => simp at q; exact absurd q.2.1 hf
  | succ o => exact h o row w q
theorem Kept.dead {e : TypeId} {a : AO} {T T' : Heap} (h : Kept e T T') : Kept e (.dead :: T) (a :: T') := fun o row w q => by
  cases o with
  | zero => simp at q
  | succ o => exact h o row w q
theorem Kept.on {e : TypeId} {H B B' : Heap} (h : Kept e B B') : Kept e (H ++ B) (H ++ B') := fun o row w q => by
  by_cases ho : o < H.length
  · rw [List.getElem?_append_left ho] at q ⊢; exact ⟨w, q⟩
  · rw [List.getElem?_append_right (by omega)] at q ⊢; exact h _ row w q
/-- A slice with such elements, in a row of this type. -/
structure TOf {α : Type} (H : Heap) (e : TypeId) (sz : Nat) (g : α → List AV) (v : AV) (l : List α) : Prop where
  of : SlOf H sz g v l
  row : ∀ o off len s cap, v = .sl o off len s cap → ∃ row w, H[o]? = some (AO.cells row e w)
section
variable {α : Type} {H K : Heap} {e : TypeId} {sz : Nat} {g : α → List AV} {v : AV} {l : List α}
theorem TOf.kept (h : TOf H e sz g v l) (k : Kept e H K) : TOf K e sz g v l := by
  refine ⟨⟨h.of.len, h.of.size, h.of.pos, ?_⟩, fun o off len s cap hv => ?_⟩
  · rcases h.of.kind with ⟨o, off, cap, row, h1, h2, h3, h4⟩ | h1 | h1
    · obtain ⟨row', w, hr⟩ := h.row _ _ _ _ _ h1
      have : row' = row := by simpa [arow, hr] using h2
      subst this
      obtain ⟨w', hk⟩ := k _ _ _ hr
      exact .inl ⟨o, off, cap, row', h1, by simp [arow, hk], h3, h4⟩
    · exact .inr (.inl h1)
    · exact .inr (.inr h1)
  · obtain ⟨row, w, hr⟩ := h.row _ _ _ _ _ hv
    obtain ⟨w', hk⟩ := k _ _ _ hr
    exact ⟨row, w', hk⟩
theorem TOf.app (h : TOf H e sz g v l) (X : Heap) : TOf (H ++ X) e sz g v l := h.kept (.more H X)
theorem TOf.nils (hp : 0 < sz) : TOf H e sz g .nils [] := ⟨SlOf.nils hp, fun o off len s cap h => by cases h⟩
theorem TOf.vs {n : Nat} {c : List AV} (h : SlOf H sz g (.vs c n) l) : TOf K e sz g (.vs c n) l := by
  refine ⟨⟨h.len, h.size, h.pos, ?_⟩, fun o off len s cap h => by cases h⟩
  rcases h.kind with ⟨o, off, cap, row, h1, h2, h3, h4⟩ | h1 | h1
  · cases h1
  · exact .inr (.inl h1)
  · exact .inr (.inr h1)
theorem TOf.new {cap : Option Nat} {w : Bool} (hs : ∀ a ∈ l, (g a).length = sz) (hp : 0 < sz) : TOf (H ++ [.cells (l.flatMap g) e w]) e sz g (.sl H.length 0 l.length sz cap) l :=
  ⟨SlOf.row hs hp, fun o off len s cap h => by
    injection h with h
    subst h
    exact ⟨l.flatMap g, w, by simp⟩⟩
/-- A part of it. -/
theorem TOf.sub (h : TOf H e sz g v l) {i j : Nat} (hij : i ≤ j) (hj : j ≤ l.length) : ∃ w, (∀ H', slcOf sz v (some (some i)) (some (some j)) (some none) H' = some (w, H')) ∧ TOf H e sz g w ((l.drop i).take (j - i)) ∧
    (i = 0 → ∀ H', slcOf sz v (some none) (some (some j)) (some none) H' = some (w, H')) ∧ (j = l.length → ∀ H', slcOf sz v (some (some i)) (some none) (some none) H' = some (w, H')) := by
  obtain ⟨w, h1, h2, h3, h4⟩ := slof_sub h.of hij hj
  refine ⟨w, h1, ⟨h2, fun o off len s cap hw => ?_⟩, h3, h4⟩
  subst hw
  have := h1 []
  rcases h.of.kind with ⟨o', off', cap', row', q1, _⟩ | ⟨m, q1⟩ | ⟨q1, _⟩
  · subst q1
    obtain ⟨row, w, hr⟩ := h.row _ _ _ _ _ rfl
    simp only [slcOf, alen, acut, bind_on, Option.getD_some] at this
    split at this
    · simp only [map_on, Option.some.injEq, Prod.mk.injEq, AV.sl.injEq, and_true] at this
      obtain ⟨rfl, _⟩ := this
      exact ⟨row, w, hr⟩
    · cases this
  · subst q1
    simp only [slcOf, alen, acut, bind_on, Option.getD_some] at this
    split at this <;> simp at this
  · subst q1
    simp only [slcOf, alen, acut, bind_on, Option.getD_some] at this
    split at this <;> simp at this
end
/-- A place in a value, beside what leads to no row. -/
inductive Cx : (AV → AV) → Prop where
  | here : Cx fun v => v
  | agg {f : AV → AV} (a b : List AV) : a.all AV.still = true → b.all AV.still = true → Cx f → Cx fun v => .agg (a ++ f v :: b)
  | tup {f : AV → AV} (a b : List AV) : a.all AV.still = true → b.all AV.still = true → Cx f → Cx fun v => .tup (a ++ f v :: b)
theorem carries_app {n : Nat} {H1 : Heap} : ∀ {a b : List AV} {m : Moved}, a.all AV.still = true → carries n H1 m (a ++ b) = (carries n H1 m b).map fun r => (a ++ r.1, r.2)
  | [], b, m, _ => by simp
  | x :: a, b, m, h => by
    simp only [List.all_cons, Bool.and_eq_true] at h
    rw [List.cons_append, carries_cons, carry_still h.1]
    simp only [bind_on]
    rw [carries_app h.2]
    simp [Option.map_map, Function.comp_def]
theorem cx_carry {f : AV → AV} (c : Cx f) {n : Nat} {H1 : Heap} {m : Moved} {v : AV} : (f v).carry n H1 m = (v.carry n H1 m).map fun r => (f r.1, r.2) := by
  induction c with
  | here => simp
  | agg a b ha hb c ih =>
    simp only [AV.carry]
    rw [carries_app ha, carries_cons, ih]
    cases v.carry n H1 m with
    | none => simp
    | some r => simp [carries_still hb]
  | tup a b ha hb c ih =>
    rw [carry_tup, carries_app ha, carries_cons, ih]
    cases v.carry n H1 m with
    | none => simp
    | some r => simp [carries_still hb]
section
variable {α : Type} {H X : Heap} {e : TypeId} {sz : Nat} {g : α → List AV} {v : AV} {l : List α}
/-- Behind a call: where such a slice goes. -/
theorem t_carry (h : TOf (H ++ X) e sz g v l) (m : Moved) (A : Heap) (hm : m.2.length = A.length) : v.carry H.length (H ++ X) m = none ∨ ∃ v' ks Y, v.carry H.length (H ++ X) m = some (v', (m.1 ++ ks, m.2 ++ Y)) ∧ ∀ Z, TOf (H ++ (A ++ (Y ++ Z))) e sz g v' l := by
  rcases h.of.kind with ⟨o, off, cap, row, rfl, h2, h3, h4⟩ | ⟨n, rfl⟩ | ⟨rfl, rfl⟩
  · obtain ⟨row', w, hr⟩ := h.row _ _ _ _ _ rfl
    have : row' = row := by simpa [arow, hr] using h2
    subst this
    simp only [AV.carry]
    by_cases ho : o < H.length
    · rw [if_pos ho]
      refine .inr ⟨.sl o off l.length sz cap, [], [], by simp, fun Z => ?_⟩
      rw [List.getElem?_append_left ho] at hr
      have hr' : ∀ Z, (H ++ Z)[o]? = some (.cells row' e w) := fun Z => getElem?_keep hr
      refine ⟨⟨h.of.len, h.of.size, h.of.pos, .inl ⟨o, off, cap, row', rfl, by simp only [arow, hr'], h3, h4⟩⟩, fun o1 off1 len1 s1 cap1 hv => ?_⟩
      injection hv with hv
      subst hv
      exact ⟨_, _, hr' _⟩
    · rw [if_neg ho]
      simp only [hr]
      split
      · refine .inr ⟨_, [o], [.cells ((row'.drop off).take (l.length * sz)) e w], rfl, fun Z => ?_⟩
        have hget : (H ++ (A ++ ([AO.cells ((row'.drop off).take (l.length * sz)) e w] ++ Z)))[H.length + m.2.length]? = some (.cells ((row'.drop off).take (l.length * sz)) e w) := by
          rw [hm, List.getElem?_append_right (by omega), Nat.add_sub_cancel_left, List.getElem?_append_right (by omega)]
          simp
        have hl : ((row'.drop off).take (l.length * sz)).length = l.length * sz := by rw [List.length_take, List.length_drop]; omega
        refine ⟨⟨rfl, h.of.size, h.of.pos, .inl ⟨_, 0, cap, (row'.drop off).take (l.length * sz), rfl, by simp only [arow, hget], ?_, ?_⟩⟩, fun o1 off1 len1 s1 cap1 hv => ?_⟩
        · rw [List.drop_zero, List.take_of_length_le (by omega), h3]
        · omega
        · injection hv with hv
          subst hv
          exact ⟨_, _, hget⟩
      · exact .inl rfl
  · exact .inr ⟨.vs (l.flatMap g) n, [], [], by simp [AV.carry], fun Z => TOf.vs h.of⟩
  · exact .inr ⟨.nils, [], [], by simp [AV.carry], fun Z => TOf.nils h.of.pos⟩
theorem t_tidy {f : AV → AV} (c : Cx f) (h : TOf (H ++ X) e sz g v l) : ∃ v' X', tidy H (f v) (H ++ X) = (f v', H ++ X') ∧ TOf (H ++ X') e sz g v' l := by
  simp only [tidy, keepOld_append, if_true, cx_carry c]
  rcases t_carry h ([], []) [] rfl with h1 | ⟨v', ks, Y, h1, h2⟩
  · rw [h1]; exact ⟨v, X, rfl, h⟩
  · rw [h1]
    refine ⟨v', Y, ?_, by have := h2 []; simpa using this⟩
    simp
/-- Two such slices. -/
theorem t_tidy2 {β : Type} {e2 : TypeId} {sz2 : Nat} {g2 : β → List AV} {v2 : AV} {l2 : List β} {f f2 : AV → AV} (c : Cx f) (c2 : Cx f2) {r : List AV} (hr : r.all AV.still = true) (h : TOf (H ++ X) e sz g v l) (h2 : TOf (H ++ X) e2 sz2 g2 v2 l2) :
    ∃ v' v2' X', tidy H (.tup (f v :: f2 v2 :: r)) (H ++ X) = (.tup (f v' :: f2 v2' :: r), H ++ X') ∧ TOf (H ++ X') e sz g v' l ∧ TOf (H ++ X') e2 sz2 g2 v2' l2 := by
  simp only [tidy, keepOld_append, if_true, carry_tup, carries_cons, cx_carry c, cx_carry c2, carries_still hr]
  rcases t_carry h ([], []) [] rfl with q1 | ⟨v', ks, Y, q1, q2⟩
  · rw [q1]; exact ⟨v, v2, X, rfl, h, h2⟩
  · rw [q1]
    simp only [List.nil_append, Option.map_some, Option.bind_some]
    rcases t_carry h2 (ks, Y) Y rfl with u1 | ⟨v2', ks2, Y2, u1, u2⟩
    · rw [u1]; exact ⟨v, v2, X, rfl, h, h2⟩
    · rw [u1]
      refine ⟨v', v2', Y ++ Y2, ?_, ?_, ?_⟩
      · simp
      · have := q2 Y2; simpa using this
      · have := u2 []; simpa using this
end
/-- A call whose end is told by a condition. -/
def Comes (x : Option (AV × Heap)) (W : AV → Heap → Prop) : Prop := ∃ v H, x = some (v, H) ∧ W v H
theorem comes_call {e : Env} {f : Nat} {args : List AV} {H : Heap} {W : AV → Heap → Prop} {fn : SFn} (hI : e.isI f = false) (hf : e.E f = some fn) (hl : args.length ≤ fn.ntmps)
    (h : Den.Ends (call e) fn.body (tm (Den.blank fn.ntmps) (idx 0 args)) H (LeftE H fn.results fun r => W r.1 r.2)) : Comes (call e f args H) W := by
  obtain ⟨⟨x, t, H1⟩, h1, r, h2, h3⟩ := h
  exact ⟨r.1, r.2, call_ends hI hf hl ⟨⟨x, t, H1⟩, h1, h2⟩, h3⟩
theorem Comes.mono {x : Option (AV × Heap)} {W W' : AV → Heap → Prop} (h : Comes x W) (k : ∀ v H, W v H → W' v H) : Comes x W' := by
  obtain ⟨v, H, h1, h2⟩ := h
  exact ⟨v, H, h1, k _ _ h2⟩
section
variable {cl : CL} {x : Option (AV × Heap)} {W : AV → Heap → Prop} {d : Option Nat} {r : List SOp} {t : List AV} {H : Heap} {Q : AX → List AV → Heap → Prop}
theorem gets_comes (h : Comes x W) (k : ∀ v H1, W v H1 → Gets (ops cl r (put t d v) H1) Q) : Gets (thenOps cl x d r t) Q := by
  obtain ⟨v, H1, rfl, hw⟩ := h
  exact k v H1 hw
theorem gets_comesAll {i : Nat} {m : List (Nat × Nat × Nat)} (h : Comes x W) (hl : ∀ v H1, W v H1 → H.length ≤ H1.length) (k : ∀ v H1, W v H1 → Gets (opsd cl (i + 1) (addMade m i H.length H1.length) r (put t d v) H1) Q) : Gets (thenAll cl i m x d r t H) Q := by
  obtain ⟨v, H1, rfl, hw⟩ := h
  rw [thenAll_some, if_pos (hl v H1 hw)]
  exact k v H1 hw
theorem gets_comesA {i : Nat} {m : List (Nat × Nat × Nat)} {l : List (Option (Nat × Bool) × SX)} (h : Comes x W) (hl : ∀ v H1, W v H1 → H.length ≤ H1.length) (ha : ∀ v H1, W v H1 → apartAll t H H1 l = true) (k : ∀ v H1, W v H1 → Gets (opsd cl (i + 1) (addMade m i H.length H1.length) r (put t d v) H1) Q) : Gets (thenAllA cl i m l x d r t H) Q := by
  obtain ⟨v, H1, rfl, hw⟩ := h
  rw [thenAllA_some, if_pos ⟨hl v H1 hw, ha v H1 hw⟩]
  exact k v H1 hw
end
end Go.Proofs.YtdlolhkeckjipaaDoor
