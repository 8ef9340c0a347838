/- Slices that are read, slices that grow. -/
import Derived.Test.YthfpndelfbeknaaDen29
set_option linter.unusedVariables false
set_option linter.unusedSimpArgs false
namespace Go.Den
/-- The place of a slice's cell p. -/
def cellAt (v : AV) (p : Nat) : AV :=
  match v with
  | .sl o off _ _ _ => .ptr o (off + p)
  | .vs c _ => .pv (c.drop p)
  | _ => .undef
/-- A slice whose elements are these (each of sz cells, as g says), in this heap. -/
structure SlOf {α : Type} (H : Heap) (sz : Nat) (g : α → List AV) (v : AV) (l : List α) : Prop where
  len : alen v = some l.length
  size : ∀ a ∈ l, (g a).length = sz
  pos : 0 < sz
  kind : (∃ o off cap row, v = .sl o off l.length sz cap ∧ arow H o = some row ∧ (row.drop off).take (l.length * sz) = l.flatMap g ∧ off + l.length * sz ≤ row.length) ∨ (∃ n, v = .vs (l.flatMap g) n) ∨ (v = .nils ∧ l = [])
theorem flat_len {α : Type} {sz : Nat} {g : α → List AV} : ∀ {l : List α}, (∀ a ∈ l, (g a).length = sz) → (l.flatMap g).length = l.length * sz
  | [], _ => by simp
  | a :: l, h => by
    rw [List.flatMap_cons, List.length_append, flat_len fun b hb => h b (List.mem_cons_of_mem a hb), h a (List.mem_cons_self ..), List.length_cons, Nat.succ_mul, Nat.add_comm]
theorem flat_at {α : Type} {sz : Nat} {g : α → List AV} : ∀ {l : List α} {i : Nat}, (∀ a ∈ l, (g a).length = sz) → (h : i < l.length) → ((l.flatMap g).drop (i * sz)).take sz = g l[i]
  | [], i, _, h => by simp at h
  | a :: l, 0, hs, h => by
    simp only [Nat.zero_mul, List.drop_zero, List.flatMap_cons, List.getElem_cons_zero]
    rw [List.take_append_of_le_length (by rw [hs a (List.mem_cons_self ..)]; exact Nat.le_refl _), List.take_of_length_le (by rw [hs a (List.mem_cons_self ..)]; exact Nat.le_refl _)]
  | a :: l, i + 1, hs, h => by
    simp only [List.flatMap_cons, List.getElem_cons_succ]
    rw [Nat.succ_mul, Nat.add_comm, ← List.drop_drop, List.drop_left' (hs a (List.mem_cons_self ..))]
    exact flat_at (fun b hb => hs b (List.mem_cons_of_mem a hb)) (by simpa using h)
theorem flat_fits {sz i n : Nat} (h : i < n) : i * sz + sz ≤ n * sz := by
  have := Nat.mul_le_mul_right sz (show i + 1 ≤ n by omega)
  rwa [Nat.succ_mul] at this
theorem arow_app {H X : Heap} {o : Nat} {row : List AV} (h : arow H o = some row) : arow (H ++ X) o = some row := by
  have ho : o < H.length := by
    by_cases ho : o < H.length
    · exact ho
    · rw [arow, List.getElem?_eq_none (by omega)] at h; cases h
  simp only [arow] at h ⊢
  rw [List.getElem?_append_left ho]
  exact h
theorem flat_take {sz i n off m : Nat} {row c : List AV} (h1 : (row.drop off).take (n * sz) = c) (h2 : i * sz + sz ≤ n * sz) (hm : m ≤ sz) (q : Nat) (hq : q + m ≤ sz) :
    (row.drop (off + (i * sz + q))).take m = (((c.drop (i * sz)).take sz).drop q).take m := by
  subst h1
  rw [List.drop_take, List.drop_drop, List.take_take, List.drop_take, List.drop_drop, List.take_take]
  congr 1
  omega
section
variable {α : Type} {H : Heap} {sz : Nat} {g : α → List AV} {v : AV} {l : List α}
theorem SlOf.app (h : SlOf H sz g v l) (X : Heap) : SlOf (H ++ X) sz g v l := ⟨h.len, h.size, h.pos, by
  rcases h.kind with ⟨o, off, cap, row, h1, h2, h3, h4⟩ | h1 | h1
  · exact .inl ⟨o, off, cap, row, h1, arow_app h2, h3, h4⟩
  · exact .inr (.inl h1)
  · exact .inr (.inr h1)⟩
theorem SlOf.lenOf (h : SlOf H sz g v l) (H' : Heap) : lenOf false v H' = some (.int .i64 l.length, H') := by
  rcases h.kind with ⟨o, off, cap, row, h1, h2, h3, h4⟩ | ⟨n, h1⟩ | ⟨h1, h2⟩
  · rw [h1]; rfl
  · have := h.len
    rw [h1, alen] at this
    injection this with this
    rw [h1, this]; rfl
  · rw [h1, h2]; rfl
theorem SlOf.addr (h : SlOf H sz g v l) {i : Nat} (hi : i < l.length) (k : IntKind) (H' : Heap) : iaddrOf sz v (.int k i) H' = some (cellAt v (i * sz), H') := by
  rcases h.kind with ⟨o, off, cap, row, h1, h2, h3, h4⟩ | ⟨n, h1⟩ | ⟨h1, h2⟩
  · rw [h1]; simp [iaddrOf, aint, cellAt, hi]
  · have := h.len
    rw [h1, alen] at this
    injection this with this
    rw [h1, this]; simp [iaddrOf, aint, cellAt, hi]
  · simp [h2] at hi
theorem SlOf.field (h : SlOf H sz g v l) (q p : Nat) (hv : p < l.length * sz) (H' : Heap) : faddrOf q (cellAt v p) H' = some (cellAt v (p + q), H') := by
  rcases h.kind with ⟨o, off, cap, row, h1, h2, h3, h4⟩ | ⟨n, h1⟩ | ⟨h1, h2⟩
  · rw [h1]; simp [faddrOf, cellAt, Nat.add_assoc]
  · rw [h1]; simp [faddrOf, cellAt, List.drop_drop]
  · simp [h2] at hv
theorem SlOf.some' (h : SlOf H sz g v l) {i : Nat} (hi : i < l.length) (q m : Nat) (hq : q + m ≤ sz) (X : Heap) : aload (H ++ X) m (cellAt v (i * sz + q)) = some (((g l[i]).drop q).take m) := by
  have hf := flat_fits (sz := sz) hi
  have hfl := flat_len h.size
  have ha := flat_at h.size hi
  rcases h.kind with ⟨o, off, cap, row, h1, h2, h3, h4⟩ | ⟨n, h1⟩ | ⟨h1, h2⟩
  · rw [h1]
    simp only [cellAt, aload, arow_app h2]
    rw [if_pos (by omega), flat_take h3 hf (by omega) q hq, ha]
  · rw [h1]
    simp only [cellAt, aload]
    rw [if_pos (by rw [List.length_drop, hfl]; omega)]
    rw [← ha, ← List.drop_drop]
    rw [List.drop_take, List.take_take, Nat.min_eq_left (by omega)]
  · simp [h2] at hi
theorem SlOf.load (h : SlOf H sz g v l) {i : Nat} (hi : i < l.length) (X : Heap) : aload (H ++ X) sz (cellAt v (i * sz)) = some (g l[i]) := by
  have := h.some' hi 0 sz (by omega) X
  simp only [Nat.add_zero, List.drop_zero] at this
  rw [this, List.take_of_length_le (by rw [h.size _ (List.getElem_mem hi)]; exact Nat.le_refl _)]
theorem SlOf.load0 (h : SlOf H sz g v l) {i : Nat} (hi : i < l.length) : aload H sz (cellAt v (i * sz)) = some (g l[i]) := by
  simpa using h.load hi []
/-- Rows behind a heap leave a slice be that is known in it. -/
theorem SlOf.kept (h : SlOf H sz g v l) (X Y : Heap) (p : Nat) : rowKept (cellAt v p) (H ++ X) (H ++ Y) = true ∧ rowKept v (H ++ X) (H ++ Y) = true := by
  rcases h.kind with ⟨o, off, cap, row, h1, h2, h3, h4⟩ | ⟨n, h1⟩ | ⟨h1, h2⟩
  · have ho : o < H.length := by
      by_cases ho : o < H.length
      · exact ho
      · rw [arow, List.getElem?_eq_none (by omega)] at h2; cases h2
    have hs : sameAt o (H ++ X) (H ++ Y) = true := by
      simp only [sameAt]
      rw [List.getElem?_append_left ho, List.getElem?_append_left ho]
      unfold optSame; cases H[o]? <;> simp [AO.same_refl]
    rw [h1]
    exact ⟨hs, hs⟩
  · rw [h1]; exact ⟨rfl, rfl⟩
  · rw [h1]; exact ⟨rfl, rfl⟩
theorem SlOf.nils (hp : 0 < sz) : SlOf H sz g .nils [] := ⟨rfl, by simp, hp, .inr (.inr ⟨rfl, rfl⟩)⟩
theorem SlOf.row {e : TypeId} {w : Bool} {cap : Option Nat} (hs : ∀ a ∈ l, (g a).length = sz) (hp : 0 < sz) : SlOf (H ++ [.cells (l.flatMap g) e w]) sz g (.sl H.length 0 l.length sz cap) l :=
  ⟨rfl, hs, hp, .inl ⟨H.length, 0, cap, l.flatMap g, rfl, arow_last, by
    rw [List.drop_zero, List.take_of_length_le (by rw [flat_len hs]; exact Nat.le_refl _)], by rw [flat_len hs]; omega⟩⟩
/-- A slice that grew from nothing, since heap H. -/
structure Acc {α : Type} (H H' : Heap) (e : TypeId) (sz : Nat) (g : α → List AV) (v : AV) (l : List α) : Prop where
  size : ∀ a ∈ l, (g a).length = sz
  ones : ∀ a ∈ l, (g a).all AV.one = true
  heap : ∃ X, H' = H ++ X ∧ (l = [] ∧ v = .nils ∨ l ≠ [] ∧ ∃ o, v = .sl (H.length + o) 0 l.length sz none ∧ X[o]? = some (.cells (l.flatMap g) e true))
end
section
variable {α : Type} {H H' : Heap} {e : TypeId} {sz : Nat} {g : α → List AV} {v : AV} {l : List α}
theorem Acc.start : Acc H H e sz g .nils [] := ⟨by simp, by simp, [], by simp, .inl ⟨rfl, rfl⟩⟩
theorem Acc.junk (h : Acc H H' e sz g v l) (Y : Heap) : Acc H (H' ++ Y) e sz g v l := by
  obtain ⟨X, rfl, hx⟩ := h.heap
  refine ⟨h.size, h.ones, X ++ Y, by simp, ?_⟩
  rcases hx with hx | ⟨h0, o, h1, h2⟩
  · exact .inl hx
  · refine .inr ⟨h0, o, h1, ?_⟩
    have : o < X.length := by
      by_cases ho : o < X.length
      · exact ho
      · rw [List.getElem?_eq_none (by omega)] at h2; cases h2
    rw [List.getElem?_append_left this]; exact h2
/-- One that leads to rows of the old heap and to this one only is set aside. -/
theorem Acc.above (h : Acc H H' e sz g v l) : ∃ X, H' = H ++ X := by obtain ⟨X, hx, _⟩ := h.heap; exact ⟨X, hx⟩
theorem Acc.push (h : Acc H H' e sz g v l) {m : List α} {x : AV} (hm : m ≠ []) (hms : ∀ a ∈ m, (g a).length = sz) (hmo : ∀ a ∈ m, (g a).all AV.one = true)
    (hl : alen x = some m.length) (hn : newOf H' sz x = some (m.flatMap g)) (hr : l.length + m.length ≤ 4294967296) :
    ∃ v' H'', aapp H' e sz v x = some (v', H'') ∧ Acc H H'' e sz g v' (l ++ m) := by
  obtain ⟨X, rfl, hx⟩ := h.heap
  have hm0 : m.length ≠ 0 := by simpa using hm
  have hmf := flat_len hms
  have hlf := flat_len h.size
  have hone : (m.flatMap g).all AV.one = true := by
    simp only [List.all_flatMap, List.all_eq_true] at hmo ⊢
    exact hmo
  have hsz : ∀ a ∈ l ++ m, (g a).length = sz := by intro a ha; rcases List.mem_append.1 ha with ha | ha; exact h.size a ha; exact hms a ha
  have hon : ∀ a ∈ l ++ m, (g a).all AV.one = true := by intro a ha; rcases List.mem_append.1 ha with ha | ha; exact h.ones a ha; exact hmo a ha
  have hne : l ++ m ≠ [] := by simp [hm]
  rcases hx with ⟨h1, h2⟩ | ⟨h0, o, h1, h2⟩
  · subst h1 h2
    refine ⟨_, _, ?_, hsz, hon, X ++ [.cells (m.flatMap g) e true], rfl, .inr ⟨hne, X.length, rfl, by simp⟩⟩
    have hr' : roomy m.length = true := by simpa [roomy] using hr
    simp only [aapp, hl, hn, if_neg hm0, hmf, hone, and_self, if_true, hr']
    simp
  · subst h1
    have ho : o < X.length := by
      by_cases ho : o < X.length
      · exact ho
      · rw [List.getElem?_eq_none (by omega)] at h2; cases h2
    have hH : (H ++ X)[H.length + o]? = some (.cells (l.flatMap g) e true) := by
      rw [List.getElem?_append_right (by omega), Nat.add_sub_cancel_left]; exact h2
    refine ⟨_, _, ?_, hsz, hon, X.set o .dead ++ [.cells ((l ++ m).flatMap g) e true], rfl, .inr ⟨hne, X.length, rfl, by simp⟩⟩
    have hr' : roomy (l.length + m.length) = true := by simpa [roomy] using hr
    simp only [aapp, hl, hn, if_neg hm0, hmf, hone, and_self, if_true, hH, hr']
    simp [hlf, List.take_of_length_le, List.set_append_right]
/-- What a slice that grew comes to behind the call. -/
def newSl (H : Heap) (e : TypeId) (sz : Nat) (g : α → List AV) (l : List α) : AV × Heap := if l = [] then (.nils, []) else (.sl H.length 0 l.length sz none, [.cells (l.flatMap g) e true])
theorem leadss_flat {p : Nat → Bool} : ∀ {l : List AV}, l.all AV.flat = true → leadss p l = true
  | [], _ => rfl
  | a :: l, h => by
    simp only [List.all_cons, Bool.and_eq_true] at h
    have : a.leads p = true := by
      have := h.1
      cases a <;> simp only [AV.flat, Bool.false_eq_true] at this <;> simp [AV.leads]
    simp [leadss, this, leadss_flat h.2]
theorem Acc.carry (h : Acc H H' e sz g v l) (hf : ∀ a ∈ l, (g a).all AV.flat = true) (hw : whole e = false := by decide) : ∃ m, v.carry H.length H' ([], []) = some ((newSl H e sz g l).1, m, (newSl H e sz g l).2) := by
  obtain ⟨X, rfl, hx⟩ := h.heap
  rcases hx with ⟨h1, h2⟩ | ⟨h0, o, h1, h2⟩
  · subst h1 h2; exact ⟨[], by simp [AV.carry, newSl]⟩
  · subst h1
    have hfl : (l.flatMap g).all AV.flat = true := by
      simp only [List.all_flatMap, List.all_eq_true] at hf ⊢
      exact hf
    have hH : (H ++ X)[H.length + o]? = some (.cells (l.flatMap g) e true) := by
      rw [List.getElem?_append_right (by omega), Nat.add_sub_cancel_left]; exact h2
    refine ⟨[H.length + o], ?_⟩
    simp only [AV.carry, hH, newSl, if_neg h0]
    rw [if_neg (by omega)]
    have hlf := flat_len h.size
    simp [List.take_of_length_le, hlf, unders, leadss_flat hfl, hw]
theorem Acc.tidy (h : Acc H H' e sz g v l) (hf : ∀ a ∈ l, (g a).all AV.flat = true) (hw : whole e = false := by decide) : tidy H v H' = ((newSl H e sz g l).1, H ++ (newSl H e sz g l).2) := by
  obtain ⟨m, hc⟩ := h.carry hf hw
  obtain ⟨X, rfl⟩ := h.above
  simp [Den.tidy, keepOld_append, hc]
theorem Acc.tidy2 (h : Acc H H' e sz g v l) (hf : ∀ a ∈ l, (g a).all AV.flat = true) {r : List AV} (hr : r.all AV.flat = true) (hw : whole e = false := by decide) : Den.tidy H (.tup (v :: r)) H' = (.tup ((newSl H e sz g l).1 :: r), H ++ (newSl H e sz g l).2) := by
  obtain ⟨m, hc⟩ := h.carry hf hw
  obtain ⟨X, rfl⟩ := h.above
  simp [Den.tidy, keepOld_append, AV.carry, carries, hc, carries_flat hr]
theorem newSl_of (hs : ∀ a ∈ l, (g a).length = sz) (hp : 0 < sz) : SlOf (H ++ (newSl H e sz g l).2) sz g (newSl H e sz g l).1 l := by
  unfold newSl
  split
  · rename_i hl; subst hl; exact SlOf.nils hp
  · exact SlOf.row hs hp
end
end Go.Den
