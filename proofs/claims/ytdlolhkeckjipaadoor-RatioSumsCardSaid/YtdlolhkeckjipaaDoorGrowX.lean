/- Slices of slices; parts of slices; slices that grow behind rows that change. -/
import Derived.Test.YtdlolhkeckjipaaDoorEnv
import Derived.Test.YtdlolhkeckjipaaDoorDen38
set_option linter.unusedVariables false
set_option linter.unusedSimpArgs false
set_option maxRecDepth 100000
set_option maxHeartbeats 1000000
namespace Go.Proofs.YtdlolhkeckjipaaDoor
open Go Go.Den
section
variable {α : Type} {H H' : Heap} {e : TypeId} {sz : Nat} {g : α → List AV} {v : AV} {l : List α}
theorem slof_cells (h : SlOf H sz g v l) (X : Heap) : acells (H ++ X) v = some (l.flatMap g) := by
  rcases h.kind with ⟨o, off, cap, row, h1, h2, h3, h4⟩ | ⟨n, h1⟩ | ⟨h1, h2⟩
  · subst h1
    simp only [acells, aload, arow_app h2, h3]
    rw [if_pos h4]
  · subst h1; rfl
  · subst h1 h2; rfl
theorem slof_new (h : SlOf H sz g v l) (X : Heap) : newOf (H ++ X) sz v = some (l.flatMap g) := by
  have := slof_cells h X
  rcases h.kind with ⟨o, off, cap, row, h1, h2, h3, h4⟩ | ⟨n, h1⟩ | ⟨h1, h2⟩ <;> subst h1 <;> exact this
/-- A part of a slice. -/
theorem slof_sub (h : SlOf H sz g v l) {i j : Nat} (hij : i ≤ j) (hj : j ≤ l.length) : ∃ w, (∀ H', slcOf sz v (some (some i)) (some (some j)) (some none) H' = some (w, H')) ∧ SlOf H sz g w ((l.drop i).take (j - i)) ∧
    (i = 0 → ∀ H', slcOf sz v (some none) (some (some j)) (some none) H' = some (w, H')) ∧ (j = l.length → ∀ H', slcOf sz v (some (some i)) (some none) (some none) H' = some (w, H')) := by
  have hlen := h.len
  have hsz := h.size
  have hfl := flat_len hsz
  have hdf : ∀ n (l : List α), (∀ a ∈ l, (g a).length = sz) → (l.flatMap g).drop (n * sz) = (l.drop n).flatMap g := by
    intro n l hs
    induction l generalizing n with
    | nil => simp
    | cons a l ih =>
      cases n with
      | zero => simp
      | succ n =>
        have h1 := hs a (by simp)
        rw [List.flatMap_cons, List.drop_append, h1, List.drop_of_length_le (by rw [h1, Nat.succ_mul]; omega), List.nil_append, List.drop_succ_cons, ← ih n fun b hb => hs b (by simp [hb]), Nat.succ_mul, Nat.add_sub_cancel]
  have htf : ∀ n (l : List α), (∀ a ∈ l, (g a).length = sz) → (l.flatMap g).take (n * sz) = (l.take n).flatMap g := by
    intro n l hs
    induction l generalizing n with
    | nil => simp
    | cons a l ih =>
      cases n with
      | zero => simp
      | succ n =>
        have h1 := hs a (by simp)
        rw [List.flatMap_cons, List.take_append, h1, List.take_of_length_le (by rw [h1, Nat.succ_mul]; omega), List.take_succ_cons, List.flatMap_cons, ← ih n fun b hb => hs b (by simp [hb]), Nat.succ_mul, Nat.add_sub_cancel]
  have hd : ∀ a ∈ l.drop i, (g a).length = sz := fun a ha => hsz a (List.mem_of_mem_drop ha)
  have hdt : ∀ a ∈ (l.drop i).take (j - i), (g a).length = sz := fun a ha => hd a (List.mem_of_mem_take ha)
  have hn : ((l.drop i).take (j - i)).length = j - i := by rw [List.length_take, List.length_drop]; omega
  have hcut : (((l.flatMap g).drop (i * sz)).take ((j - i) * sz)) = ((l.drop i).take (j - i)).flatMap g := by rw [hdf i l hsz, htf _ _ hd]
  rcases h.kind with ⟨o, off, cap, row, h1, h2, h3, h4⟩ | ⟨m, h1⟩ | ⟨h1, h2⟩
  · subst h1
    have hm : i * sz + (j - i) * sz ≤ l.length * sz := by rw [← Nat.add_mul]; exact Nat.mul_le_mul_right _ (by omega)
    refine ⟨.sl o (off + i * sz) (j - i) sz (cap.map (· - i)), fun H' => ?_, ⟨by rw [hn]; rfl, hdt, h.pos, .inl ⟨o, off + i * sz, cap.map (· - i), row, by rw [hn], h2, ?_, ?_⟩⟩, fun hi H' => ?_, fun hjl H' => ?_⟩
    · simp [slcOf, alen, acut, hij, hj]
    · rw [hn, ← hcut, ← h3, List.drop_take, List.drop_drop, List.take_take]
      congr 1
      omega
    · rw [hn]; omega
    · subst hi; simp [slcOf, alen, acut, hj]
    · subst hjl; simp [slcOf, alen, acut, hij]
  · subst h1
    simp only [alen, Option.some.injEq] at hlen
    subst hlen
    refine ⟨.vs (((l.flatMap g).drop (i * sz)).take ((j - i) * sz)) (j - i), fun H' => ?_, ⟨by rw [hn]; rfl, hdt, h.pos, .inr (.inl ⟨j - i, by rw [hcut]⟩)⟩, fun hi H' => ?_, fun hjl H' => ?_⟩
    · simp [slcOf, alen, acut, hij, hj]
    · subst hi; simp [slcOf, alen, acut, hj]
    · subst hjl; simp [slcOf, alen, acut, hij]
  · subst h1 h2
    have h0 : j = 0 := by simpa using hj
    have h1 : i = 0 := by omega
    subst h0 h1
    exact ⟨.nils, fun H' => by simp [slcOf, alen, acut], by simpa using h, fun _ H' => by simp [slcOf, alen, acut], fun _ H' => by simp [slcOf, alen, acut]⟩
/-- Slices, one behind the other, each of such elements. -/
def One1 (w : AV) : List AV := [w]
def LsOf (H : Heap) (sz : Nat) (g : α → List AV) (v : AV) (ls : List (List α)) : Prop :=
  ∃ vs, SlOf H 1 One1 v vs ∧ vs.length = ls.length ∧ ∀ i (h1 : i < vs.length) (h2 : i < ls.length), SlOf H sz g vs[i] ls[i]
theorem LsOf.app {ls : List (List α)} (h : LsOf H sz g v ls) (X : Heap) : LsOf (H ++ X) sz g v ls := by
  obtain ⟨vs, h1, h2, h3⟩ := h
  exact ⟨vs, h1.app X, h2, fun i a b => (h3 i a b).app X⟩
theorem LsOf.lenOf {ls : List (List α)} (h : LsOf H sz g v ls) (H' : Heap) : lenOf false v H' = some (.int .i64 ls.length, H') := by
  obtain ⟨vs, h1, h2, h3⟩ := h
  rw [h1.lenOf, h2]
theorem LsOf.at {ls : List (List α)} (h : LsOf H sz g v ls) {i : Nat} (hi : i < ls.length) :
    (∀ k H', iaddrOf 1 v (.int k (i : Int)) H' = some (cellAt v i, H')) ∧ ∃ w, (∀ X, aload (H ++ X) 1 (cellAt v i) = some [w]) ∧ SlOf H sz g w ls[i] := by
  obtain ⟨vs, h1, h2, h3⟩ := h
  have hi' : i < vs.length := by omega
  have a := fun k H' => h1.addr hi' k H'
  have b := fun X => h1.load hi' X
  simp only [Nat.mul_one] at a b
  exact ⟨a, vs[i], b, h3 i hi' hi⟩
/- A slice that grew behind rows that may change. -/
theorem acc_own (h : Acc H H' e sz g v l) : Own H' e sz g v l := by
  obtain ⟨X, rfl, hx⟩ := h.heap
  rcases hx with ⟨h1, h2⟩ | ⟨h0, o, h1, h2⟩
  · exact .inl ⟨h2, h1⟩
  · exact .inr ⟨H.length + o, h1, by rw [List.getElem?_append_right (by omega), Nat.add_sub_cancel_left]; exact h2⟩
theorem acc_kill {B X : Heap} (h : Acc (H ++ B) (H ++ (B ++ X)) e sz g v l) : ∃ X', X'.length = X.length ∧ kill v (H ++ (B ++ X)) = H ++ (B ++ X') := by
  obtain ⟨Y, hY, hx⟩ := h.heap
  have : X = Y := by rw [List.append_assoc] at hY; exact List.append_cancel_left (List.append_cancel_left hY)
  subst this
  rcases hx with ⟨h1, h2⟩ | ⟨h0, o, h1, h2⟩
  · subst h2; exact ⟨X, rfl, rfl⟩
  · subst h1
    refine ⟨X.set o .dead, by simp, ?_⟩
    simp only [kill]
    rw [List.length_append, List.set_append_right _ _ (by omega), show H.length + B.length + o - H.length = B.length + o by omega, List.set_append_right _ _ (by omega), Nat.add_sub_cancel_left]
theorem acc_base {B B' X : Heap} (h : Acc (H ++ B) (H ++ (B ++ X)) e sz g v l) (hb : B'.length = B.length) : Acc (H ++ B') (H ++ (B' ++ X)) e sz g v l := by
  obtain ⟨Y, hY, hx⟩ := h.heap
  have : X = Y := by rw [List.append_assoc] at hY; exact List.append_cancel_left (List.append_cancel_left hY)
  subst this
  refine ⟨h.size, h.ones, X, by simp, ?_⟩
  rcases hx with h1 | ⟨h0, o, h1, h2⟩
  · exact .inl h1
  · exact .inr ⟨h0, o, by rw [h1]; simp [hb], h2⟩
theorem acc_at {B Z : Heap} {o n p : Nat} (hg : Cel sz g) (hz : Z[o]? = some (.cells (l.flatMap g) e true)) (hl : l ≠ []) (hn : n = l.length) (hp : p = H.length + (B.length + o)) : Acc (H ++ B) (H ++ (B ++ Z)) e sz g (.sl p 0 n sz none) l := by
  subst hn hp
  exact ⟨fun a _ => hg.size a, fun a _ => hg.one a, Z, by simp, .inr ⟨hl, o, by simp [Nat.add_assoc], hz⟩⟩
/-- Behind a call: such a slice alone. -/
theorem acc_tidy1 {B H' : Heap} (h : Acc (H ++ B) H' e sz g v l) (hg : Cel sz g) (hw : whole e = false := by decide) :
    tidy H v H' = ((newSl H e sz g l).1, H ++ (newSl H e sz g l).2) := by
  obtain ⟨X, rfl, hx⟩ := h.heap
  rcases hx with ⟨h1, h2⟩ | ⟨h0, o, h1, h2⟩
  · subst h1 h2
    rw [List.append_assoc, tidy_flat rfl]
    simp [newSl]
  · subst h1
    have hfl : (l.flatMap g).all AV.flat = true := by
      simp only [List.all_flatMap, List.all_eq_true]
      exact fun a _ => by simpa using hg.flat a
    have hlf : (l.flatMap g).length = l.length * sz := flat_len fun a _ => hg.size a
    have := tidy_sl1 (H := H) (X := B ++ X) (k := B.length + o) (off := 0) (len := l.length) (sz := sz) (cap := none) (l := l.flatMap g) (e := e) (w := true) (by rw [List.getElem?_append_right (by omega), Nat.add_sub_cancel_left]; exact h2) hfl (by omega) ⟨hw, rfl⟩
    rw [List.append_assoc, List.length_append, Nat.add_assoc, this]
    simp only [newSl, if_neg h0, List.drop_zero]
    rw [List.take_of_length_le (by omega)]
end
theorem shun_un {made : List (Nat × Nat × Nat)} {v : AV} {new : Heap} : shun [] made v new = true := by simp [shun]
theorem veil_un : ∀ {made : List (Nat × Nat × Nat)} {H : Heap}, veil [] made H = H
  | [], H => rfl
  | p :: r, H => by simp only [veil, List.contains_nil, Bool.false_eq_true, if_false]; exact veil_un
end Go.Proofs.YtdlolhkeckjipaaDoor
