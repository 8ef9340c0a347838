/- Chapter 30: slices that grow behind a reader and a box. -/
import Derived.Test.YtppkggodpihfiaaC30k
set_option linter.unusedVariables false
set_option linter.unusedSimpArgs false
set_option maxRecDepth 100000
set_option maxHeartbeats 2000000
namespace Go.Proofs.Ytppkggodpihfiaa
open Go Go.Den
/-- A slice that nobody else holds, in rows behind M others. -/
def OwnZ {α : Type} (M : Nat) (Z : Heap) (e : TypeId) (sz : Nat) (g : α → List AV) (v : AV) (l : List α) : Prop :=
  (v = .nils ∧ l = []) ∨ ∃ k, v = .sl (M + k) 0 l.length sz none ∧ Z[k]? = some (.cells (l.flatMap g) e true)
section
variable {α : Type} {M : Nat} {Z K T : Heap} {e : TypeId} {sz : Nat} {g : α → List AV} {v : AV} {l : List α}
theorem OwnZ.nils : OwnZ M Z e sz g .nils ([] : List α) := .inl ⟨rfl, rfl⟩
theorem OwnZ.app (h : OwnZ M Z e sz g v l) (Y : Heap) : OwnZ M (Z ++ Y) e sz g v l := by
  rcases h with h | ⟨k, h1, h2⟩
  · exact .inl h
  · exact .inr ⟨k, h1, getElem?_keep h2⟩
theorem OwnZ.down (h : OwnZ (M + K.length) Z e sz g v l) : OwnZ M (K ++ Z) e sz g v l := by
  rcases h with h | ⟨k, h1, h2⟩
  · exact .inl h
  · exact .inr ⟨K.length + k, by rw [h1, Nat.add_assoc], by rw [List.getElem?_append_right (by omega), Nat.add_sub_cancel_left]; exact h2⟩
theorem ownz_own (h : OwnZ M Z e sz g v l) (hK : K.length = M) : Own (K ++ Z) e sz g v l := by
  rcases h with h | ⟨k, h1, h2⟩
  · exact .inl h
  · exact .inr ⟨M + k, h1, by rw [List.getElem?_append_right (by omega), hK, Nat.add_sub_cancel_left]; exact h2⟩
/-- One more element. -/
theorem ownz_push (hg : Cel sz g) (h : OwnZ M Z e sz g v l) (hl : l.length ≤ 1000000) (T : Heap) (m : α) {p q : Nat} (hp : p = M + (Z.length + T.length)) (hq : q = p + 1) :
    ∃ Z', Z'.length = Z.length ∧ (∀ K : Heap, K.length = M → aapp (K ++ (Z ++ (T ++ [.cells (g m) e true]))) e sz v (.sl p 0 1 sz (some 1)) = some (.sl q 0 (l ++ [m]).length sz none, K ++ (Z' ++ (T ++ [.cells (g m) e true, .cells ((l ++ [m]).flatMap g) e true])))) ∧
      OwnZ M (Z' ++ (T ++ [.cells (g m) e true, .cells ((l ++ [m]).flatMap g) e true])) e sz g (.sl q 0 (l ++ [m]).length sz none) (l ++ [m]) ∧
      ∀ {β : Type} {e' : TypeId} {sz' : Nat} {g' : β → List AV} {v' : AV} {l' : List β}, e' ≠ e → OwnZ M Z e' sz' g' v' l' → ∀ Y, OwnZ M (Z' ++ Y) e' sz' g' v' l' := by
  obtain ⟨Z', hZ, hk, hoth⟩ : ∃ Z', Z'.length = Z.length ∧ (∀ K : Heap, K.length = M → kill v (K ++ Z) = K ++ Z') ∧
      ∀ {β : Type} {e' : TypeId} {sz' : Nat} {g' : β → List AV} {v' : AV} {l' : List β}, e' ≠ e → OwnZ M Z e' sz' g' v' l' → OwnZ M Z' e' sz' g' v' l' := by
    rcases h with ⟨rfl, rfl⟩ | ⟨k, rfl, h2⟩
    · exact ⟨Z, rfl, fun K hK => rfl, fun _ h => h⟩
    · refine ⟨Z.set k .dead, by simp, fun K hK => ?_, fun he h' => ?_⟩
      · show (K ++ Z).set (M + k) .dead = _
        rw [List.set_append_right _ _ (by omega), hK, Nat.add_sub_cancel_left]
      · rcases h' with h' | ⟨k', h3, h4⟩
        · exact .inl h'
        · refine .inr ⟨k', h3, ?_⟩
          rw [List.getElem?_set]
          split
          · rename_i hkk
            subst hkk
            rw [h2] at h4
            injection h4 with h4
            injection h4 with _ h4
            exact absurd h4.symm he
          · exact h4
  have hZ' := hZ
  refine ⟨Z', hZ, fun K hK => ?_, ?_, fun he h' Y => (hoth he h').app Y⟩
  · have := own_app (H := K ++ Z) (B := T ++ [.cells (g m) e true]) (m := [m]) (x := .sl p 0 1 sz (some 1)) hg (ownz_own h hK) (by simp) rfl (by
      have h := hg.size m
      have hp' : p = K.length + (Z.length + T.length) := by omega
      subst hp'
      simp [newOf, acells, aload, arow, h, List.take_of_length_le, List.getElem?_append_right]) (by simp; omega)
    rw [hk K hK] at this
    have h2 : (K ++ Z).length + (T ++ [AO.cells (g m) e true]).length = q := by simp; omega
    rw [h2] at this
    simpa only [List.append_assoc, List.cons_append, List.nil_append, List.length_append, List.length_cons, List.length_nil, Nat.zero_add] using this
  · refine .inr ⟨Z.length + (T.length + 1), by rw [show M + (Z.length + (T.length + 1)) = q by omega], ?_⟩
    rw [List.getElem?_append_right (by omega), hZ, Nat.add_sub_cancel_left, List.getElem?_append_right (by omega), Nat.add_sub_cancel_left]
    rfl
end
/-- Heaps of one length: what lies behind them. -/
theorem fam4 {K : Nat → AV → AV → AV → Heap} {N : Nat} (h : ∀ a b c d, (K a b c d).length = N) :
    (∀ a b c d n o off X, aload (K a b c d ++ X) n (.ptr (N + o) off) = aload X n (.ptr o off)) ∧ (∀ a b c d n off X, aload (K a b c d ++ X) n (.ptr N off) = aload X n (.ptr 0 off)) ∧
    (∀ a b c d x o off X, astore (K a b c d ++ X) (.ptr (N + o) off) x = (astore X (.ptr o off) x).map (K a b c d ++ ·)) ∧ (∀ a b c d x off X, astore (K a b c d ++ X) (.ptr N off) x = (astore X (.ptr 0 off) x).map (K a b c d ++ ·)) ∧
    (∀ a b c d k X, (K a b c d ++ X).drop (N + k) = X.drop k) ∧ (∀ a b c d X, (K a b c d ++ X).drop N = X) ∧ (∀ a b c d k X, (K a b c d ++ X).take (N + k) = K a b c d ++ X.take k) ∧
    (∀ a b c d a' b' c' d' o X Y, sameAt (N + o) (K a b c d ++ X) (K a' b' c' d' ++ Y) = sameAt o X Y) ∧ (∀ a b c d a' b' c' d' X Y, sameAt N (K a b c d ++ X) (K a' b' c' d' ++ Y) = sameAt 0 X Y) ∧ (∀ a b c d, (K a b c d).length = N) := by
  have f := fun a b c d => fam (B := fun _ : Unit => K a b c d) (fun _ => h a b c d)
  refine ⟨fun a b c d => (f a b c d).1 (), fun a b c d => (f a b c d).2.1 (), fun a b c d => (f a b c d).2.2.1 (), fun a b c d => (f a b c d).2.2.2.1 (), fun a b c d => (f a b c d).2.2.2.2.1 (), fun a b c d => (f a b c d).2.2.2.2.2.1 (), fun a b c d => (f a b c d).2.2.2.2.2.2.1 (),
    fun a b c d a' b' c' d' o X Y => ?_, fun a b c d a' b' c' d' X Y => ?_, h⟩
  · rw [← h a b c d]; exact sameAt_endK (by rw [h, h])
  · rw [← h a b c d]; exact sameAt_endK0 (by rw [h, h])
/-- A reader, and the box of an atlas whose slices grow. -/
structure Grw (e : TypeId) (K : Nat → AV → AV → AV → Heap) (o N M : Nat) (p : List UInt8) (a : Atl) : Prop where
  rd : ∀ vg vp vs, RdrE e (fun q => K q vg vp vs) o p M
  box : ∀ q vg vp vs, (K q vg vp vs)[N]? = some (.cells (a.cs vg vp vs) 53 true)
  set : ∀ q vg vp vs vg' vp' vs', (K q vg vp vs).set N (.cells (a.cs vg' vp' vs') 53 true) = K q vg' vp' vs'
section
variable {e : TypeId} {K : Nat → AV → AV → AV → Heap} {o N M : Nat} {p : List UInt8} {a : Atl}
theorem Grw.len (h : Grw e K o N M p a) (q : Nat) (vg vp vs : AV) : (K q vg vp vs).length = M := (h.rd vg vp vs).len q
theorem Grw.lt (h : Grw e K o N M p a) : N < M := by
  have := (List.getElem?_eq_some_iff.1 (h.box 0 .nils .nils .nils)).1
  rwa [h.len] at this
theorem Grw.app (h : Grw e K o N M p a) (X : Heap) : Grw e (fun q vg vp vs => K q vg vp vs ++ X) o N (M + X.length) p a := by
  have hl := h.lt
  refine ⟨fun vg vp vs => (h.rd vg vp vs).app X, fun q vg vp vs => getElem?_keep (h.box q vg vp vs), fun q vg vp vs vg' vp' vs' => ?_⟩
  show (K q vg vp vs ++ X).set N _ = K q vg' vp' vs' ++ X
  rw [List.set_append_left _ _ (by rw [h.len]; exact hl), h.set]
theorem Grw.load (h : Grw e K o N M p a) (q : Nat) (vg vp vs : AV) (n off : Nat) (X : Heap) (ho : off + n ≤ 11) : aload (K q vg vp vs ++ X) n (.ptr N off) = some (((a.cs vg vp vs).drop off).take n) := by
  rw [aload_row (getElem?_keep (h.box q vg vp vs)), if_pos (by simpa [Atl.cs] using ho)]
theorem Grw.same (h : Grw e K o N M p a) (q q' : Nat) (vg vp vs : AV) (X Y : Heap) : sameAt N (K q vg vp vs ++ X) (K q' vg vp vs ++ Y) = true := by
  simp only [sameAt, getElem?_keep (h.box q vg vp vs), getElem?_keep (h.box q' vg vp vs), optSame, AO.same_refl]
theorem Grw.store (h : Grw e K o N M p a) (q : Nat) (vg vp vs : AV) (X : Heap) (n k sz : Nat) :
    astore (K q vg vp vs ++ X) (.ptr N 8) [.sl n 0 k sz none] = some (K q (.sl n 0 k sz none) vp vs ++ X) ∧
    astore (K q vg vp vs ++ X) (.ptr N 9) [.sl n 0 k sz none] = some (K q vg (.sl n 0 k sz none) vs ++ X) ∧
    astore (K q vg vp vs ++ X) (.ptr N 10) [.sl n 0 k sz none] = some (K q vg vp (.sl n 0 k sz none) ++ X) := by
  have hl : N < (K q vg vp vs).length := by rw [h.len]; exact h.lt
  refine ⟨?_, ?_, ?_⟩
  all_goals
    rw [astore_row (getElem?_keep (h.box q vg vp vs)), if_pos (by simp [Atl.cs, AV.one]), List.set_append_left _ _ hl]
    simp only [Atl.cs, splice, List.take_succ_cons, List.take_zero, List.cons_append, List.nil_append, List.length_cons, List.length_nil, Nat.reduceAdd, List.drop_succ_cons, List.drop_zero]
  · exact congrArg (fun x => some (x ++ X)) (h.set q vg vp vs (.sl n 0 k sz none) vp vs)
  · exact congrArg (fun x => some (x ++ X)) (h.set q vg vp vs vg (.sl n 0 k sz none) vs)
  · exact congrArg (fun x => some (x ++ X)) (h.set q vg vp vs vg vp (.sl n 0 k sz none))
end
/-- An entry, a pair, a page at a place. -/
def entAt (p : List UInt8) (a : Nat) : Ent := ⟨(n2 p a : Nat), ⟨sg32 (n4 p (a + 2)), sg32 (n4 p (a + 6)), (n2 p (a + 10) : Nat), (n2 p (a + 12) : Nat)⟩, (n2 p (a + 14) : Nat), (n2 p (a + 16) : Nat), (n2 p (a + 18) : Nat)⟩
def prAt (p : List UInt8) (a : Nat) : Pr := ⟨sg32 (n4 p a), (n2 p (a + 4) : Nat)⟩
def entsP (p : List UInt8) (n : Nat) : List Ent := (List.range n).map fun i => entAt p (30 + 20 * i)
def prsP (p : List UInt8) (b n : Nat) : List Pr := (List.range n).map fun i => prAt p (b + 6 * i)
def pgsP (p : List UInt8) (b one n : Nat) : List (List UInt8) := (List.range n).map fun i => (p.drop (b + one * i)).take one
theorem entsP_succ (p : List UInt8) (n : Nat) : entsP p (n + 1) = entsP p n ++ [entAt p (30 + 20 * n)] := by simp [entsP, List.range_succ]
theorem prsP_succ (p : List UInt8) (b n : Nat) : prsP p b (n + 1) = prsP p b n ++ [prAt p (b + 6 * n)] := by simp [prsP, List.range_succ]
theorem pgsP_succ (p : List UInt8) (b one n : Nat) : pgsP p b one (n + 1) = pgsP p b one n ++ [(p.drop (b + one * n)).take one] := by simp [pgsP, List.range_succ]
theorem entsP_len (p : List UInt8) (n : Nat) : (entsP p n).length = n := by simp [entsP]
theorem prsP_len (p : List UInt8) (b n : Nat) : (prsP p b n).length = n := by simp [prsP]
theorem pgsP_len (p : List UInt8) (b one n : Nat) : (pgsP p b one n).length = n := by simp [pgsP]
end Go.Proofs.Ytppkggodpihfiaa
