/- Chapter 29: pages in a heap. -/
import Derived.Test.YtkcbjeenoafbkaaC29e
set_option linter.unusedVariables false
set_option linter.unusedSimpArgs false
set_option maxRecDepth 100000
set_option maxHeartbeats 4000000
namespace Go.Proofs.Ytkcbjeenoafbkaa
open Go Go.Den
/-- A slice of rectangles in a row of its own, not below n0. -/
def InOk (G : Heap) (n0 : Nat) (v : AV) (l : List Rect) : Prop := (l = [] ∧ v = .nils) ∨ (l ≠ [] ∧ ∃ q c, n0 ≤ q ∧ v = .sl q 0 l.length 4 c ∧ G[q]? = some (AO.cells (l.flatMap Rect.cs) 112 true))
/-- A slice of such slices. -/
def PF (G : Heap) (n0 : Nat) (v : AV) (ps : List (List Rect)) : Prop := (ps = [] ∧ v = .nils) ∨ (ps ≠ [] ∧ ∃ o vs, n0 ≤ o ∧ v = .sl o 0 ps.length 1 none ∧ G[o]? = some (AO.cells vs 110 true) ∧ vs.length = ps.length ∧ ∀ i, i < ps.length → InOk G n0 (vs.getD i .undef) (ps.getD i []))
/-- Pages: their size, their free pieces. -/
def PS (G : Heap) (n0 p : Nat) (pw ph : Int) (ps : List (List Rect)) : Prop := n0 ≤ p ∧ ∃ v, G[p]? = some (AO.cells [.int .i64 pw, .int .i64 ph, v] 106 true) ∧ PF G n0 v ps
/-- Rows of pages alone are changed, and none below n0. -/
def KeepP (n0 : Nat) (G K : Heap) : Prop := G.length ≤ K.length ∧ (∀ j, j < n0 → j < G.length → K[j]? = G[j]?) ∧ ∀ (j : Nat) (l : List AV) (e : TypeId) (w : Bool), e ≠ 106 → e ≠ 110 → G[j]? = some (AO.cells l e w) → K[j]? = some (AO.cells l e w)
theorem KeepP.refl (n0 : Nat) (G : Heap) : KeepP n0 G G := ⟨Nat.le_refl _, fun _ _ _ => rfl, fun _ _ _ _ _ _ h => h⟩
theorem KeepP.trans {n0 : Nat} {G K L : Heap} (h : KeepP n0 G K) (k : KeepP n0 K L) : KeepP n0 G L :=
  ⟨Nat.le_trans h.1 k.1, fun j h1 h2 => by rw [k.2.1 j h1 (Nat.lt_of_lt_of_le h2 h.1), h.2.1 j h1 h2], fun j l e w h1 h2 h3 => k.2.2 j l e w h1 h2 (h.2.2 j l e w h1 h2 h3)⟩
theorem KeepP.app (n0 : Nat) (G X : Heap) : KeepP n0 G (G ++ X) := ⟨by simp, fun j _ h => by rw [List.getElem?_append_left h], fun j l e w _ _ h => getElem?_keep h⟩
theorem get_lt {G : Heap} {j : Nat} {x : AO} (h : G[j]? = some x) : j < G.length := (List.getElem?_eq_some_iff.1 h).1
theorem InOk.sl {G : Heap} {n0 : Nat} {v : AV} {l : List Rect} (h : InOk G n0 v l) : SlOf G 4 Rect.cs v l := by
  rcases h with ⟨rfl, rfl⟩ | ⟨h0, q, c, _, rfl, h2⟩
  · exact SlOf.nils (by decide)
  · have hf := flat_len (rect_size l)
    refine ⟨rfl, rect_size l, by decide, .inl ⟨q, 0, _, l.flatMap Rect.cs, rfl, by simp [arow, h2], ?_, ?_⟩⟩
    · rw [List.drop_zero, List.take_of_length_le (by omega)]
    · omega
/-- What keeps rows of rectangles keeps slices of them. -/
theorem InOk.keep {G K : Heap} {n0 : Nat} {v : AV} {l : List Rect} (h : InOk G n0 v l) (k : ∀ (j : Nat) (r : List AV), G[j]? = some (AO.cells r 112 true) → K[j]? = some (AO.cells r 112 true)) : InOk K n0 v l := by
  rcases h with h | ⟨h0, q, c, h1, h2, h3⟩
  · exact .inl h
  · exact .inr ⟨h0, q, c, h1, h2, k _ _ h3⟩
theorem PF.keep {G K : Heap} {n0 : Nat} {v : AV} {ps : List (List Rect)} (h : PF G n0 v ps) (k : ∀ (j : Nat) (r : List AV) (e : TypeId), e = 112 ∨ e = 110 → G[j]? = some (AO.cells r e true) → K[j]? = some (AO.cells r e true)) : PF K n0 v ps := by
  rcases h with h | ⟨h0, o, vs, h1, h2, h3, h4, h5⟩
  · exact .inl h
  · exact .inr ⟨h0, o, vs, h1, h2, k _ _ _ (.inr rfl) h3, h4, fun i hi => (h5 i hi).keep fun j r hj => k j r _ (.inl rfl) hj⟩
theorem PF.app {G : Heap} {n0 : Nat} {v : AV} {ps : List (List Rect)} (h : PF G n0 v ps) (X : Heap) : PF (G ++ X) n0 v ps := h.keep fun _ _ _ _ hj => getElem?_keep hj
theorem PS.app {G : Heap} {n0 p : Nat} {pw ph : Int} {ps : List (List Rect)} (h : PS G n0 p pw ph ps) (X : Heap) : PS (G ++ X) n0 p pw ph ps := by
  obtain ⟨h1, v, h2, h3⟩ := h
  exact ⟨h1, v, getElem?_keep h2, h3.app X⟩
/-- A row of another type that is set keeps them all. -/
theorem PS.other {G : Heap} {n0 p j : Nat} {pw ph : Int} {ps : List (List Rect)} {r r' : List AV} {e : TypeId} (h : PS G n0 p pw ph ps) (hj : G[j]? = some (AO.cells r e true)) (h1 : e ≠ 106) (h2 : e ≠ 110) (h3 : e ≠ 112) : PS (G.set j (AO.cells r' e true)) n0 p pw ph ps := by
  have k : ∀ (i : Nat) (x : List AV) (e' : TypeId), e' ≠ e → G[i]? = some (AO.cells x e' true) → (G.set j (AO.cells r' e true))[i]? = some (AO.cells x e' true) := fun i x e' he hi => by
    rw [List.getElem?_set]
    split
    · rename_i hji
      subst hji
      rw [hj] at hi
      injection hi with hi
      injection hi with _ hi
      exact absurd hi.symm he
    · exact hi
  obtain ⟨a1, v, a2, a3⟩ := h
  exact ⟨a1, v, k _ _ _ (Ne.symm h1) a2, a3.keep fun i x e' he hi => k i x e' (by rcases he with rfl | rfl; exact Ne.symm h3; exact Ne.symm h2) hi⟩
/-- What is read of them. -/
theorem PF.lenOf {G : Heap} {n0 : Nat} {v : AV} {ps : List (List Rect)} (h : PF G n0 v ps) (H' : Heap) : lenOf false v H' = some (.int .i64 (ps.length : Int), H') := by
  rcases h with ⟨rfl, rfl⟩ | ⟨h0, o, vs, h1, rfl, _⟩ <;> rfl
theorem PF.at {G : Heap} {n0 : Nat} {v : AV} {ps : List (List Rect)} (h : PF G n0 v ps) {i : Nat} (hi : i < ps.length) :
    ∃ o vs w, n0 ≤ o ∧ v = .sl o 0 ps.length 1 none ∧ G[o]? = some (AO.cells vs 110 true) ∧ vs.length = ps.length ∧ w = vs.getD i .undef ∧ (∀ k H', iaddrOf 1 v (.int k (i : Int)) H' = some (.ptr o i, H')) ∧ (∀ X, aload (G ++ X) 1 (.ptr o i) = some [w]) ∧ InOk G n0 w (ps.getD i []) ∧
      ∀ j, j < ps.length → InOk G n0 (vs.getD j .undef) (ps.getD j []) := by
  rcases h with ⟨rfl, _⟩ | ⟨h0, o, vs, h1, rfl, h3, h4, h5⟩
  · simp at hi
  · refine ⟨o, vs, _, h1, rfl, h3, h4, rfl, fun k H' => ?_, fun X => ?_, h5 i hi, h5⟩
    · simp [iaddrOf, aint, hi]
    · rw [aload_row (getElem?_keep h3), if_pos (by omega), List.drop_eq_getElem_cons (by omega), List.take_succ_cons, List.take_zero, List.getD, List.getElem?_eq_getElem (by omega)]
      rfl
/-- One of them is changed. -/
theorem PF.set {G : Heap} {n0 o i : Nat} {v : AV} {ps : List (List Rect)} {vs : List AV} {w : AV} {l : List Rect} (hv : v = .sl o 0 ps.length 1 none) (ho : n0 ≤ o) (h3 : G[o]? = some (AO.cells vs 110 true)) (h4 : vs.length = ps.length) (h5 : ∀ j, j < ps.length → InOk G n0 (vs.getD j .undef) (ps.getD j []))
    (hi : i < ps.length) (hw : InOk G n0 w l) : PF (G.set o (AO.cells (vs.set i w) 110 true)) n0 v (ps.set i l) := by
  have k : ∀ (j : Nat) (r : List AV), G[j]? = some (AO.cells r 112 true) → (G.set o (AO.cells (vs.set i w) 110 true))[j]? = some (AO.cells r 112 true) := fun j r hj => by
    rw [List.getElem?_set]
    split
    · rename_i hoj
      subst hoj
      rw [h3] at hj
      injection hj with hj
      injection hj with _ hj
      exact absurd hj (by decide)
    · exact hj
  refine .inr ⟨fun h => by have := congrArg List.length h; rw [List.length_set, List.length_nil] at this; omega, o, vs.set i w, ho, by rw [hv, List.length_set], ?_, by rw [List.length_set, List.length_set, h4], fun j hj => ?_⟩
  · rw [List.getElem?_set_self (get_lt h3)]
  · rw [List.length_set] at hj
    by_cases hij : j = i
    · subst hij
      rw [List.getD, List.getElem?_set_self (by omega), List.getD, List.getElem?_set_self (by omega)]
      exact hw.keep k
    · rw [List.getD, List.getElem?_set_ne (by omega), List.getD, List.getElem?_set_ne (by omega)]
      exact (h5 j hj).keep k
theorem store_at {G : Heap} {o i : Nat} {vs : List AV} {e : TypeId} {w : AV} (h : G[o]? = some (AO.cells vs e true)) (hi : i < vs.length) (hw : w.one = true) (X : Heap) : astore (G ++ X) (.ptr o i) [w] = some (G.set o (AO.cells (vs.set i w) e true) ++ X) := by
  have hs : splice vs i [w] = vs.set i w := by
    rw [List.set_eq_take_append_cons_drop, if_pos hi]
    simp [splice]
  rw [astore_row (getElem?_keep h), if_pos ⟨by simp; omega, by simp [hw]⟩, List.set_append_left _ _ (get_lt h), hs]
/-- One page more. -/
theorem app_more {G Y : Heap} {o p : Nat} {vs : List AV} {x : AV} {e : TypeId} (h : G[o]? = some (AO.cells vs e true)) (hn : vs.length ≤ 1000000) (hx : x.one = true) (hp : p = G.length + Y.length) :
    aapp (G ++ (Y ++ [AO.cells [x] e true])) e 1 (.sl o 0 vs.length 1 none) (.sl p 0 1 1 (some 1)) = some (.sl (p + 1) 0 (vs.length + 1) 1 none, G.set o .dead ++ (Y ++ [AO.cells [x] e true, AO.cells (vs ++ [x]) e true])) := by
  subst hp
  have h1 : (G ++ (Y ++ [AO.cells [x] e true]))[o]? = some (AO.cells vs e true) := getElem?_keep h
  have h2 : (G ++ (Y ++ [AO.cells [x] e true]))[G.length + Y.length]? = some (AO.cells [x] e true) := by
    rw [List.getElem?_append_right (by omega), Nat.add_sub_cancel_left, List.getElem?_append_right (by omega), Nat.sub_self]; rfl
  have hr : roomy (vs.length + 1) = true := by simp [roomy]; omega
  have hnew : newOf (G ++ (Y ++ [AO.cells [x] e true])) 1 (.sl (G.length + Y.length) 0 1 1 (some 1)) = some [x] := by
    simp [newOf, acells, aload, arow, h2]
  have hset : (G ++ (Y ++ [AO.cells [x] e true])).set o .dead = G.set o .dead ++ (Y ++ [AO.cells [x] e true]) := List.set_append_left _ _ (get_lt h)
  simp only [aapp, alen, hnew, h1]
  rw [if_neg (by omega), if_pos (by simp [hx])]
  simp [hr, hset, Nat.add_assoc]
theorem app_first {G : Heap} {p : Nat} {x : AV} {e : TypeId} {Y : Heap} (hx : x.one = true) (hp : p = G.length + Y.length) :
    aapp (G ++ (Y ++ [AO.cells [x] e true])) e 1 .nils (.sl p 0 1 1 (some 1)) = some (.sl (p + 1) 0 1 1 none, G ++ (Y ++ [AO.cells [x] e true, AO.cells [x] e true])) := by
  subst hp
  have h2 : (G ++ (Y ++ [AO.cells [x] e true]))[G.length + Y.length]? = some (AO.cells [x] e true) := by
    rw [List.getElem?_append_right (by omega), Nat.add_sub_cancel_left, List.getElem?_append_right (by omega), Nat.sub_self]; rfl
  have hnew : newOf (G ++ (Y ++ [AO.cells [x] e true])) 1 (.sl (G.length + Y.length) 0 1 1 (some 1)) = some [x] := by
    simp [newOf, acells, aload, arow, h2]
  have hr : roomy 1 = true := rfl
  simp only [aapp, alen, hnew]
  rw [if_neg (by omega), if_pos (by simp [hx])]
  simp [hr, Nat.add_assoc]
end Go.Proofs.Ytkcbjeenoafbkaa
