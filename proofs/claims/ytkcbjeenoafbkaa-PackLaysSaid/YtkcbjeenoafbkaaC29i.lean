/- Chapter 29: a page that is found. -/
import Derived.Test.YtkcbjeenoafbkaaC29f
import Derived.Test.YtkcbjeenoafbkaaC29h
set_option linter.unusedVariables false
set_option linter.unusedSimpArgs false
set_option maxRecDepth 100000
set_option maxHeartbeats 4000000
namespace Go.Proofs.Ytkcbjeenoafbkaa
open Go Go.Den
/-- A row of pages, or of slices, that is set. -/
theorem KeepP.set {n0 : Nat} {G : Heap} {o : Nat} {r : List AV} {x : AO} {e : TypeId} (h : G[o]? = some (AO.cells r e true)) (ho : n0 ≤ o) (he : e = 106 ∨ e = 110) : KeepP n0 G (G.set o x) := by
  refine ⟨by simp, fun j h1 _ => List.getElem?_set_ne (by omega), fun j l e' w h1 h2 h3 => ?_⟩
  rw [List.getElem?_set_ne]
  · exact h3
  · rintro rfl
    rw [h] at h3
    injection h3 with h3
    injection h3 with _ h3
    rcases he with rfl | rfl
    · exact h1 h3.symm
    · exact h2 h3.symm
theorem KeepP.take {n0 : Nat} {G K X : Heap} (h : KeepP n0 G (K ++ X)) (hl : K.length = G.length) : KeepP n0 G K := by
  refine ⟨by omega, fun j h1 h2 => ?_, fun j l e w h1 h2 h3 => ?_⟩
  · rw [← h.2.1 j h1 h2, List.getElem?_append_left (by omega)]
  · have := h.2.2 j l e w h1 h2 h3
    rwa [List.getElem?_append_left (by have := get_lt h3; omega)] at this
theorem unders_mem {n : Nat} : ∀ {l : List AV} {v : AV}, unders n l = true → v ∈ l → v.under n = true
  | [], v, _, h => by cases h
  | a :: l, v, h, hm => by
    simp only [unders, leadss, Bool.and_eq_true] at h
    rcases List.mem_cons.1 hm with rfl | hm
    · exact h.1
    · exact unders_mem (l := l) h.2 hm
theorem tidy_or {G K : Heap} {l : List AV} (h : l.all AV.still = true) : tidy G (.tup l) K = (.tup l, K) ∨ (keepOld G.length G K = true ∧ tidy G (.tup l) K = (.tup l, K.take G.length)) := by
  by_cases hk : keepOld G.length G K = true
  · right
    refine ⟨hk, ?_⟩
    simp only [tidy, if_pos hk, AV.carry, carries_still h, Option.map_some, List.append_nil]
  · left
    simp only [tidy, if_neg hk]
/-- A row that has come to lead to new ones. -/
theorem tidy_far {G K : Heap} {l r : List AV} {j q off n sz : Nat} {c : Option Nat} {x : AO} {e : TypeId} (h : l.all AV.still = true) (hG : G[j]? = some x) (hK : K[j]? = some (AO.cells r e true)) (hx : x ≠ AO.cells r e true) (hm : AV.sl q off n sz c ∈ r) (hq : G.length ≤ q) : tidy G (.tup l) K = (.tup l, K) := by
  rcases tidy_or (G := G) (K := K) h with h1 | ⟨h1, _⟩
  · exact h1
  · obtain ⟨_, h2⟩ := keepOld_spec h1
    rcases h2 j x _ hG hK with h3 | h3
    · exact absurd h3 hx
    · have := unders_mem (l := r) h3 hm
      simp [AV.under, AV.leads] at this
      omega
theorem InOk.low {G : Heap} {n0 : Nat} {v : AV} {l : List Rect} (h : InOk G n0 v l) {q off n sz : Nat} {c : Option Nat} (hq : G.length ≤ q) : v ≠ .sl q off n sz c := by
  rintro rfl
  rcases h with ⟨_, h⟩ | ⟨_, q', c', _, h1, h2⟩
  · cases h
  · injection h1 with h1
    subst h1
    have := get_lt h2
    omega
/-- The slice that Prune gives. -/
theorem newSl_in {K : Heap} {n0 : Nat} {l : List Rect} (hn : n0 ≤ K.length) (X : Heap) : InOk (K ++ ((newSl K 112 4 Rect.cs l).2 ++ X)) n0 (newSl K 112 4 Rect.cs l).1 l ∧ (newSl K 112 4 Rect.cs l).1.one = true ∧
    (((newSl K 112 4 Rect.cs l).1 = .nils ∧ l = []) ∨ ∃ n c, (newSl K 112 4 Rect.cs l).1 = .sl K.length 0 n 4 c) := by
  unfold newSl
  split
  · rename_i h
    subst h
    exact ⟨.inl ⟨rfl, rfl⟩, rfl, .inl ⟨rfl, rfl⟩⟩
  · rename_i h
    refine ⟨.inr ⟨h, K.length, none, hn, rfl, ?_⟩, rfl, .inr ⟨_, _, rfl⟩⟩
    rw [List.getElem?_append_right (Nat.le_refl _), Nat.sub_self]
    rfl
/-- The end, where no page is added. -/
theorem end_left {G X : Heap} {n0 p o i : Nat} {pw ph : Int} {v : AV} {ps : List (List Rect)} {vs r : List AV} {w : AV} {l : List Rect} (hr : r.all AV.still = true) (hp : n0 ≤ p) (h2 : G[p]? = some (AO.cells [.int .i64 pw, .int .i64 ph, v] 106 true)) (hv : v = .sl o 0 ps.length 1 none) (ho : n0 ≤ o)
    (h3 : G[o]? = some (AO.cells vs 110 true)) (h4 : vs.length = ps.length) (h5 : ∀ j, j < ps.length → InOk G n0 (vs.getD j .undef) (ps.getD j [])) (hi : i < ps.length)
    (hw : InOk (G ++ X) n0 w l) (hw2 : (w = .nils ∧ l = []) ∨ ∃ q n c, w = .sl q 0 n 4 c ∧ G.length ≤ q) :
    ∃ K, tidy G (.tup r) (G.set o (AO.cells (vs.set i w) 110 true) ++ X) = (.tup r, K) ∧ PS K n0 p pw ph (ps.set i l) ∧ KeepP n0 G K := by
  have hpo : p ≠ o := by
    rintro rfl
    rw [h2] at h3
    injection h3 with h3
    injection h3 with _ h3
    exact absurd h3 (by decide)
  have hkeep : KeepP n0 G (G.set o (AO.cells (vs.set i w) 110 true)) := KeepP.set h3 ho (.inr rfl)
  have hset : (G ++ X).set o (AO.cells (vs.set i w) 110 true) = G.set o (AO.cells (vs.set i w) 110 true) ++ X := List.set_append_left _ _ (get_lt h3)
  have big : PS (G.set o (AO.cells (vs.set i w) 110 true) ++ X) n0 p pw ph (ps.set i l) := by
    refine ⟨hp, v, ?_, ?_⟩
    · rw [← hset, List.getElem?_set_ne (Ne.symm hpo)]
      exact getElem?_keep h2
    · rw [← hset]
      exact PF.set hv ho (getElem?_keep h3) h4 (fun j hj => (h5 j hj).keep fun _ _ hq => getElem?_keep hq) hi hw
  rcases tidy_or (G := G) (K := G.set o (AO.cells (vs.set i w) 110 true) ++ X) hr with h | ⟨hk, h⟩
  · exact ⟨_, h, big, hkeep.trans (KeepP.app _ _ _)⟩
  · have ht : (G.set o (AO.cells (vs.set i w) 110 true) ++ X).take G.length = G.set o (AO.cells (vs.set i w) 110 true) := by
      rw [List.take_append_of_le_length (by simp), List.take_of_length_le (by simp)]
    rw [ht] at h
    refine ⟨_, h, ?_, hkeep⟩
    rcases hw2 with ⟨rfl, rfl⟩ | ⟨q, n, c, rfl, hq⟩
    · refine ⟨hp, v, ?_, ?_⟩
      · rw [List.getElem?_set_ne (Ne.symm hpo)]; exact h2
      · exact PF.set hv ho h3 h4 h5 hi (.inl ⟨rfl, rfl⟩)
    · exfalso
      have hmem : AV.sl q 0 n 4 c ∈ vs.set i (.sl q 0 n 4 c) := List.mem_set (by omega) _
      have hK : (G.set o (AO.cells (vs.set i (.sl q 0 n 4 c)) 110 true) ++ X)[o]? = some (AO.cells (vs.set i (.sl q 0 n 4 c)) 110 true) := by
        rw [List.getElem?_append_left (by simpa using get_lt h3), List.getElem?_set_self (get_lt h3)]
      obtain ⟨_, hsp⟩ := keepOld_spec hk
      rcases hsp o _ _ h3 hK with he | he
      · injection he with he
        have : vs.getD i .undef = .sl q 0 n 4 c := by rw [he, List.getD, List.getElem?_set_self (by omega)]; rfl
        exact (h5 i hi).low hq this
      · have := unders_mem (l := vs.set i (.sl q 0 n 4 c)) he hmem
        simp [AV.under, AV.leads] at this
        omega
/-- One page more. -/
theorem PF.grow {G Y : Heap} {n0 q : Nat} {v x : AV} {ps : List (List Rect)} {l : List Rect} (h : PF G n0 v ps) (hn : ps.length ≤ 16) (hx : InOk (G ++ (Y ++ [AO.cells [x] 110 true])) n0 x l) (h1 : x.one = true) (hq : q = G.length + Y.length) (hg : n0 ≤ G.length) :
    ∃ (G' : Heap) (vs : List AV), G'.length = G.length ∧ KeepP n0 G G' ∧ (∀ (j : Nat) (r : List AV), G[j]? = some (AO.cells r 106 true) → G'[j]? = some (AO.cells r 106 true)) ∧
      aapp (G ++ (Y ++ [AO.cells [x] 110 true])) 110 1 v (.sl q 0 1 1 (some 1)) = some (.sl (q + 1) 0 (ps.length + 1) 1 none, G' ++ (Y ++ [AO.cells [x] 110 true, AO.cells vs 110 true])) ∧
      PF (G' ++ (Y ++ [AO.cells [x] 110 true, AO.cells vs 110 true])) n0 (.sl (q + 1) 0 (ps.length + 1) 1 none) (ps ++ [l]) := by
  have fin : ∀ (G' : Heap) (vs : List AV), G'.length = G.length → KeepP n0 G G' → vs.length = ps.length → (∀ i, i < ps.length → InOk G n0 (vs.getD i .undef) (ps.getD i [])) →
      PF (G' ++ (Y ++ [AO.cells [x] 110 true, AO.cells (vs ++ [x]) 110 true])) n0 (.sl (q + 1) 0 (ps.length + 1) 1 none) (ps ++ [l]) := by
    intro G' vs hl hk hvl h5
    have kp : ∀ (Z Z' : Heap) (j : Nat) (r : List AV), (∀ i, i < Z.length → Z'[i]? = Z[i]?) → (G ++ Z)[j]? = some (AO.cells r 112 true) → (G' ++ Z')[j]? = some (AO.cells r 112 true) := by
      intro Z Z' j r hz hj
      by_cases hjG : j < G.length
      · rw [List.getElem?_append_left hjG] at hj
        rw [List.getElem?_append_left (by omega)]
        exact hk.2.2 j r _ _ (by decide) (by decide) hj
      · rw [List.getElem?_append_right (by omega)] at hj
        rw [List.getElem?_append_right (by omega), hl, hz _ (get_lt hj)]
        exact hj
    refine .inr ⟨by simp, q + 1, vs ++ [x], by omega, by simp, ?_, by simp [hvl], fun i hi => ?_⟩
    · rw [List.getElem?_append_right (by omega), List.getElem?_append_right (by omega)]
      rw [show q + 1 - G'.length - Y.length = 1 by omega]; rfl
    · rw [List.length_append, List.length_singleton] at hi
      by_cases hil : i < ps.length
      · rw [List.getD, List.getD, List.getElem?_append_left (by omega), List.getElem?_append_left hil]
        exact (h5 i hil).keep fun j r hj => kp [] _ j r (fun i hi => absurd hi (by simp)) (by rw [List.append_nil]; exact hj)
      · obtain rfl : i = ps.length := by omega
        rw [List.getD, List.getD, List.getElem?_append_right (by omega), List.getElem?_append_right (Nat.le_refl _), hvl, Nat.sub_self]
        refine hx.keep fun j r hj => kp _ _ j r (fun i hi => ?_) hj
        rw [List.length_append, List.length_singleton] at hi
        rcases Nat.lt_or_ge i Y.length with hy | hy
        · rw [List.getElem?_append_left hy, List.getElem?_append_left hy]
        · obtain rfl : i = Y.length := by omega
          rw [List.getElem?_append_right (Nat.le_refl _), List.getElem?_append_right (Nat.le_refl _), Nat.sub_self]; rfl
  rcases h with ⟨rfl, rfl⟩ | ⟨h0, o, vs, ho, rfl, h3, h4, h5⟩
  · exact ⟨G, [x], rfl, KeepP.refl _ _, fun _ _ h => h, app_first h1 hq, fin G [] rfl (KeepP.refl _ _) rfl (fun i hi => absurd hi (by simp))⟩
  · have hk : KeepP n0 G (G.set o .dead) := KeepP.set h3 ho (.inr rfl)
    have ha := app_more h3 (by omega) h1 hq
    rw [h4] at ha
    refine ⟨G.set o .dead, vs ++ [x], by simp, hk, fun j r hj => ?_, ha, fin _ vs (by simp) hk h4 h5⟩
    rw [List.getElem?_set_ne]
    · exact hj
    · rintro rfl
      rw [h3] at hj
      injection hj with hj
      injection hj with _ hj
      exact absurd hj (by decide)
theorem may_small {r : Rect} (h : May r) : SmallR r := by unfold May at h; unfold SmallR; omega
end Go.Proofs.Ytkcbjeenoafbkaa
