/- Chapter 29: one size is laid: how it ends. -/
import Derived.Test.YtkcbjeenoafbkaaC29i
set_option linter.unusedVariables false
set_option linter.unusedSimpArgs false
set_option maxRecDepth 100000
set_option maxHeartbeats 4000000
namespace Go.Proofs.Ytkcbjeenoafbkaa
open Go Go.Den
theorem firstK_eq {ps : List (List Rect)} {w h : Int} {k : Nat} (hk : k < ps.length) (h0 : ∀ j, j < k → best (ps.getD j []) w h = none) (h1 : (best (ps.getD k []) w h).isSome = true) : firstK ps w h = k := by
  unfold firstK
  rw [List.findIdx_eq hk]
  refine ⟨?_, fun j hj => ?_⟩
  · have e : ps.getD k [] = ps[k] := by simp [List.getD, hk]
    rw [← e]; exact h1
  · have e : ps.getD j [] = ps[j]'(by omega) := by simp [List.getD, show j < ps.length by omega]
    rw [← e, h0 j hj]; rfl
theorem firstK_end {ps : List (List Rect)} {w h : Int} (h0 : ∀ j, j < ps.length → best (ps.getD j []) w h = none) : firstK ps w h = ps.length := by
  unfold firstK
  rw [List.findIdx_eq_length]
  intro x hx
  obtain ⟨j, hj, rfl⟩ := List.getElem_of_mem hx
  have e : ps.getD j [] = ps[j] := by simp [List.getD, hj]
  rw [← e, h0 j hj]; rfl
theorem best_whole {pw ph w h : Int} (hw : w ≤ pw) (hh : h ≤ ph) : best [⟨0, 0, pw, ph⟩] w h = some 0 := by
  have : fitR ⟨0, 0, pw, ph⟩ w h = true := fitR_iff.2 ⟨hw, hh⟩
  simp [best, bestAt, nth, this]
abbrev szRow (w h : Int) : AO := .cells [.int .i64 w, .int .i64 h] 61 true
abbrev plRow (a b c : Int) : AO := .cells [.int .i64 a, .int .i64 b, .int .i64 c] 76 true
/-- Behind the place where a page may have been added. -/
structure LayM (G : Heap) (n0 p : Nat) (pw ph w h : Int) (ps : List (List Rect)) (i : Nat) (G2 X2 : Heap) (v : AV) (M : List (List Rect)) : Prop where
  len : G2.length = G.length
  row : G2[p]? = some (AO.cells [.int .i64 pw, .int .i64 ph, v] 106 true)
  pf : PF (G2 ++ (szRow w h :: plRow 0 0 0 :: X2)) n0 v M
  keep : KeepP n0 G G2
  case : (G2 = G ∧ M = ps ∧ i < ps.length ∧ PF G n0 v ps) ∨ (i = ps.length ∧ ps.length ≠ 16 ∧ M = ps ++ [[⟨0, 0, pw, ph⟩]] ∧ ∃ q n, v = .sl q 0 n 1 none ∧ G.length ≤ q)
theorem LayM.lt {G : Heap} {n0 p : Nat} {pw ph w h : Int} {ps : List (List Rect)} {i : Nat} {G2 X2 : Heap} {v : AV} {M : List (List Rect)} (m : LayM G n0 p pw ph w h ps i G2 X2 v M) : i < M.length := by
  rcases m.case with ⟨_, rfl, h, _⟩ | ⟨rfl, _, rfl, _⟩
  · exact h
  · simp
theorem LayM.all {G : Heap} {n0 p : Nat} {pw ph w h : Int} {ps : List (List Rect)} {i : Nat} {G2 X2 : Heap} {v : AV} {M : List (List Rect)} (m : LayM G n0 p pw ph w h ps i G2 X2 v M) (hB : ∀ k, (ps.getD k []).length ≤ 3000000 ∧ ∀ r ∈ ps.getD k [], May r) (hp : (1 ≤ pw ∧ pw ≤ 1024) ∧ 1 ≤ ph ∧ ph ≤ 1024) :
    (M.getD i []).length ≤ 3000000 ∧ ∀ r ∈ M.getD i [], May r := by
  rcases m.case with ⟨_, rfl, h, _⟩ | ⟨rfl, _, rfl, _⟩
  · exact hB i
  · rw [List.getD, List.getElem?_append_right (Nat.le_refl _), Nat.sub_self]
    simp only [List.getElem?_cons_zero, Option.getD_some, List.length_cons, List.length_nil, List.mem_singleton]
    refine ⟨by omega, ?_⟩
    rintro r rfl
    unfold May; simp only; omega
theorem LayM.lays {G : Heap} {n0 p : Nat} {pw ph w h : Int} {ps : List (List Rect)} {i j : Nat} {G2 X2 : Heap} {v : AV} {M : List (List Rect)} (m : LayM G n0 p pw ph w h ps i G2 X2 v M) (hn : ∀ k, k < i → best (ps.getD k []) w h = none) (hb : best (M.getD i []) w h = some j) :
    layP ps pw ph w h = some (i, nth (M.getD i []) j, M.set i (cutP (M.getD i []) ⟨(nth (M.getD i []) j).x, (nth (M.getD i []) j).y, w, h⟩)) := by
  rcases m.case with ⟨_, rfl, h, _⟩ | ⟨rfl, h16, rfl, _⟩
  · have hf := firstK_eq h hn (by rw [hb]; rfl)
    unfold layP more
    rw [hf, if_neg (by omega), if_neg (by omega), hb]
  · have hf := firstK_end hn
    unfold layP more
    rw [hf, if_neg (by omega), if_pos rfl, hb]
theorem InOk.other {H : Heap} {n0 j : Nat} {v : AV} {l : List Rect} {a : List AV} {e : TypeId} {x : AO} (h : InOk H n0 v l) (hj : H[j]? = some (AO.cells a e true)) (he : e ≠ 112) : InOk (H.set j x) n0 v l := by
  refine h.keep fun i r hi => ?_
  rw [List.getElem?_set_ne]
  · exact hi
  · rintro rfl
    rw [hj] at hi
    injection hi with hi
    injection hi with _ hi
    exact he hi
/-- The end. -/
theorem lay_end {G : Heap} {n0 p : Nat} {pw ph w h : Int} {ps : List (List Rect)} {i o : Nat} {G2 X2 Z : Heap} {v v0 w2 : AV} {M : List (List Rect)} {vs r : List AV} {l : List Rect} {pa pb pc : Int} (m : LayM G n0 p pw ph w h ps i G2 X2 v M) (hp : n0 ≤ p) (hg : n0 ≤ G.length)
    (hG : G[p]? = some (AO.cells [.int .i64 pw, .int .i64 ph, v0] 106 true)) (hG0 : PF G n0 v0 ps) (hv : v = .sl o 0 M.length 1 none) (ho : n0 ≤ o) (h3 : (G2 ++ (szRow w h :: plRow 0 0 0 :: X2))[o]? = some (AO.cells vs 110 true)) (h4 : vs.length = M.length)
    (h5 : ∀ j, j < M.length → InOk (G2 ++ (szRow w h :: plRow 0 0 0 :: X2)) n0 (vs.getD j .undef) (M.getD j [])) (hw : InOk ((G2 ++ (szRow w h :: plRow 0 0 0 :: X2)) ++ Z) n0 w2 l) (hw2 : (w2 = .nils ∧ l = []) ∨ ∃ q n c, w2 = .sl q 0 n 4 c ∧ (G2 ++ (szRow w h :: plRow 0 0 0 :: X2)).length ≤ q)
    (hr : r.all AV.still = true) :
    ∃ K, tidy G (.tup r) (((G2 ++ (szRow w h :: plRow 0 0 0 :: X2)).set o (AO.cells (vs.set i w2) 110 true)).set (G2.length + 1) (plRow pa pb pc) ++ Z) = (.tup r, K) ∧ PS K n0 p pw ph (M.set i l) ∧ KeepP n0 G K := by
  have hi := m.lt
  have hlen := m.len
  have hpl : (G2 ++ (szRow w h :: plRow 0 0 0 :: X2))[G2.length + 1]? = some (plRow 0 0 0) := by
    rw [List.getElem?_append_right (by omega), Nat.add_sub_cancel_left]; rfl
  have hop : o ≠ G2.length + 1 := by
    rintro rfl
    rw [hpl] at h3
    injection h3 with h3
    injection h3 with _ h3
    exact absurd h3 (by decide)
  rcases m.case with ⟨rfl, rfl, hil, hpf⟩ | ⟨rfl, _, rfl, q, n, hq, hqG⟩
  · rcases hpf with ⟨h0, _⟩ | ⟨h0, o', vs', b1, b2, b3, b4, b5⟩
    · rw [h0] at hil; simp at hil
    · rw [hv] at b2
      injection b2 with b2
      subst b2
      have : vs' = vs := by
        rw [List.getElem?_append_left (get_lt b3), b3] at h3
        injection h3 with h3
        injection h3 with h3
      subst this
      have e : ((G2 ++ (szRow w h :: plRow 0 0 0 :: X2)).set o (AO.cells (vs'.set i w2) 110 true)).set (G2.length + 1) (plRow pa pb pc) ++ Z = G2.set o (AO.cells (vs'.set i w2) 110 true) ++ (szRow w h :: plRow pa pb pc :: (X2 ++ Z)) := by
        rw [List.set_append_left _ _ (get_lt b3), List.set_append_right _ _ (by rw [List.length_set]; omega), List.length_set, Nat.add_sub_cancel_left]
        simp
      have e2 : ((G2 ++ (szRow w h :: plRow 0 0 0 :: X2)) ++ Z).set (G2.length + 1) (plRow pa pb pc) = G2 ++ (szRow w h :: plRow pa pb pc :: (X2 ++ Z)) := by
        rw [List.append_assoc, List.set_append_right _ _ (by omega), Nat.add_sub_cancel_left]
        rfl
      rw [e]
      have hw' := hw.other (x := plRow pa pb pc) (getElem?_keep hpl) (by decide)
      rw [e2] at hw'
      exact end_left hr hp m.row hv b1 b3 b4 b5 hil hw' (hw2.imp id fun ⟨q, n, c, a, b⟩ => ⟨q, n, c, a, by rw [List.length_append] at b; omega⟩)
  · rw [hv] at hq
    injection hq with hq
    subst hq
    have hpG := get_lt hG
    have hfar : ∀ j, j < G.length → (((G2 ++ (szRow w h :: plRow 0 0 0 :: X2)).set o (AO.cells (vs.set ps.length w2) 110 true)).set (G2.length + 1) (plRow pa pb pc) ++ Z)[j]? = G2[j]? := fun j hj => by
      rw [List.getElem?_append_left (by simp; omega), List.getElem?_set_ne (by omega), List.getElem?_set_ne (by omega), List.getElem?_append_left (by omega)]
    have hrow := hfar p hpG
    rw [m.row] at hrow
    refine ⟨_, tidy_far (j := p) (q := o) (off := 0) (n := (ps ++ [[(⟨0, 0, pw, ph⟩ : Rect)]]).length) (sz := 1) (c := none) hr hG hrow ?_ (by simp [hv]) hqG, ?_, ?_⟩
    · intro hx
      injection hx with hx
      simp only [List.cons.injEq, and_true, true_and] at hx
      rcases hG0 with ⟨_, h0⟩ | ⟨_, o', vs', _, h0, b3, _⟩
      · rw [h0, hv] at hx; cases hx
      · rw [h0, hv] at hx
        injection hx with hx
        have := get_lt b3
        omega
    · have hPS : PS ((G2 ++ (szRow w h :: plRow 0 0 0 :: X2)).set o (AO.cells (vs.set ps.length w2) 110 true) ++ Z) n0 p pw ph ((ps ++ [[(⟨0, 0, pw, ph⟩ : Rect)]]).set ps.length l) := by
        have e : (G2 ++ (szRow w h :: plRow 0 0 0 :: X2)).set o (AO.cells (vs.set ps.length w2) 110 true) ++ Z = ((G2 ++ (szRow w h :: plRow 0 0 0 :: X2)) ++ Z).set o (AO.cells (vs.set ps.length w2) 110 true) := (List.set_append_left _ _ (get_lt h3)).symm
        refine ⟨hp, v, ?_, ?_⟩
        · rw [List.getElem?_append_left (by simp; omega), List.getElem?_set_ne (by omega), List.getElem?_append_left (by omega)]
          exact m.row
        · rw [e]
          exact PF.set hv ho (getElem?_keep h3) h4 (fun j hj => (h5 j hj).keep fun _ _ hq => getElem?_keep hq) hi hw
      have hj : ((G2 ++ (szRow w h :: plRow 0 0 0 :: X2)).set o (AO.cells (vs.set ps.length w2) 110 true) ++ Z)[G2.length + 1]? = some (plRow 0 0 0) := by
        refine getElem?_keep ?_
        rw [List.getElem?_set_ne hop]; exact hpl
      have := hPS.other (r' := [.int .i64 pa, .int .i64 pb, .int .i64 pc]) hj (by decide) (by decide) (by decide)
      rw [List.set_append_left _ _ (by simp)] at this
      exact this
    · refine ⟨by simp; omega, fun j h1 h2 => ?_, fun j r e wb h1 h2 h6 => ?_⟩
      · rw [hfar j h2]; exact m.keep.2.1 j h1 h2
      · rw [hfar j (get_lt h6)]; exact m.keep.2.2 j r e wb h1 h2 h6
end Go.Proofs.Ytkcbjeenoafbkaa
