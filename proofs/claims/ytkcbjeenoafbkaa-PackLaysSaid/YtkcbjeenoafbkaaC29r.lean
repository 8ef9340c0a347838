/- Chapter 29: the reference's Lay. -/
import Derived.Test.YtkcbjeenoafbkaaC29l
set_option linter.unusedVariables false
set_option linter.unusedSimpArgs false
set_option maxRecDepth 100000
set_option maxHeartbeats 8000000
namespace Go.Proofs.Ytkcbjeenoafbkaa
open Go Go.Den
/-- Places that were appended, in a row behind b others. -/
def OutOk (b : Nat) (Y : Heap) (w : AV) (out : List Plc) : Prop := (out = [] ∧ w = .nils) ∨ (out ≠ [] ∧ ∃ o, w = .sl (b + o) 0 out.length 3 none ∧ Y[o]? = some (AO.cells (out.flatMap Plc.cs) 76 true))
theorem OutOk.keep {b : Nat} {Y Y' : Heap} {w : AV} {out : List Plc} (h : OutOk b Y w out) (k : ∀ (j : Nat) (r : List AV), Y[j]? = some (AO.cells r 76 true) → Y'[j]? = some (AO.cells r 76 true)) : OutOk b Y' w out := by
  rcases h with h | ⟨h0, o, h1, h2⟩
  · exact .inl h
  · exact .inr ⟨h0, o, h1, k _ _ h2⟩
/-- One more. -/
theorem OutOk.push {H Y Z : Heap} {a : AO} {w : AV} {out : List Plc} {p : Nat} (h : OutOk (H.length + 1) Y w out) (hl : out.length ≤ 1000) (m : Plc) (hp : p = H.length + 1 + (Y.length + Z.length)) :
    ∃ Y' : Heap, Y'.length = Y.length ∧ (∀ (j : Nat) (r : List AV) (e : TypeId), e ≠ 76 → Y[j]? = some (AO.cells r e true) → Y'[j]? = some (AO.cells r e true)) ∧
      aapp (H ++ (a :: (Y ++ (Z ++ [AO.cells m.cs 76 true])))) 76 3 w (.sl p 0 1 3 (some 1)) = some (.sl (p + 1) 0 (out.length + 1) 3 none, H ++ (a :: (Y' ++ (Z ++ [AO.cells m.cs 76 true, AO.cells ((out ++ [m]).flatMap Plc.cs) 76 true])))) ∧
      OutOk (H.length + 1) (Y' ++ (Z ++ [AO.cells m.cs 76 true, AO.cells ((out ++ [m]).flatMap Plc.cs) 76 true])) (.sl (p + 1) 0 (out.length + 1) 3 none) (out ++ [m]) := by
  have hnew : newOf ((H ++ (a :: Y)) ++ (Z ++ [AO.cells m.cs 76 true])) 3 (.sl p 0 1 3 (some 1)) = some ([m].flatMap Plc.cs) := by
    have := @one_new _ Plc.cs 3 plc_cel 76 ((H ++ (a :: Y)) ++ Z) [] p m (by simp; omega)
    simpa only [List.append_assoc] using this
  have happ : ∀ Y', Own (H ++ (a :: Y)) 76 3 Plc.cs w out → kill w (H ++ (a :: Y)) = H ++ (a :: Y') → aapp (H ++ (a :: (Y ++ (Z ++ [AO.cells m.cs 76 true])))) 76 3 w (.sl p 0 1 3 (some 1)) = some (.sl (p + 1) 0 (out.length + 1) 3 none, H ++ (a :: (Y' ++ (Z ++ [AO.cells m.cs 76 true, AO.cells ((out ++ [m]).flatMap Plc.cs) 76 true])))) := by
    intro Y' ho hk
    have := own_app (H := H ++ (a :: Y)) (B := Z ++ [AO.cells m.cs 76 true]) (m := [m]) (x := .sl p 0 1 3 (some 1)) plc_cel ho (by simp) rfl hnew (by simp; omega)
    rw [hk] at this
    have h2 : (H ++ (a :: Y)).length + (Z ++ [AO.cells m.cs 76 true]).length = p + 1 := by simp [hp]; omega
    rw [h2] at this
    simpa only [List.append_assoc, List.cons_append, List.nil_append, List.length_cons, List.length_nil, Nat.zero_add] using this
  have hlast : ∀ Y' : Heap, Y'.length = Y.length → OutOk (H.length + 1) (Y' ++ (Z ++ [AO.cells m.cs 76 true, AO.cells ((out ++ [m]).flatMap Plc.cs) 76 true])) (.sl (p + 1) 0 (out.length + 1) 3 none) (out ++ [m]) := fun Y' hY => by
    refine .inr ⟨by simp, Y.length + Z.length + 1, by rw [hp]; simp [Nat.add_assoc], ?_⟩
    rw [List.getElem?_append_right (by omega), List.getElem?_append_right (by omega), hY, show Y.length + Z.length + 1 - Y.length - Z.length = 1 by omega]
    rfl
  rcases h with ⟨rfl, rfl⟩ | ⟨h0, o, rfl, h2⟩
  · exact ⟨Y, rfl, fun _ _ _ _ h => h, happ Y (.inl ⟨rfl, rfl⟩) rfl, hlast Y rfl⟩
  · refine ⟨Y.set o .dead, by simp, fun j r e he hj => ?_, happ _ (.inr ⟨_, rfl, ?_⟩) ?_, hlast _ (by simp)⟩
    · rw [List.getElem?_set_ne]
      · exact hj
      · rintro rfl
        rw [h2] at hj
        injection hj with hj
        injection hj with _ hj
        exact he hj.symm
    · rw [List.getElem?_append_right (by omega), show H.length + 1 + o - H.length = o + 1 by omega, List.getElem?_cons_succ]; exact h2
    · simp only [kill]
      rw [List.set_append_right _ _ (by omega), show H.length + 1 + o - H.length = o + 1 by omega, List.set_cons_succ]
theorem pf_move {H Y Y' Z : Heap} {a : AO} {n0 : Nat} {v : AV} {ps : List (List Rect)} (h : PF (H ++ (a :: Y)) n0 v ps) (k : ∀ (j : Nat) (r : List AV) (e : TypeId), e ≠ 76 → Y[j]? = some (AO.cells r e true) → Y'[j]? = some (AO.cells r e true)) : PF (H ++ (a :: (Y' ++ Z))) n0 v ps := by
  refine h.keep fun j r e he hj => ?_
  have hne : e ≠ 76 := by rcases he with rfl | rfl <;> decide
  rcases Nat.lt_or_ge j H.length with h1 | h1
  · rw [List.getElem?_append_left h1] at hj ⊢; exact hj
  · rw [List.getElem?_append_right h1] at hj ⊢
    cases hjj : j - H.length with
    | zero => rw [hjj] at hj; exact hj
    | succ m => rw [hjj, List.getElem?_cons_succ] at hj; rw [List.getElem?_cons_succ]; exact getElem?_keep (k _ _ _ hne hj)
theorem at_one {H Y : Heap} {a : AO} {k : Nat} : (H ++ (a :: Y))[H.length + 1 + k]? = Y[k]? := by
  rw [List.getElem?_append_right (by omega), show H.length + 1 + k - H.length = k + 1 by omega, List.getElem?_cons_succ]
theorem set_one {H Y : Heap} {a x : AO} {k : Nat} : (H ++ (a :: Y)).set (H.length + 1 + k) x = H ++ (a :: Y.set k x) := by
  rw [List.set_append_right _ _ (by omega), show H.length + 1 + k - H.length = k + 1 by omega, List.set_cons_succ]
/-- The pages in which a piece is found. -/
def CaseM (ps M : List (List Rect)) (pw ph : Int) (k : Nat) : Prop := (M = ps ∧ k < ps.length) ∨ (k = ps.length ∧ ps.length ≠ 16 ∧ M = ps ++ [[⟨0, 0, pw, ph⟩]])
theorem CaseM.lt {ps M : List (List Rect)} {pw ph : Int} {k : Nat} (c : CaseM ps M pw ph k) : k < M.length := by
  rcases c with ⟨rfl, h⟩ | ⟨rfl, _, rfl⟩
  · exact h
  · simp
theorem CaseM.all {ps M : List (List Rect)} {pw ph : Int} {k : Nat} (c : CaseM ps M pw ph k) (hB : ∀ k, (ps.getD k []).length ≤ 3000000 ∧ ∀ r ∈ ps.getD k [], May r) (hp : (1 ≤ pw ∧ pw ≤ 1024) ∧ 1 ≤ ph ∧ ph ≤ 1024) :
    (M.getD k []).length ≤ 3000000 ∧ ∀ r ∈ M.getD k [], May r := by
  rcases c with ⟨rfl, _⟩ | ⟨rfl, _, rfl⟩
  · exact hB k
  · rw [List.getD, List.getElem?_append_right (Nat.le_refl _), Nat.sub_self]
    simp only [List.getElem?_cons_zero, Option.getD_some, List.length_cons, List.length_nil, List.mem_singleton]
    refine ⟨by omega, ?_⟩
    rintro r rfl
    unfold May; simp only; omega
theorem CaseM.lays {ps M : List (List Rect)} {pw ph w h : Int} {k j : Nat} (c : CaseM ps M pw ph k) (hn : ∀ j, j < k → best (ps.getD j []) w h = none) (hb : best (M.getD k []) w h = some j) :
    layP ps pw ph w h = some (k, nth (M.getD k []) j, M.set k (cutP (M.getD k []) ⟨(nth (M.getD k []) j).x, (nth (M.getD k []) j).y, w, h⟩)) := by
  rcases c with ⟨rfl, h⟩ | ⟨rfl, h16, rfl⟩
  · have hf := firstK_eq h hn (by rw [hb]; rfl)
    unfold layP more
    rw [hf, if_neg (by omega), if_neg (by omega), hb]
  · have hf := firstK_end hn
    unfold layP more
    rw [hf, if_neg (by omega), if_pos rfl, hb]
end Go.Proofs.Ytkcbjeenoafbkaa
