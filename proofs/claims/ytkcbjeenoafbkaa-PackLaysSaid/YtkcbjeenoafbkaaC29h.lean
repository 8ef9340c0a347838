/- Chapter 29, in plain law: how many free pieces a page has. -/
import Derived.Test.YtkcbjeenoafbkaaC29b
set_option linter.unusedVariables false
set_option linter.unusedSimpArgs false
set_option maxHeartbeats 1000000
namespace Go.Proofs.Ytkcbjeenoafbkaa
open Go Go.Den
theorem nodup_le : ∀ {l L : List Rect}, l.Nodup → (∀ a ∈ l, a ∈ L) → l.length ≤ L.length
  | [], L, _, _ => by simp
  | a :: l, L, hn, h => by
    rw [List.nodup_cons] at hn
    have ha : a ∈ L := h a (by simp)
    have ih := nodup_le (L := L.erase a) hn.2 fun b hb => by
      have hba : b ≠ a := fun e => hn.1 (e ▸ hb)
      exact (List.mem_erase_of_ne hba).2 (h b (by simp [hb]))
    rw [List.length_erase_of_mem ha] at ih
    have : 0 < L.length := List.length_pos_of_mem ha
    simp only [List.length_cons]
    omega
theorem pruneTo_at {m : List Rect} {f : Rect} : ∀ {i : Nat}, f ∈ pruneTo m i → ∃ j, j < i ∧ f = nth m j
  | 0, h => by cases h
  | i + 1, h => by
    rw [pruneTo] at h
    rcases List.mem_append.1 h with h | h
    · obtain ⟨j, h1, h2⟩ := pruneTo_at h; exact ⟨j, by omega, h2⟩
    · split at h
      · simp only [List.mem_singleton] at h; exact ⟨i, by omega, h⟩
      · cases h
theorem pruneTo_nodup {m : List Rect} : ∀ {i : Nat}, i ≤ m.length → (pruneTo m i).Nodup
  | 0, _ => List.nodup_nil
  | i + 1, hi => by
    rw [pruneTo]
    split
    · rename_i hs
      rw [List.nodup_append]
      refine ⟨pruneTo_nodup (by omega), by simp, fun a ha b hb => ?_⟩
      simp only [List.mem_singleton] at hb
      subst hb
      rintro rfl
      obtain ⟨j, h1, h2⟩ := pruneTo_at ha
      have hl : lower m i = true := by
        unfold lower
        rw [List.any_eq_true]
        refine ⟨nth m j, ?_, by rw [h2]; exact has_self _⟩
        rw [nth_eq (by omega)]
        exact List.mem_take_iff_getElem.2 ⟨j, by omega, rfl⟩
      unfold stay at hs
      rw [hl] at hs
      simp at hs
    · simpa using pruneTo_nodup (by omega)
def CX (l : List Sz) (pad : Int) (out : List Plc) (i : Nat) (v : Int) : Prop := v = 0 ∨ ∃ j, j < i ∧ v = (plAt out j).x + ((szAt l j).w + pad)
def CY (l : List Sz) (pad : Int) (out : List Plc) (i : Nat) (v : Int) : Prop := v = 0 ∨ ∃ j, j < i ∧ v = (plAt out j).y + ((szAt l j).h + pad)
def CR (pw : Int) (out : List Plc) (i : Nat) (v : Int) : Prop := v = pw ∨ ∃ j, j < i ∧ v = (plAt out j).x
def CT (ph : Int) (out : List Plc) (i : Nat) (v : Int) : Prop := v = ph ∨ ∃ j, j < i ∧ v = (plAt out j).y
def Crd (l : List Sz) (pw ph pad : Int) (out : List Plc) (i : Nat) (f : Rect) : Prop := CX l pad out i f.x ∧ CR pw out i (f.x + f.w) ∧ CY l pad out i f.y ∧ CT ph out i (f.y + f.h)
theorem crd_more {l : List Sz} {pw ph pad : Int} {out : List Plc} {f : Rect} (p : Plc) (h : Crd l pw ph pad out out.length f) : Crd l pw ph pad (out ++ [p]) (out.length + 1) f := by
  obtain ⟨h1, h2, h3, h4⟩ := h
  refine ⟨h1.imp id ?_, h2.imp id ?_, h3.imp id ?_, h4.imp id ?_⟩ <;>
  · rintro ⟨j, hj, e⟩
    exact ⟨j, by omega, by rw [plAt_app hj]; exact e⟩
def four4 (xs rs ys ts : List Int) : List Rect := xs.flatMap fun x => rs.flatMap fun r => ys.flatMap fun y => ts.map fun t => ⟨x, y, r - x, t - y⟩
theorem flat_all {α β : Type} {l : List α} {g : α → List β} {n : Nat} (h : ∀ a ∈ l, (g a).length = n) : (l.flatMap g).length = l.length * n := by
  induction l with
  | nil => simp
  | cons a l ih => rw [List.flatMap_cons, List.length_append, h a (by simp), ih fun b hb => h b (by simp [hb]), List.length_cons, Nat.succ_mul, Nat.add_comm]
theorem four4_len (xs rs ys ts : List Int) : (four4 xs rs ys ts).length = xs.length * (rs.length * (ys.length * ts.length)) := by
  unfold four4
  refine flat_all fun x _ => flat_all fun r _ => flat_all fun y _ => by simp
theorem crd_mem {l : List Sz} {pw ph pad : Int} {out : List Plc} {i : Nat} {f : Rect} (h : Crd l pw ph pad out i f) :
    f ∈ four4 (0 :: (List.range i).map fun j => (plAt out j).x + ((szAt l j).w + pad)) (pw :: (List.range i).map fun j => (plAt out j).x) (0 :: (List.range i).map fun j => (plAt out j).y + ((szAt l j).h + pad)) (ph :: (List.range i).map fun j => (plAt out j).y) := by
  obtain ⟨h1, h2, h3, h4⟩ := h
  unfold four4
  simp only [List.mem_flatMap, List.mem_map]
  refine ⟨f.x, ?_, f.x + f.w, ?_, f.y, ?_, f.y + f.h, ?_, ?_⟩
  · rcases h1 with h | ⟨j, hj, e⟩
    · rw [h]; simp
    · rw [e]; exact List.mem_cons_of_mem _ (List.mem_map.2 ⟨j, List.mem_range.2 hj, rfl⟩)
  · rcases h2 with h | ⟨j, hj, e⟩
    · rw [h]; simp
    · rw [e]; exact List.mem_cons_of_mem _ (List.mem_map.2 ⟨j, List.mem_range.2 hj, rfl⟩)
  · rcases h3 with h | ⟨j, hj, e⟩
    · rw [h]; simp
    · rw [e]; exact List.mem_cons_of_mem _ (List.mem_map.2 ⟨j, List.mem_range.2 hj, rfl⟩)
  · rcases h4 with h | ⟨j, hj, e⟩
    · rw [h]; simp
    · rw [e]; exact List.mem_cons_of_mem _ (List.mem_map.2 ⟨j, List.mem_range.2 hj, rfl⟩)
  · obtain ⟨x, y, w, h⟩ := f
    simp only [Rect.mk.injEq, true_and]
    omega
theorem crd_len {l : List Sz} {pw ph pad : Int} {out : List Plc} {i : Nat} {m : List Rect} (hi : i ≤ 40) (hn : m.Nodup) (h : ∀ f ∈ m, Crd l pw ph pad out i f) : m.length ≤ 2825761 := by
  have := nodup_le hn fun f hf => crd_mem (h f hf)
  rw [four4_len] at this
  simp only [List.length_cons, List.length_map, List.length_range] at this
  have h1 : (i + 1) * (i + 1) ≤ 1681 := Nat.mul_le_mul (show i + 1 ≤ 41 by omega) (show i + 1 ≤ 41 by omega)
  have h2 : (i + 1) * ((i + 1) * (i + 1)) ≤ 41 * 1681 := Nat.mul_le_mul (by omega) h1
  have h3 : (i + 1) * ((i + 1) * ((i + 1) * (i + 1))) ≤ 41 * (41 * 1681) := Nat.mul_le_mul (by omega) h2
  omega
theorem left_crd {l : List Sz} {pw ph pad : Int} {out : List Plc} {a t f : Rect} {p : Plc} (ha : Crd l pw ph pad out out.length a) (hx : t.x = p.x) (hy : t.y = p.y) (hw : t.w = (szAt l out.length).w + pad) (hh : t.h = (szAt l out.length).h + pad) (h : f ∈ left a t) :
    Crd l pw ph pad (out ++ [p]) (out.length + 1) f := by
  have hp : plAt (out ++ [p]) out.length = p := plAt_last rfl
  obtain ⟨h1, h2, h3, h4⟩ := crd_more p ha
  unfold left at h
  by_cases hm : meet a t = true
  · rw [if_pos hm] at h
    rcases List.mem_append.1 h with h | h
    · unfold p1 at h; split at h
      · simp only [List.mem_singleton] at h; subst h
        exact ⟨h1, .inr ⟨out.length, by omega, by rw [hp]; simp only; omega⟩, h3, h4⟩
      · cases h
    rcases List.mem_append.1 h with h | h
    · unfold p2 at h; split at h
      · simp only [List.mem_singleton] at h; subst h
        refine ⟨.inr ⟨out.length, by omega, by rw [hp]; simp only; omega⟩, ?_, h3, h4⟩
        simp only
        rw [show t.x + t.w + (a.x + a.w - (t.x + t.w)) = a.x + a.w by omega]
        exact h2
      · cases h
    rcases List.mem_append.1 h with h | h
    · unfold p3 at h; split at h
      · simp only [List.mem_singleton] at h; subst h
        exact ⟨h1, h2, h3, .inr ⟨out.length, by omega, by rw [hp]; simp only; omega⟩⟩
      · cases h
    · unfold p4 at h; split at h
      · simp only [List.mem_singleton] at h; subst h
        refine ⟨h1, h2, .inr ⟨out.length, by omega, by rw [hp]; simp only; omega⟩, ?_⟩
        simp only
        rw [show t.y + t.h + (a.y + a.h - (t.y + t.h)) = a.y + a.h by omega]
        exact h4
      · cases h
  · rw [if_neg hm] at h
    simp only [List.mem_singleton] at h
    subst h
    exact ⟨h1, h2, h3, h4⟩
/-- Each page's pieces are not alike, and lie on these lines. -/
def Lines (l : List Sz) (pw ph pad : Int) (i : Nat) (ps : List (List Rect)) (out : List Plc) : Prop := ∀ k, (ps.getD k []).Nodup ∧ ∀ f ∈ ps.getD k [], Crd l pw ph pad out i f
theorem lines_lay {l : List Sz} {pw ph pad : Int} {i : Nat} {ps ps' : List (List Rect)} {out : List Plc} {k : Nat} {r : Rect} (hlen : out.length = i) (h : Lines l pw ph pad i ps out)
    (e : layP ps pw ph ((szAt l i).w + pad) ((szAt l i).h + pad) = some (k, r, ps')) : Lines l pw ph pad (i + 1) ps' (out ++ [⟨(k : Int), r.x, r.y⟩]) := by
  subst hlen
  unfold layP at e
  by_cases hc : firstK ps ((szAt l out.length).w + pad) ((szAt l out.length).h + pad) = ps.length ∧ ps.length = 16
  · rw [if_pos hc] at e; cases e
  rw [if_neg hc] at e
  have hm : ∀ k, ((more ps pw ph ((szAt l out.length).w + pad) ((szAt l out.length).h + pad)).getD k []).Nodup ∧ ∀ f ∈ (more ps pw ph ((szAt l out.length).w + pad) ((szAt l out.length).h + pad)).getD k [], Crd l pw ph pad out out.length f := by
    intro k
    unfold more
    split
    · rw [List.getD]
      by_cases hkl : k < ps.length
      · rw [List.getElem?_append_left hkl]; exact h k
      · by_cases hke : k = ps.length
        · subst hke
          rw [List.getElem?_append_right (Nat.le_refl _), Nat.sub_self]
          simp only [List.getElem?_cons_zero, Option.getD_some]
          refine ⟨by simp, fun f hf => ?_⟩
          simp only [List.mem_singleton] at hf
          subst hf
          exact ⟨.inl rfl, .inl (by simp), .inl rfl, .inl (by simp)⟩
        · rw [List.getElem?_append_right (by omega), List.getElem?_eq_none (by simp; omega)]
          exact ⟨by simp, fun f hf => by cases hf⟩
    · exact h k
  generalize more ps pw ph ((szAt l out.length).w + pad) ((szAt l out.length).h + pad) = M at *
  generalize firstK ps ((szAt l out.length).w + pad) ((szAt l out.length).h + pad) = K at *
  cases hbest : best (M.getD K []) ((szAt l out.length).w + pad) ((szAt l out.length).h + pad) with
  | none => rw [hbest] at e; cases e
  | some j =>
    rw [hbest] at e
    simp only [Option.some.injEq, Prod.mk.injEq] at e
    obtain ⟨rfl, rfl, rfl⟩ := e
    generalize nth (M.getD K []) j = r at *
    intro k
    by_cases hkK : k = K
    · subst hkK
      by_cases hkl : k < M.length
      · rw [List.getD, List.getElem?_set_self hkl]
        simp only [Option.getD_some]
        refine ⟨pruneTo_nodup (Nat.le_refl _), fun f hf => ?_⟩
        unfold cutP at hf
        have h1 := (List.mem_filter.1 (pruneTo_mem (Nat.le_refl _) hf)).1
        unfold cutAll at h1
        split at h1
        · rw [List.mem_flatMap] at h1
          obtain ⟨a, ha, hf⟩ := h1
          exact left_crd (t := ⟨r.x, r.y, (szAt l out.length).w + pad, (szAt l out.length).h + pad⟩) ((hm k).2 a (List.mem_filter.1 ha).1) rfl rfl rfl rfl hf
        · exact crd_more _ ((hm k).2 f (List.mem_filter.1 h1).1)
      · rw [List.getD, List.getElem?_eq_none (by rw [List.length_set]; omega)]
        exact ⟨by simp, fun f hf => by cases hf⟩
    · rw [List.getD, List.getElem?_set_ne (by omega)]
      exact ⟨(hm k).1, fun f hf => crd_more _ ((hm k).2 f hf)⟩
theorem lines_all {l : List Sz} {pw ph pad : Int} : ∀ {i : Nat} {ps : List (List Rect)} {out : List Plc}, layTo l pw ph pad i = some (ps, out) → Lines l pw ph pad i ps out
  | 0, ps, out, e => by
    injection e with e; injection e with e1 e2; subst e1 e2
    exact fun k => ⟨by simp, fun f hf => by simp at hf⟩
  | i + 1, ps, out, e => by
    rw [layTo] at e
    cases hl : layTo l pw ph pad i with
    | none => rw [hl] at e; cases e
    | some q =>
      obtain ⟨ps1, out1⟩ := q
      have ih := lines_all hl
      have hlen := layTo_len hl
      rw [hl] at e
      simp only [layStep] at e
      by_cases hw : (szAt l i).w = 0
      · rw [if_pos hw] at e
        injection e with e; injection e with e1 e2; subst e1 e2 hlen
        exact fun k => ⟨(ih k).1, fun f hf => crd_more _ ((ih k).2 f hf)⟩
      · rw [if_neg hw] at e
        cases hlp : layP ps1 pw ph ((szAt l i).w + pad) ((szAt l i).h + pad) with
        | none => rw [hlp] at e; cases e
        | some t =>
          obtain ⟨k, r, ps2⟩ := t
          rw [hlp] at e
          injection e with e; injection e with e1 e2; subst e1 e2
          exact lines_lay hlen ih hlp
/-- So many at most. -/
theorem few_pieces {l : List Sz} {pw ph pad : Int} {i : Nat} {ps : List (List Rect)} {out : List Plc} (hi : i ≤ 40) (h : layTo l pw ph pad i = some (ps, out)) (k : Nat) : (ps.getD k []).length ≤ 2825761 :=
  crd_len hi (lines_all h k).1 (lines_all h k).2
end Go.Proofs.Ytkcbjeenoafbkaa
