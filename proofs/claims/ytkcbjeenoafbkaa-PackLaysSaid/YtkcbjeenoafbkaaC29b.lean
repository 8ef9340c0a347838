/- Chapter 29, in plain law: what is laid is right. -/
import Derived.Test.YtkcbjeenoafbkaaC29a
set_option linter.unusedVariables false
set_option linter.unusedSimpArgs false
set_option maxHeartbeats 1000000
namespace Go.Proofs.Ytkcbjeenoafbkaa
open Go Go.Den
def pieceP (s : Sz) (pad : Int) (p : Plc) : Rect := ⟨p.x, p.y, s.w + pad, s.h + pad⟩
def plAt (q : List Plc) (i : Nat) : Plc := q.getD i ⟨0, 0, 0⟩
def okPiece (l : List Sz) (pw ph pad : Int) (q : List Plc) (i : Nat) : Prop :=
  (szAt l i).w = 0 ∨ ((0 ≤ (plAt q i).pg ∧ (plAt q i).pg ≤ 15) ∧ (May (pieceP (szAt l i) pad (plAt q i)) ∧ (plAt q i).x + ((szAt l i).w + pad) ≤ pw ∧ (plAt q i).y + ((szAt l i).h + pad) ≤ ph) ∧
    ∀ k, k < i → (szAt l k).w ≠ 0 → (plAt q k).pg = (plAt q i).pg → ¬ Meet (pieceP (szAt l i) pad (plAt q i)) (pieceP (szAt l k) pad (plAt q k)))
def chkP (l : List Sz) (pw ph pad : Int) (q : List Plc) : Prop := (askedP l pw ph pad ∧ q.length = l.length) ∧ ∀ i, i < l.length → okPiece l pw ph pad q i
def SubR (p a : Rect) : Prop := a.x ≤ p.x ∧ a.y ≤ p.y ∧ p.x + p.w ≤ a.x + a.w ∧ p.y + p.h ≤ a.y + a.h
theorem sub_meet {p a b : Rect} (h : SubR p a) (hm : Meet p b) : Meet a b := by
  unfold SubR at h; unfold Meet at hm ⊢; omega
theorem left_in {a b p : Rect} (h : p ∈ left a b) : SubR p a ∧ ¬ Meet p b := by
  unfold left at h
  by_cases hm : meet a b = true
  · have hM : Meet a b := by unfold meet at hm; simpa using hm
    rw [if_pos hm] at h
    unfold Meet at hM
    unfold SubR Meet
    rcases List.mem_append.1 h with h | h
    · unfold p1 at h; split at h
      · simp only [List.mem_singleton] at h; subst h; simp only; omega
      · cases h
    rcases List.mem_append.1 h with h | h
    · unfold p2 at h; split at h
      · simp only [List.mem_singleton] at h; subst h; simp only; omega
      · cases h
    rcases List.mem_append.1 h with h | h
    · unfold p3 at h; split at h
      · simp only [List.mem_singleton] at h; subst h; simp only; omega
      · cases h
    · unfold p4 at h; split at h
      · simp only [List.mem_singleton] at h; subst h; simp only; omega
      · cases h
  · rw [if_neg hm] at h
    simp only [List.mem_singleton] at h
    subst h
    exact ⟨by unfold SubR; omega, by unfold meet at hm; simpa using hm⟩
theorem nth_mem {m : List Rect} {i : Nat} (h : i < m.length) : nth m i ∈ m := by
  unfold nth; rw [List.getD, List.getElem?_eq_getElem h]; exact List.getElem_mem h
theorem pruneTo_mem {m : List Rect} {f : Rect} : ∀ {i : Nat}, i ≤ m.length → f ∈ pruneTo m i → f ∈ m
  | 0, _, h => by cases h
  | i + 1, hi, h => by
    rw [pruneTo] at h
    rcases List.mem_append.1 h with h | h
    · exact pruneTo_mem (by omega) h
    · split at h
      · simp only [List.mem_singleton] at h; subst h; exact nth_mem (by omega)
      · cases h
theorem cutP_mem {m : List Rect} {t f : Rect} (ht : May t) (h : f ∈ cutP m t) : May f ∧ ∃ a ∈ m, May a ∧ SubR f a ∧ ¬ Meet f t := by
  unfold cutP at h
  have h1 := pruneTo_mem (Nat.le_refl _) h
  rw [List.mem_filter] at h1
  obtain ⟨h2, h3⟩ := h1
  unfold cutAll at h2
  rw [if_pos ht, List.mem_flatMap] at h2
  obtain ⟨a, h4, h5⟩ := h2
  rw [List.mem_filter] at h4
  obtain ⟨h6, h7⟩ := left_in h5
  exact ⟨by unfold may at h3; simpa using h3, a, h4.1, by have := h4.2; unfold may at this; simpa using this, h6, h7⟩
structure Inv (l : List Sz) (pw ph pad : Int) (i : Nat) (ps : List (List Rect)) (out : List Plc) : Prop where
  len : out.length = i
  few : ps.length ≤ 16
  free : ∀ k f, f ∈ ps.getD k [] → (May f ∧ f.x + f.w ≤ pw ∧ f.y + f.h ≤ ph) ∧ ∀ j, j < i → (szAt l j).w ≠ 0 → (plAt out j).pg = (k : Int) → ¬ Meet f (pieceP (szAt l j) pad (plAt out j))
  done : ∀ j, j < i → okPiece l pw ph pad out j ∧ ((szAt l j).w ≠ 0 → (plAt out j).pg < (ps.length : Int))
theorem plAt_app {out : List Plc} {p : Plc} {j : Nat} (h : j < out.length) : plAt (out ++ [p]) j = plAt out j := by
  unfold plAt; rw [List.getD, List.getD, List.getElem?_append_left h]
theorem plAt_last {out : List Plc} {p : Plc} {j : Nat} (h : out.length = j) : plAt (out ++ [p]) j = p := by
  unfold plAt; rw [List.getD, List.getElem?_append_right (by omega), h, Nat.sub_self]; rfl
theorem okPiece_app {l : List Sz} {pw ph pad : Int} {out : List Plc} {p : Plc} {j : Nat} (h : j < out.length) (ho : okPiece l pw ph pad out j) : okPiece l pw ph pad (out ++ [p]) j := by
  unfold okPiece at ho ⊢
  rw [plAt_app h]
  rcases ho with ho | ⟨h1, h2, h3⟩
  · exact .inl ho
  · refine .inr ⟨h1, h2, fun k hk => ?_⟩
    rw [plAt_app (by omega)]
    exact h3 k hk
theorem inv_skip {l : List Sz} {pw ph pad : Int} {i : Nat} {ps : List (List Rect)} {out : List Plc} (h : Inv l pw ph pad i ps out) (hw : (szAt l i).w = 0) : Inv l pw ph pad (i + 1) ps (out ++ [⟨0, 0, 0⟩]) := by
  refine ⟨by simp [h.len], h.few, fun k f hf => ?_, fun j hj => ?_⟩
  · obtain ⟨h1, h2⟩ := h.free k f hf
    refine ⟨h1, fun j hj hjw hjk => ?_⟩
    by_cases hji : j = i
    · subst hji; exact absurd hw hjw
    · rw [plAt_app (by rw [h.len]; omega)] at hjk ⊢
      exact h2 j (by omega) hjw hjk
  · by_cases hji : j = i
    · subst hji; exact ⟨.inl hw, fun h => absurd hw h⟩
    · obtain ⟨h1, h2⟩ := h.done j (by omega)
      have hl : j < out.length := by rw [h.len]; omega
      exact ⟨okPiece_app hl h1, by rw [plAt_app hl]; exact h2⟩
theorem fitR_iff {r : Rect} {w h : Int} : fitR r w h = true ↔ r.w ≥ w ∧ r.h ≥ h := by unfold fitR; simp
theorem firstK_le (ps : List (List Rect)) (w h : Int) : firstK ps w h ≤ ps.length := List.findIdx_le_length
theorem inv_lay {l : List Sz} {pw ph pad : Int} {i : Nat} {ps ps' : List (List Rect)} {out : List Plc} {k : Nat} {r : Rect} (hq : askedP l pw ph pad) (hi : i < l.length) (h : Inv l pw ph pad i ps out) (hw : (szAt l i).w ≠ 0) (hb : bigP l pw ph pad i = false)
    (e : layP ps pw ph ((szAt l i).w + pad) ((szAt l i).h + pad) = some (k, r, ps')) : Inv l pw ph pad (i + 1) ps' (out ++ [⟨(k : Int), r.x, r.y⟩]) := by
  have hs : rightP (szAt l i) := by
    unfold szAt; rw [List.getD, List.getElem?_eq_getElem hi]; exact hq.2 _ (List.getElem_mem hi)
  obtain ⟨⟨⟨q1, q2⟩, ⟨q3, q4⟩, ⟨q5, q6⟩, q7⟩, _⟩ := hq
  unfold bigP at hb
  generalize hsz : szAt l i = s at *
  have hs2 : (1 ≤ s.w ∧ s.w ≤ 1024) ∧ 1 ≤ s.h ∧ s.h ≤ 1024 := by
    unfold rightP at hs; rcases hs with hs | hs
    · exact absurd hs.1 hw
    · exact hs
  have hbig : s.w + pad ≤ pw ∧ s.h + pad ≤ ph := by
    simp only [Bool.and_eq_false_iff, Bool.or_eq_false_iff, decide_eq_false_iff_not] at hb
    omega
  unfold layP at e
  have hfk := firstK_le ps (s.w + pad) (s.h + pad)
  by_cases hc : firstK ps (s.w + pad) (s.h + pad) = ps.length ∧ ps.length = 16
  · rw [if_pos hc] at e; cases e
  rw [if_neg hc] at e
  have hm : ∀ k, ∀ f ∈ (more ps pw ph (s.w + pad) (s.h + pad)).getD k [], (May f ∧ f.x + f.w ≤ pw ∧ f.y + f.h ≤ ph) ∧ ∀ j, j < i → (szAt l j).w ≠ 0 → (plAt out j).pg = (k : Int) → ¬ Meet f (pieceP (szAt l j) pad (plAt out j)) := by
    intro k f hf
    unfold more at hf
    by_cases hk : firstK ps (s.w + pad) (s.h + pad) = ps.length
    · rw [if_pos hk, List.getD] at hf
      by_cases hkl : k < ps.length
      · rw [List.getElem?_append_left hkl] at hf; exact h.free k f hf
      · by_cases hke : k = ps.length
        · subst hke
          rw [List.getElem?_append_right (Nat.le_refl _), Nat.sub_self] at hf
          simp only [List.getElem?_cons_zero, Option.getD_some, List.mem_singleton] at hf
          subst hf
          refine ⟨⟨by unfold May; simp only; omega, by simp only; omega, by simp only; omega⟩, fun j hj hjw hjk => ?_⟩
          have := (h.done j hj).2 hjw
          omega
        · rw [List.getElem?_append_right (by omega), List.getElem?_eq_none (by simp; omega)] at hf; cases hf
    · rw [if_neg hk] at hf; exact h.free k f hf
  have hml : (more ps pw ph (s.w + pad) (s.h + pad)).length ≤ 16 ∧ ps.length ≤ (more ps pw ph (s.w + pad) (s.h + pad)).length ∧ firstK ps (s.w + pad) (s.h + pad) < (more ps pw ph (s.w + pad) (s.h + pad)).length := by
    have := h.few
    unfold more
    by_cases hk : firstK ps (s.w + pad) (s.h + pad) = ps.length
    · rw [if_pos hk, List.length_append, List.length_singleton]; omega
    · rw [if_neg hk]; omega
  generalize more ps pw ph (s.w + pad) (s.h + pad) = M at *
  generalize firstK ps (s.w + pad) (s.h + pad) = K at *
  cases hbest : best (M.getD K []) (s.w + pad) (s.h + pad) with
  | none => rw [hbest] at e; cases e
  | some j =>
    rw [hbest] at e
    simp only [Option.some.injEq, Prod.mk.injEq] at e
    obtain ⟨rfl, rfl, rfl⟩ := e
    obtain ⟨hj, hfit⟩ := bestAt_lt hbest
    have hmem := nth_mem hj
    obtain ⟨⟨f1, f2, f3⟩, f4⟩ := hm _ _ hmem
    rw [fitR_iff] at hfit
    generalize hr : nth (M.getD K []) j = r at *
    have ht : May ⟨r.x, r.y, s.w + pad, s.h + pad⟩ := by unfold May at f1 ⊢; simp only; omega
    have hsub : SubR ⟨r.x, r.y, s.w + pad, s.h + pad⟩ r := by unfold SubR; simp only; omega
    have hpl : plAt (out ++ [⟨(K : Int), r.x, r.y⟩]) i = ⟨(K : Int), r.x, r.y⟩ := plAt_last h.len
    refine ⟨by simp [h.len], by rw [List.length_set]; exact hml.1, fun k f hf => ?_, fun m hmi => ?_⟩
    · by_cases hkK : k = K
      · subst hkK
        rw [List.getD, List.getElem?_set_self hml.2.2] at hf
        simp only [Option.getD_some] at hf
        obtain ⟨c1, a, c2, c3, c4, c5⟩ := cutP_mem ht hf
        obtain ⟨⟨d1, d2, d3⟩, d4⟩ := hm k a c2
        refine ⟨⟨c1, by unfold SubR at c4; omega, by unfold SubR at c4; omega⟩, fun m hmi hmw hmk => ?_⟩
        by_cases hmi2 : m = i
        · subst hmi2
          rw [hpl, hsz]; exact c5
        · rw [plAt_app (by rw [h.len]; omega)] at hmk ⊢
          exact fun hh => d4 m (by omega) hmw hmk (sub_meet c4 hh)
      · rw [List.getD, List.getElem?_set_ne (by omega)] at hf
        obtain ⟨d1, d4⟩ := hm k f hf
        refine ⟨d1, fun m hmi hmw hmk => ?_⟩
        by_cases hmi2 : m = i
        · subst hmi2
          rw [hpl] at hmk
          simp only at hmk
          omega
        · rw [plAt_app (by rw [h.len]; omega)] at hmk ⊢
          exact d4 m (by omega) hmw hmk
    · by_cases hmi2 : m = i
      · subst hmi2
        refine ⟨.inr ?_, fun _ => by rw [hpl, List.length_set]; simp only; omega⟩
        rw [hpl, hsz]
        refine ⟨by simp only; omega, ⟨ht, by simp only; omega, by simp only; omega⟩, fun k hk hkw hkp => ?_⟩
        rw [plAt_app (by rw [h.len]; exact hk)] at hkp ⊢
        exact fun hh => f4 k hk hkw hkp (sub_meet hsub hh)
      · obtain ⟨o1, o2⟩ := h.done m (by omega)
        have hl : m < out.length := by rw [h.len]; omega
        refine ⟨okPiece_app hl o1, fun hmw => ?_⟩
        have := o2 hmw
        rw [plAt_app hl, List.length_set]; omega
theorem inv_all {l : List Sz} {pw ph pad : Int} (hq : askedP l pw ph pad) (hb : ∀ i, i < l.length → bigP l pw ph pad i = false) : ∀ {i : Nat} {ps : List (List Rect)} {out : List Plc}, i ≤ l.length → layTo l pw ph pad i = some (ps, out) → Inv l pw ph pad i ps out
  | 0, ps, out, _, e => by
    injection e with e; injection e with e1 e2; subst e1 e2
    exact ⟨rfl, by simp, fun k f hf => by simp at hf, fun j hj => by omega⟩
  | i + 1, ps, out, hi, e => by
    rw [layTo] at e
    cases hl : layTo l pw ph pad i with
    | none => rw [hl] at e; cases e
    | some q =>
      obtain ⟨ps1, out1⟩ := q
      have ih := inv_all hq hb (by omega) hl
      rw [hl] at e
      simp only [layStep] at e
      by_cases hw : (szAt l i).w = 0
      · rw [if_pos hw] at e
        injection e with e; injection e with e1 e2; subst e1 e2
        exact inv_skip ih hw
      · rw [if_neg hw] at e
        cases hlp : layP ps1 pw ph ((szAt l i).w + pad) ((szAt l i).h + pad) with
        | none => rw [hlp] at e; cases e
        | some t =>
          obtain ⟨k, r, ps2⟩ := t
          rw [hlp] at e
          injection e with e; injection e with e1 e2; subst e1 e2
          exact inv_lay hq (by omega) ih hw (hb i (by omega)) hlp
theorem big_none {l : List Sz} {pw ph pad : Int} (h : firstBig l pw ph pad = none) : ∀ i, i < l.length → bigP l pw ph pad i = false := fun i hi => by
  unfold firstBig at h
  rw [List.find?_eq_none] at h
  simpa using h i (List.mem_range.2 hi)
theorem lay_chk {l : List Sz} {pw ph pad : Int} (h : (layR l pw ph pad).2.2 = 0) : chkP l pw ph pad (layR l pw ph pad).1 := by
  unfold layR at h ⊢
  by_cases ha : askedP l pw ph pad
  · rw [if_pos ha] at h ⊢
    cases hb : firstBig l pw ph pad with
    | some i => rw [hb] at h; cases h
    | none =>
      rw [hb] at h
      cases hl : layTo l pw ph pad l.length with
      | none => rw [hl] at h; cases h
      | some q =>
        obtain ⟨ps, out⟩ := q
        have hv := inv_all ha (big_none hb) (Nat.le_refl _) hl
        exact ⟨⟨ha, hv.len⟩, fun i hi => (hv.done i hi).1⟩
  · rw [if_neg ha] at h; cases h
end Go.Proofs.Ytkcbjeenoafbkaa
