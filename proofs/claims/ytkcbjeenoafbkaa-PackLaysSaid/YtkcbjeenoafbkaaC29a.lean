/- Chapter 29, in plain law: sizes, laid on pages. -/
import Derived.Test.YtkcbjeenoafbkaaC28j
set_option linter.unusedVariables false
set_option linter.unusedSimpArgs false
set_option maxHeartbeats 1000000
namespace Go.Proofs.Ytkcbjeenoafbkaa
open Go Go.Den
structure Sz where
  w : Int
  h : Int
  deriving DecidableEq
structure Plc where
  pg : Int
  x : Int
  y : Int
  deriving DecidableEq
def z4 : Rect := ⟨0, 0, 0, 0⟩
def rightP (s : Sz) : Prop := (s.w = 0 ∧ s.h = 0) ∨ ((1 ≤ s.w ∧ s.w ≤ 1024) ∧ 1 ≤ s.h ∧ s.h ≤ 1024)
instance (s : Sz) : Decidable (rightP s) := by unfold rightP; infer_instance
def askedP (l : List Sz) (pw ph pad : Int) : Prop := ((1 ≤ pw ∧ pw ≤ 1024) ∧ (1 ≤ ph ∧ ph ≤ 1024) ∧ (0 ≤ pad ∧ pad ≤ 16) ∧ l.length ≤ 1024) ∧ ∀ s ∈ l, rightP s
instance (l : List Sz) (pw ph pad : Int) : Decidable (askedP l pw ph pad) := by unfold askedP; infer_instance
def fitR (r : Rect) (w h : Int) : Bool := decide (r.w ≥ w) && decide (r.h ≥ h)
/-- Which of two is better for something so wide and high. -/
def betR (a b : Rect) (w h : Int) : Bool :=
  if min (a.w - w) (a.h - h) ≠ min (b.w - w) (b.h - h) then decide (min (a.w - w) (a.h - h) < min (b.w - w) (b.h - h))
  else if max (a.w - w) (a.h - h) ≠ max (b.w - w) (b.h - h) then decide (max (a.w - w) (a.h - h) < max (b.w - w) (b.h - h))
  else if a.y ≠ b.y then decide (a.y < b.y) else decide (a.x < b.x)
/-- The place of the best one of the first ones. -/
def bestAt (f : List Rect) (w h : Int) : Nat → Option Nat
  | 0 => none
  | i + 1 => match bestAt f w h i with
    | none => if fitR (nth f i) w h then some i else none
    | some j => if fitR (nth f i) w h && betR (nth f i) (nth f j) w h then some i else some j
theorem bestAt_lt {f : List Rect} {w h : Int} : ∀ {i j : Nat}, bestAt f w h i = some j → j < i ∧ fitR (nth f j) w h = true
  | 0, j, e => by cases e
  | i + 1, j, e => by
    rw [bestAt] at e
    cases hb : bestAt f w h i with
    | none =>
      rw [hb] at e
      simp only at e
      by_cases hf : fitR (nth f i) w h = true
      · rw [if_pos hf] at e; injection e with e; subst e; exact ⟨by omega, hf⟩
      · rw [if_neg hf] at e; cases e
    | some k =>
      obtain ⟨h1, h2⟩ := bestAt_lt hb
      rw [hb] at e
      simp only at e
      by_cases hf : (fitR (nth f i) w h && betR (nth f i) (nth f k) w h) = true
      · rw [if_pos hf] at e; injection e with e; subst e
        simp only [Bool.and_eq_true] at hf
        exact ⟨by omega, hf.1⟩
      · rw [if_neg hf] at e; injection e with e; subst e; exact ⟨by omega, h2⟩
def best (f : List Rect) (w h : Int) : Option Nat := bestAt f w h f.length
def cutP (f : List Rect) (t : Rect) : List Rect := prune ((cutAll (f.filter may) t).filter may)
def firstK (ps : List (List Rect)) (w h : Int) : Nat := ps.findIdx fun f => (best f w h).isSome
def more (ps : List (List Rect)) (pw ph w h : Int) : List (List Rect) := if firstK ps w h = ps.length then ps ++ [[⟨0, 0, pw, ph⟩]] else ps
def layP (ps : List (List Rect)) (pw ph w h : Int) : Option (Nat × Rect × List (List Rect)) :=
  if firstK ps w h = ps.length ∧ ps.length = 16 then none
  else match best ((more ps pw ph w h).getD (firstK ps w h) []) w h with
    | none => none
    | some j => some (firstK ps w h, nth ((more ps pw ph w h).getD (firstK ps w h) []) j,
        (more ps pw ph w h).set (firstK ps w h) (cutP ((more ps pw ph w h).getD (firstK ps w h) []) ⟨(nth ((more ps pw ph w h).getD (firstK ps w h) []) j).x, (nth ((more ps pw ph w h).getD (firstK ps w h) []) j).y, w, h⟩))
def szAt (l : List Sz) (i : Nat) : Sz := l.getD i ⟨0, 0⟩
def layStep (l : List Sz) (pw ph pad : Int) (i : Nat) : Option (List (List Rect) × List Plc) → Option (List (List Rect) × List Plc)
  | none => none
  | some (ps, out) => if (szAt l i).w = 0 then some (ps, out ++ [⟨0, 0, 0⟩]) else match layP ps pw ph ((szAt l i).w + pad) ((szAt l i).h + pad) with
    | none => none
    | some (k, r, ps') => some (ps', out ++ [⟨(k : Int), r.x, r.y⟩])
def layTo (l : List Sz) (pw ph pad : Int) : Nat → Option (List (List Rect) × List Plc)
  | 0 => some ([], [])
  | i + 1 => layStep l pw ph pad i (layTo l pw ph pad i)
def bigP (l : List Sz) (pw ph pad : Int) (i : Nat) : Bool := decide ((szAt l i).w > 0) && (decide ((szAt l i).w + pad > pw) || decide ((szAt l i).h + pad > ph))
def firstBig (l : List Sz) (pw ph pad : Int) : Option Nat := (List.range l.length).find? fun i => bigP l pw ph pad i
def layR (l : List Sz) (pw ph pad : Int) : List Plc × Int × Int :=
  if askedP l pw ph pad then match firstBig l pw ph pad with
    | some i => ([], (i : Int), 11)
    | none => match layTo l pw ph pad l.length with
      | none => ([], 0, 10)
      | some (ps, out) => (out, (ps.length : Int), 0)
  else ([], 0, 1)
/-! ### What is laid first hangs on nothing behind it -/
theorem layTo_head {l : List Sz} {m : Nat} {pw ph pad : Int} (hm : m ≤ l.length) : ∀ i, i ≤ m → layTo (l.take m) pw ph pad i = layTo l pw ph pad i
  | 0, _ => rfl
  | i + 1, h => by
    have hs : szAt (l.take m) i = szAt l i := by
      unfold szAt; rw [List.getD, List.getD, List.getElem?_take]; simp [show i < m by omega]
    rw [layTo, layTo, layTo_head hm i (by omega)]
    cases layTo l pw ph pad i with
    | none => rfl
    | some q => unfold layStep; rw [hs]
theorem layTo_len {l : List Sz} {pw ph pad : Int} : ∀ {i : Nat} {ps : List (List Rect)} {out : List Plc}, layTo l pw ph pad i = some (ps, out) → out.length = i
  | 0, ps, out, e => by injection e with e; injection e with _ e; subst e; rfl
  | i + 1, ps, out, e => by
    rw [layTo] at e
    cases hl : layTo l pw ph pad i with
    | none => rw [hl] at e; cases e
    | some q =>
      obtain ⟨ps1, out1⟩ := q
      have ih := layTo_len hl
      rw [hl] at e
      simp only [layStep] at e
      split at e
      · injection e with e; injection e with _ e; subst e; simp [ih]
      · split at e
        · cases e
        · injection e with e; injection e with _ e; subst e; simp [ih]
theorem layTo_less {l : List Sz} {pw ph pad : Int} {ps : List (List Rect)} {out : List Plc} : ∀ {n : Nat}, layTo l pw ph pad n = some (ps, out) → ∀ m, m ≤ n → ∃ ps', layTo l pw ph pad m = some (ps', out.take m)
  | 0, e, m, h => by
    obtain rfl : m = 0 := by omega
    exact ⟨ps, by rw [e]; have := layTo_len e; rw [List.take_of_length_le (by omega)]⟩
  | n + 1, e, m, h => by
    by_cases hmn : m = n + 1
    · subst hmn
      exact ⟨ps, by rw [e]; have := layTo_len e; rw [List.take_of_length_le (by omega)]⟩
    · rw [layTo] at e
      cases hl : layTo l pw ph pad n with
      | none => rw [hl] at e; cases e
      | some q =>
        obtain ⟨ps1, out1⟩ := q
        have hlen := layTo_len hl
        obtain ⟨ps', h1⟩ := layTo_less hl m (by omega)
        have ht : out.take m = out1.take m := by
          rw [hl] at e
          simp only [layStep] at e
          split at e
          · injection e with e; injection e with _ e; subst e; rw [List.take_append_of_le_length (by omega)]
          · split at e
            · cases e
            · injection e with e; injection e with _ e; subst e; rw [List.take_append_of_le_length (by omega)]
        exact ⟨ps', by rw [h1, ht]⟩
theorem lay_heads {l : List Sz} {pw ph pad : Int} (h : (layR l pw ph pad).2.2 = 0) {m : Nat} (hm : m ≤ l.length) :
    (layR (l.take m) pw ph pad).2.2 = 0 ∧ (layR (l.take m) pw ph pad).1 = (layR l pw ph pad).1.take m ∧ (layR l pw ph pad).1.length = l.length := by
  unfold layR at h
  by_cases ha : askedP l pw ph pad
  · rw [if_pos ha] at h
    cases hb : firstBig l pw ph pad with
    | some i => rw [hb] at h; cases h
    | none =>
      rw [hb] at h
      cases hl : layTo l pw ph pad l.length with
      | none => rw [hl] at h; cases h
      | some q =>
        obtain ⟨ps, out⟩ := q
        obtain ⟨ps', h1⟩ := layTo_less hl m hm
        have ha2 : askedP (l.take m) pw ph pad := ⟨⟨ha.1.1, ha.1.2.1, ha.1.2.2.1, by rw [List.length_take]; have := ha.1.2.2.2; omega⟩, fun s hs => ha.2 s (List.mem_of_mem_take hs)⟩
        have hml : (l.take m).length = m := by rw [List.length_take]; omega
        have hb2 : firstBig (l.take m) pw ph pad = none := by
          unfold firstBig at hb ⊢
          rw [List.find?_eq_none] at hb ⊢
          intro i hi
          rw [hml] at hi
          have hi' := List.mem_range.1 hi
          have := hb i (List.mem_range.2 (by omega))
          have hs : szAt (l.take m) i = szAt l i := by
            unfold szAt; rw [List.getD, List.getD, List.getElem?_take]; simp [hi']
          unfold bigP at this ⊢
          rw [hs]; exact this
        have e1 : layR (l.take m) pw ph pad = (out.take m, (ps'.length : Int), 0) := by
          unfold layR; rw [if_pos ha2, hb2]; simp only; rw [hml, layTo_head hm m (Nat.le_refl _), h1]
        have e2 : layR l pw ph pad = (out, (ps.length : Int), 0) := by
          unfold layR; rw [if_pos ha, hb]; simp only; rw [hl]
        rw [e1, e2]
        exact ⟨rfl, rfl, layTo_len hl⟩
  · rw [if_neg ha] at h; cases h
theorem lay_bad {l : List Sz} {pw ph pad : Int} (h : (layR l pw ph pad).2.2 ≠ 0) : (layR l pw ph pad).1 = [] := by
  unfold layR at h ⊢
  split
  · rename_i ha
    rw [if_pos ha] at h
    split
    · rfl
    · rename_i hb
      rw [hb] at h
      simp only at h
      split
      · rfl
      · rename_i hl
        rw [hl] at h
        exact absurd rfl h
  · rfl
end Go.Proofs.Ytkcbjeenoafbkaa
