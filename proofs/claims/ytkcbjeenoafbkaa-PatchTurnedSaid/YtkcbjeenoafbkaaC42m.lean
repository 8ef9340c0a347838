/- Chapter 42: a patch of which one byte is another one, in plain law. -/
import Derived.Test.YtkcbjeenoafbkaaC42l
set_option linter.unusedVariables false
set_option linter.unusedSimpArgs false
set_option maxRecDepth 100000
set_option maxHeartbeats 2000000
namespace Go.Proofs.Ytkcbjeenoafbkaa
open Go Go.Den
theorem num4_inj {x y : List UInt8} (hx : x.length = 4) (hy : y.length = 4) (h : num x = num y) : x = y := by
  match x, hx, y, hy with
  | [a, b, c, d], _, [a', b', c', d'], _ =>
    have h1 := a.toNat_lt
    have h2 := b.toNat_lt
    have h3 := c.toNat_lt
    have h4 := d.toNat_lt
    have h5 := a'.toNat_lt
    have h6 := b'.toNat_lt
    have h7 := c'.toNat_lt
    have h8 := d'.toNat_lt
    simp only [num, List.foldl_cons, List.foldl_nil] at h
    have e1 : a.toNat = a'.toNat := by omega
    have e2 : b.toNat = b'.toNat := by omega
    have e3 : c.toNat = c'.toNat := by omega
    have e4 : d.toNat = d'.toNat := by omega
    rw [UInt8.toNat_inj.1 e1, UInt8.toNat_inj.1 e2, UInt8.toNat_inj.1 e3, UInt8.toNat_inj.1 e4]
theorem n4_same {p q : List UInt8} {i r : Nat} (hp : i + 4 ≤ p.length) (hq : i + 4 ≤ q.length) (h : n4 p i = n4 q i) (hr : r < 4) : p[i + r]? = q[i + r]? := by
  have := num4_inj (by rw [List.length_take, List.length_drop]; omega) (by rw [List.length_take, List.length_drop]; omega) h
  have h2 := congrArg (fun l => l[r]?) this
  simp only [List.getElem?_take, hr, if_true, List.getElem?_drop] at h2
  exact h2
theorem n4_set {p : List UInt8} {k i : Nat} {c : UInt8} (h : i + 4 ≤ k) : n4 (p.set k c) i = n4 p i := by
  unfold n4
  congr 1
  apply List.ext_getElem?
  intro j
  simp only [List.getElem?_take, List.getElem?_drop]
  split
  · rw [List.getElem?_set_ne (by omega)]
  · rfl
theorem made_big {old : List UInt8} {most most' : Nat} (hm : most ≤ most') : ∀ {l : List Stp} {acc M : List UInt8}, madeP old most acc l = (M, 0) → madeP old most' acc l = (M, 0)
  | [], acc, M, h => h
  | s :: r, acc, M, h => by
    rw [madeP] at h ⊢
    cases hp : partP old s with
    | none => rw [hp] at h; simp at h
    | some b =>
      rw [hp] at h
      simp only at h ⊢
      by_cases hl : acc.length + b.length > most
      · rw [if_pos hl] at h; simp at h
      · rw [if_neg hl] at h
        rw [if_neg (by omega)]
        exact made_big hm h
theorem apply_err {a q : List UInt8} (h : (ApplyP a q).2 ≠ 0) : (ApplyP a q).1 = [] := by
  unfold ApplyP restP at h ⊢
  split; · rfl
  split; · rfl
  split; · rfl
  split; · rfl
  split; · rfl
  split; · rfl
  split; · rfl
  rename_i h1 h2 h3 h4 h5 h6 h7
  rw [if_neg h1, if_neg h2, if_neg h3, if_neg h4, if_neg h5, if_neg h6, if_neg h7] at h
  exact absurd rfl h
theorem apply_ok {a q : List UInt8} (h : (ApplyP a q).2 = 0) : 16 ≤ q.length ∧ n4 q 0 = a.length ∧ n4 q 4 = crcN a ∧ n4 q 8 = (ApplyP a q).1.length ∧ n4 q 12 = crcN (ApplyP a q).1 ∧ madeP a (n4 q 8) [] (stepsP q 16).1 = ((ApplyP a q).1, 0) := by
  unfold ApplyP restP at h ⊢
  by_cases h1 : a.length > 65536
  · rw [if_pos h1] at h; simp at h
  rw [if_neg h1] at h ⊢
  by_cases h2 : q.length < 16
  · rw [if_pos h2] at h; simp at h
  rw [if_neg h2] at h ⊢
  by_cases h3 : n4 q 8 > 65536
  · rw [if_pos h3] at h; simp at h
  rw [if_neg h3] at h ⊢
  by_cases h4 : n4 q 0 ≠ a.length ∨ n4 q 4 ≠ crcN a
  · rw [if_pos h4] at h; simp at h
  rw [if_neg h4] at h ⊢
  by_cases h5 : (madeP a (n4 q 8) [] (stepsP q 16).1).2 ≠ 0
  · rw [if_pos h5] at h; exact absurd h h5
  rw [if_neg h5] at h ⊢
  by_cases h6 : (stepsP q 16).2 ≠ 0
  · rw [if_pos h6] at h; exact absurd h h6
  rw [if_neg h6] at h ⊢
  by_cases h7 : n4 q 8 ≠ (madeP a (n4 q 8) [] (stepsP q 16).1).1.length ∨ n4 q 12 ≠ crcN (madeP a (n4 q 8) [] (stepsP q 16).1).1
  · rw [if_pos h7] at h; simp at h
  rw [if_neg h7]
  simp only [not_or, ne_eq, Classical.not_not] at h4 h5 h7
  refine ⟨by omega, h4.1, h4.2, h7.1, h7.2, ?_⟩
  exact Prod.ext rfl h5
/-- What a turned patch makes, if anything. -/
theorem turned {a b : List UInt8} (ha : a.length ≤ 65536) (hb : b.length ≤ 65536) {k : Nat} {c : UInt8} (hk : k < (DiffP a b).length) (hc : (DiffP a b)[k] ≠ c) (h : (ApplyP a ((DiffP a b).set k c)).2 = 0) :
    16 ≤ k ∧ (ApplyP a ((DiffP a b).set k c)).1.length = b.length ∧ crcN (ApplyP a ((DiffP a b).set k c)).1 = crcN b := by
  have hh := diff_head ha hb (copiedP 0 (preL a b) ++ (givenP (midP a b) ++ copiedP (a.length - sufL a b) (sufL a b)))
  rw [← diff_assoc] at hh
  obtain ⟨h0, h4, h8, h12⟩ := hh
  have hl := (diff_len a b).2
  obtain ⟨_, o0, o4, o8, o12, om⟩ := apply_ok h
  by_cases h16 : 16 ≤ k
  · rw [n4_set (by omega)] at o8 o12
    exact ⟨h16, by omega, by omega⟩
  · exfalso
    have hst : (stepsP ((DiffP a b).set k c) 16).1 = cpS 0 (preL a b) ++ (gvS (midP a b) ++ cpS (a.length - sufL a b) (sufL a b)) := by
      rw [diff_assoc, List.set_append_left _ _ (by rw [begin_len]; omega), diff_steps ((beginP a b).set k c) (by rw [List.length_set, begin_len]) ha hb]
    rw [hst] at om
    have hM : (ApplyP a ((DiffP a b).set k c)).1 = b := by
      have h1 := made_big (most' := max (n4 ((DiffP a b).set k c) 8) b.length) (by omega) om
      rw [made_diff (by omega)] at h1
      exact (congrArg Prod.fst h1).symm
    rw [hM] at o8 o12
    have hlen : ((DiffP a b).set k c).length = (DiffP a b).length := List.length_set
    have hkk : (DiffP a b)[k]? = ((DiffP a b).set k c)[k]? := by
      have e : k = k / 4 * 4 + k % 4 := by omega
      have hi : k / 4 * 4 = 0 ∨ k / 4 * 4 = 4 ∨ k / 4 * 4 = 8 ∨ k / 4 * 4 = 12 := by omega
      have hn : n4 (DiffP a b) (k / 4 * 4) = n4 ((DiffP a b).set k c) (k / 4 * 4) := by
        rcases hi with e | e | e | e <;> rw [e] <;> omega
      have := n4_same (p := DiffP a b) (q := (DiffP a b).set k c) (i := k / 4 * 4) (r := k % 4) (by omega) (by omega) hn (Nat.mod_lt _ (by omega))
      rwa [← e] at this
    rw [List.getElem?_eq_getElem hk, List.getElem?_set_self hk] at hkk
    injection hkk with hkk
    exact hc hkk
theorem other {a b : List UInt8} (ha : a.length ≤ 65536) (hb : b.length ≤ 65536) (h : ¬ (b.length = a.length ∧ crcN b = crcN a)) : ApplyP b (DiffP a b) = ([], 5) := by
  have hh := diff_head ha hb (copiedP 0 (preL a b) ++ (givenP (midP a b) ++ copiedP (a.length - sufL a b) (sufL a b)))
  rw [← diff_assoc] at hh
  obtain ⟨h0, h4, h8, h12⟩ := hh
  have hl := (diff_len a b).2
  unfold ApplyP
  rw [if_neg (by omega), if_neg (by omega), if_neg (by omega), if_pos]
  rw [h0, h4]
  by_cases h1 : b.length = a.length
  · exact .inr fun h2 => h ⟨h1, h2.symm⟩
  · exact .inl fun h2 => h1 h2.symm
end Go.Proofs.Ytkcbjeenoafbkaa
