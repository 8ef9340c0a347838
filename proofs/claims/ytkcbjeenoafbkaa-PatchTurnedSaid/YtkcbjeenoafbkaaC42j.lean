/- Chapter 42: a patch makes the new text, in plain law. -/
import Derived.Test.YtkcbjeenoafbkaaC42h
set_option linter.unusedVariables false
set_option linter.unusedSimpArgs false
set_option maxRecDepth 100000
set_option maxHeartbeats 2000000
namespace Go.Proofs.Ytkcbjeenoafbkaa
open Go Go.Den
theorem num_put4 {x : Nat} (h : x < 4294967296) : num (putB x 4) = x := by
  simp [num, putB]; omega
theorem n4_at {A R : List UInt8} {x : Nat} (h : x < 4294967296) : n4 (A ++ (putB x 4 ++ R)) A.length = x := by
  unfold n4
  rw [List.drop_append_of_le_length (Nat.le_refl _), List.drop_length, List.nil_append, List.take_append_of_le_length (by rw [putB_len]; exact Nat.le_refl _), List.take_of_length_le (by rw [putB_len]; exact Nat.le_refl _), num_put4 h]
theorem kd_at {A R : List UInt8} {b : UInt8} : kd (A ++ (b :: R)) A.length = b.toNat := by
  unfold kd; simp [List.getD_eq_getElem?_getD]
/-- The step that a copied part is. -/
theorem step_copied {A R : List UInt8} {f n : Nat} (hf : f < 4294967296) (hn : n < 4294967296) (h0 : n ≠ 0) :
    stepsP (A ++ (copiedP f n ++ R)) A.length = (⟨true, f, n, []⟩ :: (stepsP (A ++ (copiedP f n ++ R)) (A.length + 9)).1, (stepsP (A ++ (copiedP f n ++ R)) (A.length + 9)).2) := by
  have hc : copiedP f n = 0 :: (putB f 4 ++ putB n 4) := by unfold copiedP; rw [if_neg h0]; rfl
  have hlen : (copiedP f n).length = 9 := by rw [hc]; simp [putB_len]
  have hk : kd (A ++ (copiedP f n ++ R)) A.length = 0 := by rw [hc]; exact kd_at (b := 0)
  have h1 : n4 (A ++ (copiedP f n ++ R)) (A.length + 1) = f := by
    have := n4_at (A := A ++ [0]) (R := putB n 4 ++ R) hf
    rw [List.length_append] at this
    rw [show A ++ (copiedP f n ++ R) = (A ++ [0]) ++ (putB f 4 ++ (putB n 4 ++ R)) by rw [hc]; simp]
    exact this
  have h2 : n4 (A ++ (copiedP f n ++ R)) (A.length + 5) = n := by
    have := n4_at (A := A ++ (0 :: putB f 4)) (R := R) hn
    rw [List.length_append, List.length_cons, putB_len] at this
    rw [show A ++ (copiedP f n ++ R) = (A ++ (0 :: putB f 4)) ++ (putB n 4 ++ R) by rw [hc]; simp]
    exact this
  generalize hp : A ++ (copiedP f n ++ R) = p at *
  have hpl : A.length + 9 ≤ p.length := by rw [← hp, List.length_append, List.length_append, hlen]; omega
  have hd : hdL p A.length = 9 := if_pos hk
  have hcn : cnt p A.length = n := by unfold cnt; rw [hd, show A.length + 9 - 4 = A.length + 5 by omega, h2]
  have hE : stepE p A.length = 0 := by unfold stepE; rw [if_neg (by omega), hd, if_neg (by omega), hcn, if_neg h0, if_pos hk]
  have hS : stepS p A.length = ⟨true, f, n, []⟩ := by unfold stepS; rw [if_pos hk, h1, hcn]
  have hN : stepN p A.length = A.length + 9 := if_pos hk
  rw [steps_ok (by omega) hE, hS, hN]
theorem step_given {A R s : List UInt8} (hs : s.length < 4294967296) (h0 : s ≠ []) :
    stepsP (A ++ (givenP s ++ R)) A.length = (⟨false, 0, s.length, s⟩ :: (stepsP (A ++ (givenP s ++ R)) (A.length + (5 + s.length))).1, (stepsP (A ++ (givenP s ++ R)) (A.length + (5 + s.length))).2) := by
  have hc : givenP s = 1 :: (putB s.length 4 ++ s) := by unfold givenP; rw [if_neg h0]; rfl
  have hlen : (givenP s).length = 5 + s.length := by rw [hc]; simp [putB_len]; omega
  have hk : kd (A ++ (givenP s ++ R)) A.length = 1 := by rw [hc]; exact kd_at (b := 1)
  have h1 : n4 (A ++ (givenP s ++ R)) (A.length + 1) = s.length := by
    have := n4_at (A := A ++ [1]) (R := s ++ R) hs
    rw [List.length_append] at this
    rw [show A ++ (givenP s ++ R) = (A ++ [1]) ++ (putB s.length 4 ++ (s ++ R)) by rw [hc]; simp]
    exact this
  have h2 : ((A ++ (givenP s ++ R)).drop (A.length + 5)).take s.length = s := by
    have e : A ++ (givenP s ++ R) = (A ++ (1 :: putB s.length 4)) ++ (s ++ R) := by rw [hc]; simp
    rw [e, show A.length + 5 = (A ++ (1 :: putB s.length 4)).length by simp [putB_len], List.drop_append_of_le_length (Nat.le_refl _), List.drop_length, List.nil_append, List.take_append_of_le_length (Nat.le_refl _), List.take_length]
  have hsl : s.length ≠ 0 := by simpa using h0
  generalize hp : A ++ (givenP s ++ R) = p at *
  have hpl : A.length + (5 + s.length) ≤ p.length := by rw [← hp, List.length_append, List.length_append, hlen]; omega
  have hk0 : ¬ kd p A.length = 0 := by omega
  have hd : hdL p A.length = 5 := if_neg hk0
  have hcn : cnt p A.length = s.length := by unfold cnt; rw [hd, show A.length + 5 - 4 = A.length + 1 by omega, h1]
  have hE : stepE p A.length = 0 := by unfold stepE; rw [if_neg (by omega), hd, if_neg (by omega), hcn, if_neg hsl, if_neg hk0, if_neg (by omega)]
  have hS : stepS p A.length = ⟨false, 0, s.length, s⟩ := by unfold stepS; rw [if_neg hk0, hcn, h2]
  have hN : stepN p A.length = A.length + (5 + s.length) := by unfold stepN; rw [if_neg hk0, hcn]; omega
  rw [steps_ok (by omega) hE, hS, hN]
def cpS (f n : Nat) : List Stp := if n = 0 then [] else [⟨true, f, n, []⟩]
def gvS (s : List UInt8) : List Stp := if s = [] then [] else [⟨false, 0, s.length, s⟩]
theorem steps_copied {A R : List UInt8} {f n : Nat} (hf : f < 4294967296) (hn : n < 4294967296) :
    stepsP (A ++ (copiedP f n ++ R)) A.length = (cpS f n ++ (stepsP ((A ++ copiedP f n) ++ R) (A ++ copiedP f n).length).1, (stepsP ((A ++ copiedP f n) ++ R) (A ++ copiedP f n).length).2) := by
  by_cases h0 : n = 0
  · subst h0
    have : copiedP f 0 = [] := if_pos rfl
    rw [this]; simp [cpS]
  · rw [step_copied hf hn h0]
    have hlen : (copiedP f n).length = 9 := by unfold copiedP; rw [if_neg h0]; simp [putB_len]
    rw [List.length_append, hlen, List.append_assoc]
    unfold cpS; rw [if_neg h0]; rfl
theorem steps_given {A R s : List UInt8} (hs : s.length < 4294967296) :
    stepsP (A ++ (givenP s ++ R)) A.length = (gvS s ++ (stepsP ((A ++ givenP s) ++ R) (A ++ givenP s).length).1, (stepsP ((A ++ givenP s) ++ R) (A ++ givenP s).length).2) := by
  by_cases h0 : s = []
  · subst h0
    have : givenP [] = [] := if_pos rfl
    rw [this]; simp [gvS]
  · rw [step_given hs h0]
    have hlen : (givenP s).length = 5 + s.length := by unfold givenP; rw [if_neg h0]; simp [putB_len]; omega
    rw [List.length_append, hlen, List.append_assoc]
    unfold gvS; rw [if_neg h0]; rfl
theorem begin_len (a b : List UInt8) : (beginP a b).length = 16 := by simp [beginP, putB_len]
/-- The steps of a patch, whatever its beginning. -/
theorem diff_steps {a b : List UInt8} (hdr : List UInt8) (hh : hdr.length = 16) (ha : a.length ≤ 65536) (hb : b.length ≤ 65536) :
    stepsP (hdr ++ (copiedP 0 (preL a b) ++ (givenP (midP a b) ++ copiedP (a.length - sufL a b) (sufL a b)))) 16 = (cpS 0 (preL a b) ++ (gvS (midP a b) ++ cpS (a.length - sufL a b) (sufL a b)), 0) := by
  have hpl := preL_le a b
  have hsl := sufL_le a b
  have lm : (midP a b).length ≤ 65536 := by unfold midP; rw [List.length_take, List.length_drop]; omega
  have h1 := steps_copied (A := hdr) (R := givenP (midP a b) ++ copiedP (a.length - sufL a b) (sufL a b)) (f := 0) (n := preL a b) (by omega) (by omega)
  have h2 := steps_given (A := hdr ++ copiedP 0 (preL a b)) (R := copiedP (a.length - sufL a b) (sufL a b)) (s := midP a b) (by omega)
  have h3 := steps_copied (A := hdr ++ copiedP 0 (preL a b) ++ givenP (midP a b)) (R := []) (f := a.length - sufL a b) (n := sufL a b) (by omega) (by omega)
  have h4 := steps_end (p := ((hdr ++ copiedP 0 (preL a b) ++ givenP (midP a b)) ++ copiedP (a.length - sufL a b) (sufL a b)) ++ []) (a := ((hdr ++ copiedP 0 (preL a b) ++ givenP (midP a b)) ++ copiedP (a.length - sufL a b) (sufL a b)).length) (by simp)
  rw [h4] at h3
  rw [List.append_nil] at h3
  rw [h3] at h2
  rw [h2, hh] at h1
  rw [h1]; simp
theorem mid_join {a b : List UInt8} : a.take (preL a b) ++ (midP a b ++ (a.drop (a.length - sufL a b)).take (sufL a b)) = b := by
  have hpl := preL_le a b
  have hsl := sufL_le a b
  have h1 : a.take (preL a b) = b.take (preL a b) := by
    apply List.ext_getElem
    · simp; omega
    · intro i h1 h2
      have hi : i < preL a b := by simp at h1; omega
      have := scan_all (preQ a b) _ 0 i (by omega) (show i < scan (preQ a b) (min a.length b.length) 0 from hi)
      simp only [preQ, decide_eq_true_eq] at this
      rw [List.getElem_take, List.getElem_take]
      rw [List.getD_eq_getElem?_getD, List.getD_eq_getElem?_getD, List.getElem?_eq_getElem (show i < a.length by omega), List.getElem?_eq_getElem (show i < b.length by omega)] at this
      exact this
  have h2 : (a.drop (a.length - sufL a b)).take (sufL a b) = b.drop (b.length - sufL a b) := by
    rw [List.take_of_length_le (by rw [List.length_drop]; omega)]
    apply List.ext_getElem
    · simp; omega
    · intro i h1 h2
      have hi : i < sufL a b := by simp at h1; omega
      have := scan_all (sufQ a b) _ 0 (sufL a b - 1 - i) (by omega) (show sufL a b - 1 - i < scan (sufQ a b) (min a.length b.length - preL a b) 0 by show _ < sufL a b; omega)
      simp only [sufQ, decide_eq_true_eq] at this
      rw [List.getElem_drop, List.getElem_drop]
      rw [show a.length - 1 - (sufL a b - 1 - i) = a.length - sufL a b + i by omega, show b.length - 1 - (sufL a b - 1 - i) = b.length - sufL a b + i by omega,
        List.getD_eq_getElem?_getD, List.getD_eq_getElem?_getD, List.getElem?_eq_getElem (show a.length - sufL a b + i < a.length by omega), List.getElem?_eq_getElem (show b.length - sufL a b + i < b.length by omega)] at this
      exact this
  rw [h1, h2]
  unfold midP
  have h3 : b.drop (preL a b) = (b.drop (preL a b)).take (b.length - sufL a b - preL a b) ++ b.drop (b.length - sufL a b) := by
    conv => lhs; rw [← List.take_append_drop (b.length - sufL a b - preL a b) (b.drop (preL a b)), List.drop_drop]
    rw [show preL a b + (b.length - sufL a b - preL a b) = b.length - sufL a b by omega]
  rw [← h3, List.take_append_drop]
end Go.Proofs.Ytkcbjeenoafbkaa
