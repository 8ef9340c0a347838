/- Chapter 29: all sizes are laid. -/
import Derived.Test.YtkcbjeenoafbkaaC29k
set_option linter.unusedVariables false
set_option linter.unusedSimpArgs false
set_option maxRecDepth 100000
set_option maxHeartbeats 8000000
namespace Go.Proofs.Ytkcbjeenoafbkaa
open Go Go.Den
def z3 : Plc := ⟨0, 0, 0⟩
/-- The row of places, filled so far. -/
def outC (out : List Plc) (n : Nat) : List AV := (out ++ List.replicate (n - out.length) z3).flatMap Plc.cs
theorem plc_size (l : List Plc) : ∀ a ∈ l, a.cs.length = 3 := fun _ _ => rfl
theorem outC_len {out : List Plc} {n : Nat} (h : out.length ≤ n) : (outC out n).length = n * 3 := by
  unfold outC
  rw [flat_len (plc_size _), List.length_append, List.length_replicate]
  congr 1; omega
theorem outC_zero (n : Nat) : (List.replicate n [AV.int .i64 0, .int .i64 0, .int .i64 0]).flatten = outC [] n := by
  unfold outC
  rw [List.nil_append, List.length_nil, Nat.sub_zero, List.flatMap_def, List.map_replicate]
  rfl
theorem outC_skip {out : List Plc} {n : Nat} (h : out.length < n) : outC (out ++ [z3]) n = outC out n := by
  unfold outC
  congr 1
  rw [List.append_assoc, List.length_append, List.length_singleton]
  obtain ⟨m, hm⟩ : ∃ m, n - out.length = m + 1 := ⟨n - out.length - 1, by omega⟩
  rw [hm, show n - (out.length + 1) = m by omega]
  rfl
theorem outC_set {out : List Plc} {n i : Nat} (hi : out.length = i) (h : i < n) (p : Plc) : splice (outC out n) (i * 3) p.cs = outC (out ++ [p]) n := by
  subst hi
  obtain ⟨m, hm⟩ : ∃ m, n - out.length = m + 1 := ⟨n - out.length - 1, by omega⟩
  have hf : (out.flatMap Plc.cs).length = out.length * 3 := flat_len (plc_size _)
  unfold outC splice
  rw [List.length_append, List.length_singleton, hm, show n - (out.length + 1) = m by omega, List.replicate_succ]
  simp only [List.flatMap_append, List.flatMap_cons, List.flatMap_nil]
  rw [← hf, List.take_left, show p.cs.length = 3 from rfl, ← List.drop_drop, List.drop_left]
  simp [z3, Plc.cs]
theorem outC_full {out : List Plc} {n : Nat} (h : out.length = n) : outC out n = out.flatMap Plc.cs := by
  unfold outC; rw [h, Nat.sub_self, List.replicate_zero, List.append_nil]
theorem mk3 {n : Nat} (hn : n ≤ 100000) (H : Heap) : mkslOf 76 [.int .i64 0, .int .i64 0, .int .i64 0] (.int .i64 (n : Int)) (.int .i64 (n : Int)) H = some (.sl H.length 0 n 3 (some n), H ++ [.cells (outC [] n) 76 true]) := by
  have hr : roomy n = true := by simp [roomy]; omega
  simp [mkslOf, hr, ← outC_zero n]
theorem layTo_up {l : List Sz} {pw ph pad : Int} {i : Nat} (h : layTo l pw ph pad i = none) : ∀ {n : Nat}, i ≤ n → layTo l pw ph pad n = none
  | 0, hn => by
    obtain rfl : i = 0 := by omega
    exact h
  | n + 1, hn => by
    by_cases hin : i = n + 1
    · subst hin; exact h
    · rw [layTo, layTo_up h (by omega)]; rfl
theorem firstBig_at {l : List Sz} {pw ph pad : Int} {i : Nat} (hi : i < l.length) (h0 : ∀ j, j < i → bigP l pw ph pad j = false) (h1 : bigP l pw ph pad i = true) : firstBig l pw ph pad = some i := by
  unfold firstBig
  rw [List.find?_eq_some_iff_getElem]
  refine ⟨h1, i, by simpa using hi, by simp, fun j hj => ?_⟩
  simp only [List.getElem_range]
  rw [h0 j hj]; rfl
theorem firstBig_no {l : List Sz} {pw ph pad : Int} (h0 : ∀ j, j < l.length → bigP l pw ph pad j = false) : firstBig l pw ph pad = none := by
  unfold firstBig
  rw [List.find?_eq_none]
  intro j hj
  rw [h0 j (List.mem_range.1 hj)]
  simp
theorem KeepP.pre {G0 Y K : Heap} {n0 : Nat} (h : KeepP n0 (G0 ++ Y) K) (hn : n0 = G0.length) : ∃ Y', K = G0 ++ Y' := by
  refine ⟨K.drop n0, ?_⟩
  have hl := h.1
  rw [List.length_append] at hl
  have : G0 = K.take n0 := by
    refine List.ext_getElem? fun j => ?_
    by_cases hj : j < n0
    · rw [List.getElem?_take_of_lt hj, h.2.1 j hj (by rw [List.length_append]; omega), List.getElem?_append_left (by omega)]
    · rw [List.getElem?_eq_none (by omega), List.getElem?_eq_none (by rw [List.length_take]; omega)]
  conv => rhs; rw [this]
  rw [List.take_append_drop]
theorem mid_at {H X Y : Heap} {a : AO} {k : Nat} : (H ++ (a :: (X ++ Y)))[H.length + (X.length + 1) + k]? = Y[k]? := by
  rw [List.getElem?_append_right (by omega), show H.length + (X.length + 1) + k - H.length = X.length + k + 1 by omega, List.getElem?_cons_succ, List.getElem?_append_right (by omega), Nat.add_sub_cancel_left]
theorem mid_set {H X Y : Heap} {a x : AO} {k : Nat} : (H ++ (a :: (X ++ Y))).set (H.length + (X.length + 1) + k) x = H ++ (a :: (X ++ Y.set k x)) := by
  rw [List.set_append_right _ _ (by omega), show H.length + (X.length + 1) + k - H.length = X.length + k + 1 by omega, List.set_cons_succ, List.set_append_right _ _ (by omega), Nat.add_sub_cancel_left]
theorem lay_no {l : List Sz} {pw ph pad : Int} (h : ¬ askedP l pw ph pad) : layR l pw ph pad = ([], 0, 1) := by unfold layR; rw [if_neg h]
theorem lay_big {l : List Sz} {pw ph pad : Int} {i : Nat} (h : askedP l pw ph pad) (hb : firstBig l pw ph pad = some i) : layR l pw ph pad = ([], (i : Int), 11) := by unfold layR; rw [if_pos h, hb]
theorem lay_full {l : List Sz} {pw ph pad : Int} (h : askedP l pw ph pad) (hb : firstBig l pw ph pad = none) (hl : layTo l pw ph pad l.length = none) : layR l pw ph pad = ([], 0, 10) := by unfold layR; rw [if_pos h, hb]; simp only; rw [hl]
theorem lay_ok {l : List Sz} {pw ph pad : Int} {ps : List (List Rect)} {out : List Plc} (h : askedP l pw ph pad) (hb : firstBig l pw ph pad = none) (hl : layTo l pw ph pad l.length = some (ps, out)) : layR l pw ph pad = (out, (ps.length : Int), 0) := by unfold layR; rw [if_pos h, hb]; simp only; rw [hl]
end Go.Proofs.Ytkcbjeenoafbkaa
