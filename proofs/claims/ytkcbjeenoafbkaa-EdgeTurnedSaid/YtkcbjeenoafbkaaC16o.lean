/- Chapter 16: EdgeTurned, in the machine. -/
import Derived.Test.YtkcbjeenoafbkaaC16n
set_option linter.unusedVariables false
set_option linter.unusedSimpArgs false
set_option maxRecDepth 100000
set_option maxHeartbeats 2000000
namespace Go.Proofs.Ytkcbjeenoafbkaa
open Go Go.Den
section
variable {α : Type} {H : Heap} {e : TypeId} {sz : Nat} {g : α → List AV} {l : List α}
theorem sl_parts {o : Nat} (h : SlOf H sz g (.sl o 0 l.length sz none) l) {k : Nat} (hk : k ≤ l.length) :
    SlOf H sz g (.sl o (k * sz) (l.length - k) sz none) (l.drop k) ∧ SlOf H sz g (.sl o 0 k sz none) (l.take k) ∧
      (∀ H', slcOf sz (.sl o 0 l.length sz none) (some (some k)) (some none) (some none) H' = some (.sl o (k * sz) (l.length - k) sz none, H')) ∧
      (∀ H', slcOf sz (.sl o 0 l.length sz none) (some none) (some (some k)) (some none) H' = some (.sl o 0 k sz none, H')) := by
  have c1 : ∀ H', slcOf sz (.sl o 0 l.length sz none) (some (some k)) (some none) (some none) H' = some (.sl o (k * sz) (l.length - k) sz none, H') := fun H' => by simp [slcOf, alen, acut, hk]
  have c2 : ∀ H', slcOf sz (.sl o 0 l.length sz none) (some none) (some (some k)) (some none) H' = some (.sl o 0 k sz none, H') := fun H' => by simp [slcOf, alen, acut, hk]
  obtain ⟨w, _, r2, _, r3⟩ := slof_sub h (i := k) (j := l.length) hk (Nat.le_refl _)
  obtain ⟨u, _, r5, r6, _⟩ := slof_sub h (i := 0) (j := k) (by omega) hk
  have e1 := r3 rfl []
  rw [c1] at e1
  have e2 := r6 rfl []
  rw [c2] at e2
  simp only [Option.some.injEq, Prod.mk.injEq, and_true] at e1 e2
  subst e1 e2
  rw [List.take_of_length_le (by rw [List.length_drop]; omega)] at r2
  rw [List.drop_zero, Nat.sub_zero] at r5
  exact ⟨r2, r5, c1, c2⟩
theorem vs_parts {cc : List AV} {n : Nat} (h : SlOf H sz g (.vs cc n) l) {k : Nat} (hk : k ≤ l.length) :
    ∃ c1 c2, SlOf H sz g (.vs c1 (l.length - k)) (l.drop k) ∧ SlOf H sz g (.vs c2 k) (l.take k) ∧
      (∀ H', slcOf sz (.vs cc n) (some (some k)) (some none) (some none) H' = some (.vs c1 (l.length - k), H')) ∧
      (∀ H', slcOf sz (.vs cc n) (some none) (some (some k)) (some none) H' = some (.vs c2 k, H')) := by
  have hn : n = l.length := by have := h.len; simpa [alen] using this
  subst hn
  have c1 : ∀ H', slcOf sz (.vs cc l.length) (some (some k)) (some none) (some none) H' = some (.vs ((cc.drop (k * sz)).take ((l.length - k) * sz)) (l.length - k), H') := fun H' => by simp [slcOf, alen, acut, hk]
  have c2 : ∀ H', slcOf sz (.vs cc l.length) (some none) (some (some k)) (some none) H' = some (.vs ((cc.drop (0 * sz)).take ((k - 0) * sz)) (k - 0), H') := fun H' => by simp [slcOf, alen, acut, hk]
  obtain ⟨w, _, r2, _, r3⟩ := slof_sub h (i := k) (j := l.length) hk (Nat.le_refl _)
  obtain ⟨u, _, r5, r6, _⟩ := slof_sub h (i := 0) (j := k) (by omega) hk
  have e1 := r3 rfl []
  rw [c1] at e1
  have e2 := r6 rfl []
  rw [c2] at e2
  simp only [Option.some.injEq, Prod.mk.injEq, and_true] at e1 e2
  subst e1 e2
  have t1 : (l.drop k).take (l.length - k) = l.drop k := List.take_of_length_le (by rw [List.length_drop]; omega)
  have t2 : (l.drop 0).take (k - 0) = l.take k := by simp
  rw [t1] at r2
  rw [t2] at r5
  exact ⟨_, _, r2, r5, c1, c2⟩
theorem one_ls {w : AV} (h : SlOf H sz g w l) : LsOf (H ++ [.cells [w] e true]) sz g (.sl H.length 0 1 1 (some 1)) [l] := by
  refine ⟨[w], SlOf.row (l := [w]) (g := One1) (fun a _ => rfl) (by decide), rfl, fun i h1 h2 => ?_⟩
  match i, h1, h2 with
  | 0, _, _ => exact h.app _
/-- A slice put together from two, the first of which has elements. -/
theorem two_app (hg : Cel sz g) {a b : List α} {x y : AV} (hx : SlOf H sz g x a) (hy : SlOf H sz g y b) (ha : a ≠ []) (hl : a.length + b.length ≤ 1000000) :
    ∃ o Y, 0 < o ∧ o < 3 ∧ aapp (H ++ [.cells [] e true]) e sz (.sl H.length 0 0 sz (some 0)) x = some (.sl (H.length + 1) 0 a.length sz none, H ++ [.cells [] e true, .cells (a.flatMap g) e true]) ∧
      aapp (H ++ [.cells [] e true, .cells (a.flatMap g) e true]) e sz (.sl (H.length + 1) 0 a.length sz none) y = some (.sl (H.length + o) 0 (a ++ b).length sz none, H ++ (.cells [] e true :: Y)) ∧
      (b = [] ∧ o = 1 ∧ Y = [.cells (a.flatMap g) e true] ∨ b ≠ [] ∧ o = 2 ∧ Y = [.dead, .cells ((a ++ b).flatMap g) e true]) ∧
      SlOf (H ++ (.cells [] e true :: Y)) sz g (.sl (H.length + o) 0 (a ++ b).length sz none) (a ++ b) := by
  have p1 := @app_full _ (H ++ [.cells [] e true]) e sz g [] a H.length true x hg (by simp) ha hx.len (slof_new hx _) (by simp; omega)
  simp only [List.nil_append, List.length_nil, Nat.zero_add, List.append_assoc, List.cons_append, List.length_append, List.length_cons] at p1
  by_cases hb : b = []
  · subst hb
    have p2 := app_nop (H := H ++ [.cells [] e true, .cells (a.flatMap g) e true]) (e := e) (s := .sl (H.length + 1) 0 a.length sz none) (x := y) hy.len (slof_new hy _) (.inr ⟨_, _, _, _, _, rfl⟩)
    have hs := SlOf.row (H := H ++ [.cells [] e true]) (l := a) (g := g) (sz := sz) (e := e) (w := true) (cap := none) (fun a _ => hg.size a) hg.pos
    refine ⟨1, [.cells (a.flatMap g) e true], by omega, by omega, p1, by rw [List.append_nil]; exact p2, .inl ⟨rfl, rfl, rfl⟩, ?_⟩
    rw [List.append_nil]
    simpa using hs
  · have p2 := own_app (H := (H ++ [.cells [] e true]) ++ [.cells (a.flatMap g) e true]) (B := []) (v := .sl (H.length + 1) 0 a.length sz none) (l := a) (m := b) (x := y) hg (own_last (by simp) rfl) hb hy.len (by rw [List.append_nil, List.append_assoc]; exact slof_new hy _) (by omega)
    rw [kill_last (by simp)] at p2
    have hs := SlOf.row (H := H ++ [.cells [] e true, .dead]) (l := a ++ b) (g := g) (sz := sz) (e := e) (w := true) (cap := none) (fun a _ => hg.size a) hg.pos
    refine ⟨2, [.dead, .cells ((a ++ b).flatMap g) e true], by omega, by omega, p1, ?_, .inr ⟨hb, rfl, rfl⟩, by simpa using hs⟩
    simpa using p2
end
theorem one_sum {c : List Point} : sumL [c] = c.length := by simp [sumL]
theorem one_edges (c : List Point) : edgesFrom 3 0 [c] = contourP 3 0 c := by simp [edgesFrom]
theorem rot_len {α : Type} (l : List α) (k : Nat) : (rotN l k).length = l.length := by unfold rotN; rw [List.length_append, List.length_drop, List.length_take]; omega
theorem turn_pure {c : List Point} {a : Nat} (ha : a < c.length) (h : c[a].on = true) : contourP 3 0 c = [] ∧ contourP 3 0 (rotN c a) = [] ∨ ∃ k, k < (contourP 3 0 c).length ∧ rotN (contourP 3 0 c) k = contourP 3 0 (rotN c a) := by
  have hc : c = c.take a ++ c[a] :: c.drop (a + 1) := by rw [← List.drop_eq_getElem_cons ha, List.take_append_drop]
  have hr : rotN c a = c[a] :: c.drop (a + 1) ++ c.take a := by unfold rotN; rw [List.drop_eq_getElem_cons ha]
  obtain ⟨e1, e2, h1, h2⟩ := contour_turn (px := 3) (n := 0) (x := c.take a) (y := c.drop (a + 1)) h
  rw [← hc] at h1
  rw [← hr] at h2
  rw [h1, h2]
  by_cases h0 : e2 = []
  · subst h0
    by_cases h3 : e1 = []
    · subst h3; exact .inl ⟨rfl, rfl⟩
    · refine .inr ⟨0, ?_, by simp [rotN]⟩
      have : 0 < e1.length := List.length_pos_iff.2 h3
      simpa using this
  · refine .inr ⟨e1.length, ?_, by simp [rotN]⟩
    have : 0 < e2.length := List.length_pos_iff.2 h0
    rw [List.length_append]; omega
end Go.Proofs.Ytkcbjeenoafbkaa
