/- Chapter 34: two rows of glyphs in one. -/
import Derived.Test.YtbnnfmncipdlpaaDoorC34k
set_option linter.unusedVariables false
set_option linter.unusedSimpArgs false
set_option maxRecDepth 100000
set_option maxHeartbeats 8000000
namespace Go.Proofs.YtbnnfmncipdlpaaDoor
open Go Go.Den
theorem aapp_nil {H : Heap} {e : TypeId} {sz o off len s : Nat} {cap : Option Nat} {x : AV} (h : alen x = some 0) (hn : newOf H sz x = some []) : aapp H e sz (.sl o off len s cap) x = some (.sl o off len s cap, H) := by
  simp [aapp, h, hn]
def rowP (l : List Pld) : AO := .cells (l.flatMap Pld.cs) 52 true
/-- What two appends make. -/
def TwoR (n : Nat) (m l : List Pld) (v1 : AV) (Z1 : Heap) (v2 : AV) (Z2 : Heap) : Prop :=
  (v1 = .sl (n + 3) 0 0 3 (some 0) ∧ Z1 = [.cells [] 52 true] ∧ v2 = .sl (n + 3) 0 0 3 (some 0) ∧ Z2 = [.cells [] 52 true]) ∨
  (v1 = .sl (n + 3) 0 0 3 (some 0) ∧ Z1 = [.cells [] 52 true] ∧ v2 = .sl (n + 4) 0 l.length 3 none ∧ Z2 = [.cells [] 52 true, rowP l]) ∨
  (v1 = .sl (n + 4) 0 m.length 3 none ∧ Z1 = [.cells [] 52 true, rowP m] ∧ v2 = .sl (n + 4) 0 m.length 3 none ∧ Z2 = [.cells [] 52 true, rowP m]) ∨
  (v1 = .sl (n + 4) 0 m.length 3 none ∧ Z1 = [.cells [] 52 true, rowP m] ∧ v2 = .sl (n + 5) 0 (m.length + l.length) 3 none ∧ Z2 = [.cells [] 52 true, .dead, rowP (m ++ l)])
theorem two_app {H : Heap} {A1 A2 A3 : AO} {x1 x0 : AV} {l1 l0 : List Pld} (h1 : SlOf H 3 Pld.cs x1 l1) (h0 : SlOf H 3 Pld.cs x0 l0) (n1 : l1.length ≤ 100) (n0 : l0.length ≤ 100) :
    ∃ v1 Z1 v2 Z2, aapp (H ++ [A1, A2, A3, .cells [] 52 true]) 52 3 (.sl (H.length + 3) 0 0 3 (some 0)) x1 = some (v1, H ++ (A1 :: A2 :: A3 :: Z1)) ∧ aapp (H ++ (A1 :: A2 :: A3 :: Z1)) 52 3 v1 x0 = some (v2, H ++ (A1 :: A2 :: A3 :: Z2)) ∧ SlOf (H ++ (A1 :: A2 :: A3 :: Z2)) 3 Pld.cs v2 (l1 ++ l0) ∧ TwoR H.length l1 l0 v1 Z1 v2 Z2 := by
  have y1 := slof_new h1
  have y0 := slof_new h0
  have hr : ∀ (K : Heap) (l : List Pld) (cap : Option Nat), SlOf (K ++ [.cells (l.flatMap Pld.cs) 52 true]) 3 Pld.cs (.sl K.length 0 l.length 3 cap) l := fun K l cap => SlOf.row (fun a _ => pld_cel.size a) (by decide)
  have hrow : (H ++ [A1, A2, A3, .cells [] 52 true])[H.length + 3]? = some (.cells (([] : List Pld).flatMap Pld.cs) 52 true) := by
    rw [List.getElem?_append_right (by omega), Nat.add_sub_cancel_left]
    rfl
  by_cases e1 : l1 = []
  · subst e1
    have z1 := aapp_nil (e := 52) (o := H.length + 3) (off := 0) (len := 0) (s := 3) (cap := some 0) (h1.len) (y1 [A1, A2, A3, .cells [] 52 true])
    by_cases e0 : l0 = []
    · subst e0
      refine ⟨_, _, _, _, z1, aapp_nil h0.len (y0 _), ?_, .inl ⟨rfl, rfl, rfl, rfl⟩⟩
      have := hr (H ++ [A1, A2, A3]) [] (some 0)
      simpa using this
    · have z2 := app_full (l := []) (m := l0) (H := H ++ [A1, A2, A3, .cells [] 52 true]) (o := H.length + 3) (w := true) pld_cel hrow e0 h0.len (y0 _) (by simp; omega)
      simp only [List.append_assoc, List.cons_append, List.nil_append, List.length_append, List.length_cons, List.length_nil, Nat.zero_add, Nat.reduceAdd] at z2
      refine ⟨_, _, _, _, z1, z2, ?_, .inr (.inl ⟨rfl, rfl, rfl, rfl⟩)⟩
      have := hr (H ++ [A1, A2, A3, .cells [] 52 true]) l0 none
      simpa using this
  · have z1 := app_full (l := []) (m := l1) (H := H ++ [A1, A2, A3, .cells [] 52 true]) (o := H.length + 3) (e := 52) (w := true) pld_cel hrow e1 h1.len (y1 _) (by simp; omega)
    by_cases e0 : l0 = []
    · subst e0
      simp only [List.append_assoc, List.cons_append, List.nil_append, List.length_append, List.length_cons, List.length_nil, Nat.zero_add, Nat.reduceAdd] at z1
      refine ⟨_, _, _, _, z1, aapp_nil h0.len (y0 _), ?_, .inr (.inr (.inl ⟨rfl, rfl, rfl, rfl⟩))⟩
      have := hr (H ++ [A1, A2, A3, .cells [] 52 true]) l1 none
      simpa using this
    · have own : Own ((H ++ [A1, A2, A3, .cells [] 52 true]) ++ [.cells (l1.flatMap Pld.cs) 52 true]) 52 3 Pld.cs (.sl (H.length + 4) 0 l1.length 3 none) l1 := own_last (K := H ++ [A1, A2, A3, .cells [] 52 true]) (by simp) rfl
      have z2 := own_app (B := []) pld_cel own e0 h0.len (by have := y0 ([A1, A2, A3, .cells [] 52 true] ++ [.cells (l1.flatMap Pld.cs) 52 true]); simpa using this) (by omega)
      rw [kill_last (by simp)] at z2
      simp only [List.append_assoc, List.cons_append, List.nil_append, List.append_nil, List.length_append, List.length_cons, List.length_nil, Nat.zero_add, Nat.add_zero, Nat.reduceAdd] at z1 z2
      refine ⟨_, _, _, _, z1, z2, ?_, .inr (.inr (.inr ⟨rfl, rfl, rfl, rfl⟩))⟩
      have := hr (H ++ [A1, A2, A3, .cells [] 52 true, .dead]) (l1 ++ l0) none
      simpa [Nat.add_assoc] using this
theorem slof_leads {α : Type} {H : Heap} {sz : Nat} {g : α → List AV} {v : AV} {l : List α} (h : SlOf H sz g v l) (i k c : Nat) : v.leads (fun r => !inRows (i, H.length + k, c) r) = true := by
  rcases h.kind with ⟨o, off, cap, row, rfl, h1, _⟩ | ⟨n, rfl⟩ | ⟨rfl, _⟩
  · have ho : o < H.length := by
      refine Decidable.byContradiction fun hn => ?_
      simp [arow, List.getElem?_eq_none (show H.length ≤ o by omega)] at h1
    simp [AV.leads, inRows]
    omega
  · simp [AV.leads]
  · simp [AV.leads]
theorem fold_two (f : Pld → Int) (hf : ∀ p, 0 ≤ f p) : ∀ (l : List Pld) (m : Int), 0 ≤ m → l.foldl (fun m p => max m (f p)) m = max m (l.foldl (fun m p => max m (f p)) 0)
  | [], m, h => by simp; omega
  | p :: l, m, h => by
    have := hf p
    rw [List.foldl_cons, List.foldl_cons, fold_two f hf l (max m (f p)) (by omega), fold_two f hf l (max 0 (f p)) (by omega)]
    omega
theorem best_two (a : Atl) (v : View) (l m : List Pld) (k : Nat) : bestI a v (l ++ m) k = max (bestI a v l k) (bestI a v m k) := by
  unfold bestI
  rw [List.foldl_append]
  exact fold_two _ (fun p => (px_ok a v p k).1) m _ (best_ok a v k l 0 (by omega)).1
theorem ask_two (a : Atl) (v : View) {l m : List Pld} (hl : l.length ≤ 10) (hm : m.length ≤ 10) : askE a v (m ++ l) = 0 ↔ (askE a v l = 0 ∧ askE a v m = 0) := by
  unfold askE
  by_cases h : MayA a ∧ MayV v
  · simp only [if_pos h]
    rw [if_neg (show ¬ l.length > 1024 by omega), if_neg (show ¬ m.length > 1024 by omega), if_neg (show ¬ (m ++ l).length > 1024 by simp; omega)]
    by_cases h1 : ∀ p ∈ l, OkD a p
    · by_cases h2 : ∀ p ∈ m, OkD a p
      · rw [if_pos h1, if_pos h2, if_pos (fun p hp => by rcases List.mem_append.1 hp with hp | hp; exact h2 p hp; exact h1 p hp)]
        simp
      · rw [if_neg h2, if_neg (fun hh => h2 fun p hp => hh p (List.mem_append_left _ hp))]
        simp
    · rw [if_neg h1, if_neg (fun hh => h1 fun p hp => hh p (List.mem_append_right _ hp))]
      simp
  · simp only [if_neg h]
    simp
end Go.Proofs.YtbnnfmncipdlpaaDoor
