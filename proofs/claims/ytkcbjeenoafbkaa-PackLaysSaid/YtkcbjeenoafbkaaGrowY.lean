/- One more element for a slice that grows. -/
import Derived.Test.YtkcbjeenoafbkaaGrowX
set_option linter.unusedVariables false
set_option linter.unusedSimpArgs false
set_option maxRecDepth 100000
set_option maxHeartbeats 2000000
namespace Go.Proofs.Ytkcbjeenoafbkaa
open Go Go.Den
theorem one_new {α : Type} {g : α → List AV} {sz : Nat} (hg : Cel sz g) {e : TypeId} {K Y : Heap} {p : Nat} {m : α} (hp : p = K.length) : newOf (K ++ (.cells (g m) e true :: Y)) sz (.sl p 0 1 sz (some 1)) = some ([m].flatMap g) := by
  subst hp
  have h := hg.size m
  simp [newOf, acells, aload, arow, h, List.take_of_length_le]
/-- One more element, behind rows of its own. -/
theorem push_one {α : Type} {g : α → List AV} {sz : Nat} (hg : Cel sz g) {e : TypeId} {H B X Z : Heap} {w : AV} {L : List α} {m : α} {p : Nat} (h : Acc (H ++ B) (H ++ (B ++ X)) e sz g w L) (hl : L.length ≤ 1000000) (hp : p = H.length + (B.length + (X.length + Z.length))) :
    ∃ X', X'.length = X.length ∧ aapp (H ++ (B ++ (X ++ (Z ++ [.cells (g m) e true])))) e sz w (.sl p 0 1 sz (some 1)) = some (.sl (p + 1) 0 (L.length + 1) sz none, H ++ (B ++ (X' ++ (Z ++ [.cells (g m) e true, .cells ((L ++ [m]).flatMap g) e true])))) ∧
      ∀ B' : Heap, B'.length = B.length → Acc (H ++ B') (H ++ (B' ++ (X' ++ (Z ++ [.cells (g m) e true, .cells ((L ++ [m]).flatMap g) e true])))) e sz g (.sl (p + 1) 0 (L.length + 1) sz none) (L ++ [m]) := by
  obtain ⟨X', hX, hk⟩ := acc_kill h
  refine ⟨X', hX, ?_, fun B' hB => ?_⟩
  · have := own_app (H := H ++ (B ++ X)) (B := Z ++ [.cells (g m) e true]) (m := [m]) (x := .sl p 0 1 sz (some 1)) hg (acc_own h) (by simp) rfl (by
      have := @one_new _ g sz hg e (H ++ (B ++ X) ++ Z) [] p m (by simp [hp])
      simpa only [List.append_assoc] using this) (by simp; omega)
    rw [hk] at this
    have h2 : (H ++ (B ++ X)).length + (Z ++ [AO.cells (g m) e true]).length = p + 1 := by simp [hp]; omega
    rw [h2] at this
    simpa only [List.append_assoc, List.cons_append, List.nil_append, List.length_cons, List.length_nil, Nat.zero_add] using this
  · exact acc_at hg (o := X.length + Z.length + 1) (by
      rw [List.getElem?_append_right (by omega), hX, List.getElem?_append_right (by omega)]
      simp [show X.length + Z.length + 1 - X.length - Z.length = 1 by omega]) (by simp) (by simp) (by rw [hp, hB]; omega)
theorem acc_wide {α : Type} {H B H' : Heap} {e : TypeId} {sz : Nat} {g : α → List AV} {v : AV} {l : List α} (h : Acc (H ++ B) H' e sz g v l) : Acc H H' e sz g v l := by
  obtain ⟨X, rfl, hx⟩ := h.heap
  refine ⟨h.size, h.ones, B ++ X, by simp, ?_⟩
  rcases hx with h1 | ⟨h0, o, h1, h2⟩
  · exact .inl h1
  · exact .inr ⟨h0, B.length + o, by rw [h1]; simp [Nat.add_assoc], by rw [List.getElem?_append_right (by omega), Nat.add_sub_cancel_left]; exact h2⟩
/-- Behind a call: such a slice, second of what it comes to. -/
theorem acc_tidy_at {α : Type} {H B H' : Heap} {e : TypeId} {sz : Nat} {g : α → List AV} {v a : AV} {l : List α} (h : Acc (H ++ B) H' e sz g v l) (hg : Cel sz g) {r : List AV} (ha : a.still = true) (hr : r.all AV.still = true) (hw : whole e = false := by decide) :
    tidy H (.tup (a :: v :: r)) H' = (.tup (a :: (newSl H e sz g l).1 :: r), H ++ (newSl H e sz g l).2) := by
  have h' := acc_wide h
  obtain ⟨m, hc⟩ := h'.carry (fun a _ => hg.flat a) hw
  obtain ⟨X, rfl⟩ := h'.above
  simp [Den.tidy, keepOld_append, AV.carry, carries, carry_still ha, hc, carries_still hr]
theorem newSl_len {α : Type} {H : Heap} {e : TypeId} {sz : Nat} {g : α → List AV} {l : List α} : (newSl H e sz g l).2.length ≤ 1 := by unfold newSl; split <;> simp
end Go.Proofs.Ytkcbjeenoafbkaa
