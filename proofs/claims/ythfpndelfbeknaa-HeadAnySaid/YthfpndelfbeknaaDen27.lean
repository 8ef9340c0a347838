/- To run the machine by simp. -/
import Derived.Test.YthfpndelfbeknaaDen26
set_option linter.unusedVariables false
set_option linter.unusedSimpArgs false
namespace Go.Den
mutual
theorem same_refl : ∀ a : AV, a.same a = true
  | .int k n => by simp [AV.same]
  | .bool x => by simp [AV.same]
  | .str s => by simp [AV.same]
  | .ptr o a => by simp [AV.same]
  | .pv c => by simp only [AV.same]; exact sames_refl c
  | .nilp => rfl
  | .nili => rfl
  | .sl o a l z c => by simp [AV.same]
  | .vs c n => by simp only [AV.same, Bool.and_eq_true]; exact ⟨by simp, sames_refl c⟩
  | .nils => rfl
  | .fn f c => by simp only [AV.same, Bool.and_eq_true]; exact ⟨by simp, sames_refl c⟩
  | .nilf => rfl
  | .agg c => by simp only [AV.same]; exact sames_refl c
  | .tup c => by simp only [AV.same]; exact sames_refl c
  | .undef => rfl
theorem sames_refl : ∀ l : List AV, sames l l = true
  | [] => rfl
  | a :: l => by simp only [sames, Bool.and_eq_true]; exact ⟨same_refl a, sames_refl l⟩
end
theorem AO.same_refl : ∀ a : AO, a.same a = true
  | .cells l e r => by simp [AO.same, sames_refl]
  | .iter s p => by simp [AO.same]
  | .dead => rfl
theorem sameH_refl : ∀ H : Heap, sameH H H = true
  | [] => rfl
  | a :: H => by simp [sameH, AO.same_refl, sameH_refl H]
theorem keepOld_append (n : Nat) : ∀ H X : Heap, keepOld n H (H ++ X) = true
  | [], X => rfl
  | a :: H, X => by simp [keepOld, AO.same_refl, keepOld_append n H X]
theorem keepOld_self (n : Nat) (H : Heap) : keepOld n H H = true := by simpa using keepOld_append n H []
/-- Values that lead to no row. -/
def AV.flat : AV → Bool
  | .int _ _ => true
  | .bool _ => true
  | .str _ => true
  | .pv _ => true
  | .vs _ _ => true
  | .nilp => true
  | .nili => true
  | .nils => true
  | .nilf => true
  | .undef => true
  | _ => false
theorem carry_flat {n : Nat} {H1 : Heap} {m : Moved} {v : AV} (h : v.flat = true) : v.carry n H1 m = some (v, m) := by
  cases v <;> simp only [AV.flat, Bool.false_eq_true] at h <;> simp only [AV.carry]
theorem carries_flat {n : Nat} {H1 : Heap} {m : Moved} : ∀ {l : List AV}, l.all AV.flat = true → carries n H1 m l = some (l, m)
  | [], _ => rfl
  | a :: l, h => by
    simp only [List.all_cons, Bool.and_eq_true] at h
    simp only [carries, carry_flat h.1, Option.bind_some, carries_flat h.2, Option.map_some]
theorem tidy_flat {H X : Heap} {v : AV} (h : v.flat = true) : tidy H v (H ++ X) = (v, H) := by
  simp [tidy, keepOld_append, carry_flat h]
theorem tidy_flat0 {H : Heap} {v : AV} (h : v.flat = true) : tidy H v H = (v, H) := by
  simpa using tidy_flat (X := []) h
theorem tidy_agg {H X : Heap} {l : List AV} (h : l.all AV.flat = true) : tidy H (.agg l) (H ++ X) = (.agg l, H) := by
  simp [tidy, keepOld_append, AV.carry, carries_flat h]
theorem tidy_agg0 {H : Heap} {l : List AV} (h : l.all AV.flat = true) : tidy H (.agg l) H = (.agg l, H) := by
  simpa using tidy_agg (X := []) h
theorem tidy_tup {H X : Heap} {l : List AV} (h : l.all AV.flat = true) : tidy H (.tup l) (H ++ X) = (.tup l, H) := by
  simp [tidy, keepOld_append, AV.carry, carries_flat h]
theorem tidy_tup0 {H : Heap} {l : List AV} (h : l.all AV.flat = true) : tidy H (.tup l) H = (.tup l, H) := by
  simpa using tidy_tup (X := []) h
end Go.Den
