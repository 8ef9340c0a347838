/- Chapter 30: an atlas that a call comes to. -/
import Derived.Test.YtppkggodpihfiaaC30n
import Derived.Test.YtppkggodpihfiaaC30d
import Derived.Test.YtppkggodpihfiaaC08g
set_option linter.unusedVariables false
set_option linter.unusedSimpArgs false
set_option maxRecDepth 100000
set_option maxHeartbeats 4000000
namespace Go.Proofs.Ytppkggodpihfiaa
open Go Go.Den
theorem carry_own {α : Type} {H H1 : Heap} {e : TypeId} {sz : Nat} {g : α → List AV} {v : AV} {l : List α} (hg : Cel sz g) (hw : whole e = false) (h : (v = .nils ∧ l = []) ∨ ∃ o, H.length ≤ o ∧ v = .sl o 0 l.length sz none ∧ H1[o]? = some (.cells (l.flatMap g) e true)) (m : Moved)
    (hm : ∀ x ∈ m.1, ∃ l e', e' ≠ e ∧ H1[x]? = some (.cells l e' true)) :
    ∃ v' m', v.carry H.length H1 m = some (v', m') ∧ (∃ Y, m'.2 = m.2 ++ Y) ∧ Own (H ++ m'.2) e sz g v' l ∧ ∀ x ∈ m'.1, x ∈ m.1 ∨ ∃ l, H1[x]? = some (.cells l e true) := by
  rcases h with ⟨rfl, rfl⟩ | ⟨o, ho, rfl, hH⟩
  · exact ⟨.nils, m, by simp only [AV.carry], ⟨[], by simp⟩, Own.nils, fun x hx => .inl hx⟩
  · have hfl : (l.flatMap g).all AV.flat = true := by
      simp only [List.all_flatMap, List.all_eq_true]
      exact fun a _ => by simpa using hg.flat a
    have hlf : (l.flatMap g).length = l.length * sz := flat_len fun a _ => hg.size a
    have ht : List.take (l.length * sz) (l.flatMap g) = l.flatMap g := List.take_of_length_le (by omega)
    have hge : l.length * sz ≤ (l.flatMap g).length := by omega
    have hc : m.1.contains o = false := by
      refine Bool.eq_false_iff.2 fun h => ?_
      obtain ⟨l', e', h1, h2⟩ := hm o (by simpa using h)
      rw [hH] at h2
      injection h2 with h2
      injection h2 with _ h2
      exact h1 h2.symm
    refine ⟨.sl (H.length + m.2.length) 0 l.length sz none, (m.1 ++ [o], m.2 ++ [.cells (l.flatMap g) e true]), ?_, ⟨_, rfl⟩, ?_, fun x hx => ?_⟩
    · simp only [AV.carry]
      rw [if_neg (by omega)]
      simp only [hH, hc, List.drop_zero, ht, unders, leadss_flat hfl, Nat.zero_add, hge, hw, Bool.true_or, and_self, if_true]
    · refine .inr ⟨H.length + m.2.length, rfl, ?_⟩
      rw [List.getElem?_append_right (by omega), Nat.add_sub_cancel_left, List.getElem?_append_right (by omega), Nat.sub_self]; rfl
    · simp only [List.mem_append, List.mem_singleton] at hx
      rcases hx with hx | rfl
      · exact .inl hx
      · exact .inr ⟨_, hH⟩
theorem ownz_abs {α : Type} {H Y Z : Heap} {M : Nat} {e : TypeId} {sz : Nat} {g : α → List AV} {v : AV} {l : List α} (h : OwnZ M Z e sz g v l) (hM : M = H.length + Y.length) :
    (v = .nils ∧ l = []) ∨ ∃ o, H.length ≤ o ∧ v = .sl o 0 l.length sz none ∧ (H ++ (Y ++ Z))[o]? = some (.cells (l.flatMap g) e true) := by
  subst hM
  rcases h with h | ⟨k, h1, h2⟩
  · exact .inl h
  · refine .inr ⟨_, ?_, h1, ?_⟩
    · omega
    · rw [List.getElem?_append_right (by omega), List.getElem?_append_right (by omega), show H.length + Y.length + k - H.length - Y.length = k by omega]; exact h2
/-- Behind a call: an atlas in new rows. -/
theorem tidy_atl {H Y Z : Heap} {M : Nat} {a : Atl} {vg vp vs x : AV} (hM : M = H.length + Y.length) (hg : OwnZ M Z 107 8 Ent.cs vg a.gl) (hr : OwnZ M Z 113 2 Pr.cs vp a.pr) (hs : OwnZ M Z 9 1 StrC vs a.pgs) (hx : x.still = true) :
    ∃ vg' vp' vs' X, tidy H (.tup [.agg (a.cs vg vp vs), x]) (H ++ (Y ++ Z)) = (.tup [.agg (a.cs vg' vp' vs'), x], H ++ X) ∧ AtlOf (H ++ X) a vg' vp' vs' := by
  obtain ⟨v1, m1, c1, ⟨Y1, y1⟩, o1, n1⟩ := carry_own (H := H) ent_cel (by decide) (ownz_abs hg hM) ([], []) (fun x hx => by cases hx)
  obtain ⟨v2, m2, c2, ⟨Y2, y2⟩, o2, n2⟩ := carry_own (H := H) pr_cel (by decide) (ownz_abs hr hM) m1 (fun x hx => by
    rcases n1 x hx with h | ⟨l, h⟩
    · cases h
    · exact ⟨l, _, by decide, h⟩)
  obtain ⟨v3, m3, c3, ⟨Y3, y3⟩, o3, n3⟩ := carry_own (H := H) strC_cel (by decide) (ownz_abs hs hM) m2 (fun x hx => by
    rcases n2 x hx with h | ⟨l, h⟩
    · rcases n1 x h with h | ⟨l, h⟩
      · cases h
      · exact ⟨l, _, by decide, h⟩
    · exact ⟨l, _, by decide, h⟩)
  refine ⟨v1, v2, v3, m3.2, ?_, ⟨?_, ?_, own_sl strC_cel o3⟩⟩
  · have hi : ∀ (n : Int) (m : Moved), (AV.int .i64 n).carry H.length (H ++ (Y ++ Z)) m = some (.int .i64 n, m) := fun n m => by simp only [AV.carry]
    simp only [tidy, keepOld_append, if_true, AV.carry, carries, Atl.cs, hi, c1, c2, c3, carry_still hx, Option.bind_some, Option.map_some]
    rw [List.take_append_of_le_length (Nat.le_refl _), List.take_length]
  · have := own_sl ent_cel o1
    rw [y3, y2, ← List.append_assoc, ← List.append_assoc]
    exact (this.app _).app _
  · have := own_sl pr_cel o2
    rw [y3, ← List.append_assoc]
    exact this.app _
theorem c65 (l : List UInt8) (at_ : Int) (H : Heap) (hn : l.length ≤ 1000000) : call env 65 [.str (mkS l), .int .i64 at_] H = some (.tup [.int .u32 (num (cutS (cut l at_ 4)) : Nat), .int .i64 (cutE (cut l at_ 4))], H) := by
  have e1 := c81 l at_ 4 H hn
  have e2 := c82 (cutS (cut l at_ 4)) H (by have := cut_len l at_ 4; omega)
  refine call_ends (fn := s65) rfl rfl (by simp [s65]) ?_
  simp only [s65, R1, R2, R3, R4, R5, R6, R7, R8, AV.flat, fillIn_nil, fillIn_cons, splice, AV.cells, AV.one, eqsOf, idx, SO.calls, List.reduceReplicate, Nat.reduceBEq, Nat.reduceLT, Nat.reduceAdd, Nat.reduceMul, Nat.reduceSub, Nat.reduceLeDiff, Nat.reduceEqDiff, ↓reduceIte, Int.reduceLT, Int.reduceEq, Int.reduceBNe, Int.reduceBEq, aeq, Int.reduceLE, Int.reduceNeg, Int.reduceMul, Int.reduceAdd, Int.reduceSub, Int.reduceToNat, Int.reducePow, e1, e2]
def crcN (l : List UInt8) : Nat := (Crc.crc l ^^^ 4294967295#32).toNat
def magicL : List UInt8 := [80, 79, 67, 72, 0, 1]
def szP (p : List UInt8) : Nat := sizeP (n2 p 18) (n2 p 20) (n2 p 22) (n2 p 24) (n4 p 26)
/-- All that is told. -/
def fullA (p : List UInt8) : Atl := { hdA p with gl := entsP p (n2 p 24), pr := prsP p (30 + 20 * n2 p 24) (n4 p 26), pgs := pgsP p (30 + 20 * n2 p 24 + 6 * n4 p 26) (4 * n2 p 18 * n2 p 20) (n2 p 22) }
def zeroA : Atl := ⟨0, 0, 0, 0, 0, 0, 0, 0, [], [], []⟩
def Many (p : List UInt8) : Prop := n2 p 22 > 16 ∨ n2 p 24 > 1024 ∨ n4 p 26 > 4096
instance (p : List UInt8) : Decidable (Many p) := by unfold Many; exact inferInstance
def decE (p : List UInt8) : Int :=
  if p.length < 34 then 3 else if ¬ p.take 6 = magicL then 4 else if Many p then 6 else if p.length < szP p then 3 else if p.length > szP p then 6
  else if ¬ crcN (p.take (szP p - 4)) = n4 p (szP p - 4) then 5 else if ¬ MayA (fullA p) then 4 else 0
def decA (p : List UInt8) : Atl := if decE p = 0 then fullA p else zeroA
theorem szP_ge (p : List UInt8) : 34 ≤ szP p := by unfold szP sizeP; omega
end Go.Proofs.Ytppkggodpihfiaa
