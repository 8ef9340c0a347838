/- Behind a call; whole calls. -/
import Derived.Test.YthfpndelfbeknaaDen16
set_option linter.unusedVariables false
set_option linter.unusedSimpArgs false
namespace Go.Den
open Go.RowKit (Below)

mutual
theorem same_eq : ∀ (a b : AV), a.same b = true → a = b
  | .int k n, b, h => by cases b <;> simp [AV.same] at h <;> simp [h]
  | .bool x, b, h => by cases b <;> simp [AV.same] at h <;> simp [h]
  | .str s, b, h => by cases b <;> simp [AV.same] at h <;> simp [h]
  | .ptr o a, b, h => by cases b <;> simp [AV.same] at h <;> simp [h]
  | .pv c, b, h => by cases b <;> simp [AV.same] at h; rw [sames_eq _ _ h]
  | .nilp, b, h => by cases b <;> simp [AV.same] at h <;> rfl
  | .nili, b, h => by cases b <;> simp [AV.same] at h <;> rfl
  | .sl o a l z c, b, h => by cases b <;> simp [AV.same] at h <;> simp [h]
  | .vs c n, b, h => by cases b <;> simp [AV.same] at h; rw [h.1, sames_eq _ _ h.2]
  | .nils, b, h => by cases b <;> simp [AV.same] at h <;> rfl
  | .fn f c, b, h => by cases b <;> simp [AV.same] at h; rw [h.1, sames_eq _ _ h.2]
  | .nilf, b, h => by cases b <;> simp [AV.same] at h <;> rfl
  | .agg c, b, h => by cases b <;> simp [AV.same] at h; rw [sames_eq _ _ h]
  | .tup c, b, h => by cases b <;> simp [AV.same] at h; rw [sames_eq _ _ h]
  | .undef, b, h => by cases b <;> simp [AV.same] at h <;> rfl
theorem sames_eq : ∀ (l m : List AV), sames l m = true → l = m
  | [], [], _ => rfl
  | [], _ :: _, h => by simp [sames] at h
  | _ :: _, [], h => by simp [sames] at h
  | a :: l, b :: m, h => by
    simp only [sames, Bool.and_eq_true] at h
    rw [same_eq a b h.1, sames_eq l m h.2]
end
theorem AO.same_eq {a b : AO} (h : a.same b = true) : a = b := by
  cases a <;> cases b <;> simp only [AO.same, Bool.false_eq_true, Bool.and_eq_true, beq_iff_eq, decide_eq_true_eq] at h
  · rw [h.1.1, h.1.2, sames_eq _ _ h.2]
  · rw [h.1, h.2]
  · rfl
theorem leadss_all {p : Nat → Bool} : ∀ {l : List AV}, leadss p l = true ↔ ∀ v ∈ l, v.leads p = true
  | [] => by simp [leadss]
  | a :: l => by simp only [leadss, Bool.and_eq_true, leadss_all, List.mem_cons, forall_eq_or_imp]
section
variable {P : Program} {W : World} {ρ ρ' : Plan} {H H1 : Heap} {w w' : World} {n : Nat}

/-- A row that leads to rows below n alone is known by n. -/
theorem OR_under {o : AO} {s : Spot} {m : Nat} (h : OR W ρ m o s w) (hu : o.under n = true) (hρ : ∀ i, i < n → ρ' i = ρ i) : OR W ρ' n o s w := by
  cases o with
  | cells l e rw =>
    obtain ⟨c, fr, hc, hz, hl, hv, hf⟩ := h
    refine ⟨c, fr, hc, hz, hl, fun j v hj => ?_, hf⟩
    obtain ⟨x, h1, h2, h3⟩ := hv j v hj
    simp only [AO.under, unders, leadss_all] at hu
    exact ⟨x, h1, VR_under hρ v x (hu v (List.mem_of_getElem? hj)) h2, h3⟩
  | iter t p => exact h
  | dead => trivial
theorem OR_bound {o : AO} {s : Spot} (h : OR W ρ n o s w) : o.under n = true := by
  cases o with
  | cells l e rw =>
    obtain ⟨c, fr, hc, hz, hl, hv, hf⟩ := h
    simp only [AO.under, unders, leadss_all]
    intro v hv'
    obtain ⟨j, hj, rfl⟩ := List.getElem_of_mem hv'
    obtain ⟨x, h1, h2, h3⟩ := hv j _ (List.getElem?_eq_getElem hj)
    exact VR_bound _ _ h2
  | iter t p => rfl
  | dead => rfl
theorem keepOld_spec {n : Nat} : ∀ {H H1 : Heap}, keepOld n H H1 = true → H.length ≤ H1.length ∧ ∀ (i : Nat) (a b : AO), H[i]? = some a → H1[i]? = some b → a = b ∨ b.under n = true
  | [], H1, _ => ⟨Nat.zero_le _, fun i a b h => by simp at h⟩
  | a :: H, [], h => by simp [keepOld] at h
  | a :: H, b :: H1, h => by
    simp only [keepOld, Bool.and_eq_true, Bool.or_eq_true] at h
    obtain ⟨h1, h2⟩ := keepOld_spec h.2
    refine ⟨by simpa using h1, fun i x y hx hy => ?_⟩
    cases i with
    | zero =>
      simp at hx hy
      subst hx hy
      exact h.1.imp AO.same_eq id
    | succ i => simp at hx hy; exact h2 i x y hx hy
/-- What has been carried so far: of which rows, and where they stand now. -/
structure MO (W : World) (ρ : Plan) (n : Nat) (H1 : Heap) (w1 : World) (m : Moved) (ρ' : Plan) : Prop where
  len : m.1.length = m.2.length
  same : ∀ i, i < n → ρ' i = ρ i
  rows : ∀ (j o : Nat) (r : AO), m.1[j]? = some o → m.2[j]? = some r → live H1 o ∧ n ≤ o ∧ (ρ' (n + j)).b = (ρ o).b ∧ OR W ρ' n r (ρ' (n + j)) w1
  nodup : m.1.Nodup
/-- One row more. -/
theorem MO.push {w1 : World} {m : Moved} {ρ2 : Plan} (h : MO W ρ n H1 w1 m ρ2) {o : Nat} {r : AO} {s : Spot} (hno : n ≤ o) (hlive : live H1 o) (hnew : m.1.contains o = false) (hb : s.b = (ρ o).b) (hr : OR W ρ n r s w1) :
    MO W ρ n H1 w1 (m.1 ++ [o], m.2 ++ [r]) (ρ2.ext (n + m.2.length) s) := by
  refine ⟨by simp [h.len], fun i hi => by rw [Plan.ext_lt i (by omega)]; exact h.same i hi, fun j p q hp hq => ?_, ?_⟩
  · rcases Nat.lt_or_ge j m.1.length with hj | hj
    · have hj2 : j < m.2.length := by rw [← h.len]; exact hj
      simp only at hp hq
      rw [List.getElem?_append_left hj] at hp
      rw [List.getElem?_append_left hj2] at hq
      obtain ⟨h1, h2, h3, h4⟩ := h.rows j p q hp hq
      rw [Plan.ext_lt (n + j) (by omega)]
      exact ⟨h1, h2, h3, OR_same h4 (fun i hi => Plan.ext_lt i (by omega)) (Nat.le_refl _) (fun _ => rfl)⟩
    · have := (List.getElem?_eq_some_iff.1 hp).1
      simp at this
      have hj' : j = m.1.length := by omega
      subst hj'
      have hl := h.len
      simp only at hp hq
      rw [List.getElem?_append_right (Nat.le_refl _)] at hp
      rw [hl, List.getElem?_append_right (Nat.le_refl _)] at hq
      simp at hp hq
      subst hp hq
      rw [hl, Plan.ext_at]
      exact ⟨hlive, hno, hb, OR_same hr (fun i hi => by rw [Plan.ext_lt i (by omega)]; exact h.same i hi) (Nat.le_refl _) (fun _ => rfl)⟩
  · simp only
    rw [List.nodup_append]
    refine ⟨h.nodup, by simp, fun x hx y hy => ?_⟩
    simp at hy
    subst hy
    intro hxy
    subst hxy
    rw [List.contains_eq_mem] at hnew
    simp at hnew
    exact hnew hx
mutual
theorem carry_ok {w1 : World} (h : Rel W ρ H1 w1) : ∀ (v : AV) (x : Value) (m m' : Moved) (v' : AV), VR W ρ H1.length v x → v.carry n H1 m = some (v', m') → ∀ ρ2, MO W ρ n H1 w1 m ρ2 →
    ∃ ρ3, MO W ρ n H1 w1 m' ρ3 ∧ (∀ i, i < n + m.2.length → ρ3 i = ρ2 i) ∧ m.2.length ≤ m'.2.length ∧ VR W ρ3 (n + m'.2.length) v' x
  | .ptr o off, x, m, m', v', hv, hc, ρ2, hm => by
    simp only [AV.carry] at hc
    simp only [VR] at hv
    split at hc
    · rename_i ho
      simp only [Option.some.injEq, Prod.mk.injEq] at hc
      obtain ⟨rfl, rfl⟩ := hc
      exact ⟨ρ2, hm, fun _ _ => rfl, Nat.le_refl _, by simp only [VR]; rw [hm.same o ho]; exact ⟨by omega, hv.2⟩⟩
    · rename_i ho
      split at hc <;> (try (cases hc; done))
      rename_i l e rw hH
      split at hc <;> simp only [Option.some.injEq, Prod.mk.injEq, reduceCtorEq] at hc
      rename_i hg
      obtain ⟨rfl, rfl⟩ := hc
      refine ⟨_, hm.push (by omega) ⟨_, hH, by simp⟩ hg.1 rfl (OR_under (h.obj o _ hH) hg.2 (fun _ _ => rfl)), fun i hi => Plan.ext_lt i hi, by simp, ?_⟩
      simp only [VR, Plan.ext_at, List.length_append, List.length_cons, List.length_nil]
      exact ⟨by omega, hv.2⟩
  | .sl o off len sz cap, x, m, m', v', hv, hc, ρ2, hm => by
    simp only [AV.carry] at hc
    simp only [VR] at hv
    split at hc
    · rename_i ho
      simp only [Option.some.injEq, Prod.mk.injEq] at hc
      obtain ⟨rfl, rfl⟩ := hc
      exact ⟨ρ2, hm, fun _ _ => rfl, Nat.le_refl _, by simp only [VR]; rw [hm.same o ho]; exact ⟨by omega, hv.2⟩⟩
    · rename_i ho
      split at hc <;> (try (cases hc; done))
      rename_i l e rw hH
      split at hc <;> simp only [Option.some.injEq, Prod.mk.injEq, reduceCtorEq] at hc
      rename_i hg
      obtain ⟨rfl, rfl⟩ := hc
      obtain ⟨hv1, ad, c, rfl, hv2, hv3, hv4, hv5⟩ := hv
      refine ⟨_, hm.push (s := ⟨(ρ o).b, (ρ o).d + off, (ρ o).z⟩) (by omega) ⟨_, hH, by simp⟩ hg.1 rfl ?_, fun i hi => Plan.ext_lt i hi, by simp, ?_⟩
      · obtain ⟨cc, fr, q1, q2, q3, q4, q5⟩ := h.obj o _ hH
        refine ⟨cc, fr, q1, q2, ?_, fun j v hj => ?_, q5.1, fun h => by rw [hg.2.2.2] at h; cases h⟩
        · simp only [List.length_take, List.length_drop]
          have := hg.2.2.1
          omega
        · have hj0 := hj
          rw [List.getElem?_take] at hj
          split at hj
          · rw [List.getElem?_drop] at hj
            obtain ⟨y, y1, y2, y3⟩ := q4 _ v hj
            have hu := hg.2.1
            simp only [unders, leadss_all] at hu
            exact ⟨y, by simp only; rw [Nat.add_assoc]; exact y1, VR_under (fun _ _ => rfl) v y (hu v (List.mem_of_getElem? hj0)) y2, y3⟩
          · simp at hj
      · simp only [VR, Plan.ext_at, List.length_append, List.length_cons, List.length_nil]
        exact ⟨by omega, ad, c, rfl, hv2, by simpa using hv3, by simpa using hv4, hv5⟩
  | .fn f c, x, m, m', v', hv, hc, ρ2, hm => by
    simp only [AV.carry] at hc
    split at hc <;> simp only [Option.some.injEq, Prod.mk.injEq, reduceCtorEq] at hc
    rename_i hu
    obtain ⟨rfl, rfl⟩ := hc
    exact ⟨ρ2, hm, fun _ _ => rfl, Nat.le_refl _, VR_mono (n := n) (fun _ _ => rfl) (by omega) _ _ (VR_under (fun i hi => hm.same i hi) _ _ hu hv)⟩
  | .agg c, x, m, m', v', hv, hc, ρ2, hm => by
    simp only [AV.carry, Option.map_eq_some_iff] at hc
    obtain ⟨⟨c', m1⟩, h1, h2⟩ := hc
    simp only [Prod.mk.injEq] at h2
    obtain ⟨rfl, rfl⟩ := h2
    simp only [VR] at hv
    obtain ⟨l, rfl, hl⟩ := hv
    obtain ⟨ρ3, q1, q2, q3, q4⟩ := carries_ok h c l m m1 c' hl h1 ρ2 hm
    exact ⟨ρ3, q1, q2, q3, by simp only [VR]; exact ⟨l, rfl, q4⟩⟩
  | .tup c, x, m, m', v', hv, hc, ρ2, hm => by
    simp only [AV.carry, Option.map_eq_some_iff] at hc
    obtain ⟨⟨c', m1⟩, h1, h2⟩ := hc
    simp only [Prod.mk.injEq] at h2
    obtain ⟨rfl, rfl⟩ := h2
    simp only [VR] at hv
    obtain ⟨l, rfl, hl⟩ := hv
    obtain ⟨ρ3, q1, q2, q3, q4⟩ := carries_ok h c l m m1 c' hl h1 ρ2 hm
    exact ⟨ρ3, q1, q2, q3, by simp only [VR]; exact ⟨l, rfl, q4⟩⟩
  | .int _ _, x, m, m', v', hv, hc, ρ2, hm => by
    simp only [AV.carry, Option.some.injEq, Prod.mk.injEq] at hc; obtain ⟨rfl, rfl⟩ := hc; exact ⟨ρ2, hm, fun _ _ => rfl, Nat.le_refl _, by simpa only [VR] using hv⟩
  | .bool _, x, m, m', v', hv, hc, ρ2, hm => by
    simp only [AV.carry, Option.some.injEq, Prod.mk.injEq] at hc; obtain ⟨rfl, rfl⟩ := hc; exact ⟨ρ2, hm, fun _ _ => rfl, Nat.le_refl _, by simpa only [VR] using hv⟩
  | .str _, x, m, m', v', hv, hc, ρ2, hm => by
    simp only [AV.carry, Option.some.injEq, Prod.mk.injEq] at hc; obtain ⟨rfl, rfl⟩ := hc; exact ⟨ρ2, hm, fun _ _ => rfl, Nat.le_refl _, by simpa only [VR] using hv⟩
  | .pv c, x, m, m', v', hv, hc, ρ2, hm => by
    simp only [AV.carry, Option.some.injEq, Prod.mk.injEq] at hc; obtain ⟨rfl, rfl⟩ := hc; exact ⟨ρ2, hm, fun _ _ => rfl, Nat.le_refl _, VR_leads (p := fun _ => false) (fun i hi => by cases hi) _ _ rfl hv⟩
  | .nilp, x, m, m', v', hv, hc, ρ2, hm => by
    simp only [AV.carry, Option.some.injEq, Prod.mk.injEq] at hc; obtain ⟨rfl, rfl⟩ := hc; exact ⟨ρ2, hm, fun _ _ => rfl, Nat.le_refl _, by simpa only [VR] using hv⟩
  | .nili, x, m, m', v', hv, hc, ρ2, hm => by
    simp only [AV.carry, Option.some.injEq, Prod.mk.injEq] at hc; obtain ⟨rfl, rfl⟩ := hc; exact ⟨ρ2, hm, fun _ _ => rfl, Nat.le_refl _, by simpa only [VR] using hv⟩
  | .vs c n, x, m, m', v', hv, hc, ρ2, hm => by
    simp only [AV.carry, Option.some.injEq, Prod.mk.injEq] at hc; obtain ⟨rfl, rfl⟩ := hc; exact ⟨ρ2, hm, fun _ _ => rfl, Nat.le_refl _, VR_leads (p := fun _ => false) (fun i hi => by cases hi) _ _ rfl hv⟩
  | .nils, x, m, m', v', hv, hc, ρ2, hm => by
    simp only [AV.carry, Option.some.injEq, Prod.mk.injEq] at hc; obtain ⟨rfl, rfl⟩ := hc; exact ⟨ρ2, hm, fun _ _ => rfl, Nat.le_refl _, by simpa only [VR] using hv⟩
  | .nilf, x, m, m', v', hv, hc, ρ2, hm => by
    simp only [AV.carry, Option.some.injEq, Prod.mk.injEq] at hc; obtain ⟨rfl, rfl⟩ := hc; exact ⟨ρ2, hm, fun _ _ => rfl, Nat.le_refl _, by simpa only [VR] using hv⟩
  | .undef, x, m, m', v', hv, hc, ρ2, hm => by
    simp only [AV.carry, Option.some.injEq, Prod.mk.injEq] at hc; obtain ⟨rfl, rfl⟩ := hc; exact ⟨ρ2, hm, fun _ _ => rfl, Nat.le_refl _, by simpa only [VR] using hv⟩
theorem carries_ok {w1 : World} (h : Rel W ρ H1 w1) : ∀ (l : List AV) (xs : List Value) (m m' : Moved) (l' : List AV), VRs W ρ H1.length l xs → carries n H1 m l = some (l', m') → ∀ ρ2, MO W ρ n H1 w1 m ρ2 →
    ∃ ρ3, MO W ρ n H1 w1 m' ρ3 ∧ (∀ i, i < n + m.2.length → ρ3 i = ρ2 i) ∧ m.2.length ≤ m'.2.length ∧ VRs W ρ3 (n + m'.2.length) l' xs
  | [], xs, m, m', l', hv, hc, ρ2, hm => by
    simp only [carries, Option.some.injEq, Prod.mk.injEq] at hc
    obtain ⟨rfl, rfl⟩ := hc
    exact ⟨ρ2, hm, fun _ _ => rfl, Nat.le_refl _, by simpa only [VRs] using hv⟩
  | a :: l, xs, m, m', l', hv, hc, ρ2, hm => by
    simp only [carries, Option.bind_eq_some_iff, Option.map_eq_some_iff] at hc
    obtain ⟨⟨a', m1⟩, h1, ⟨l1, m2⟩, h2, h3⟩ := hc
    simp only [Prod.mk.injEq] at h3
    obtain ⟨rfl, rfl⟩ := h3
    simp only [VRs] at hv
    obtain ⟨x, r, rfl, hx, hr⟩ := hv
    obtain ⟨ρ3, q1, q2, q3, q4⟩ := carry_ok h a x m m1 a' hx h1 ρ2 hm
    obtain ⟨ρ4, q5, q6, q7, q8⟩ := carries_ok h l r m1 m2 l1 hr h2 ρ3 q1
    refine ⟨ρ4, q5, fun i hi => by rw [q6 i (by omega), q2 i hi], by omega, ?_⟩
    simp only [VRs]
    exact ⟨x, r, rfl, VR_mono q6 (by omega) _ _ q4, q8⟩
end
end
end Go.Den
