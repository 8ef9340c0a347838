/- Draws of an order: one operation more. -/
import Derived.Test.YthfpndelfbeknaaDen22
set_option linter.unusedVariables false
set_option linter.unusedSimpArgs false
namespace Go.Den
open Go.RowKit (Below)
namespace Dr
variable {P : Program} {cl : CL} {os : Array Oper} {l : List SOp} {anc unks : List (List Nat)} {b : Nat} {T : Nat → List AV} {Hh : Nat → Heap} {V : Nat → AV} {Md : Nat → List (Nat × Nat × Nat)}

theorem wants_same (D : Dr P cl os l anc unks b T Hh V Md) {i : Nat} {o : Oper} {s : SOp} (ho : os[i]? = some o) (hs : l[i]? = some s) {t u : List AV} (h : ∀ d ∈ look os o s, t.getD d .undef = u.getD d .undef) : wants t s.guard = wants u s.guard := by
  have hg := (D.each i o s ho hs).1
  cases hgo : o.guard with
  | none =>
    rw [hgo] at hg
    simp only [slimG, Option.some.injEq] at hg
    rw [← hg]
    rfl
  | some q =>
    obtain ⟨j, w⟩ := q
    rw [hgo] at hg
    simp only [slimG, Option.map_eq_some_iff] at hg
    obtain ⟨d, hd, hg⟩ := hg
    rw [← hg]
    simp only [wants]
    rw [h d]
    unfold look Oper.looksAt
    exact List.mem_append_left _ (List.mem_append_right _ (by simp [hgo, hd]))
/-- The step that the operation takes, once its heap is known. -/
theorem run_one (D : Dr P cl os l anc unks b T Hh V Md) (hcl : ClOk P cl) {W : World} {ρ0 ρ : Plan} {w0 w : World} {K : Nat → Bool} {c : Nat} {a : Act} (I : Inv os l anc b T Hh V W ρ0 w0 K c ρ a w) (h0 : ∀ d, ((T 0).getD d .undef).under (Hh 0).length = true)
    {i : Nat} {o : Oper} {s : SOp} (ho : os[i]? = some o) (hs : l[i]? = some s) (hK : K i = false) (hanc : ∀ j ∈ anc.getD i [], K j = true) {Hk H1 : Heap} (hlen : Hk.length = (Hh i).length) (hrel : Rel W ρ Hk w)
    (hrun : wants (T i) s.guard = true → sop cl (T i) Hk s.op = some (V i, H1)) :
    Region.wanted o (yielded os a.tmps) = wants (T i) s.guard ∧ (wants (T i) s.guard = true → Runs P o a w fun x w' => ∃ ρ', Stp W ρ Hk w ρ' H1 w' ∧ VR W ρ' H1.length (V i) x) := by
  obtain ⟨a', tD, e1, e2, e3, e4⟩ := D.act_for I.cl ho hs hK hanc h0 I.und I.size I.val
  obtain ⟨g1, g2, g3, g4⟩ := D.each i o s ho hs
  rw [← hlen] at e3
  refine ⟨?_, fun hw => ?_⟩
  · rw [← e2, wants_ok e3 g1]
    exact D.wants_same ho hs e4
  · have h1 := hrun hw
    cases hone : slimOne P o.op with
    | none => rw [g3, hone] at h1; simp [sop, aop] at h1
    | some s' =>
      have hs' : s.op = s' := by rw [g3, hone]; rfl
      have h2 : sop cl tD Hk s' = some (V i, H1) := by
        rw [← h1, hs']
        refine sop_same fun d hd => e4 d ?_
        unfold look
        rw [hs']
        exact List.mem_append_right _ hd
      have h3 := sop_run hcl hone hrel e3 h2
      unfold Runs at h3 ⊢
      rwa [e1] at h3
/-- One that waits for all that touch memory. -/
theorem step_late (D : Dr P cl os l anc unks b T Hh V Md) (hcl : ClOk P cl) {W : World} {ρ0 ρ : Plan} {w0 w : World} {K : Nat → Bool} {c : Nat} {a : Act} (I : Inv os l anc b T Hh V W ρ0 w0 K c ρ a w) (h0 : ∀ d, ((T 0).getD d .undef).under (Hh 0).length = true)
    {i : Nat} {o : Oper} {s : SOp} (ho : os[i]? = some o) (hs : l[i]? = some s) (hK : K i = false) (hanc : ∀ j ∈ anc.getD i [], K j = true) (hl : late l i) :
    (Region.wanted o (yielded os a.tmps) = true → Runs P o a w fun x w' => ∃ c' ρ', Inv os l anc b T Hh V W ρ0 w0 (plus K i) c' ρ' (a.put s.dst x) w') ∧
    (Region.wanted o (yielded os a.tmps) = false → ∃ c' ρ', Inv os l anc b T Hh V W ρ0 w0 (plus K i) c' ρ' (a.put s.dst undef) w) := by
  have hil := (List.getElem?_eq_some_iff.1 hs).1
  have hbi := D.late_b hl
  obtain ⟨s2, hs2, ht, hd2⟩ := id hl
  rw [hs] at hs2
  injection hs2 with hs2
  subst hs2
  have hci : c ≤ i := by
    refine Decidable.byContradiction fun h => ?_
    rcases I.c3 i (by omega) hl i s (Nat.le_refl _) hs ht with this | this
    · rw [hK] at this; cases this
    · exact this.2.1 hl
  have all : ∀ j q, j < i → l[j]? = some q → q.op.touch ≠ .no → K j = true ∨ Wk l T i j := fun j q hj hq htq => by
    refine Classical.byContradiction fun hn => ?_
    obtain ⟨p, hp⟩ := D.getO (i := j) (by omega)
    rcases (D.two i j o s p q ho hs hp hq hj (fun hm => hn (.inl (hanc j hm)))).2.2.2.2 with h | h | h | h | h
    · exact htq h
    · exact ht h
    · exact h.1 hl
    · exact hn (.inr h)
    · exact h.2.1 hl
  have allk : ∀ k j r q, k < i → late l k → l[k]? = some r → j < k → l[j]? = some q → q.op.touch ≠ .no → K j = true ∨ Wk l T k j := fun k j r q hk hlk hr hj hq htq => by
    obtain ⟨r', hr', h1, h2⟩ := id hlk
    rw [hr] at hr'
    injection hr' with hr'
    subst hr'
    have hKk : K k = true := by
      rcases all k r hk hr h1 with h | h
      · exact h
      · exact absurd hlk h.2.1
    by_cases hm : j ∈ anc.getD k []
    · exact .inl (I.cl k (by omega) hKk j hm)
    · obtain ⟨p, hp⟩ := D.getO (i := j) (by omega)
      obtain ⟨o', ho'⟩ := D.getO (i := k) (by omega)
      rcases (D.two k j o' r p q ho' hr hp hq hj hm).2.2.2.2 with h | h | h | h | h
      · exact absurd h htq
      · exact absurd h h1
      · exact absurd hlk h.1
      · exact .inr h
      · exact absurd hlk h.2.1
  have hbc : b ≤ c := by rcases I.c1 with h | h <;> omega
  have hHc : Hh i = Hh c := D.keep_still hbc hci (by omega) fun k h1 h2 hlk => by
    obtain ⟨q, hq, h, _⟩ := id hlk
    have h3 := I.c2 k h1 hlk
    rcases all k q h2 hq h with h4 | h4
    · rw [h4] at h3
      cases h3
    · exact h4.2.1 hlk
  have hgone : ∀ (K' : Nat → Bool) (m : Nat), m ≤ l.length → (∀ j q, j < m → l[j]? = some q → makes q = true → K' j = true) → mask (gone l.length Hh K') (Hh m) = Hh m := fun K' m hm h => by
    apply List.ext_getElem?
    intro r
    rw [mask_get]
    cases hr : (Hh m)[r]? with
    | none => rfl
    | some y =>
      have hrl := (List.getElem?_eq_some_iff.1 hr).1
      have hg : gone l.length Hh K' r = false := by
        refine Decidable.byContradiction fun hn => ?_
        obtain ⟨j, j1, j2, j3, j4⟩ := gone_iff.1 (by simpa using hn)
        have hjm : j < m := by
          refine Decidable.byContradiction fun h => ?_
          have := D.mono (i := m) (j := j) (by omega) (by omega); omega
        obtain ⟨q, hq⟩ := D.getS j1
        have hmk : makes q = true := by
          refine Decidable.byContradiction fun h => ?_
          have := D.nomake hq (by simpa using h)
          rw [this] at j4; omega
        rw [h j q hjm hq hmk] at j2
        cases j2
      simp [hg]
  have mk : ∀ j q, j < i → l[j]? = some q → makes q = true → K j = true := fun j q hj hq hmk => by
    rcases all j q hj hq (fun h => by simp [makes, h] at hmk) with h | h
    · exact h
    · rw [h.quiet hq] at hmk; cases hmk
  have hm1 : mask (gone l.length Hh K) (Hh c) = Hh i := by rw [← hHc]; exact hgone K i (by omega) mk
  have hm2 : mask (gone l.length Hh (plus K i)) (Hh (i + 1)) = Hh (i + 1) := hgone _ _ (by omega) fun j q hj hq htq => by
    by_cases hji : j = i
    · simp [plus, hji]
    · simp [plus, mk j q (by omega) hq htq]
  have hst := I.stp
  rw [hm1] at hst
  have fin : ∀ {ρ' : Plan} {w' : World} {x : Value}, Stp W ρ (Hh i) w ρ' (Hh (i + 1)) w' → VR W ρ' (Hh (i + 1)).length (V i) x → ∃ c' ρ', Inv os l anc b T Hh V W ρ0 w0 (plus K i) c' ρ' (a.put s.dst x) w' := by
    intro ρ' w' x h1 h2
    refine ⟨i + 1, fun r => if r < (Hh (i + 1)).length then ρ' r else ρ r, D.inv_put I h0 hs hK hanc (.inl (by omega)) (by omega) (fun k hk hlk => ?_) (fun k hk hlk j q hj hq htq => ?_) (fun m hm r y hy hd hg => ?_) ?_ (fun r hr => ?_) ?_ (fun h => absurd hl h)⟩
    · simp only [plus, Bool.or_eq_false_iff]
      exact ⟨I.c2 k (by omega) hlk, by simp; omega⟩
    · by_cases hji : j = i
      · exact .inl (by simp [plus, hji])
      · have h5 : K j = true ∨ Wk l T k j := by
          by_cases hki : k = i
          · subst hki; exact all j q (by omega) hq htq
          · by_cases hjk : j = k
            · subst hjk
              rcases all j q (by omega) hq htq with h | h
              · exact .inl h
              · exact absurd hlk h.2.1
            · obtain ⟨r, hr, _⟩ := id hlk
              exact allk k j r q (by omega) hlk hr (by omega) hq htq
        exact h5.imp (fun h => by simp [plus, h]) id
    · by_cases hmc : m ≤ c
      · refine I.wf m hmc r y hy hd ?_
        rw [← gone_plus (i := i) (K := K)]
        · exact hg
        · have := D.mono (i := m) (j := i) (by omega) (by omega)
          have := (List.getElem?_eq_some_iff.1 hy).1
          simp only [rowsOf, Bool.and_eq_false_iff, decide_eq_false_iff_not]; omega
      · by_cases hmi : m = i + 1
        · subst hmi
          exact OR_bound (h1.rel.obj r y hy)
        · have he : Hh m = Hh c := by
            rw [← hHc]
            have h7 := D.keep_still hbc (c := m) (by omega) (by omega) fun k h1 h2 hlk => by
              obtain ⟨q, hq, h, _⟩ := id hlk
              have h3 := I.c2 k h1 hlk
              rcases all k q (by omega) hq h with h4 | h4
              · rw [h4] at h3
                cases h3
              · exact h4.2.1 hlk
            rw [h7, hHc]
          rw [he] at hy ⊢
          refine I.wf c (Nat.le_refl _) r y hy hd ?_
          rw [← gone_plus (i := i) (K := K)]
          · exact hg
          · have := (List.getElem?_eq_some_iff.1 hy).1
            have := D.mono (i := c) (j := i) (by omega) (by omega)
            simp only [rowsOf, Bool.and_eq_false_iff, decide_eq_false_iff_not]; omega
    · rw [hm2]
      exact stp_ext (hst.trans h1) fun r hr => by simp [hr]
    · simp only [rowsOf, Bool.and_eq_false_iff, decide_eq_false_iff_not] at hr
      by_cases h3 : r < (Hh (i + 1)).length
      · simp only [h3, if_true]; exact h1.same r (by omega)
      · simp only [h3, if_false]
    · exact VR_mono (fun r hr => by simp [hr]) (Nat.le_refl _) _ _ h2
  have hrun := D.run_one hcl I h0 ho hs hK hanc (Hk := Hh i) (H1 := Hh (i + 1)) rfl hst.rel fun hw => by
    obtain ⟨_, ⟨hw', _⟩ | ⟨_, ⟨_, h, _⟩ | ⟨u, _, hd, _⟩⟩⟩ := D.step i s hs
    · rw [hw] at hw'; cases hw'
    · exact h
    · exact absurd hl ((D.draw_late hs).2 u hd).1
  refine ⟨fun hw => ?_, fun hw => ?_⟩
  · have h1 := hrun.2 (by rw [← hrun.1]; exact hw)
    unfold Runs at h1 ⊢
    rcases h1 with ⟨x, w', h2, ρ', h3, h4⟩ | ⟨f, args, h2, h3⟩
    · exact .inl ⟨x, w', h2, fin h3 h4⟩
    · exact .inr ⟨f, args, h2, h3.mono fun e w' he => by cases e <;> first | (obtain ⟨ρ', h3, h4⟩ := he; exact fin h3 h4) | exact he⟩
  · have hw2 : wants (T i) s.guard = false := by rw [← hrun.1]; exact hw
    obtain ⟨_, ⟨_, h1, h2, _⟩ | ⟨h, _⟩⟩ := D.step i s hs
    · refine fin (ρ' := ρ) (x := undef) ?_ ?_
      · rw [h2]; exact .refl hst.rel
      · rw [h1]; simp only [VR]
    · rw [hw2] at h; cases h
/-- One that makes no rows, and leaves what stands. -/
theorem step_norows (D : Dr P cl os l anc unks b T Hh V Md) {W : World} {ρ0 ρ : Plan} {w0 w w' : World} {K : Nat → Bool} {c : Nat} {a : Act} (I : Inv os l anc b T Hh V W ρ0 w0 K c ρ a w) (h0 : ∀ d, ((T 0).getD d .undef).under (Hh 0).length = true)
    {i : Nat} {s : SOp} (hs : l[i]? = some s) (hK : K i = false) (hanc : ∀ j ∈ anc.getD i [], K j = true) (hl : ¬ late l i) (hH : Hh (i + 1) = Hh i) (hst : Stp W ρ0 (Hh 0) w0 ρ (mask (gone l.length Hh K) (Hh c)) w') {x : Value} (hV : VR W ρ (Hh i).length (V i) x) :
    Inv os l anc b T Hh V W ρ0 w0 (plus K i) c ρ (a.put s.dst x) w' := by
  have hr : ∀ r, rowsOf Hh i r = false := fun r => by
    simp only [rowsOf, Bool.and_eq_false_iff, decide_eq_false_iff_not, hH]; omega
  have hg : gone l.length Hh (plus K i) = gone l.length Hh K := funext fun r => gone_plus (hr r)
  refine D.inv_put I h0 hs hK hanc I.c1 I.cn (fun k hk hlk => ?_) (fun k hk hlk j q hj hq htq => ?_) (fun m hm r y hy hd hgr => I.wf m hm r y hy hd (by rw [hg] at hgr; exact hgr)) (by rw [hg]; exact hst) (fun _ _ => rfl) (by rw [hH]; exact hV) (fun _ o ho => by rw [hH] at ho; simp at ho)
  · have hki : k ≠ i := fun h => hl (h ▸ hlk)
    simp [plus, I.c2 k hk hlk, hki]
  · exact (I.c3 k hk hlk j q hj hq htq).imp (fun h => by simp [plus, h]) id
end Dr
end Go.Den
