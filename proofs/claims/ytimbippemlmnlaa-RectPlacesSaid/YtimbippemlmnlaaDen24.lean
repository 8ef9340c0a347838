/- Draws of an order: the region. -/
import Derived.Test.YtimbippemlmnlaaDen23
set_option linter.unusedVariables false
set_option linter.unusedSimpArgs false
namespace Go.Den
open Go.RowKit (Below)
namespace Dr
variable {P : Program} {cl : CL} {os : Array Oper} {l : List SOp} {anc unks : List (List Nat)} {b : Nat} {T : Nat → List AV} {Hh : Nat → Heap} {V : Nat → AV} {Md : Nat → List (Nat × Nat × Nat)}

/-- One that touches no memory. -/
theorem step_no (D : Dr P cl os l anc unks b T Hh V Md) (hcl : ClOk P cl) {W : World} {ρ0 ρ : Plan} {w0 w : World} {K : Nat → Bool} {c : Nat} {a : Act} (I : Inv os l anc b T Hh V W ρ0 w0 K c ρ a w) (h0 : ∀ d, ((T 0).getD d .undef).under (Hh 0).length = true)
    {i : Nat} {o : Oper} {s : SOp} (ho : os[i]? = some o) (hs : l[i]? = some s) (hK : K i = false) (hanc : ∀ j ∈ anc.getD i [], K j = true) (ht : s.op.touch = .no) :
    (Region.wanted o (yielded os a.tmps) = true → Runs P o a w fun x w' => ∃ c' ρ', Inv os l anc b T Hh V W ρ0 w0 (plus K i) c' ρ' (a.put s.dst x) w') ∧
    (Region.wanted o (yielded os a.tmps) = false → ∃ c' ρ', Inv os l anc b T Hh V W ρ0 w0 (plus K i) c' ρ' (a.put s.dst undef) w) := by
  have hil := (List.getElem?_eq_some_iff.1 hs).1
  have hl : ¬ late l b i := by
    rintro ⟨s', hs', h1, _⟩
    rw [hs] at hs'
    injection hs' with hs'
    subst hs'
    exact h1 ht
  have hH := D.nomake hs (by simp [makes, ht])
  have hrun := D.run_one hcl I h0 ho hs hK hanc (Hk := List.replicate (Hh i).length .dead) (H1 := List.replicate (Hh i).length .dead) (by simp) (rel_dead I.stp.rel.below _) fun hw => by
    have h1 := ((D.early hs hl).2 hw).1
    rw [sop_aop (by rw [ht]; simp)] at h1 ⊢
    exact (aop_no ht h1).2 _
  have hdead : ∀ n r, ¬ live (List.replicate n AO.dead) r := fun n r ⟨y, hy, hd⟩ => by
    rw [List.getElem?_replicate] at hy
    split at hy <;> simp only [Option.some.injEq, reduceCtorEq] at hy
    exact hd hy.symm
  have fin : ∀ {ρ' : Plan} {w' : World} {x : Value}, Stp W ρ (List.replicate (Hh i).length .dead) w ρ' (List.replicate (Hh i).length .dead) w' → VR W ρ' (List.replicate (Hh i).length AO.dead).length (V i) x →
      ∃ c' ρ', Inv os l anc b T Hh V W ρ0 w0 (plus K i) c' ρ' (a.put s.dst x) w' := by
    intro ρ' w' x h1 h2
    rw [List.length_replicate] at h2
    refine ⟨c, ρ, D.step_norows I h0 hs hK hanc hl hH ?_ (VR_under (fun r hr => (h1.same r (by simpa using hr)).symm) _ _ (VR_bound _ _ h2) h2)⟩
    have small : Stp W ρ (List.replicate (Hh 0).length .dead) w ρ (List.replicate (Hh 0).length .dead ++ []) w' := by
      rw [List.append_nil]
      exact ⟨fun _ _ => rfl, Nat.le_refl _, h1.size, fun b' hb' _ => h1.frame b' hb' (fun r hr => absurd hr (hdead _ r)), fun r hr => absurd hr (hdead _ r), rel_dead h1.rel.below _⟩
    have := stp_more I.stp (K := List.replicate (Hh 0).length .dead) (new := []) (M' := mask (gone l.length Hh K) (Hh c)) (by simp) (fun r y hy hd => absurd ⟨y, hy, hd⟩ (hdead _ r)) small rfl (by simp [mask_length]; exact D.mono (by omega) I.cn) (fun r => by simp; omega) (fun r h1 h2 => by simp at h1 h2; omega) (fun r y hy hd hn => by
      have hb := OR_bound (I.stp.rel.obj r y hy)
      exact AO.under_leads hb (fun i _ => by simp; omega))
    have he : (fun r => if (List.replicate (Hh 0).length AO.dead).length ≤ r ∧ r < (List.replicate (Hh 0).length AO.dead).length + ([] : Heap).length then ρ r else ρ r) = ρ := funext fun r => by simp
    rwa [he] at this
  refine ⟨fun hw => ?_, fun hw => ?_⟩
  · have h1 := hrun.2 (by rw [← hrun.1]; exact hw)
    unfold Runs at h1 ⊢
    rcases h1 with ⟨x, w', h2, ρ', h3, h4⟩ | ⟨f, args, h2, h3⟩
    · exact .inl ⟨x, w', h2, fin h3 h4⟩
    · exact .inr ⟨f, args, h2, h3.mono fun e w' he => by cases e <;> first | (obtain ⟨ρ', h3, h4⟩ := he; exact fin h3 h4) | exact he⟩
  · have hw2 : wants (T i) s.guard = false := by rw [← hrun.1]; exact hw
    obtain ⟨_, ⟨_, h1, h2, _⟩ | ⟨h, _⟩⟩ := D.step i s hs
    · exact ⟨c, ρ, D.step_norows I h0 hs hK hanc hl hH I.stp (by rw [h1]; simp only [VR])⟩
    · rw [hw2] at h; cases h
/-- One that touches memory and waits not for all. -/
theorem step_early (D : Dr P cl os l anc unks b T Hh V Md) (hcl : ClOk P cl) {W : World} {ρ0 ρ : Plan} {w0 w : World} {K : Nat → Bool} {c : Nat} {a : Act} (I : Inv os l anc b T Hh V W ρ0 w0 K c ρ a w) (h0 : ∀ d, ((T 0).getD d .undef).under (Hh 0).length = true) (hr0 : Rel W ρ0 (Hh 0) w0)
    {i : Nat} {o : Oper} {s : SOp} (ho : os[i]? = some o) (hs : l[i]? = some s) (hK : K i = false) (hanc : ∀ j ∈ anc.getD i [], K j = true) (ht : s.op.touch ≠ .no) (hl : ¬ late l b i) :
    (Region.wanted o (yielded os a.tmps) = true → Runs P o a w fun x w' => ∃ c' ρ', Inv os l anc b T Hh V W ρ0 w0 (plus K i) c' ρ' (a.put s.dst x) w') ∧
    (Region.wanted o (yielded os a.tmps) = false → ∃ c' ρ', Inv os l anc b T Hh V W ρ0 w0 (plus K i) c' ρ' (a.put s.dst undef) w) := by
  have hil := (List.getElem?_eq_some_iff.1 hs).1
  have hib : i < b := by
    refine Decidable.byContradiction fun h => hl ⟨s, hs, ht, by omega⟩
  have nolate : ∀ k, k < c → ¬ late l b k := fun k hk hlk => by
    obtain ⟨s', hs', h1, h2⟩ := hlk
    have := I.c3 k hk ⟨s', hs', h1, h2⟩ i s (by omega) hs ht
    rw [hK] at this; cases this
  have hic : i + 1 ≤ c := by rcases I.c1 with h | h <;> omega
  have hcn := I.cn
  obtain ⟨hgrow, hearly⟩ := D.early hs hl
  generalize hnew : (Hh (i + 1)).drop (Hh i).length = new at hgrow hearly
  have hlen1 : (Hh (i + 1)).length = (Hh i).length + new.length := by rw [hgrow]; simp
  /- what it knows -/
  have hmd := D.made_ok (k := i) (by omega)
  obtain ⟨v1, v2⟩ := veil_ok (unks.getD i []) (Md i) (Hh i) (fun p hp => by obtain ⟨j, hj, rfl⟩ := hmd.1 p hp; have := D.mono (i := j + 1) (j := i) (by omega) (by omega); have := D.mono1 (k := j) (by omega); simp only; omega)
  generalize hKk : veil (unks.getD i []) (Md i) (Hh i) = Kk at v1 v2 hearly
  have known : ∀ r y, (Hh i)[r]? = some y → y ≠ .dead → (∀ p ∈ Md i, (unks.getD i []).contains p.1 = true → inRows p r = false) → gone l.length Hh K r = false := fun r y hy hd hp => by
    refine Decidable.byContradiction fun hn => ?_
    obtain ⟨j, j1, j2, j3, j4⟩ := gone_iff.1 (by simpa using hn)
    have hrl := (List.getElem?_eq_some_iff.1 hy).1
    have hji : j < i := by
      refine Decidable.byContradiction fun h => ?_
      have := D.mono (i := i) (j := j) (by omega) (by omega); omega
    obtain ⟨q, hq⟩ := D.getS j1
    obtain ⟨p, hpp⟩ := D.getO j1
    have hmk : makes q = true := by
      refine Decidable.byContradiction fun h => ?_
      have := D.nomake hq (by simpa using h)
      rw [this] at j4; omega
    have hnm : j ∉ anc.getD i [] := fun hm => by rw [hanc j hm] at j2; cases j2
    have hunk := (D.two i j o s p q ho hs hpp hq hji hnm).2.2.2.1 hmk
    have h1 := hp _ (hmd.2 j hji (by omega)) (by simpa using hunk)
    simp [inRows] at h1
    omega
  have keepc : ∀ r, r < (Hh i).length → (Hh c)[r]? = (Hh i)[r]? := D.keep (by omega) hcn (fun k _ hk => nolate k hk)
  have keepc1 : ∀ r, r < (Hh (i + 1)).length → (Hh c)[r]? = (Hh (i + 1))[r]? := D.keep hic hcn (fun k _ hk => nolate k hk)
  have hKM : ∀ (r : Nat) (y : AO), Kk[r]? = some y → y ≠ .dead → (mask (gone l.length Hh K) (Hh c))[r]? = some y := fun r y hy hd => by
    obtain ⟨h1, h2⟩ := v2 r y hy hd
    rw [mask_get, keepc r (List.getElem?_eq_some_iff.1 h1).1, h1]
    simp [known r y h1 hd h2]
  /- rows that stand are under what was then -/
  have under0 : ∀ r y j, (Hh c)[r]? = some y → (Hh j).length ≤ r → r < (Hh (j + 1)).length → j < c → K j = true → y.under (Hh (j + 1)).length = true ∧ y ∈ (Hh (j + 1)).drop (Hh j).length := fun r y j hy h1 h2 hj hKj => by
    have h3 := D.keep (i := j + 1) (c := c) (by omega) hcn (fun k _ hk => nolate k hk) r h2
    rw [hy] at h3
    have hmem : y ∈ (Hh (j + 1)).drop (Hh j).length := by
      refine List.mem_of_getElem? (i := r - (Hh j).length) ?_
      rw [List.getElem?_drop, show (Hh j).length + (r - (Hh j).length) = r by omega]
      exact h3.symm
    exact ⟨I.rows j (by omega) hKj (nolate j hj) y hmem, hmem⟩
  have first : ∀ r y, (Hh c)[r]? = some y → r < (Hh 0).length → y.under (Hh 0).length = true := fun r y hy hr => by
    have h3 := D.keep (i := 0) (c := c) (by omega) hcn (fun k _ hk => nolate k hk) r hr
    rw [hy] at h3
    exact OR_bound (hr0.obj r y h3.symm)
  have mono_under : ∀ {m n : Nat} {y : AO}, m ≤ n → y.under m = true → y.under n = true := fun {m n y} hmn hy => by
    have := AO.under_leads hy (q := fun o => decide (o < n)) (fun i hi => by simp; omega)
    cases y <;> exact this
  have hrel : Rel W ρ Kk w := rel_less I.stp.rel fun r y hy hd => by
    refine ⟨hKM r y hy hd, ?_⟩
    rw [v1]
    have hrl := (List.getElem?_eq_some_iff.1 hy).1
    rw [v1] at hrl
    have h1 := mask_alive (hKM r y hy hd) hd
    by_cases hr0' : r < (Hh 0).length
    · exact mono_under (D.mono (by omega) (by omega)) (first r y h1.1 hr0')
    · obtain ⟨j, j1, j2, j3⟩ := D.owner (r := r) (by omega) (c := i) (by omega) hrl
      have hKj : K j = true := by
        refine Decidable.byContradiction fun h => ?_
        have := h1.2
        rw [gone_iff.2 ⟨j, by omega, by simpa using h, j2, j3⟩] at this
        cases this
      exact mono_under (D.mono (by omega) (by omega)) (under0 r y j h1.1 j2 j3 (by omega) hKj).1
  have hrun := D.run_one hcl I h0 ho hs hK hanc (Hk := Kk) (H1 := Kk ++ new) v1 hrel fun hw => (hearly hw).1
  have fin : ∀ {ρ' : Plan} {w' : World} {x : Value}, Stp W ρ Kk w ρ' (Kk ++ new) w' → VR W ρ' (Kk ++ new).length (V i) x → ∃ c' ρ', Inv os l anc b T Hh V W ρ0 w0 (plus K i) c' ρ' (a.put s.dst x) w' := by
    intro ρ' w' x h1 h2
    rw [List.length_append, v1, ← hlen1] at h2
    have hrow : ∀ r, rowsOf Hh i r = true ↔ (Kk.length ≤ r ∧ r < Kk.length + new.length) := fun r => by simp [rowsOf, hlen1, v1]
    refine ⟨c, fun r => if Kk.length ≤ r ∧ r < Kk.length + new.length then ρ' r else ρ r, D.inv_put I h0 hs hK hanc I.c1 hcn (fun k hk hlk => ?_) (fun k hk hlk j q hj hq htq => ?_) ?_ (fun r hr => ?_) ?_ (fun _ y hy => ?_)⟩
    · have hki : k ≠ i := fun h => hl (h ▸ hlk)
      simp [plus, I.c2 k hk hlk, hki]
    · simp [plus, I.c3 k hk hlk j q hj hq htq]
    · refine stp_more I.stp (by rw [v1]; exact D.mono (by omega) (by omega)) hKM h1 (by simp [mask_length]) (by rw [mask_length, v1, ← hlen1]; exact D.mono hic hcn) (fun r => ?_) (fun r h3 h4 => ?_) (fun r y hy hd hn => ?_)
      · by_cases hr : Kk.length ≤ r ∧ r < Kk.length + new.length
        · rw [if_pos hr, mask_get, keepc1 r (by omega), hgrow, List.getElem?_append_right (by omega), v1]
          have hg : gone l.length Hh (plus K i) r = false := by
            refine Decidable.byContradiction fun hn => ?_
            obtain ⟨j, j1, j2, j3, j4⟩ := gone_iff.1 (by simpa using hn)
            have := D.apart hil j1 (r := r) (by omega) (by omega) j3 j4
            subst this
            simp [plus] at j2
          simp [hg]
        · rw [if_neg hr, mask_get, mask_get, gone_plus]
          exact Bool.eq_false_iff.2 (fun h => hr ((hrow r).1 h))
      · rintro ⟨y, hy, hd⟩
        have := (mask_alive hy hd).2
        rw [gone_iff.2 ⟨i, hil, hK, by omega, by omega⟩] at this
        cases this
      · obtain ⟨m1, m2⟩ := mask_alive hy hd
        have conv : ∀ k, (!rowsOf Hh i k) = true → (!(decide (Kk.length ≤ k) && decide (k < Kk.length + new.length))) = true := fun k hk => by
          simp only [rowsOf, Bool.not_eq_true', Bool.and_eq_false_iff, decide_eq_false_iff_not] at hk ⊢
          omega
        have hrl := (List.getElem?_eq_some_iff.1 m1).1
        by_cases hr0' : r < (Hh 0).length
        · refine AO.under_leads (first r y m1 hr0') fun k hk => ?_
          have := D.mono (i := 0) (j := i) (by omega) (by omega)
          simp only [Bool.not_eq_true', Bool.and_eq_false_iff, decide_eq_false_iff_not]
          omega
        · obtain ⟨j, j1, j2, j3⟩ := D.owner (r := r) (by omega) (c := c) hcn hrl
          have hKj : K j = true := by
            refine Decidable.byContradiction fun h => ?_
            rw [gone_iff.2 ⟨j, by omega, by simpa using h, j2, j3⟩] at m2
            cases m2
          exact AO.leads_mono conv ((D.leads_not I hil hK (j := j) (by omega) hKj).2 (nolate j j1) y (under0 r y j m1 j2 j3 j1 hKj).2)
    · rw [if_neg (fun h => by rw [(hrow r).2 h] at hr; cases hr)]
    · refine VR_mono (fun r hr => ?_) (Nat.le_refl _) _ _ h2
      by_cases h3 : Kk.length ≤ r
      · rw [if_pos ⟨h3, by omega⟩]
      · rw [if_neg (by omega)]; exact (h1.same r (by omega)).symm
    · rw [hnew] at hy
      obtain ⟨k, hk, rfl⟩ := List.getElem_of_mem hy
      have := h1.rel.obj (Kk.length + k) new[k] (by rw [List.getElem?_append_right (by omega), show Kk.length + k - Kk.length = k by omega]; exact List.getElem?_eq_getElem hk)
      have hb := OR_bound this
      rwa [List.length_append, v1, ← hlen1] at hb
  refine ⟨fun hw => ?_, fun hw => ?_⟩
  · have h1 := hrun.2 (by rw [← hrun.1]; exact hw)
    unfold Runs at h1 ⊢
    rcases h1 with ⟨x, w', h2, ρ', h3, h4⟩ | ⟨f, args, h2, h3⟩
    · exact .inl ⟨x, w', h2, fin h3 h4⟩
    · exact .inr ⟨f, args, h2, h3.mono fun e w' he => by cases e <;> first | (obtain ⟨ρ', h3, h4⟩ := he; exact fin h3 h4) | exact he⟩
  · have hw2 : wants (T i) s.guard = false := by rw [← hrun.1]; exact hw
    obtain ⟨_, ⟨_, h1, h2, _⟩ | ⟨h, _⟩⟩ := D.step i s hs
    · exact ⟨c, ρ, D.step_norows I h0 hs hK hanc hl h2 I.stp (by rw [h1]; simp only [VR])⟩
    · rw [hw2] at h; cases h
end Dr
end Go.Den
