/- Draws of an order: the region. -/
import Derived.Test.YthfpndelfbeknaaDen23
set_option linter.unusedVariables false
set_option linter.unusedSimpArgs false
namespace Go.Den
open Go.RowKit (Below)
/-- A step that leaves the heap as it was, of some rows alone. -/
theorem stp_back {W : World} {ρ0 ρ ρ' : Plan} {H M K : Heap} {w0 w w' : World} (h0 : Stp W ρ0 H w0 ρ M w) (hK : ∀ (r : Nat) (o : AO), K[r]? = some o → o ≠ .dead → M[r]? = some o) (op : Stp W ρ K w ρ' K w') : Stp W ρ0 H w0 ρ M w' := by
  have hKl : ∀ r, live K r → live M r := fun r ⟨o, ho, hd⟩ => ⟨o, hK r o ho hd, hd⟩
  have hold := h0.rel
  refine ⟨h0.same, h0.len, Nat.le_trans h0.size op.size, fun b hb hn => ?_, h0.own, ⟨op.rel.below, hold.lo, fun i o ho => ?_, hold.inj⟩⟩
  · rw [op.frame b (Nat.lt_of_lt_of_le hb h0.size) fun i hi he => ?_]
    · exact h0.frame b hb hn
    · rcases h0.own i (hKl i hi) with h1 | ⟨j, hj, h1⟩
      · omega
      · exact hn j hj (h1.trans he)
  · by_cases hd : o = .dead
    · subst hd; trivial
    by_cases hlk : live K i
    · obtain ⟨o2, ho2, hd2⟩ := hlk
      have heq := hK i o2 ho2 hd2
      rw [ho] at heq
      injection heq with heq
      subst heq
      have h1 := op.rel.obj i o ho2
      rw [op.same i (List.getElem?_eq_some_iff.1 ho2).1] at h1
      have hb := OR_bound (hold.obj i o ho)
      cases o with
      | dead => exact absurd rfl hd
      | iter s p => exact h1
      | cells l e rw' =>
        obtain ⟨c, fr, q1, q2, q3, q4, q5⟩ := h1
        refine ⟨c, fr, q1, q2, q3, fun j v hj => ?_, q5⟩
        obtain ⟨x, y1, y2, y3⟩ := q4 j v hj
        have hv : v.leads (fun o => decide (o < K.length)) = true := VR_bound v x y2
        have hv2 : v.leads (fun o => decide (o < M.length)) = true := by
          have := hb
          simp only [AO.under, unders, leadss_all] at this
          exact this v (List.mem_of_getElem? hj)
        refine ⟨x, y1, ?_, y3⟩
        refine VR_leads (p := fun k => decide (k < K.length) && decide (k < M.length)) (fun k hk => ?_) v x (leads_and v hv hv2) y2
        simp only [Bool.and_eq_true, decide_eq_true_eq] at hk
        exact ⟨(op.same k hk.1).symm, hk.2⟩
    · refine OR_same (hold.obj i o ho) (fun _ _ => rfl) (Nat.le_refl _) fun _ => ?_
      refine op.frame _ (hold.hi ⟨o, ho, hd⟩) fun j hj he => ?_
      have := hold.inj j i (hKl j hj) ⟨o, ho, hd⟩ he
      subst this
      exact hlk hj
namespace Dr
variable {P : Program} {cl : CL} {os : Array Oper} {l : List SOp} {anc unks : List (List Nat)} {b : Nat} {T : Nat → List AV} {Hh : Nat → Heap} {V : Nat → AV} {Md : Nat → List (Nat × Nat × Nat)}

/-- One that touches no memory. -/
theorem step_no (D : Dr P cl os l anc unks b T Hh V Md) (hcl : ClOk P cl) {W : World} {ρ0 ρ : Plan} {w0 w : World} {K : Nat → Bool} {c : Nat} {a : Act} (I : Inv os l anc b T Hh V W ρ0 w0 K c ρ a w) (h0 : ∀ d, ((T 0).getD d .undef).under (Hh 0).length = true)
    {i : Nat} {o : Oper} {s : SOp} (ho : os[i]? = some o) (hs : l[i]? = some s) (hK : K i = false) (hanc : ∀ j ∈ anc.getD i [], K j = true) (ht : s.op.touch = .no) :
    (Region.wanted o (yielded os a.tmps) = true → Runs P o a w fun x w' => ∃ c' ρ', Inv os l anc b T Hh V W ρ0 w0 (plus K i) c' ρ' (a.put s.dst x) w') ∧
    (Region.wanted o (yielded os a.tmps) = false → ∃ c' ρ', Inv os l anc b T Hh V W ρ0 w0 (plus K i) c' ρ' (a.put s.dst undef) w) := by
  have hil := (List.getElem?_eq_some_iff.1 hs).1
  have hl : ¬ late l i := by
    rintro ⟨s', hs', h1, _⟩
    rw [hs] at hs'
    injection hs' with hs'
    subst hs'
    exact h1 ht
  have hH := D.nomake hs (by simp [makes, ht])
  have hrun := D.run_one hcl I h0 ho hs hK hanc (Hk := List.replicate (Hh i).length .dead) (H1 := List.replicate (Hh i).length .dead) (by simp) (rel_dead I.stp.rel.below _) fun hw => by
    have h1 := ((D.early hs hl).2 hw).1
    rw [sop_aop (by rw [ht]; simp)] at h1 ⊢
    exact (aop_no ht h1).2 _
  have hdead : ∀ n r, ¬ live (List.replicate n AO.dead) r := fun n r ⟨y, hy, hd⟩ => by
    rw [List.getElem?_replicate] at hy
    split at hy <;> simp only [Option.some.injEq, reduceCtorEq] at hy
    exact hd hy.symm
  have fin : ∀ {ρ' : Plan} {w' : World} {x : Value}, Stp W ρ (List.replicate (Hh i).length .dead) w ρ' (List.replicate (Hh i).length .dead) w' → VR W ρ' (List.replicate (Hh i).length AO.dead).length (V i) x →
      ∃ c' ρ', Inv os l anc b T Hh V W ρ0 w0 (plus K i) c' ρ' (a.put s.dst x) w' := by
    intro ρ' w' x h1 h2
    rw [List.length_replicate] at h2
    refine ⟨c, ρ, D.step_norows I h0 hs hK hanc hl hH ?_ (VR_under (fun r hr => (h1.same r (by simpa using hr)).symm) _ _ (VR_bound _ _ h2) h2)⟩
    have small : Stp W ρ (List.replicate (Hh 0).length .dead) w ρ (List.replicate (Hh 0).length .dead ++ []) w' := by
      rw [List.append_nil]
      exact ⟨fun _ _ => rfl, Nat.le_refl _, h1.size, fun b' hb' _ => h1.frame b' hb' (fun r hr => absurd hr (hdead _ r)), fun r hr => absurd hr (hdead _ r), rel_dead h1.rel.below _⟩
    have := stp_more I.stp (K := List.replicate (Hh 0).length .dead) (new := []) (M' := mask (gone l.length Hh K) (Hh c)) (by simp) (fun r y hy hd => absurd ⟨y, hy, hd⟩ (hdead _ r)) small rfl (by simp [mask_length]; exact D.mono (by omega) I.cn) (fun r => by simp; omega) (fun r h1 h2 => by simp at h1 h2; omega) (fun r y hy hd hn => by
      have hb := OR_bound (I.stp.rel.obj r y hy)
      exact AO.under_leads hb (fun i _ => by simp; omega))
    have he : (fun r => if (List.replicate (Hh 0).length AO.dead).length ≤ r ∧ r < (List.replicate (Hh 0).length AO.dead).length + ([] : Heap).length then ρ r else ρ r) = ρ := funext fun r => by simp
    rwa [he] at this
  refine ⟨fun hw => ?_, fun hw => ?_⟩
  · have h1 := hrun.2 (by rw [← hrun.1]; exact hw)
    unfold Runs at h1 ⊢
    rcases h1 with ⟨x, w', h2, ρ', h3, h4⟩ | ⟨f, args, h2, h3⟩
    · exact .inl ⟨x, w', h2, fin h3 h4⟩
    · exact .inr ⟨f, args, h2, h3.mono fun e w' he => by cases e <;> first | (obtain ⟨ρ', h3, h4⟩ := he; exact fin h3 h4) | exact he⟩
  · have hw2 : wants (T i) s.guard = false := by rw [← hrun.1]; exact hw
    obtain ⟨_, ⟨_, h1, h2, _⟩ | ⟨h, _⟩⟩ := D.step i s hs
    · exact ⟨c, ρ, D.step_norows I h0 hs hK hanc hl hH I.stp (by rw [h1]; simp only [VR])⟩
    · rw [hw2] at h; cases h
/-- The row that a load looks at stays. -/
theorem keep_row (D : Dr P cl os l anc unks b T Hh V Md) {i : Nat} {s : SOp} {n : Option Nat} {a : SX} (hs : l[i]? = some s) (hop : s.op = .load n a) (hw : wants (T i) s.guard = true) {r off : Nat} (ha : evx (T i) a = .ptr r off) {m : Nat} (hr : r < (Hh m).length) :
    ∀ {c : Nat}, m ≤ c → c ≤ l.length → (∀ k, m ≤ k → k < c → late l k → Wk l T k i) → (Hh c)[r]? = (Hh m)[r]?
  | 0, h, _, _ => by obtain rfl : m = 0 := by omega
                     rfl
  | c + 1, h, hc, hk => by
    by_cases he : m = c + 1
    · subst he; rfl
    · rw [← D.keep_row hs hop hw ha hr (c := c) (by omega) (by omega) fun k h1 h2 => hk k h1 (by omega)]
      obtain ⟨q, hq⟩ := D.getS (i := c) (by omega)
      have hm := D.mono (i := m) (j := c) (by omega) (by omega)
      by_cases hl : late l c
      · obtain ⟨_, _, s', q', n', a1, g, x, e1, e2, e4, e5, e6⟩ := hk c (by omega) (by omega) hl
        rw [hq] at e1
        injection e1 with e1
        subst e1
        rw [hs] at e2
        injection e2 with e2
        subst e2
        rw [hop] at e4
        injection e4 with _ e4
        subst e4
        obtain ⟨hwg, hrow⟩ := e6 hw
        obtain ⟨_, ⟨_, _, h1, _⟩ | ⟨_, ⟨_, hrun, _, _, hap⟩ | ⟨u, _, hd, _⟩⟩⟩ := D.step c q hq
        · rw [h1]
        · simp only [apartAll, List.all_eq_true] at hap
          have h2 := hap _ e5
          simp only [hwg, Bool.not_true, Bool.false_or, rowKept, hrow r off ha, sameAt] at h2
          cases h3 : (Hh c)[r]? with
          | none => rw [List.getElem?_eq_none_iff] at h3; omega
          | some y =>
            cases h4 : (Hh (c + 1))[r]? with
            | none => rw [h3, h4] at h2; cases h2
            | some z => rw [h3, h4] at h2; rw [AO.same_eq h2]
        · exact absurd hl ((D.draw_late hq).2 u hd).1
      · have h1 := (D.early hq hl).1
        rw [h1, List.getElem?_append_left (by omega)]
/-- A load. -/
theorem step_load (D : Dr P cl os l anc unks b T Hh V Md) (hcl : ClOk P cl) {W : World} {ρ0 ρ : Plan} {w0 w : World} {K : Nat → Bool} {c : Nat} {a : Act} (I : Inv os l anc b T Hh V W ρ0 w0 K c ρ a w) (h0 : ∀ d, ((T 0).getD d .undef).under (Hh 0).length = true) (hr0 : Rel W ρ0 (Hh 0) w0)
    {i : Nat} {o : Oper} {s : SOp} (ho : os[i]? = some o) (hs : l[i]? = some s) (hK : K i = false) (hanc : ∀ j ∈ anc.getD i [], K j = true) (ht : s.op.touch ≠ .no) (hl : ¬ late l i) {n : Option Nat} {x : SX} (hop : s.op = .load n x) :
    (Region.wanted o (yielded os a.tmps) = true → Runs P o a w fun x w' => ∃ c' ρ', Inv os l anc b T Hh V W ρ0 w0 (plus K i) c' ρ' (a.put s.dst x) w') ∧
    (Region.wanted o (yielded os a.tmps) = false → ∃ c' ρ', Inv os l anc b T Hh V W ρ0 w0 (plus K i) c' ρ' (a.put s.dst undef) w) := by
  have hil := (List.getElem?_eq_some_iff.1 hs).1
  have hcn := I.cn
  have hH : Hh (i + 1) = Hh i := D.nomake hs (by simp [makes, hop, SO.touch])
  obtain ⟨_, hearly⟩ := D.early hs hl
  have hmd := D.made_ok (k := i) (by omega)
  obtain ⟨v1, v2⟩ := veil_ok (unks.getD i []) (Md i) (Hh i) (fun p hp => by obtain ⟨j, hj, rfl⟩ := hmd.1 p hp; have := D.mono (i := j + 1) (j := i) (by omega) (by omega); have := D.mono1 (k := j) (by omega); simp only; omega)
  generalize hKk : veil (unks.getD i []) (Md i) (Hh i) = Kk at v1 v2 hearly
  /- a row that it knows -/
  have own : ∀ r y, Kk[r]? = some y → y ≠ .dead → ∀ j, j < l.length → (Hh j).length ≤ r → r < (Hh (j + 1)).length → K j = true ∧ j < i := fun r y hy hd j j1 j3 j4 => by
    obtain ⟨h1, h2⟩ := v2 r y hy hd
    have hrl := (List.getElem?_eq_some_iff.1 h1).1
    have hji : j < i := by
      refine Decidable.byContradiction fun h => ?_
      have := D.mono (i := i) (j := j) (by omega) (by omega); omega
    refine ⟨Decidable.byContradiction fun hn => ?_, hji⟩
    obtain ⟨q, hq⟩ := D.getS j1
    obtain ⟨p, hpp⟩ := D.getO j1
    have hmk : makes q = true := by
      refine Decidable.byContradiction fun h => ?_
      have := D.nomake hq (by simpa using h)
      rw [this] at j4; omega
    have hnm : j ∉ anc.getD i [] := fun hm => hn (hanc j hm)
    have hunk := (D.two i j o s p q ho hs hpp hq hji hnm).2.2.2.1 hmk
    have h3 := h2 _ (hmd.2 j hji (by omega)) (by simpa using hunk)
    simp [inRows] at h3
    omega
  have known : ∀ r y, Kk[r]? = some y → y ≠ .dead → (Hh i)[r]? = some y ∧ gone l.length Hh K r = false := fun r y hy hd => by
    refine ⟨(v2 r y hy hd).1, Decidable.byContradiction fun hn => ?_⟩
    obtain ⟨j, j1, j2, j3, j4⟩ := gone_iff.1 (by simpa using hn)
    rw [(own r y hy hd j j1 j3 j4).1] at j2
    cases j2
  /- late ones that it may pass, or be passed by -/
  have wkA : ∀ k, i ≤ k → k < c → late l k → Wk l T k i := fun k h1 h2 hlk => by
    rcases I.c3 k h2 hlk i s h1 hs ht with h | h
    · rw [hK] at h; cases h
    · exact h
  have wkB : ∀ k, c ≤ k → k < i → late l k → Wk l T k i := fun k h1 h2 hlk => by
    have hKk := I.c2 k h1 hlk
    have hnm : k ∉ anc.getD i [] := fun hm => by rw [hanc k hm] at hKk; cases hKk
    obtain ⟨q, hq, h3, _⟩ := id hlk
    obtain ⟨p, hp⟩ := D.getO (List.getElem?_eq_some_iff.1 hq).1
    rcases (D.two i k o s p q ho hs hp hq h2 hnm).2.2.2.2 with h | h | h | h | h
    · exact absurd h h3
    · exact absurd h ht
    · exact absurd hlk h.2
    · exact absurd h.1 hl
    · exact h
  have unwanted : wants (T i) s.guard = false → ∃ c' ρ', Inv os l anc b T Hh V W ρ0 w0 (plus K i) c' ρ' (a.put s.dst undef) w := fun hw2 => by
    obtain ⟨_, ⟨_, h1, h2, _⟩ | ⟨h, _⟩⟩ := D.step i s hs
    · exact ⟨c, ρ, D.step_norows I h0 hs hK hanc hl h2 I.stp (by rw [h1]; simp only [VR])⟩
    · rw [hw2] at h; cases h
  /- the rows that matter: none, or one -/
  have finish : ∀ Hk : Heap, Hk.length = (Hh i).length → (∀ (r : Nat) (y : AO), Hk[r]? = some y → y ≠ .dead → (mask (gone l.length Hh K) (Hh c))[r]? = some y ∧ y.under (Hh i).length = true) → (wants (T i) s.guard = true → sop cl (T i) Hk s.op = some (V i, Hk)) →
      (Region.wanted o (yielded os a.tmps) = true → Runs P o a w fun x w' => ∃ c' ρ', Inv os l anc b T Hh V W ρ0 w0 (plus K i) c' ρ' (a.put s.dst x) w') ∧
      (Region.wanted o (yielded os a.tmps) = false → ∃ c' ρ', Inv os l anc b T Hh V W ρ0 w0 (plus K i) c' ρ' (a.put s.dst undef) w) := fun Hk hkl hk hrun => by
    have hrel : Rel W ρ Hk w := rel_less I.stp.rel fun r y hy hd => by rw [hkl]; exact hk r y hy hd
    have hrun := D.run_one hcl I h0 ho hs hK hanc (Hk := Hk) (H1 := Hk) hkl hrel hrun
    have fin : ∀ {ρ' : Plan} {w' : World} {x : Value}, Stp W ρ Hk w ρ' Hk w' → VR W ρ' Hk.length (V i) x → ∃ c' ρ', Inv os l anc b T Hh V W ρ0 w0 (plus K i) c' ρ' (a.put s.dst x) w' := by
      intro ρ' w' x h1 h2
      rw [hkl] at h2
      refine ⟨c, ρ, D.step_norows I h0 hs hK hanc hl hH ?_ (VR_under (fun r hr => (h1.same r (by omega)).symm) _ _ (VR_bound _ _ h2) h2)⟩
      exact stp_back I.stp (fun r y hy hd => (hk r y hy hd).1) h1
    refine ⟨fun hw => ?_, fun hw => unwanted (by rw [← hrun.1]; exact hw)⟩
    have h1 := hrun.2 (by rw [← hrun.1]; exact hw)
    unfold Runs at h1 ⊢
    rcases h1 with ⟨x, w', h2, ρ', h3, h4⟩ | ⟨f, args, h2, h3⟩
    · exact .inl ⟨x, w', h2, fin h3 h4⟩
    · exact .inr ⟨f, args, h2, h3.mono fun e w' he => by cases e <;> first | (obtain ⟨ρ', h3, h4⟩ := he; exact fin h3 h4) | exact he⟩
  have hdead : ∀ m (r : Nat) y, (List.replicate m AO.dead)[r]? = some y → y ≠ .dead → False := fun m r y hy hd => by
    rw [List.getElem?_replicate] at hy
    split at hy <;> simp only [Option.some.injEq, reduceCtorEq] at hy
    exact hd hy.symm
  cases hw : wants (T i) s.guard with
  | false => exact finish (List.replicate (Hh i).length .dead) (by simp) (fun r y hy hd => (hdead _ r y hy hd).elim) (fun h => by rw [hw] at h; cases h)
  | true =>
    obtain ⟨hrun, _⟩ := hearly hw
    rw [hH] at hrun
    simp only [List.drop_length, List.append_nil] at hrun
    rw [hop] at hrun
    have hv : ∃ cs, aload Kk (n.getD 1) (evx (T i) x) = some cs ∧ shape n cs = some (V i) := by
      simp only [sop, aop, Option.bind_eq_some_iff, Option.map_eq_some_iff, Prod.mk.injEq] at hrun
      obtain ⟨cs, h1, v, h2, rfl, _⟩ := hrun
      exact ⟨cs, h1, h2⟩
    obtain ⟨cs, hld, hsh⟩ := hv
    have back : ∀ Hk, aload Hk (n.getD 1) (evx (T i) x) = some cs → sop cl (T i) Hk s.op = some (V i, Hk) := fun Hk h => by
      rw [hop]
      simp only [sop, aop, h, Option.bind_some, hsh, Option.map_some]
    cases hx : evx (T i) x <;> rw [hx] at hld <;> simp only [aload, reduceCtorEq] at hld
    case pv pl =>
      exact finish (List.replicate (Hh i).length .dead) (by simp) (fun r y hy hd => (hdead _ r y hy hd).elim) (fun _ => back _ (by rw [hx]; exact hld))
    case ptr r off =>
      cases hrow : Kk[r]? with
      | none => simp [arow, hrow] at hld
      | some y =>
        have hy : y ≠ .dead := fun h => by subst h; simp [arow, hrow] at hld
        obtain ⟨k1, k2⟩ := known r y hrow hy
        have hrl := (List.getElem?_eq_some_iff.1 k1).1
        have k4 : (Hh c)[r]? = some y ∧ y.under (Hh i).length = true := by
          rcases Nat.le_total i c with hic | hci
          · have h1 := D.keep_row hs hop hw hx hrl (c := c) hic hcn fun k h1 h2 => wkA k h1 h2
            exact ⟨h1.trans k1, I.wf i hic r y k1 hy k2⟩
          · have hbc : b ≤ c := by rcases I.c1 with h | h <;> omega
            have hrc : r < (Hh c).length := by
              refine Decidable.byContradiction fun hn => ?_
              obtain ⟨j, j1, j2, j3⟩ : ∃ j, j < i ∧ (Hh j).length ≤ r ∧ r < (Hh (j + 1)).length := D.owner (c := i) (by have := D.mono (i := 0) (j := c) (by omega) hcn; omega) (by omega) hrl
              have hcj : c ≤ j := by
                refine Decidable.byContradiction fun h => ?_
                have := D.mono (i := j + 1) (j := c) (by omega) hcn; omega
              have hKj := (own r y hrow hy j (by omega) j2 j3).1
              by_cases hlj : late l j
              · rw [I.c2 j hcj hlj] at hKj; cases hKj
              · rw [D.still (by omega) (by omega) hlj] at j3; omega
            have h1 := D.keep_row hs hop hw hx hrc (c := i) hci (by omega) fun k h1 h2 => wkB k h1 h2
            have h2 : (Hh c)[r]? = some y := by rw [← h1]; exact k1
            exact ⟨h2, under_mono (D.mono hci (by omega)) (I.wf c (Nat.le_refl _) r y h2 hy k2)⟩
        refine finish ((List.replicate (Hh i).length .dead).set r y) (by simp) (fun r' y' hy' hd' => ?_) (fun _ => back _ ?_)
        · rw [List.getElem?_set] at hy'
          split at hy'
          · rename_i he
            subst he
            split at hy' <;> simp only [Option.some.injEq, reduceCtorEq] at hy'
            subst hy'
            refine ⟨?_, k4.2⟩
            rw [mask_get, k4.1]
            simp [k2]
          · exact (hdead _ r' y' hy' hd').elim
        · rw [hx]
          simp only [aload, arow] at hld ⊢
          rw [List.getElem?_set_self (by simpa using hrl)]
          rw [hrow] at hld
          exact hld
/-- One that touches memory and waits not for all. -/
theorem step_early (D : Dr P cl os l anc unks b T Hh V Md) (hcl : ClOk P cl) {W : World} {ρ0 ρ : Plan} {w0 w : World} {K : Nat → Bool} {c : Nat} {a : Act} (I : Inv os l anc b T Hh V W ρ0 w0 K c ρ a w) (h0 : ∀ d, ((T 0).getD d .undef).under (Hh 0).length = true) (hr0 : Rel W ρ0 (Hh 0) w0)
    {i : Nat} {o : Oper} {s : SOp} (ho : os[i]? = some o) (hs : l[i]? = some s) (hK : K i = false) (hanc : ∀ j ∈ anc.getD i [], K j = true) (ht : s.op.touch ≠ .no) (hl : ¬ late l i) (hib : i < b) (nolate : ∀ k, k < c → ¬ late l k) :
    (Region.wanted o (yielded os a.tmps) = true → Runs P o a w fun x w' => ∃ c' ρ', Inv os l anc b T Hh V W ρ0 w0 (plus K i) c' ρ' (a.put s.dst x) w') ∧
    (Region.wanted o (yielded os a.tmps) = false → ∃ c' ρ', Inv os l anc b T Hh V W ρ0 w0 (plus K i) c' ρ' (a.put s.dst undef) w) := by
  have hil := (List.getElem?_eq_some_iff.1 hs).1
  have hic : i + 1 ≤ c := by rcases I.c1 with h | h <;> omega
  have hcn := I.cn
  obtain ⟨hgrow, hearly⟩ := D.early hs hl
  generalize hnew : (Hh (i + 1)).drop (Hh i).length = new at hgrow hearly
  have hlen1 : (Hh (i + 1)).length = (Hh i).length + new.length := by rw [hgrow]; simp
  /- what it knows -/
  have hmd := D.made_ok (k := i) (by omega)
  obtain ⟨v1, v2⟩ := veil_ok (unks.getD i []) (Md i) (Hh i) (fun p hp => by obtain ⟨j, hj, rfl⟩ := hmd.1 p hp; have := D.mono (i := j + 1) (j := i) (by omega) (by omega); have := D.mono1 (k := j) (by omega); simp only; omega)
  generalize hKk : veil (unks.getD i []) (Md i) (Hh i) = Kk at v1 v2 hearly
  have known : ∀ r y, (Hh i)[r]? = some y → y ≠ .dead → (∀ p ∈ Md i, (unks.getD i []).contains p.1 = true → inRows p r = false) → gone l.length Hh K r = false := fun r y hy hd hp => by
    refine Decidable.byContradiction fun hn => ?_
    obtain ⟨j, j1, j2, j3, j4⟩ := gone_iff.1 (by simpa using hn)
    have hrl := (List.getElem?_eq_some_iff.1 hy).1
    have hji : j < i := by
      refine Decidable.byContradiction fun h => ?_
      have := D.mono (i := i) (j := j) (by omega) (by omega); omega
    obtain ⟨q, hq⟩ := D.getS j1
    obtain ⟨p, hpp⟩ := D.getO j1
    have hmk : makes q = true := by
      refine Decidable.byContradiction fun h => ?_
      have := D.nomake hq (by simpa using h)
      rw [this] at j4; omega
    have hnm : j ∉ anc.getD i [] := fun hm => by rw [hanc j hm] at j2; cases j2
    have hunk := (D.two i j o s p q ho hs hpp hq hji hnm).2.2.2.1 hmk
    have h1 := hp _ (hmd.2 j hji (by omega)) (by simpa using hunk)
    simp [inRows] at h1
    omega
  have keepc : ∀ r, r < (Hh i).length → (Hh c)[r]? = (Hh i)[r]? := D.keep (by omega) hcn (fun k _ hk => nolate k hk)
  have keepc1 : ∀ r, r < (Hh (i + 1)).length → (Hh c)[r]? = (Hh (i + 1))[r]? := D.keep hic hcn (fun k _ hk => nolate k hk)
  have hKM : ∀ (r : Nat) (y : AO), Kk[r]? = some y → y ≠ .dead → (mask (gone l.length Hh K) (Hh c))[r]? = some y := fun r y hy hd => by
    obtain ⟨h1, h2⟩ := v2 r y hy hd
    rw [mask_get, keepc r (List.getElem?_eq_some_iff.1 h1).1, h1]
    simp [known r y h1 hd h2]
  /- rows that stand are under what was then -/
  have under0 : ∀ r y j, (Hh c)[r]? = some y → (Hh j).length ≤ r → r < (Hh (j + 1)).length → j < c → K j = true → y.under (Hh (j + 1)).length = true ∧ y ∈ (Hh (j + 1)).drop (Hh j).length := fun r y j hy h1 h2 hj hKj => by
    have h3 := D.keep (i := j + 1) (c := c) (by omega) hcn (fun k _ hk => nolate k hk) r h2
    rw [hy] at h3
    have hmem : y ∈ (Hh (j + 1)).drop (Hh j).length := by
      refine List.mem_of_getElem? (i := r - (Hh j).length) ?_
      rw [List.getElem?_drop, show (Hh j).length + (r - (Hh j).length) = r by omega]
      exact h3.symm
    exact ⟨I.rows j (by omega) hKj (nolate j hj) y hmem, hmem⟩
  have first : ∀ r y, (Hh c)[r]? = some y → r < (Hh 0).length → y.under (Hh 0).length = true := fun r y hy hr => by
    have h3 := D.keep (i := 0) (c := c) (by omega) hcn (fun k _ hk => nolate k hk) r hr
    rw [hy] at h3
    exact OR_bound (hr0.obj r y h3.symm)
  have mono_under : ∀ {m n : Nat} {y : AO}, m ≤ n → y.under m = true → y.under n = true := fun {m n y} hmn hy => by
    have := AO.under_leads hy (q := fun o => decide (o < n)) (fun i hi => by simp; omega)
    cases y <;> exact this
  have hrel : Rel W ρ Kk w := rel_less I.stp.rel fun r y hy hd => by
    refine ⟨hKM r y hy hd, ?_⟩
    rw [v1]
    have hrl := (List.getElem?_eq_some_iff.1 hy).1
    rw [v1] at hrl
    have h1 := mask_alive (hKM r y hy hd) hd
    by_cases hr0' : r < (Hh 0).length
    · exact mono_under (D.mono (by omega) (by omega)) (first r y h1.1 hr0')
    · obtain ⟨j, j1, j2, j3⟩ := D.owner (r := r) (by omega) (c := i) (by omega) hrl
      have hKj : K j = true := by
        refine Decidable.byContradiction fun h => ?_
        have := h1.2
        rw [gone_iff.2 ⟨j, by omega, by simpa using h, j2, j3⟩] at this
        cases this
      exact mono_under (D.mono (by omega) (by omega)) (under0 r y j h1.1 j2 j3 (by omega) hKj).1
  have hrun := D.run_one hcl I h0 ho hs hK hanc (Hk := Kk) (H1 := Kk ++ new) v1 hrel fun hw => (hearly hw).1
  have rows' : ∀ {ρ' : Plan} {w' : World}, Stp W ρ Kk w ρ' (Kk ++ new) w' → ∀ y ∈ (Hh (i + 1)).drop (Hh i).length, y.under (Hh (i + 1)).length = true := by
    intro ρ' w' h1 y hy
    rw [hnew] at hy
    obtain ⟨k, hk, rfl⟩ := List.getElem_of_mem hy
    have := h1.rel.obj (Kk.length + k) new[k] (by rw [List.getElem?_append_right (by omega), show Kk.length + k - Kk.length = k by omega]; exact List.getElem?_eq_getElem hk)
    have hb := OR_bound this
    rwa [List.length_append, v1, ← hlen1] at hb
  have fin : ∀ {ρ' : Plan} {w' : World} {x : Value}, Stp W ρ Kk w ρ' (Kk ++ new) w' → VR W ρ' (Kk ++ new).length (V i) x → ∃ c' ρ', Inv os l anc b T Hh V W ρ0 w0 (plus K i) c' ρ' (a.put s.dst x) w' := by
    intro ρ' w' x h1 h2
    rw [List.length_append, v1, ← hlen1] at h2
    have hrow : ∀ r, rowsOf Hh i r = true ↔ (Kk.length ≤ r ∧ r < Kk.length + new.length) := fun r => by simp [rowsOf, hlen1, v1]
    refine ⟨c, fun r => if Kk.length ≤ r ∧ r < Kk.length + new.length then ρ' r else ρ r, D.inv_put I h0 hs hK hanc I.c1 hcn (fun k hk hlk => ?_) (fun k hk hlk j q hj hq htq => ?_) (fun m hm r y hy hd hg => ?_) ?_ (fun r hr => ?_) ?_ (fun _ y hy => rows' h1 y hy)⟩
    · have hki : k ≠ i := fun h => hl (h ▸ hlk)
      simp [plus, I.c2 k hk hlk, hki]
    · exact (I.c3 k hk hlk j q hj hq htq).imp (fun h => by simp [plus, h]) id
    · by_cases hri : rowsOf Hh i r = true
      · simp only [rowsOf, Bool.and_eq_true, decide_eq_true_eq] at hri
        have hrm := (List.getElem?_eq_some_iff.1 hy).1
        have him : i + 1 ≤ m := by
          refine Decidable.byContradiction fun h => ?_
          have := D.mono (i := m) (j := i) (by omega) (by omega); omega
        have h3 := D.keep (i := i + 1) (c := m) (by omega) (by omega) (fun k _ hk => nolate k (by omega)) r hri.2
        rw [hy] at h3
        refine under_mono (D.mono him (by omega)) (rows' h1 y ?_)
        refine List.mem_of_getElem? (i := r - (Hh i).length) ?_
        rw [List.getElem?_drop, show (Hh i).length + (r - (Hh i).length) = r by omega]
        exact h3.symm
      · refine I.wf m hm r y hy hd ?_
        rw [← gone_plus (i := i) (K := K) (by simpa using hri)]
        exact hg
    · refine stp_more I.stp (by rw [v1]; exact D.mono (by omega) (by omega)) hKM h1 (by simp [mask_length]) (by rw [mask_length, v1, ← hlen1]; exact D.mono hic hcn) (fun r => ?_) (fun r h3 h4 => ?_) (fun r y hy hd hn => ?_)
      · by_cases hr : Kk.length ≤ r ∧ r < Kk.length + new.length
        · rw [if_pos hr, mask_get, keepc1 r (by omega), hgrow, List.getElem?_append_right (by omega), v1]
          have hg : gone l.length Hh (plus K i) r = false := by
            refine Decidable.byContradiction fun hn => ?_
            obtain ⟨j, j1, j2, j3, j4⟩ := gone_iff.1 (by simpa using hn)
            have := D.apart hil j1 (r := r) (by omega) (by omega) j3 j4
            subst this
            simp [plus] at j2
          simp [hg]
        · rw [if_neg hr, mask_get, mask_get, gone_plus]
          exact Bool.eq_false_iff.2 (fun h => hr ((hrow r).1 h))
      · rintro ⟨y, hy, hd⟩
        have := (mask_alive hy hd).2
        rw [gone_iff.2 ⟨i, hil, hK, by omega, by omega⟩] at this
        cases this
      · obtain ⟨m1, m2⟩ := mask_alive hy hd
        have conv : ∀ k, (!rowsOf Hh i k) = true → (!(decide (Kk.length ≤ k) && decide (k < Kk.length + new.length))) = true := fun k hk => by
          simp only [rowsOf, Bool.not_eq_true', Bool.and_eq_false_iff, decide_eq_false_iff_not] at hk ⊢
          omega
        have hrl := (List.getElem?_eq_some_iff.1 m1).1
        by_cases hr0' : r < (Hh 0).length
        · refine AO.under_leads (first r y m1 hr0') fun k hk => ?_
          have := D.mono (i := 0) (j := i) (by omega) (by omega)
          simp only [Bool.not_eq_true', Bool.and_eq_false_iff, decide_eq_false_iff_not]
          omega
        · obtain ⟨j, j1, j2, j3⟩ := D.owner (r := r) (by omega) (c := c) hcn hrl
          have hKj : K j = true := by
            refine Decidable.byContradiction fun h => ?_
            rw [gone_iff.2 ⟨j, by omega, by simpa using h, j2, j3⟩] at m2
            cases m2
          exact AO.leads_mono conv ((D.leads_not I hil hK (j := j) (by omega) hKj).2 (nolate j j1) y (under0 r y j m1 j2 j3 j1 hKj).2)
    · rw [if_neg (fun h => by rw [(hrow r).2 h] at hr; cases hr)]
    · refine VR_mono (fun r hr => ?_) (Nat.le_refl _) _ _ h2
      by_cases h3 : Kk.length ≤ r
      · rw [if_pos ⟨h3, by omega⟩]
      · rw [if_neg (by omega)]; exact (h1.same r (by omega)).symm
  refine ⟨fun hw => ?_, fun hw => ?_⟩
  · have h1 := hrun.2 (by rw [← hrun.1]; exact hw)
    unfold Runs at h1 ⊢
    rcases h1 with ⟨x, w', h2, ρ', h3, h4⟩ | ⟨f, args, h2, h3⟩
    · exact .inl ⟨x, w', h2, fin h3 h4⟩
    · exact .inr ⟨f, args, h2, h3.mono fun e w' he => by cases e <;> first | (obtain ⟨ρ', h3, h4⟩ := he; exact fin h3 h4) | exact he⟩
  · have hw2 : wants (T i) s.guard = false := by rw [← hrun.1]; exact hw
    obtain ⟨_, ⟨_, h1, h2, _⟩ | ⟨h, _⟩⟩ := D.step i s hs
    · exact ⟨c, ρ, D.step_norows I h0 hs hK hanc hl h2 I.stp (by rw [h1]; simp only [VR])⟩
    · rw [hw2] at h; cases h
end Dr
end Go.Den
