/- Draws of an order: one operation more. -/
import Derived.Test.YtimbippemlmnlaaDen22
set_option linter.unusedVariables false
set_option linter.unusedSimpArgs false
namespace Go.Den
open Go.RowKit (Below)
namespace Dr
variable {P : Program} {cl : CL} {os : Array Oper} {l : List SOp} {anc unks : List (List Nat)} {b : Nat} {T : Nat → List AV} {Hh : Nat → Heap} {V : Nat → AV} {Md : Nat → List (Nat × Nat × Nat)}

theorem wants_same (D : Dr P cl os l anc unks b T Hh V Md) {i : Nat} {o : Oper} {s : SOp} (ho : os[i]? = some o) (hs : l[i]? = some s) {t u : List AV} (h : ∀ d ∈ look os o s, t.getD d .undef = u.getD d .undef) : wants t s.guard = wants u s.guard := by
  have hg := (D.each i o s ho hs).1
  cases hgo : o.guard with
  | none =>
    rw [hgo] at hg
    simp only [slimG, Option.some.injEq] at hg
    rw [← hg]
    rfl
  | some q =>
    obtain ⟨j, w⟩ := q
    rw [hgo] at hg
    simp only [slimG, Option.map_eq_some_iff] at hg
    obtain ⟨d, hd, hg⟩ := hg
    rw [← hg]
    simp only [wants]
    rw [h d]
    unfold look Oper.looksAt
    exact List.mem_append_left _ (List.mem_append_right _ (by simp [hgo, hd]))
/-- The step that the operation takes, once its heap is known. -/
theorem run_one (D : Dr P cl os l anc unks b T Hh V Md) (hcl : ClOk P cl) {W : World} {ρ0 ρ : Plan} {w0 w : World} {K : Nat → Bool} {c : Nat} {a : Act} (I : Inv os l anc b T Hh V W ρ0 w0 K c ρ a w) (h0 : ∀ d, ((T 0).getD d .undef).under (Hh 0).length = true)
    {i : Nat} {o : Oper} {s : SOp} (ho : os[i]? = some o) (hs : l[i]? = some s) (hK : K i = false) (hanc : ∀ j ∈ anc.getD i [], K j = true) {Hk H1 : Heap} (hlen : Hk.length = (Hh i).length) (hrel : Rel W ρ Hk w)
    (hrun : wants (T i) s.guard = true → sop cl (T i) Hk s.op = some (V i, H1)) :
    Region.wanted o (yielded os a.tmps) = wants (T i) s.guard ∧ (wants (T i) s.guard = true → Runs P o a w fun x w' => ∃ ρ', Stp W ρ Hk w ρ' H1 w' ∧ VR W ρ' H1.length (V i) x) := by
  obtain ⟨a', tD, e1, e2, e3, e4⟩ := D.act_for I.cl ho hs hK hanc h0 I.und I.size I.val
  obtain ⟨g1, g2, g3, g4⟩ := D.each i o s ho hs
  rw [← hlen] at e3
  refine ⟨?_, fun hw => ?_⟩
  · rw [← e2, wants_ok e3 g1]
    exact D.wants_same ho hs e4
  · have h1 := hrun hw
    cases hone : slimOne P o.op with
    | none => rw [g3, hone] at h1; simp [sop, aop] at h1
    | some s' =>
      have hs' : s.op = s' := by rw [g3, hone]; rfl
      have h2 : sop cl tD Hk s' = some (V i, H1) := by
        rw [← h1, hs']
        refine sop_same fun d hd => e4 d ?_
        unfold look
        rw [hs']
        exact List.mem_append_right _ hd
      have h3 := sop_run hcl hone hrel e3 h2
      unfold Runs at h3 ⊢
      rwa [e1] at h3
/-- One that waits for all that touch memory. -/
theorem step_late (D : Dr P cl os l anc unks b T Hh V Md) (hcl : ClOk P cl) {W : World} {ρ0 ρ : Plan} {w0 w : World} {K : Nat → Bool} {c : Nat} {a : Act} (I : Inv os l anc b T Hh V W ρ0 w0 K c ρ a w) (h0 : ∀ d, ((T 0).getD d .undef).under (Hh 0).length = true)
    {i : Nat} {o : Oper} {s : SOp} (ho : os[i]? = some o) (hs : l[i]? = some s) (hK : K i = false) (hanc : ∀ j ∈ anc.getD i [], K j = true) (hl : late l b i) :
    (Region.wanted o (yielded os a.tmps) = true → Runs P o a w fun x w' => ∃ c' ρ', Inv os l anc b T Hh V W ρ0 w0 (plus K i) c' ρ' (a.put s.dst x) w') ∧
    (Region.wanted o (yielded os a.tmps) = false → ∃ c' ρ', Inv os l anc b T Hh V W ρ0 w0 (plus K i) c' ρ' (a.put s.dst undef) w) := by
  have hil := (List.getElem?_eq_some_iff.1 hs).1
  obtain ⟨s2, hs2, ht, hbi⟩ := hl
  rw [hs] at hs2
  injection hs2 with hs2
  subst hs2
  have hl : late l b i := ⟨s, hs, ht, hbi⟩
  have hci : c ≤ i := by
    refine Decidable.byContradiction fun h => ?_
    have := I.c3 i (by omega) hl i s (Nat.le_refl _) hs ht
    rw [hK] at this; cases this
  have all : ∀ j q, j < i → l[j]? = some q → q.op.touch ≠ .no → K j = true := fun j q hj hq htq => by
    refine Decidable.byContradiction fun hn => ?_
    obtain ⟨p, hp⟩ := D.getO (i := j) (by omega)
    rcases (D.two i j o s p q ho hs hp hq hj (fun hm => hn (hanc j hm))).2.2.2.2 with h | h | h
    · exact htq h
    · exact ht h
    · omega
  have hbc : b ≤ c := by rcases I.c1 with h | h <;> omega
  have hHc : Hh i = Hh c := D.keep_no hci (by omega) fun k q h1 h2 hq => by
    refine Decidable.byContradiction fun h => ?_
    have h3 := I.c2 k h1 ⟨q, hq, h, by omega⟩
    rw [all k q h2 hq h] at h3
    cases h3
  have hgone : ∀ (K' : Nat → Bool) (m : Nat), m ≤ l.length → (∀ j q, j < m → l[j]? = some q → q.op.touch ≠ .no → K' j = true) → mask (gone l.length Hh K') (Hh m) = Hh m := fun K' m hm h => by
    apply List.ext_getElem?
    intro r
    rw [mask_get]
    cases hr : (Hh m)[r]? with
    | none => rfl
    | some y =>
      have hrl := (List.getElem?_eq_some_iff.1 hr).1
      have hg : gone l.length Hh K' r = false := by
        refine Decidable.byContradiction fun hn => ?_
        obtain ⟨j, j1, j2, j3, j4⟩ := gone_iff.1 (by simpa using hn)
        have hjm : j < m := by
          refine Decidable.byContradiction fun h => ?_
          have := D.mono (i := m) (j := j) (by omega) (by omega); omega
        obtain ⟨q, hq⟩ := D.getS j1
        have hmk : q.op.touch ≠ .no := fun h => by
          have := D.nomake hq (by simp [makes, h])
          rw [this] at j4; omega
        rw [h j q hjm hq hmk] at j2
        cases j2
      simp [hg]
  have hm1 : mask (gone l.length Hh K) (Hh c) = Hh i := by rw [← hHc]; exact hgone K i (by omega) all
  have hm2 : mask (gone l.length Hh (plus K i)) (Hh (i + 1)) = Hh (i + 1) := hgone _ _ (by omega) fun j q hj hq htq => by
    by_cases hji : j = i
    · simp [plus, hji]
    · simp [plus, all j q (by omega) hq htq]
  have hst := I.stp
  rw [hm1] at hst
  have fin : ∀ {ρ' : Plan} {w' : World} {x : Value}, Stp W ρ (Hh i) w ρ' (Hh (i + 1)) w' → VR W ρ' (Hh (i + 1)).length (V i) x → ∃ c' ρ', Inv os l anc b T Hh V W ρ0 w0 (plus K i) c' ρ' (a.put s.dst x) w' := by
    intro ρ' w' x h1 h2
    refine ⟨i + 1, fun r => if r < (Hh (i + 1)).length then ρ' r else ρ r, D.inv_put I h0 hs hK hanc (.inl (by omega)) (by omega) (fun k hk hlk => ?_) (fun k hk hlk j q hj hq htq => ?_) ?_ (fun r hr => ?_) ?_ (fun h => absurd hl h)⟩
    · simp only [plus, Bool.or_eq_false_iff]
      exact ⟨I.c2 k (by omega) hlk, by simp; omega⟩
    · by_cases hji : j = i
      · simp [plus, hji]
      · simp [plus, all j q (by omega) hq htq]
    · rw [hm2]
      exact stp_ext (hst.trans h1) fun r hr => by simp [hr]
    · simp only [rowsOf, Bool.and_eq_false_iff, decide_eq_false_iff_not] at hr
      by_cases h3 : r < (Hh (i + 1)).length
      · simp only [h3, if_true]; exact h1.same r (by omega)
      · simp only [h3, if_false]
    · exact VR_mono (fun r hr => by simp [hr]) (Nat.le_refl _) _ _ h2
  have hrun := D.run_one hcl I h0 ho hs hK hanc (Hk := Hh i) (H1 := Hh (i + 1)) rfl hst.rel fun hw => by
    obtain ⟨_, ⟨hw', _⟩ | ⟨_, ⟨_, h, _⟩ | ⟨u, _, hd, _⟩⟩⟩ := D.step i s hs
    · rw [hw] at hw'; cases hw'
    · exact h
    · exact absurd hl ((D.draw_late hs).2 u hd).1
  refine ⟨fun hw => ?_, fun hw => ?_⟩
  · have h1 := hrun.2 (by rw [← hrun.1]; exact hw)
    unfold Runs at h1 ⊢
    rcases h1 with ⟨x, w', h2, ρ', h3, h4⟩ | ⟨f, args, h2, h3⟩
    · exact .inl ⟨x, w', h2, fin h3 h4⟩
    · exact .inr ⟨f, args, h2, h3.mono fun e w' he => by cases e <;> first | (obtain ⟨ρ', h3, h4⟩ := he; exact fin h3 h4) | exact he⟩
  · have hw2 : wants (T i) s.guard = false := by rw [← hrun.1]; exact hw
    obtain ⟨_, ⟨_, h1, h2, _⟩ | ⟨h, _⟩⟩ := D.step i s hs
    · refine fin (ρ' := ρ) (x := undef) ?_ ?_
      · rw [h2]; exact .refl hst.rel
      · rw [h1]; simp only [VR]
    · rw [hw2] at h; cases h
/-- One that makes no rows, and leaves what stands. -/
theorem step_norows (D : Dr P cl os l anc unks b T Hh V Md) {W : World} {ρ0 ρ : Plan} {w0 w w' : World} {K : Nat → Bool} {c : Nat} {a : Act} (I : Inv os l anc b T Hh V W ρ0 w0 K c ρ a w) (h0 : ∀ d, ((T 0).getD d .undef).under (Hh 0).length = true)
    {i : Nat} {s : SOp} (hs : l[i]? = some s) (hK : K i = false) (hanc : ∀ j ∈ anc.getD i [], K j = true) (hl : ¬ late l b i) (hH : Hh (i + 1) = Hh i) (hst : Stp W ρ0 (Hh 0) w0 ρ (mask (gone l.length Hh K) (Hh c)) w') {x : Value} (hV : VR W ρ (Hh i).length (V i) x) :
    Inv os l anc b T Hh V W ρ0 w0 (plus K i) c ρ (a.put s.dst x) w' := by
  have hr : ∀ r, rowsOf Hh i r = false := fun r => by
    simp only [rowsOf, Bool.and_eq_false_iff, decide_eq_false_iff_not, hH]; omega
  have hg : gone l.length Hh (plus K i) = gone l.length Hh K := funext fun r => gone_plus (hr r)
  refine D.inv_put I h0 hs hK hanc I.c1 I.cn (fun k hk hlk => ?_) (fun k hk hlk j q hj hq htq => ?_) (by rw [hg]; exact hst) (fun _ _ => rfl) (by rw [hH]; exact hV) (fun _ o ho => by rw [hH] at ho; simp at ho)
  · have hki : k ≠ i := fun h => hl (h ▸ hlk)
    simp [plus, I.c2 k hk hlk, hki]
  · simp [plus, I.c3 k hk hlk j q hj hq htq]
end Dr
end Go.Den
