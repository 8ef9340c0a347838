/- Draws of an order: the temporaries. -/
import Derived.Test.YthfpndelfbeknaaDen20
set_option linter.unusedVariables false
set_option linter.unusedSimpArgs false
namespace Go.Den
open Go.RowKit (Below)

/-- What a temporary holds once these operations have run. -/
def valD (V : Nat → AV) (l : List SOp) (t0 : List AV) (K : Nat → Bool) : Nat → Nat → AV
  | 0, d => t0.getD d .undef
  | k + 1, d => if K k = true ∧ (l[k]?).bind (·.dst) = some d then V k else valD V l t0 K k d
namespace Dr
variable {P : Program} {cl : CL} {os : Array Oper} {l : List SOp} {anc unks : List (List Nat)} {b : Nat} {T : Nat → List AV} {Hh : Nat → Heap} {V : Nat → AV} {Md : Nat → List (Nat × Nat × Nat)}

theorem T_val (D : Dr P cl os l anc unks b T Hh V Md) : ∀ {k : Nat}, k ≤ l.length → (T k).length = (T 0).length ∧ ∀ d, d < (T 0).length → (T k).getD d .undef = valD V l (T 0) (fun _ => true) k d
  | 0, _ => ⟨rfl, fun d _ => rfl⟩
  | k + 1, hk => by
    obtain ⟨h1, h2⟩ := D.T_val (k := k) (by omega)
    obtain ⟨s, hs⟩ := D.getS (i := k) (by omega)
    have hT := (D.step k s hs).1
    refine ⟨by rw [hT]; cases s.dst <;> simp [put, h1], fun d hd => ?_⟩
    simp only [valD, hs, Option.bind_some, true_and]
    rw [hT]
    cases hdst : s.dst with
    | none => simp only [put, reduceCtorEq, if_false]; exact h2 d hd
    | some e =>
      simp only [put, Option.some.injEq]
      by_cases he : e = d
      · subst he
        rw [if_pos rfl]
        simp [List.getD, h1, hd]
      · rw [if_neg he, ← h2 d hd]
        simp [List.getD, List.getElem?_set, he]
theorem val_agree (D : Dr P cl os l anc unks b T Hh V Md) {K : Nat → Bool} (hcl : ∀ k, k < l.length → K k = true → ∀ j ∈ anc.getD k [], K j = true) {i : Nat} {o : Oper} {s : SOp} (ho : os[i]? = some o) (hs : l[i]? = some s) (hi : K i = false) (hanc : ∀ j ∈ anc.getD i [], K j = true)
    {d : Nat} (hd : d ∈ look os o s) {t0 : List AV} : valD V l t0 K l.length d = valD V l t0 K i d ∧ valD V l t0 K i d = valD V l t0 (fun _ => true) i d := by
  have hil := (List.getElem?_eq_some_iff.1 hs).1
  constructor
  · have key : ∀ k, i ≤ k → k ≤ l.length → valD V l t0 K k d = valD V l t0 K i d := by
      intro k
      induction k with
      | zero => intro h _; obtain rfl : i = 0 := by omega
                rfl
      | succ k ih =>
        intro h hk
        by_cases he : i = k + 1
        · subst he; rfl
        · rw [← ih (by omega) (by omega)]
          simp only [valD]
          rw [if_neg]
          rintro ⟨h1, h2⟩
          have hki : k ≠ i := fun h => by subst h; rw [hi] at h1; cases h1
          obtain ⟨q, hq⟩ := D.getS (i := k) (by omega)
          obtain ⟨p, hp⟩ := D.getO (i := k) (by omega)
          simp only [hq, Option.bind_some] at h2
          refine (D.two k i p q o s hp hq ho hs (by omega) fun hmem => ?_).2.1 d h2 hd
          rw [hcl k (by omega) h1 i hmem] at hi
          cases hi
    exact key l.length (by omega) (Nat.le_refl _)
  · have key : ∀ k, k ≤ i → valD V l t0 K k d = valD V l t0 (fun _ => true) k d := by
      intro k
      induction k with
      | zero => intro _; rfl
      | succ k ih =>
        intro hk
        simp only [valD, true_and]
        rw [ih (by omega)]
        by_cases h2 : (l[k]?).bind (·.dst) = some d
        · have hK : K k = true := by
            obtain ⟨q, hq⟩ := D.getS (i := k) (by omega)
            obtain ⟨p, hp⟩ := D.getO (i := k) (by omega)
            refine Decidable.byContradiction fun hn => ?_
            simp only [hq, Option.bind_some] at h2
            exact (D.two i k o s p q ho hs hp hq (by omega) fun hmem => hn (hanc k hmem)).1 d h2 hd
          rw [if_pos ⟨hK, h2⟩, if_pos h2]
        · rw [if_neg (fun h => h2 h.2), if_neg h2]
    exact key i (Nat.le_refl _)
theorem val_put (D : Dr P cl os l anc unks b T Hh V Md) {K : Nat → Bool} (hcl : ∀ k, k < l.length → K k = true → ∀ j ∈ anc.getD k [], K j = true) {i : Nat} {s : SOp} (hs : l[i]? = some s) (hi : K i = false) {d : Nat} {t0 : List AV} :
    ∀ k, k ≤ l.length → valD V l t0 (fun j => K j || j == i) k d = if i < k ∧ s.dst = some d then V i else valD V l t0 K k d := by
  have hil := (List.getElem?_eq_some_iff.1 hs).1
  intro k
  induction k with
  | zero => intro _; rw [if_neg (by omega)]; rfl
  | succ k ih =>
    intro hk
    simp only [valD]
    rw [ih (by omega)]
    by_cases hki : k = i
    · subst hki
      simp only [hi, hs, Bool.false_or, beq_self_eq_true, Option.bind_some, true_and, Bool.false_eq_true, false_and, if_false]
      rw [if_neg (c := k < k ∧ s.dst = some d) (by omega)]
      by_cases h : s.dst = some d
      · rw [if_pos h, if_pos ⟨by omega, h⟩]
      · rw [if_neg h, if_neg (fun h' => h h'.2)]
    · have hb : (K k || k == i) = K k := by simp [hki]
      simp only [hb]
      by_cases h : K k = true ∧ (l[k]?).bind (·.dst) = some d
      · rw [if_pos h, if_pos h, if_neg]
        rintro ⟨h1, h2⟩
        obtain ⟨q, hq⟩ := D.getS (i := k) (by omega)
        obtain ⟨p, hp⟩ := D.getO (i := k) (by omega)
        obtain ⟨o, ho⟩ := D.getO (i := i) (by omega)
        have h3 := h.2
        simp only [hq, Option.bind_some] at h3
        refine (D.two k i p q o s hp hq ho hs (by omega) fun hmem => ?_).2.2.1 d h2 h3
        rw [hcl k (by omega) h.1 i hmem] at hi
        cases hi
      · rw [if_neg h, if_neg h]
        by_cases h' : i < k ∧ s.dst = some d
        · rw [if_pos h', if_pos ⟨by omega, h'.2⟩]
        · rw [if_neg h', if_neg (fun h2 => h' ⟨by omega, h2.2⟩)]
theorem val_under (D : Dr P cl os l anc unks b T Hh V Md) {K : Nat → Bool} (h0 : ∀ d, ((T 0).getD d .undef).under (Hh 0).length = true) (hV : ∀ j, j < l.length → K j = true → (V j).under (Hh (j + 1)).length = true) {d : Nat} :
    ∀ k, k ≤ l.length → (valD V l (T 0) K k d).under (Hh k).length = true := by
  have up : ∀ {m n : Nat} {v : AV}, m ≤ n → v.under m = true → v.under n = true := by
    intro m n v hmn hv
    have := VR_leads_mono (p := fun o => decide (o < m)) (q := fun o => decide (o < n)) (fun i hi => by simp at hi ⊢; omega) v hv
    exact this
  intro k
  induction k with
  | zero => intro _; exact h0 d
  | succ k ih =>
    intro hk
    simp only [valD]
    split
    · rename_i h; exact hV k (by omega) h.1
    · exact up (D.mono1 (by omega)) (ih (by omega))
theorem act_for (D : Dr P cl os l anc unks b T Hh V Md) {K : Nat → Bool} (hcl : ∀ k, k < l.length → K k = true → ∀ j ∈ anc.getD k [], K j = true) {i : Nat} {o : Oper} {s : SOp} (ho : os[i]? = some o) (hs : l[i]? = some s) (hi : K i = false) (hanc : ∀ j ∈ anc.getD i [], K j = true)
    (h0 : ∀ d, ((T 0).getD d .undef).under (Hh 0).length = true) (hV : ∀ j, j < l.length → K j = true → (V j).under (Hh (j + 1)).length = true)
    {W : World} {ρ : Plan} {a : Act} {N : Nat} (hsz : a.tmps.size = (T 0).length) (hval : ∀ d x, a.tmps[d]? = some x → VR W ρ N (valD V l (T 0) K l.length d) x) :
    ∃ a' tD, execOp a'.eval o = execOp a.eval o ∧ Region.wanted o (yielded os a'.tmps) = Region.wanted o (yielded os a.tmps) ∧ AR W ρ (Hh i).length tD a' ∧ ∀ d ∈ look os o s, tD.getD d .undef = (T i).getD d .undef := by
  have hil := (List.getElem?_eq_some_iff.1 hs).1
  have hTl := (D.T_val (k := i) (by omega)).1
  let f : Nat → Value := fun d => if (look os o s).contains d then a.tmps.getD d undef else undef
  let g : Nat → AV := fun d => if (look os o s).contains d then (T i).getD d .undef else .undef
  have hf : ∀ d, d ∈ look os o s → (((List.range a.tmps.size).map f).toArray : Array Value)[d]? = a.tmps[d]? := by
    intro d hd
    by_cases h : d < a.tmps.size
    · simp [h, f, hd]
    · simp [h]
  refine ⟨{ tmps := ((List.range a.tmps.size).map f).toArray, defers := [] }, (List.range (T 0).length).map g, ?_, ?_, ⟨rfl, ?_⟩, ?_⟩
  · refine execOp_congr o (fun cs b' h => ?_) fun x hx => ?_
    · have := (D.one i o s ho hs).2.2.2.1
      rw [h] at this
      cases this
    · cases x with
      | tmp d =>
        have hd : d ∈ look os o s := by
          unfold look Oper.looksAt
          exact List.mem_append_left _ (List.mem_append_left _ (List.mem_filterMap.2 ⟨.tmp d, by simpa using hx, rfl⟩))
        simp only [Act.eval]
        rw [Array.getD_eq_getD_getElem?, Array.getD_eq_getD_getElem?, hf d hd]
      | const v => rfl
      | global g => rfl
      | func f => rfl
  · unfold Region.wanted
    cases hgo : o.guard with
    | none => rfl
    | some q =>
      obtain ⟨j, w⟩ := q
      simp only [yielded]
      cases hd : (os[j]?).bind (·.dst) with
      | none => rfl
      | some d =>
        have hdl : d ∈ look os o s := by
          unfold look Oper.looksAt
          exact List.mem_append_left _ (List.mem_append_right _ (by simp [hgo, hd]))
        simp only [Option.bind_some]
        rw [hf d hdl]
  · rw [VRs_iff]
    refine ⟨by simp [hsz], fun d v x hv hx => ?_⟩
    simp only [List.getElem?_map, Option.map_eq_some_iff] at hv hx
    obtain ⟨d1, h1, rfl⟩ := hv
    obtain ⟨d2, h2, rfl⟩ := hx
    have hd1 : d1 = d ∧ d < (T 0).length := by
      rw [List.getElem?_range] at h1
      · injection h1 with h1; exact ⟨h1.symm, by have := (List.getElem?_eq_some_iff.1 ‹_›).1; simp at this; omega⟩
      · have := (List.getElem?_eq_some_iff.1 h1).1; simpa using this
    have hd2 : d2 = d := by
      rw [List.getElem?_range] at h2
      · injection h2 with h2; exact h2.symm
      · have := (List.getElem?_eq_some_iff.1 h2).1; simpa using this
    obtain ⟨rfl, hlt⟩ := hd1
    subst hd2
    simp only [f, g]
    by_cases hm : (look os o s).contains d2 = true
    · rw [if_pos hm, if_pos hm]
      have hmem : d2 ∈ look os o s := by simpa using hm
      have hlt2 : d2 < a.tmps.size := by omega
      have h3 := hval d2 a.tmps[d2] (Array.getElem?_eq_getElem hlt2)
      obtain ⟨e1, e2⟩ := D.val_agree (t0 := T 0) hcl ho hs hi hanc hmem
      have e3 := (D.T_val (k := i) (by omega)).2 d2 hlt
      have hu := D.val_under (K := K) h0 hV (d := d2) i (by omega)
      rw [e1] at h3
      rw [e3, ← e2]
      rw [show a.tmps.getD d2 undef = a.tmps[d2] by simp [Array.getD_eq_getD_getElem?, hlt2]]
      exact VR_under (fun _ _ => rfl) _ _ hu h3
    · rw [if_neg hm, if_neg hm]
      simp only [VR]
  · intro d hd
    by_cases h : d < (T 0).length
    · simp [List.getD, h, g, hd]
    · simp [List.getD, h, hTl]
end Dr
end Go.Den
