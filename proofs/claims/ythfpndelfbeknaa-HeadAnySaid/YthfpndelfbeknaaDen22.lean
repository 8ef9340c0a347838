/- Draws of an order: every order comes to what the order of the list comes to. -/
import Derived.Test.YthfpndelfbeknaaDen21
set_option linter.unusedVariables false
set_option linter.unusedSimpArgs false
namespace Go.Den
open Go.RowKit (Below)

def mask (g : Nat → Bool) (H : Heap) : Heap := H.zipIdx.map fun q => if g q.2 then .dead else q.1
theorem mask_length {g : Nat → Bool} {H : Heap} : (mask g H).length = H.length := by simp [mask]
theorem mask_get {g : Nat → Bool} {H : Heap} {r : Nat} : (mask g H)[r]? = (H[r]?).map fun o => if g r then .dead else o := by
  simp [mask, List.getElem?_zipIdx]
  cases H[r]? <;> simp
theorem mask_alive {g : Nat → Bool} {H : Heap} {r : Nat} {o : AO} (h : (mask g H)[r]? = some o) (hd : o ≠ .dead) : H[r]? = some o ∧ g r = false := by
  rw [mask_get, Option.map_eq_some_iff] at h
  obtain ⟨y, hy, h⟩ := h
  split at h
  · exact absurd h.symm hd
  · rename_i hg; subst h; exact ⟨hy, by simpa using hg⟩
/-- The rows of operations that haven't run. -/
def gone (n : Nat) (Hh : Nat → Heap) (K : Nat → Bool) (r : Nat) : Bool := (List.range n).any fun j => !K j && (decide ((Hh j).length ≤ r) && decide (r < (Hh (j + 1)).length))
theorem gone_iff {n : Nat} {Hh : Nat → Heap} {K : Nat → Bool} {r : Nat} : gone n Hh K r = true ↔ ∃ j, j < n ∧ K j = false ∧ (Hh j).length ≤ r ∧ r < (Hh (j + 1)).length := by
  simp [gone]
section
variable {W : World} {ρ ρ' ρ2 : Plan} {H H' : Heap} {w w' : World}
theorem stp_ext (h : Stp W ρ H w ρ' H' w') (he : ∀ r, r < H'.length → ρ2 r = ρ' r) : Stp W ρ H w ρ2 H' w' := by
  have hr := h.rel
  refine ⟨fun i hi => by rw [he i (Nat.lt_of_lt_of_le hi h.len)]; exact h.same i hi, h.len, h.size, h.frame, fun i hi => by rw [he i (live_lt hi)]; exact h.own i hi, ⟨hr.below, fun i hi => by rw [he i (live_lt hi)]; exact hr.lo i hi, fun i o ho => ?_, fun i j hi hj hij => ?_⟩⟩
  · rw [he i (List.getElem?_eq_some_iff.1 ho).1]
    exact OR_same (hr.obj i o ho) he (Nat.le_refl _) (fun _ => rfl)
  · rw [he i (live_lt hi), he j (live_lt hj)] at hij; exact hr.inj i j hi hj hij
theorem rel_dead (h : Below W.heap.size W w) (n : Nat) : Rel W ρ (List.replicate n .dead) w := by
  have hl : ∀ i, ¬ live (List.replicate n .dead) i := fun i ⟨o, ho, hd⟩ => by
    rw [List.getElem?_replicate] at ho
    split at ho <;> simp only [Option.some.injEq, reduceCtorEq] at ho
    exact hd ho.symm
  refine ⟨h, fun i hi => absurd hi (hl i), fun i o ho => ?_, fun i j hi => absurd hi (hl i)⟩
  rw [List.getElem?_replicate] at ho
  split at ho <;> simp only [Option.some.injEq, reduceCtorEq] at ho
  subst ho
  trivial
end
namespace Dr
variable {P : Program} {cl : CL} {os : Array Oper} {l : List SOp} {anc unks : List (List Nat)} {b : Nat} {T : Nat → List AV} {Hh : Nat → Heap} {V : Nat → AV} {Md : Nat → List (Nat × Nat × Nat)}

/-- Where the concrete run stands when these operations have run. -/
structure Inv (os : Array Oper) (l : List SOp) (anc : List (List Nat)) (b : Nat) (T : Nat → List AV) (Hh : Nat → Heap) (V : Nat → AV) (W : World) (ρ0 : Plan) (w0 : World) (K : Nat → Bool) (c : Nat) (ρ : Plan) (a : Act) (w : World) : Prop where
  cl : ∀ k, k < l.length → K k = true → ∀ j ∈ anc.getD k [], K j = true
  c1 : b ≤ c ∨ c = l.length
  cn : c ≤ l.length
  c2 : ∀ k, c ≤ k → late l k → K k = false
  c3 : ∀ k, k < c → late l k → ∀ j s, j ≤ k → l[j]? = some s → s.op.touch ≠ .no → K j = true ∨ Wk l T k j
  stp : Stp W ρ0 (Hh 0) w0 ρ (mask (gone l.length Hh K) (Hh c)) w
  nod : a.defers = []
  size : a.tmps.size = (T 0).length
  val : ∀ d x, a.tmps[d]? = some x → VR W ρ (Hh l.length).length (valD V l (T 0) K l.length d) x
  wf : ∀ m, m ≤ c → ∀ (r : Nat) (y : AO), (Hh m)[r]? = some y → y ≠ .dead → gone l.length Hh K r = false → y.under (Hh m).length = true
  und : ∀ j, j < l.length → K j = true → (V j).under (Hh (j + 1)).length = true
  rows : ∀ j, j < l.length → K j = true → ¬ late l j → ∀ o ∈ (Hh (j + 1)).drop (Hh j).length, o.under (Hh (j + 1)).length = true

def plus (K : Nat → Bool) (i : Nat) : Nat → Bool := fun j => K j || j == i
def rowsOf (Hh : Nat → Heap) (i r : Nat) : Bool := decide ((Hh i).length ≤ r) && decide (r < (Hh (i + 1)).length)
/-- What has run leads not to the rows of what hasn't. -/
theorem leads_not (D : Dr P cl os l anc unks b T Hh V Md) {W : World} {ρ0 ρ : Plan} {w0 w : World} {K : Nat → Bool} {c : Nat} {a : Act} (I : Inv os l anc b T Hh V W ρ0 w0 K c ρ a w) {i : Nat} (hi : i < l.length) (hK : K i = false) {j : Nat} (hj : j < l.length) (hKj : K j = true) :
    (V j).leads (fun r => !rowsOf Hh i r) = true ∧ (¬ late l j → ∀ o ∈ (Hh (j + 1)).drop (Hh j).length, o.leads (fun r => !rowsOf Hh i r) = true) := by
  have hu := I.und j hj hKj
  have hrow := I.rows j hj hKj
  have small : (∀ r, r < (Hh (j + 1)).length → rowsOf Hh i r = false) → (V j).leads (fun r => !rowsOf Hh i r) = true ∧ (¬ late l j → ∀ o ∈ (Hh (j + 1)).drop (Hh j).length, o.leads (fun r => !rowsOf Hh i r) = true) := fun h =>
    ⟨VR_leads_mono (p := fun o => decide (o < (Hh (j + 1)).length)) (fun r hr => by rw [h r (by simpa using hr)]; rfl) _ hu, fun hl o ho => AO.under_leads (hrow hl o ho) (fun r hr => by rw [h r hr]; rfl)⟩
  rcases Nat.lt_trichotomy j i with hji | hji | hji
  · have := D.mono (i := j + 1) (j := i) (by omega) (by omega)
    exact small fun r hr => by simp only [rowsOf, Bool.and_eq_false_iff, decide_eq_false_iff_not]; omega
  · subst hji; rw [hK] at hKj; cases hKj
  · by_cases hlen : (Hh i).length < (Hh (i + 1)).length
    · obtain ⟨s, hs⟩ := D.getS hj
      obtain ⟨o, ho⟩ := D.getO hj
      obtain ⟨q, hq⟩ := D.getS hi
      obtain ⟨p, hp⟩ := D.getO hi
      have hmk : makes q = true := by
        refine Decidable.byContradiction fun h => ?_
        have := D.nomake hq (by simpa using h)
        rw [this] at hlen; omega
      have htq : q.op.touch ≠ .no := fun h => by simp [makes, h] at hmk
      have hnm : i ∉ anc.getD j [] := fun hm => by rw [I.cl j hj hKj i hm] at hK; cases hK
      obtain ⟨_, _, _, t4, t5⟩ := D.two j i o s p q ho hs hp hq hji hnm
      have hunk := t4 hmk
      have hnl : ¬ late l j := by
        intro hlj
        obtain ⟨s', hs', h1, h2⟩ := id hlj
        rw [hs] at hs'
        injection hs' with hs'
        subst hs'
        rcases t5 with h | h | h | h | h
        · exact htq h
        · exact h1 h
        · exact h.1 hlj
        · have := h.quiet hq
          rw [hmk] at this
          cases this
        · exact h.2.1 hlj
      have hin := (D.made_ok (k := j) (by omega)).2 i hji hlen
      by_cases hw : wants (T j) s.guard = true
      · have hsh := ((D.early hs hnl).2 hw).2
        unfold shun at hsh
        rw [List.all_eq_true] at hsh
        have := hsh _ hin
        have hcon : (unks.getD j []).contains i = true := by simpa using hunk
        simp only [hcon, Bool.not_true, Bool.false_or, Bool.and_eq_true, List.all_eq_true] at this
        have conv : ∀ r, (!inRows (i, (Hh i).length, (Hh (i + 1)).length - (Hh i).length) r) = true → (!rowsOf Hh i r) = true := fun r hr => by
          simp only [inRows, rowsOf, Bool.not_eq_true', Bool.and_eq_false_iff, decide_eq_false_iff_not] at hr ⊢
          omega
        exact ⟨VR_leads_mono conv _ this.1, fun _ o ho => AO.leads_mono conv (this.2 o ho)⟩
      · obtain ⟨_, ⟨_, h1, h2, _⟩ | ⟨h, _⟩⟩ := D.step j s hs
        · rw [h1, h2]
          exact ⟨rfl, fun _ o ho => by simp at ho⟩
        · exact absurd h hw
    · exact small fun r hr => by simp only [rowsOf, Bool.and_eq_false_iff, decide_eq_false_iff_not]; omega
theorem under_mono {m n : Nat} {y : AO} (hmn : m ≤ n) (hy : y.under m = true) : y.under n = true := by
  have := AO.under_leads hy (q := fun o => decide (o < n)) (fun i hi => by simp; omega)
  cases y <;> exact this
theorem gone_plus {n : Nat} {K : Nat → Bool} {i r : Nat} (hr : rowsOf Hh i r = false) : gone n Hh (plus K i) r = gone n Hh K r := by
  rw [Bool.eq_iff_iff, gone_iff, gone_iff]
  constructor
  · rintro ⟨j, h1, h2, h3⟩
    refine ⟨j, h1, ?_, h3⟩
    simp only [plus, Bool.or_eq_false_iff] at h2
    exact h2.1
  · rintro ⟨j, h1, h2, h3⟩
    refine ⟨j, h1, ?_, h3⟩
    have hji : j ≠ i := fun h => by subst h; simp [rowsOf, h3] at hr
    simp [plus, h2, hji]
theorem inv_put (D : Dr P cl os l anc unks b T Hh V Md) {W : World} {ρ0 ρ ρ2 : Plan} {w0 w w2 : World} {K : Nat → Bool} {c c' : Nat} {a : Act} (I : Inv os l anc b T Hh V W ρ0 w0 K c ρ a w) (h0 : ∀ d, ((T 0).getD d .undef).under (Hh 0).length = true)
    {i : Nat} {s : SOp} (hs : l[i]? = some s) (hK : K i = false) (hanc : ∀ j ∈ anc.getD i [], K j = true)
    (c1 : b ≤ c' ∨ c' = l.length) (cn : c' ≤ l.length) (c2 : ∀ k, c' ≤ k → late l k → plus K i k = false) (c3 : ∀ k, k < c' → late l k → ∀ j s, j ≤ k → l[j]? = some s → s.op.touch ≠ .no → plus K i j = true ∨ Wk l T k j)
    (hwf : ∀ m, m ≤ c' → ∀ (r : Nat) (y : AO), (Hh m)[r]? = some y → y ≠ .dead → gone l.length Hh (plus K i) r = false → y.under (Hh m).length = true)
    (hstp : Stp W ρ0 (Hh 0) w0 ρ2 (mask (gone l.length Hh (plus K i)) (Hh c')) w2) (hplan : ∀ r, rowsOf Hh i r = false → ρ2 r = ρ r) {x : Value} (hV : VR W ρ2 (Hh (i + 1)).length (V i) x)
    (hrows : ¬ late l i → ∀ o ∈ (Hh (i + 1)).drop (Hh i).length, o.under (Hh (i + 1)).length = true) : Inv os l anc b T Hh V W ρ0 w0 (plus K i) c' ρ2 (a.put s.dst x) w2 := by
  have hil := (List.getElem?_eq_some_iff.1 hs).1
  have hkeep : ∀ k, plus K i k = true → K k = true ∨ k = i := fun k h => by simpa [plus] using h
  have hmono : ∀ k, K k = true → plus K i k = true := fun k h => by simp [plus, h]
  have hN : (Hh (i + 1)).length ≤ (Hh l.length).length := D.mono (by omega) (Nat.le_refl _)
  refine ⟨fun k hk h j hj => ?_, c1, cn, c2, c3, hstp, ?_, ?_, fun d y hy => ?_, hwf, fun j hj h => ?_, fun j hj h => ?_⟩
  · rcases hkeep k h with h | rfl
    · exact hmono j (I.cl k hk h j hj)
    · exact hmono j (hanc j hj)
  · cases s.dst <;> exact I.nod
  · cases s.dst <;> simp [Act.put, I.size]
  · have hv := D.val_put (t0 := T 0) (d := d) I.cl hs hK l.length (Nat.le_refl _)
    have hv' : valD V l (T 0) (plus K i) l.length d = if i < l.length ∧ s.dst = some d then V i else valD V l (T 0) K l.length d := hv
    rw [hv']
    by_cases hd : s.dst = some d
    · rw [if_pos ⟨hil, hd⟩]
      rw [hd] at hy
      simp only [Act.put] at hy
      rw [Array.getElem?_setIfInBounds_self] at hy
      split at hy <;> simp only [Option.some.injEq, reduceCtorEq] at hy
      subst hy
      exact VR_mono (fun _ _ => rfl) hN _ _ hV
    · rw [if_neg (fun h => hd h.2)]
      have hy' : a.tmps[d]? = some y := by
        cases hdst : s.dst with
        | none => rw [hdst] at hy; exact hy
        | some e =>
          rw [hdst] at hy
          simp only [Act.put] at hy
          rwa [Array.getElem?_setIfInBounds_ne (fun h => hd (by rw [hdst, h]))] at hy
      have hold := I.val d y hy'
      have hl : ∀ k, k ≤ l.length → (valD V l (T 0) K k d).leads (fun r => !rowsOf Hh i r) = true := by
        intro k
        induction k with
        | zero =>
          intro _
          refine VR_leads_mono (p := fun o => decide (o < (Hh 0).length)) (fun r hr => ?_) _ (h0 d)
          have := D.mono (i := 0) (j := i) (by omega) (by omega)
          simp only [decide_eq_true_eq] at hr
          simp only [rowsOf, Bool.not_eq_true', Bool.and_eq_false_iff, decide_eq_false_iff_not]
          omega
        | succ k ih =>
          intro hk
          simp only [valD]
          split
          · rename_i h; exact (D.leads_not I hil hK (j := k) (by omega) h.1).1
          · exact ih (by omega)
      have hb := VR_bound _ _ hold
      refine VR_leads (p := fun r => decide (r < (Hh l.length).length) && !rowsOf Hh i r) (fun r hr => ?_) _ _ (leads_and _ hb (hl l.length (Nat.le_refl _))) hold
      simp only [Bool.and_eq_true, decide_eq_true_eq, Bool.not_eq_true'] at hr
      exact ⟨hplan r hr.2, hr.1⟩
  · rcases hkeep j h with h | rfl
    · exact I.und j hj h
    · exact VR_bound _ _ hV
  · rcases hkeep j h with h | rfl
    · exact I.rows j hj h
    · exact hrows
end Dr
end Go.Den
