/- Draws of an order: the run in the order of the list, as the measure of all others. -/
import Derived.Test.YthfpndelfbeknaaDen19
set_option linter.unusedVariables false
set_option linter.unusedSimpArgs false
namespace Go.Den
open Go.RowKit (Below)

theorem aop_reads {ev : SX → AV} {H H' : Heap} {s : SO} {v : AV} (hs : s.touch = .reads) (h : aop ev H s = some (v, H')) : H' = H := by
  cases s <;> simp only [SO.touch, reduceCtorEq] at hs
  case load n a =>
    simp only [aop, Option.bind_eq_some_iff, Option.map_eq_some_iff, Prod.mk.injEq] at h
    obtain ⟨_, _, _, _, _, h⟩ := h
    exact h.symm
  case b2s x =>
    simp only [aop, Option.bind_eq_some_iff] at h
    obtain ⟨c, hc, h⟩ := h
    split at h <;> simp only [Option.map_eq_some_iff, Prod.mk.injEq, reduceCtorEq] at h
    obtain ⟨_, _, _, h⟩ := h
    exact h.symm
  case slarr n sz x lo hi mx =>
    simp only [aop] at h
    split at h <;> (try (cases h; done))
    simp only [Option.bind_eq_some_iff] at h
    obtain ⟨_, _, _, _, _, _, _, _, h⟩ := h
    split at h <;> simp only [Option.some.injEq, Prod.mk.injEq, reduceCtorEq] at h
    exact h.2.symm
theorem sop_aop {cl : CL} {t : List AV} {H : Heap} {s : SO} (h : s.touch ≠ .calls) : sop cl t H s = aop (evx t) H s := by
  cases s <;> first | rfl | exact absurd rfl h
theorem calls_touch {s : SO} (h : s.touch ≠ .calls) : s.calls = false := by
  cases s <;> first | rfl | exact absurd rfl h
theorem touch_calls {s : SO} (h : s.touch = .calls) : s.calls = true := by
  cases s <;> first | rfl | (simp only [SO.touch, reduceCtorEq] at h)
theorem sop_nomake {cl : CL} {t : List AV} {H H' : Heap} {s : SO} {v : AV} (hs : s.touch = .no ∨ s.touch = .reads) (h : sop cl t H s = some (v, H')) : H' = H := by
  rw [sop_aop (by rcases hs with hs | hs <;> rw [hs] <;> simp)] at h
  rcases hs with hs | hs
  · exact (aop_no hs h).1
  · exact aop_reads hs h
/-- One operation of the run. -/
def Step1 (cl : CL) (i : Nat) (o : SOp) (made : List (Nat × Nat × Nat)) (t : List AV) (H : Heap) (v : AV) (t1 : List AV) (H1 : Heap) (made1 : List (Nat × Nat × Nat)) : Prop :=
  t1 = put t o.dst v ∧
  ((wants t o.guard = false ∧ v = .undef ∧ H1 = H ∧ made1 = made) ∨
   (wants t o.guard = true ∧
     ((o.draw = none ∧ sop cl t H o.op = some (v, H1) ∧ H.length ≤ H1.length ∧ made1 = addMade made i H.length H1.length ∧ apartAll t H H1 o.apart = true) ∨
      (∃ unk Hq, o.draw = some unk ∧ sop cl t (veil unk made H) o.op = some (v, Hq) ∧ (o.op.calls = true → sameH (Hq.take H.length) (veil unk made H) = true) ∧ shun unk made v (Hq.drop H.length) = true ∧
        H1 = H ++ Hq.drop H.length ∧ made1 = addMade made i H.length Hq.length))))
theorem trace_of {cl : CL} : ∀ (l : List SOp) (i0 : Nat) (made : List (Nat × Nat × Nat)) (t : List AV) (H : Heap) (t' : List AV) (H' : Heap), opsd cl i0 made l t H = some (t', H') →
    ∃ (T : Nat → List AV) (Hh : Nat → Heap) (V : Nat → AV) (Md : Nat → List (Nat × Nat × Nat)), T 0 = t ∧ Hh 0 = H ∧ Md 0 = made ∧ T l.length = t' ∧ Hh l.length = H' ∧
      ∀ k o, l[k]? = some o → Step1 cl (i0 + k) o (Md k) (T k) (Hh k) (V k) (T (k + 1)) (Hh (k + 1)) (Md (k + 1))
  | [], i0, made, t, H, t', H', h => by
    simp only [opsd, Option.some.injEq, Prod.mk.injEq] at h
    obtain ⟨rfl, rfl⟩ := h
    exact ⟨fun _ => t, fun _ => H, fun _ => .undef, fun _ => made, rfl, rfl, rfl, rfl, rfl, fun k o ho => by simp at ho⟩
  | o :: r, i0, made, t, H, t', H', h => by
    have glue : ∀ (v : AV) (t1 : List AV) (H1 : Heap) (made1 : List (Nat × Nat × Nat)), Step1 cl i0 o made t H v t1 H1 made1 → opsd cl (i0 + 1) made1 r t1 H1 = some (t', H') →
        ∃ (T : Nat → List AV) (Hh : Nat → Heap) (V : Nat → AV) (Md : Nat → List (Nat × Nat × Nat)), T 0 = t ∧ Hh 0 = H ∧ Md 0 = made ∧ T (o :: r).length = t' ∧ Hh (o :: r).length = H' ∧
          ∀ k o', (o :: r)[k]? = some o' → Step1 cl (i0 + k) o' (Md k) (T k) (Hh k) (V k) (T (k + 1)) (Hh (k + 1)) (Md (k + 1)) := by
      intro v t1 H1 made1 hs hr
      obtain ⟨T, Hh, V, Md, h1, h2, h3, h4, h5, h6⟩ := trace_of r (i0 + 1) made1 t1 H1 t' H' hr
      refine ⟨fun k => match k with | 0 => t | k + 1 => T k, fun k => match k with | 0 => H | k + 1 => Hh k, fun k => match k with | 0 => v | k + 1 => V k, fun k => match k with | 0 => made | k + 1 => Md k, rfl, rfl, rfl, h4, h5, fun k o' ho => ?_⟩
      cases k with
      | zero =>
        simp only [List.getElem?_cons_zero, Option.some.injEq] at ho
        subst ho
        simp only [h1, h2, h3]
        exact hs
      | succ k =>
        simp only [List.getElem?_cons_succ] at ho
        have := h6 k o' ho
        rw [show i0 + 1 + k = i0 + (k + 1) by omega] at this
        exact this
    simp only [opsd] at h
    split at h
    · rename_i hw
      split at h
      · rename_i hd
        simp only [Option.bind_eq_some_iff] at h
        obtain ⟨⟨v, H1⟩, h1, h2⟩ := h
        split at h2 <;> (try (cases h2; done))
        rename_i hl
        exact glue v _ _ _ ⟨rfl, .inr ⟨hw, .inl ⟨hd, h1, hl.1, rfl, hl.2⟩⟩⟩ h2
      · rename_i unk hd
        simp only [Option.bind_eq_some_iff] at h
        obtain ⟨⟨v, Hq⟩, h1, h2⟩ := h
        split at h2 <;> (try (cases h2; done))
        rename_i hl
        exact glue v _ _ _ ⟨rfl, .inr ⟨hw, .inr ⟨unk, Hq, hd, h1, hl.1, hl.2, rfl, rfl⟩⟩⟩ h2
    · rename_i hw
      exact glue .undef _ _ _ ⟨rfl, .inl ⟨by simpa using hw, rfl, rfl, rfl⟩⟩ h

/-- it waits for all that touch memory, but for loads. -/
def late (l : List SOp) (k : Nat) : Prop := ∃ s, l[k]? = some s ∧ s.op.touch ≠ .no ∧ s.draw = none
/-- k is late, j a load that no order binds to it: k leaves the row be that j looks at. -/
def Wk (l : List SOp) (T : Nat → List AV) (k j : Nat) : Prop :=
  late l k ∧ ¬ late l j ∧ ∃ s q n a g x, l[k]? = some s ∧ l[j]? = some q ∧ q.op = .load n a ∧ (g, x) ∈ s.apart ∧
    (wants (T j) q.guard = true → wants (T k) g = true ∧ ∀ r off, evx (T j) a = .ptr r off → rowOf (evx (T k) x) = some r)
theorem Wk.quiet {l : List SOp} {T : Nat → List AV} {i j : Nat} (h : Wk l T i j) {q : SOp} (hq : l[j]? = some q) : makes q = false := by
  obtain ⟨_, _, s', q', n, a, g, x, _, e2, e4, _⟩ := h
  rw [hq] at e2
  injection e2 with e2
  subst e2
  simp [makes, e4, SO.touch]
/-- A region that draws its order, its run in the order of the list, and what was looked into ahead. -/
structure Dr (P : Program) (cl : CL) (os : Array Oper) (l : List SOp) (anc unks : List (List Nat)) (b : Nat) (T : Nat → List AV) (Hh : Nat → Heap) (V : Nat → AV) (Md : Nat → List (Nat × Nat × Nat)) : Prop where
  size : os.size = l.length
  each : ∀ i o s, os[i]? = some o → l[i]? = some s → slimG os o.guard = some s.guard ∧ s.dst = o.dst ∧ s.op = (slimOne P o.op).getD .bad ∧ (s.draw = none → s.op.touch ≠ .no ∧ b ≤ i) ∧ (∀ u, s.draw = some u → u = unks.getD i [])
  one : ∀ i o s, os[i]? = some o → l[i]? = some s → (∀ e ∈ o.after, Region.binds .any e = true → e.on < i) ∧ (∀ j ∈ anc.getD i [], ∃ e ∈ o.after, Region.binds .any e = true ∧ (e.on = j ∨ j ∈ anc.getD e.on [])) ∧ (s.op.touch = .writes → s.draw = none) ∧ notSelect o.op = true ∧
    (s.draw = none ∨ s.op.touch = .no ∨ (∃ n a, s.op = .load n a) ∨ i < b)
  two : ∀ i j o s p q, os[i]? = some o → l[i]? = some s → os[j]? = some p → l[j]? = some q → j < i → j ∉ anc.getD i [] →
    (∀ d, q.dst = some d → d ∉ look os o s) ∧ (∀ d, s.dst = some d → d ∉ look os p q) ∧ (∀ d, q.dst = some d → s.dst ≠ some d) ∧ (makes q = true → j ∈ unks.getD i []) ∧ (q.op.touch = .no ∨ s.op.touch = .no ∨ (¬ late l i ∧ ¬ late l j) ∨ Wk l T i j ∨ Wk l T j i)
  md0 : Md 0 = []
  step : ∀ k o, l[k]? = some o → Step1 cl k o (Md k) (T k) (Hh k) (V k) (T (k + 1)) (Hh (k + 1)) (Md (k + 1))
namespace Dr
variable {P : Program} {cl : CL} {os : Array Oper} {l : List SOp} {anc unks : List (List Nat)} {b : Nat} {T : Nat → List AV} {Hh : Nat → Heap} {V : Nat → AV} {Md : Nat → List (Nat × Nat × Nat)}

theorem getS (D : Dr P cl os l anc unks b T Hh V Md) {i : Nat} (hi : i < l.length) : ∃ s, l[i]? = some s := ⟨l[i], List.getElem?_eq_getElem hi⟩
theorem getO (D : Dr P cl os l anc unks b T Hh V Md) {i : Nat} (hi : i < l.length) : ∃ o, os[i]? = some o := ⟨os[i]'(by rw [D.size]; exact hi), Array.getElem?_eq_getElem _⟩
theorem mono1 (D : Dr P cl os l anc unks b T Hh V Md) {k : Nat} (hk : k < l.length) : (Hh k).length ≤ (Hh (k + 1)).length := by
  obtain ⟨s, hs⟩ := D.getS hk
  obtain ⟨_, ⟨_, _, h, _⟩ | ⟨_, ⟨_, _, h, _⟩ | ⟨_, _, _, _, _, _, h, _⟩⟩⟩ := D.step k s hs
  · rw [h]; exact Nat.le_refl _
  · exact h
  · rw [h]; simp
theorem mono (D : Dr P cl os l anc unks b T Hh V Md) {i : Nat} : ∀ {j : Nat}, i ≤ j → j ≤ l.length → (Hh i).length ≤ (Hh j).length
  | 0, h, _ => by obtain rfl : i = 0 := by omega
                  exact Nat.le_refl _
  | j + 1, h, hj => by
    by_cases he : i = j + 1
    · subst he; exact Nat.le_refl _
    · exact Nat.le_trans (D.mono (by omega) (by omega)) (D.mono1 (by omega))
theorem draw_late (D : Dr P cl os l anc unks b T Hh V Md) {k : Nat} {s : SOp} (hs : l[k]? = some s) : (s.draw = none → late l k) ∧ (∀ u, s.draw = some u → ¬ late l k ∧ u = unks.getD k []) := by
  have hk := (List.getElem?_eq_some_iff.1 hs).1
  obtain ⟨o, ho⟩ := D.getO hk
  have h := (D.each k o s ho hs).2.2.2
  refine ⟨fun hd => ⟨s, hs, (h.1 hd).1, hd⟩, fun u hd => ⟨fun ⟨s', hs', _, hd'⟩ => ?_, h.2 u hd⟩⟩
  rw [hs] at hs'
  injection hs' with hs'
  subst hs'
  rw [hd] at hd'
  cases hd'
theorem late_b (D : Dr P cl os l anc unks b T Hh V Md) {k : Nat} (h : late l k) : b ≤ k := by
  obtain ⟨s, hs, _, hd⟩ := h
  obtain ⟨o, ho⟩ := D.getO (List.getElem?_eq_some_iff.1 hs).1
  exact ((D.each k o s ho hs).2.2.2.1 hd).2
theorem not_writes (D : Dr P cl os l anc unks b T Hh V Md) {k : Nat} {s : SOp} (hs : l[k]? = some s) (hl : ¬ late l k) : s.op.touch ≠ .writes := fun h => by
  have hk := (List.getElem?_eq_some_iff.1 hs).1
  obtain ⟨o, ho⟩ := D.getO hk
  exact hl ⟨s, hs, by rw [h]; simp, (D.one k o s ho hs).2.2.1 h⟩
theorem made_ok (D : Dr P cl os l anc unks b T Hh V Md) : ∀ {k : Nat}, k ≤ l.length → (∀ p ∈ Md k, ∃ j, j < k ∧ p = (j, (Hh j).length, (Hh (j + 1)).length - (Hh j).length)) ∧
    ∀ j, j < k → (Hh j).length < (Hh (j + 1)).length → (j, (Hh j).length, (Hh (j + 1)).length - (Hh j).length) ∈ Md k
  | 0, _ => by rw [D.md0]; exact ⟨fun p hp => by simp at hp, fun j hj => by omega⟩
  | k + 1, hk => by
    obtain ⟨h1, h2⟩ := D.made_ok (k := k) (by omega)
    obtain ⟨s, hs⟩ := D.getS (i := k) (by omega)
    have add : ∀ m, m = (Hh (k + 1)).length → Md (k + 1) = addMade (Md k) k (Hh k).length m → (∀ p ∈ Md (k + 1), ∃ j, j < k + 1 ∧ p = (j, (Hh j).length, (Hh (j + 1)).length - (Hh j).length)) ∧
        ∀ j, j < k + 1 → (Hh j).length < (Hh (j + 1)).length → (j, (Hh j).length, (Hh (j + 1)).length - (Hh j).length) ∈ Md (k + 1) := by
      intro m hm he
      subst hm
      rw [he]
      unfold addMade
      split
      · rename_i heq
        refine ⟨fun p hp => by obtain ⟨j, hj, hp⟩ := h1 p hp; exact ⟨j, by omega, hp⟩, fun j hj hl => ?_⟩
        by_cases hjk : j = k
        · subst hjk; omega
        · exact h2 j (by omega) hl
      · refine ⟨fun p hp => ?_, fun j hj hl => ?_⟩
        · simp only [List.mem_append, List.mem_singleton] at hp
          rcases hp with hp | rfl
          · obtain ⟨j, hj, hp⟩ := h1 p hp; exact ⟨j, by omega, hp⟩
          · exact ⟨k, by omega, rfl⟩
        · simp only [List.mem_append, List.mem_singleton]
          by_cases hjk : j = k
          · subst hjk; exact .inr rfl
          · exact .inl (h2 j (by omega) hl)
    obtain ⟨_, ⟨_, _, h, hm⟩ | ⟨_, ⟨_, _, h, hm, _⟩ | ⟨unk, Hq, hd, hrun, hcall, _, h, hm⟩⟩⟩ := D.step k s hs
    · rw [hm]
      refine ⟨fun p hp => by obtain ⟨j, hj, hp⟩ := h1 p hp; exact ⟨j, by omega, hp⟩, fun j hj hl => ?_⟩
      by_cases hjk : j = k
      · subst hjk; rw [h] at hl; omega
      · exact h2 j (by omega) hl
    · exact add _ rfl hm
    · refine add _ ?_ hm
      have hlen : (Hh k).length ≤ Hq.length := by
        have hv := (veil_ok unk (Md k) (Hh k) (fun p hp => by obtain ⟨j, hj, rfl⟩ := h1 p hp; have := D.mono (i := j + 1) (j := k) (by omega) (by omega); have := D.mono1 (k := j) (by omega); simp only; omega)).1
        by_cases hc : s.op.touch = .calls
        · have := sameH_eq (hcall (touch_calls hc))
          have := congrArg List.length this
          simp only [List.length_take] at this
          omega
        · rw [sop_aop hc] at hrun
          obtain ⟨new, hn⟩ := aop_quiet (by
            have := D.not_writes hs ((D.draw_late hs).2 unk hd).1
            cases ht : s.op.touch <;> simp_all) hrun
          rw [hn]; simp; omega
      rw [h]; simp; omega
/-- What an operation does that isn't late. -/
theorem early (D : Dr P cl os l anc unks b T Hh V Md) {k : Nat} {s : SOp} (hs : l[k]? = some s) (hl : ¬ late l k) :
    Hh (k + 1) = Hh k ++ (Hh (k + 1)).drop (Hh k).length ∧ (wants (T k) s.guard = true → sop cl (T k) (veil (unks.getD k []) (Md k) (Hh k)) s.op = some (V k, veil (unks.getD k []) (Md k) (Hh k) ++ (Hh (k + 1)).drop (Hh k).length) ∧
      shun (unks.getD k []) (Md k) (V k) ((Hh (k + 1)).drop (Hh k).length) = true) := by
  have hk := (List.getElem?_eq_some_iff.1 hs).1
  obtain ⟨_, ⟨hw, _, h, hm⟩ | ⟨hw, ⟨hd, _, h, hm⟩ | ⟨unk, Hq, hd, hrun, hcall, hsh, h, hm⟩⟩⟩ := D.step k s hs
  · refine ⟨by rw [h]; simp, fun hw' => by rw [hw] at hw'; cases hw'⟩
  · exact absurd ((D.draw_late hs).1 hd) hl
  · obtain ⟨_, rfl⟩ := (D.draw_late hs).2 unk hd
    have h1 := (D.made_ok (k := k) (by omega)).1
    have hv := (veil_ok (unks.getD k []) (Md k) (Hh k) (fun p hp => by obtain ⟨j, hj, rfl⟩ := h1 p hp; have := D.mono (i := j + 1) (j := k) (by omega) (by omega); have := D.mono1 (k := j) (by omega); simp only; omega)).1
    have hdrop : (Hh (k + 1)).drop (Hh k).length = Hq.drop (Hh k).length := by rw [h]; simp
    rw [hdrop]
    refine ⟨h, fun _ => ⟨?_, hsh⟩⟩
    rw [hrun]
    congr 2
    by_cases hc : s.op.touch = .calls
    · have := sameH_eq (hcall (touch_calls hc))
      rw [← this, List.take_append_drop]
    · rw [sop_aop hc] at hrun
      obtain ⟨new, hn⟩ := aop_quiet (by
        have := D.not_writes hs hl
        cases ht : s.op.touch <;> simp_all) hrun
      rw [hn, ← hv]
      simp
theorem nomake (D : Dr P cl os l anc unks b T Hh V Md) {k : Nat} {s : SOp} (hs : l[k]? = some s) (hm : makes s = false) : Hh (k + 1) = Hh k := by
  have ht : s.op.touch = .no ∨ s.op.touch = .reads := by
    by_cases h : s.op.touch = .no
    · exact .inl h
    · exact .inr (by simpa [makes, h] using hm)
  obtain ⟨_, ⟨hw, _, h, hm⟩ | ⟨hw, ⟨hd, hrun, h, hm⟩ | ⟨unk, Hq, hd, hrun, hcall, hsh, h, hm⟩⟩⟩ := D.step k s hs
  · exact h
  · exact sop_nomake ht hrun
  · have hk := (List.getElem?_eq_some_iff.1 hs).1
    have h1 := (D.made_ok (k := k) (by omega)).1
    have hv := (veil_ok unk (Md k) (Hh k) (fun p hp => by obtain ⟨j, hj, rfl⟩ := h1 p hp; have := D.mono (i := j + 1) (j := k) (by omega) (by omega); have := D.mono1 (k := j) (by omega); simp only; omega)).1
    rw [h, sop_nomake ht hrun, ← hv]
    simp
/-- What is known stays as it was, till something late runs. -/
theorem keep (D : Dr P cl os l anc unks b T Hh V Md) {i : Nat} : ∀ {c : Nat}, i ≤ c → c ≤ l.length → (∀ k, i ≤ k → k < c → ¬ late l k) → ∀ r, r < (Hh i).length → (Hh c)[r]? = (Hh i)[r]?
  | 0, h, _, _, r, _ => by obtain rfl : i = 0 := by omega
                           rfl
  | c + 1, h, hc, hl, r, hr => by
    by_cases he : i = c + 1
    · subst he; rfl
    · obtain ⟨s, hs⟩ := D.getS (i := c) (by omega)
      have h1 := (D.early hs (hl c (by omega) (by omega))).1
      have h2 := D.mono (i := i) (j := c) (by omega) (by omega)
      rw [h1, List.getElem?_append_left (by omega)]
      exact D.keep (by omega) (by omega) (fun k h3 h4 => hl k h3 (by omega)) r hr
/-- Where only loads are left, and what is late, nothing else makes rows. -/
theorem still (D : Dr P cl os l anc unks b T Hh V Md) {k : Nat} (hk : k < l.length) (hb : b ≤ k) (hl : ¬ late l k) : Hh (k + 1) = Hh k := by
  obtain ⟨s, hs⟩ := D.getS hk
  obtain ⟨o, ho⟩ := D.getO hk
  refine D.nomake hs ?_
  rcases (D.one k o s ho hs).2.2.2.2 with h | h | ⟨n, a, h⟩ | h
  · exact absurd ((D.draw_late hs).1 h) hl
  · simp [makes, h]
  · simp [makes, h, SO.touch]
  · omega
theorem keep_still (D : Dr P cl os l anc unks b T Hh V Md) {i : Nat} (hb : b ≤ i) : ∀ {c : Nat}, i ≤ c → c ≤ l.length → (∀ k, i ≤ k → k < c → ¬ late l k) → Hh c = Hh i
  | 0, h, _, _ => by obtain rfl : i = 0 := by omega
                     rfl
  | c + 1, h, hc, hl => by
    by_cases he : i = c + 1
    · subst he; rfl
    · rw [D.still (k := c) (by omega) (by omega) (hl c (by omega) (by omega))]
      exact D.keep_still hb (by omega) (by omega) fun k h1 h2 => hl k h1 (by omega)
theorem keep_no (D : Dr P cl os l anc unks b T Hh V Md) {i : Nat} : ∀ {c : Nat}, i ≤ c → c ≤ l.length → (∀ k s, i ≤ k → k < c → l[k]? = some s → s.op.touch = .no) → Hh c = Hh i
  | 0, h, _, _ => by obtain rfl : i = 0 := by omega
                     rfl
  | c + 1, h, hc, hl => by
    by_cases he : i = c + 1
    · subst he; rfl
    · obtain ⟨s, hs⟩ := D.getS (i := c) (by omega)
      rw [D.nomake hs (by simp [makes, hl c s (by omega) (by omega) hs])]
      exact D.keep_no (by omega) (by omega) (fun k s h3 h4 h5 => hl k s h3 (by omega) h5)
theorem owner (D : Dr P cl os l anc unks b T Hh V Md) {r : Nat} (h0 : (Hh 0).length ≤ r) : ∀ {c : Nat}, c ≤ l.length → r < (Hh c).length → ∃ j, j < c ∧ (Hh j).length ≤ r ∧ r < (Hh (j + 1)).length
  | 0, _, h => by omega
  | c + 1, hc, h => by
    by_cases hr : r < (Hh c).length
    · obtain ⟨j, h1, h2⟩ := D.owner h0 (c := c) (by omega) hr
      exact ⟨j, by omega, h2⟩
    · exact ⟨c, by omega, by omega, h⟩
theorem apart (D : Dr P cl os l anc unks b T Hh V Md) {i j r : Nat} (hi : i < l.length) (hj : j < l.length) (h1 : (Hh i).length ≤ r) (h2 : r < (Hh (i + 1)).length) (h3 : (Hh j).length ≤ r) (h4 : r < (Hh (j + 1)).length) : i = j := by
  rcases Nat.lt_trichotomy i j with h | h | h
  · have := D.mono (i := i + 1) (j := j) (by omega) (by omega); omega
  · exact h
  · have := D.mono (i := j + 1) (j := i) (by omega) (by omega); omega
end Dr
end Go.Den
