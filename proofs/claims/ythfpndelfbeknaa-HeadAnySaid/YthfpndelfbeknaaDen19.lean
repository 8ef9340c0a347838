/- Draws of an order: what is needed of single operations and of heaps. -/
import Derived.Test.YthfpndelfbeknaaDen18
import Derived.Orders
set_option linter.unusedVariables false
set_option linter.unusedSimpArgs false
namespace Go.Den
open Go.RowKit (Below)

theorem evx_same {t u : List AV} {x : SX} (h : ∀ d ∈ x.use, t.getD d .undef = u.getD d .undef) : evx t x = evx u x := by
  cases x with
  | t n => exact h n (by simp [SX.use])
  | v a => rfl
theorem evo_same {t u : List AV} {x : Option SX} (h : ∀ d ∈ SX.useo x, t.getD d .undef = u.getD d .undef) : abound (evx t) x = abound (evx u) x := by
  cases x with
  | none => rfl
  | some x => simp only [abound]; rw [evx_same h]
theorem evl_same {t u : List AV} : ∀ {l : List SX}, (∀ d ∈ SX.usel l, t.getD d .undef = u.getD d .undef) → l.map (evx t) = l.map (evx u)
  | [], _ => rfl
  | x :: l, h => by
    simp only [SX.usel, List.mem_append] at h
    simp only [List.map_cons]
    rw [evx_same fun d hd => h d (.inl hd), evl_same fun d hd => h d (.inr hd)]
theorem evp_same {t u : List AV} : ∀ {l : List (Nat × Nat × SX)} {z : List AV}, (∀ d ∈ SX.usep l, t.getD d .undef = u.getD d .undef) → fillIn (evx t) z l = fillIn (evx u) z l
  | [], _, _ => rfl
  | (off, n, x) :: l, z, h => by
    simp only [SX.usep, List.mem_append] at h
    simp only [fillIn]
    rw [evx_same fun d hd => h d (.inl hd)]
    split
    · exact evp_same fun d hd => h d (.inr hd)
    · rfl
theorem sop_same {cl : CL} {t u : List AV} {H : Heap} {s : SO} (h : ∀ d ∈ s.uses, t.getD d .undef = u.getD d .undef) : sop cl t H s = sop cl u H s := by
  cases s <;> simp only [SO.uses, List.mem_append] at h <;> simp only [sop, aop]
  case mv x => rw [evx_same h]
  case pick c a b => rw [evx_same fun d hd => h d (.inl (.inl hd)), evx_same fun d hd => h d (.inl (.inr hd)), evx_same fun d hd => h d (.inr hd)]
  case box e x => rw [evx_same h]
  case build z ps => rw [evp_same h]
  case bsl e z l sz ps => rw [evp_same h]
  case load n a => rw [evx_same h]
  case store n a x => rw [evx_same fun d hd => h d (.inl hd), evx_same (x := x) fun d hd => h d (.inr hd)]
  case nilck x => rw [evx_same h]
  case bin op x y => rw [evx_same fun d hd => h d (.inl hd), evx_same (x := y) fun d hd => h d (.inr hd)]
  case eqs k ts neg x y => rw [evx_same fun d hd => h d (.inl hd), evx_same (x := y) fun d hd => h d (.inr hd)]
  case un op x => rw [evx_same h]
  case conv k x => rw [evx_same h]
  case b2s x => rw [evx_same h]
  case s2b e x => rw [evx_same h]
  case mkfn f l => rw [evl_same h]
  case mksl e z l c => rw [evx_same fun d hd => h d (.inl hd), evx_same (x := c) fun d hd => h d (.inr hd)]
  case slc sz x lo hi mx => rw [evx_same fun d hd => h d (.inl (.inl (.inl hd))), evo_same fun d hd => h d (.inl (.inl (.inr hd))), evo_same (x := hi) fun d hd => h d (.inl (.inr hd)), evo_same (x := mx) fun d hd => h d (.inr hd)]
  case slstr x lo hi => rw [evx_same fun d hd => h d (.inl (.inl hd)), evo_same fun d hd => h d (.inl (.inr hd)), evo_same (x := hi) fun d hd => h d (.inr hd)]
  case slarr n sz x lo hi mx => rw [evx_same fun d hd => h d (.inl (.inl (.inl hd))), evo_same fun d hd => h d (.inl (.inl (.inr hd))), evo_same (x := hi) fun d hd => h d (.inl (.inr hd)), evo_same (x := mx) fun d hd => h d (.inr hd)]
  case faddr off x => rw [evx_same h]
  case fld n off x => rw [evx_same h]
  case iaddr sz x i => rw [evx_same fun d hd => h d (.inl hd), evx_same (x := i) fun d hd => h d (.inr hd)]
  case iarr n sz x i => rw [evx_same fun d hd => h d (.inl hd), evx_same (x := i) fun d hd => h d (.inr hd)]
  case ixs x i => rw [evx_same fun d hd => h d (.inl hd), evx_same (x := i) fun d hd => h d (.inr hd)]
  case ixa m n sz x i => rw [evx_same fun d hd => h d (.inl hd), evx_same (x := i) fun d hd => h d (.inr hd)]
  case extract x i => rw [evx_same h]
  case call f xs => rw [evl_same h]
  case callv x xs => rw [evx_same fun d hd => h d (.inl hd), evl_same fun d hd => h d (.inr hd)]
  case app e sz s x => rw [evx_same fun d hd => h d (.inl hd), evx_same (x := x) fun d hd => h d (.inr hd)]
  case len b x => rw [evx_same h]
  case cap x => rw [evx_same h]
  case sdata x => rw [evx_same h]
  case ustr e p n => rw [evx_same fun d hd => h d (.inl hd), evx_same (x := n) fun d hd => h d (.inr hd)]
  case appn e z s x => rw [evx_same fun d hd => h d (.inl hd), evx_same (x := x) fun d hd => h d (.inr hd)]
  case copy sz d s => rw [evx_same fun d hd => h d (.inl hd), evx_same (x := s) fun d hd => h d (.inr hd)]
  case clear z x => rw [evx_same h]
  case mnmx mx xs => rw [evl_same h]
  case range x => rw [evx_same h]
  case next x => rw [evx_same h]
/-- An operation that touches no memory. -/
theorem aop_no {ev : SX → AV} {H H' : Heap} {s : SO} {v : AV} (hs : s.touch = .no) (h : aop ev H s = some (v, H')) : H' = H ∧ ∀ H2, aop ev H2 s = some (v, H2) := by
  cases s <;> simp only [SO.touch, reduceCtorEq] at hs
  case mv x => simp only [aop, Option.some.injEq, Prod.mk.injEq] at h; obtain ⟨rfl, rfl⟩ := h; exact ⟨rfl, fun _ => rfl⟩
  case pick c a b =>
    simp only [aop] at h
    split at h <;> simp only [Option.some.injEq, Prod.mk.injEq, reduceCtorEq] at h <;> rename_i hb <;> obtain ⟨rfl, rfl⟩ := h <;> exact ⟨rfl, fun _ => by simp only [aop, hb]⟩
  case bad => simp [aop] at h
  case nilck x =>
    simp only [aop] at h
    split at h <;> simp only [Option.some.injEq, Prod.mk.injEq, reduceCtorEq] at h <;> rename_i hb <;> obtain ⟨rfl, rfl⟩ := h <;> exact ⟨rfl, fun _ => by simp only [aop, hb]⟩
  case mkfn f l => simp only [aop, Option.some.injEq, Prod.mk.injEq] at h; obtain ⟨rfl, rfl⟩ := h; exact ⟨rfl, fun _ => rfl⟩
  case build z ps => simp only [aop, Option.map_eq_some_iff, Prod.mk.injEq] at h; obtain ⟨c, hc, rfl, rfl⟩ := h; exact ⟨rfl, fun _ => by simp only [aop, hc, Option.map_some]⟩
  case bin op x y => simp only [aop, Option.map_eq_some_iff, Prod.mk.injEq] at h; obtain ⟨c, hc, rfl, rfl⟩ := h; exact ⟨rfl, fun _ => by simp only [aop, hc, Option.map_some]⟩
  case eqs k ts neg x y => simp only [aop, Option.map_eq_some_iff, Prod.mk.injEq] at h; obtain ⟨c, hc, rfl, rfl⟩ := h; exact ⟨rfl, fun _ => by simp only [aop, hc, Option.map_some]⟩
  case un op x => simp only [aop, Option.map_eq_some_iff, Prod.mk.injEq] at h; obtain ⟨c, hc, rfl, rfl⟩ := h; exact ⟨rfl, fun _ => by simp only [aop, hc, Option.map_some]⟩
  case conv k x => simp only [aop, Option.map_eq_some_iff, Prod.mk.injEq] at h; obtain ⟨c, hc, rfl, rfl⟩ := h; exact ⟨rfl, fun _ => by simp only [aop, hc, Option.map_some]⟩
  case slc sz x lo hi mx =>
    simp only [aop, Option.bind_eq_some_iff, Option.map_eq_some_iff, Prod.mk.injEq] at h
    obtain ⟨n, hn, l, hl, hh, hhh, m, hm, u, hu, rfl, rfl⟩ := h
    exact ⟨rfl, fun _ => by simp only [aop, hn, hl, hhh, hm, hu, Option.bind_some, Option.map_some]⟩
  case slstr x lo hi =>
    simp only [aop] at h
    split at h <;> (try (cases h; done))
    rename_i s hs
    simp only [Option.bind_eq_some_iff] at h
    obtain ⟨l, hl, hh, hhh, h⟩ := h
    split at h <;> simp only [Option.some.injEq, Prod.mk.injEq, reduceCtorEq] at h
    rename_i hc
    obtain ⟨rfl, rfl⟩ := h
    exact ⟨rfl, fun _ => by simp only [aop, hs, hl, hhh, Option.bind_some, if_pos hc]⟩
  case faddr off x =>
    simp only [aop] at h
    split at h <;> simp only [Option.some.injEq, Prod.mk.injEq, reduceCtorEq] at h <;> rename_i hb <;> obtain ⟨rfl, rfl⟩ := h <;> exact ⟨rfl, fun _ => by simp only [aop, hb]⟩
  case fld n off x =>
    simp only [aop] at h
    split at h <;> (try (cases h; done))
    rename_i c hc
    split at h <;> simp only [Option.map_eq_some_iff, Prod.mk.injEq, reduceCtorEq] at h
    rename_i hl
    obtain ⟨u, hu, rfl, rfl⟩ := h
    exact ⟨rfl, fun _ => by simp only [aop, hc, if_pos hl, hu, Option.map_some]⟩
  case iaddr sz x i =>
    simp only [aop, Option.bind_eq_some_iff] at h
    obtain ⟨j, hj, h⟩ := h
    split at h <;> (try (cases h; done)) <;> rename_i hx <;> split at h <;> simp only [Option.some.injEq, Prod.mk.injEq, reduceCtorEq] at h <;> rename_i hc <;> obtain ⟨rfl, rfl⟩ := h <;>
      exact ⟨rfl, fun _ => by simp only [aop, hj, Option.bind_some, hx, if_pos hc]⟩
  case iarr n sz x i =>
    simp only [aop, Option.bind_eq_some_iff] at h
    obtain ⟨j, hj, h⟩ := h
    split at h <;> (try (cases h; done)) <;> rename_i hx <;> split at h <;> simp only [Option.some.injEq, Prod.mk.injEq, reduceCtorEq] at h <;> rename_i hc <;> obtain ⟨rfl, rfl⟩ := h <;>
      exact ⟨rfl, fun _ => by simp only [aop, hj, Option.bind_some, hx, if_pos hc]⟩
  case ixs x i =>
    simp only [aop, Option.bind_eq_some_iff] at h
    obtain ⟨j, hj, h⟩ := h
    split at h <;> (try (cases h; done))
    rename_i s hx
    split at h <;> simp only [Option.map_eq_some_iff, Prod.mk.injEq, reduceCtorEq] at h
    rename_i hc
    obtain ⟨u, hu, rfl, rfl⟩ := h
    exact ⟨rfl, fun _ => by simp only [aop, hj, Option.bind_some, hx, if_pos hc, hu, Option.map_some]⟩
  case ixa m n sz x i =>
    simp only [aop, Option.bind_eq_some_iff] at h
    obtain ⟨j, hj, h⟩ := h
    split at h <;> (try (cases h; done))
    rename_i c hx
    split at h <;> simp only [Option.map_eq_some_iff, Prod.mk.injEq, reduceCtorEq] at h
    rename_i hc
    obtain ⟨u, hu, rfl, rfl⟩ := h
    exact ⟨rfl, fun _ => by simp only [aop, hj, Option.bind_some, hx, if_pos hc, hu, Option.map_some]⟩
  case extract x i =>
    simp only [aop] at h
    split at h <;> (try (cases h; done))
    rename_i vs hx
    simp only [Option.map_eq_some_iff, Prod.mk.injEq] at h
    obtain ⟨u, hu, rfl, rfl⟩ := h
    exact ⟨rfl, fun _ => by simp only [aop, hx, hu, Option.map_some]⟩
  case len str x =>
    simp only [aop] at h
    split at h
    · rename_i s hx
      split at h <;> simp only [Option.some.injEq, Prod.mk.injEq, reduceCtorEq] at h
      rename_i hc
      obtain ⟨rfl, rfl⟩ := h
      exact ⟨rfl, fun _ => by simp only [aop, hx, if_pos hc]⟩
    · rename_i hx
      split at h <;> simp only [Option.map_eq_some_iff, Prod.mk.injEq, reduceCtorEq] at h
      rename_i hc
      obtain ⟨u, hu, rfl, rfl⟩ := h
      refine ⟨rfl, fun _ => ?_⟩
      simp only [aop]
      rw [if_neg hc, hu]
      rfl
  case sdata x =>
    simp only [aop] at h
    split at h <;> (try (cases h; done)) <;> rename_i hx
    · simp only [Option.some.injEq, Prod.mk.injEq] at h
      obtain ⟨rfl, rfl⟩ := h
      exact ⟨rfl, fun _ => by simp only [aop, hx]⟩
    · split at h <;> simp only [Option.some.injEq, Prod.mk.injEq, reduceCtorEq] at h
      rename_i h0
      obtain ⟨rfl, rfl⟩ := h
      exact ⟨rfl, fun _ => by simp only [aop, hx, if_neg h0]⟩
  case cap x =>
    simp only [aop] at h
    split at h <;> simp only [Option.some.injEq, Prod.mk.injEq, reduceCtorEq] at h <;> rename_i hx <;> obtain ⟨rfl, rfl⟩ := h <;> exact ⟨rfl, fun _ => by simp only [aop, hx]⟩
  case mnmx mx xs =>
    simp only [aop] at h
    split at h <;> (try (cases h; done))
    rename_i k a l hx
    simp only [Option.map_eq_some_iff, Prod.mk.injEq] at h
    obtain ⟨u, hu, rfl, rfl⟩ := h
    exact ⟨rfl, fun _ => by simp only [aop, hx, hu, Option.map_some]⟩
/-- An operation that reads, or makes a row. -/
theorem aop_quiet {ev : SX → AV} {H H' : Heap} {s : SO} {v : AV} (hs : s.touch = .no ∨ s.touch = .reads ∨ s.touch = .makes) (h : aop ev H s = some (v, H')) : ∃ new, H' = H ++ new := by
  by_cases hno : s.touch = .no
  · exact ⟨[], by simpa using (aop_no hno h).1⟩
  cases s <;> simp only [SO.touch, reduceCtorEq, or_self, or_false, false_or, not_true_eq_false, not_false_eq_true] at hs hno
  case box e x =>
    simp only [aop, anew] at h
    split at h <;> simp only [Option.some.injEq, Prod.mk.injEq, reduceCtorEq] at h
    exact ⟨_, h.2.symm⟩
  case bsl e z l sz ps =>
    simp only [aop, Option.bind_eq_some_iff] at h
    obtain ⟨c, hc, h⟩ := h
    split at h <;> simp only [Option.some.injEq, Prod.mk.injEq, reduceCtorEq] at h
    exact ⟨_, h.2.symm⟩
  case load n a =>
    simp only [aop, Option.bind_eq_some_iff, Option.map_eq_some_iff, Prod.mk.injEq] at h
    obtain ⟨_, _, _, _, _, h⟩ := h
    exact ⟨[], by simp [h]⟩
  case b2s x =>
    simp only [aop, Option.bind_eq_some_iff] at h
    obtain ⟨c, hc, h⟩ := h
    split at h <;> simp only [Option.map_eq_some_iff, Prod.mk.injEq, reduceCtorEq] at h
    obtain ⟨_, _, _, h⟩ := h
    exact ⟨[], by simp [h]⟩
  case s2b e x =>
    simp only [aop] at h
    split at h <;> simp only [Option.some.injEq, Prod.mk.injEq, reduceCtorEq] at h
    exact ⟨_, h.2.symm⟩
  case mksl e z l c =>
    simp only [aop] at h
    split at h <;> (try (cases h; done))
    split at h <;> simp only [Option.some.injEq, Prod.mk.injEq, reduceCtorEq] at h
    exact ⟨_, h.2.symm⟩
  case appn e z s x =>
    simp only [aop] at h
    split at h <;> (try (cases h; done))
    split at h
    · simp only [Option.some.injEq, Prod.mk.injEq] at h
      exact ⟨[], by simp [h.2]⟩
    · split at h <;> simp only [Option.some.injEq, Prod.mk.injEq, reduceCtorEq] at h
      exact ⟨_, h.2.symm⟩
  case slarr n sz x lo hi mx =>
    simp only [aop] at h
    split at h <;> (try (cases h; done))
    simp only [Option.bind_eq_some_iff] at h
    obtain ⟨_, _, _, _, _, _, _, _, h⟩ := h
    split at h <;> simp only [Option.some.injEq, Prod.mk.injEq, reduceCtorEq] at h
    exact ⟨[], by simp [h.2]⟩
  case range x =>
    simp only [aop] at h
    split at h <;> simp only [Option.some.injEq, Prod.mk.injEq, reduceCtorEq] at h
    exact ⟨_, h.2.symm⟩
theorem sameH_eq : ∀ {l m : Heap}, sameH l m = true → l = m
  | [], [], _ => rfl
  | [], _ :: _, h => by simp [sameH] at h
  | _ :: _, [], h => by simp [sameH] at h
  | a :: l, b :: m, h => by
    simp only [sameH, Bool.and_eq_true] at h
    rw [AO.same_eq h.1, sameH_eq h.2]
theorem veil_ok (u : List Nat) : ∀ (made : List (Nat × Nat × Nat)) (H : Heap), (∀ p ∈ made, p.2.1 + p.2.2 ≤ H.length) → (veil u made H).length = H.length ∧
    ∀ (r : Nat) (o : AO), (veil u made H)[r]? = some o → o ≠ .dead → H[r]? = some o ∧ ∀ p ∈ made, u.contains p.1 = true → inRows p r = false
  | [], H, _ => ⟨rfl, fun r o ho _ => ⟨ho, fun p hp => by simp at hp⟩⟩
  | q :: made, H, h => by
    have hq := h q (by simp)
    simp only [veil]
    by_cases hu : u.contains q.1 = true
    · rw [if_pos hu]
      have hlen : (H.take q.2.1 ++ List.replicate q.2.2 AO.dead ++ H.drop (q.2.1 + q.2.2)).length = H.length := by simp; omega
      obtain ⟨h1, h2⟩ := veil_ok u made (H.take q.2.1 ++ List.replicate q.2.2 AO.dead ++ H.drop (q.2.1 + q.2.2)) (fun p hp => by rw [hlen]; exact h p (by simp [hp]))
      refine ⟨by rw [h1, hlen], fun r o ho hd => ?_⟩
      obtain ⟨h3, h4⟩ := h2 r o ho hd
      have key : H[r]? = some o ∧ inRows q r = false := by
        rcases Nat.lt_or_ge r q.2.1 with hr | hr
        · rw [List.append_assoc, List.getElem?_append_left (by simp; omega), List.getElem?_take, if_pos hr] at h3
          exact ⟨h3, by simp [inRows]; omega⟩
        · rcases Nat.lt_or_ge r (q.2.1 + q.2.2) with hr2 | hr2
          · rw [List.append_assoc, List.getElem?_append_right (by simp; omega), List.getElem?_append_left (by simp; omega), List.getElem?_replicate] at h3
            split at h3 <;> simp only [Option.some.injEq, reduceCtorEq] at h3
            exact absurd h3.symm hd
          · rw [List.append_assoc, List.getElem?_append_right (by simp; omega), List.getElem?_append_right (by simp; omega), List.getElem?_drop] at h3
            simp only [List.length_take, List.length_replicate] at h3
            rw [show q.2.1 + q.2.2 + (r - min q.2.1 H.length - q.2.2) = r by omega] at h3
            exact ⟨h3, by simp [inRows]; omega⟩
      exact ⟨key.1, fun p hp hup => by
        simp only [List.mem_cons] at hp
        rcases hp with rfl | hp
        · exact key.2
        · exact h4 p hp hup⟩
    · rw [if_neg hu]
      obtain ⟨h1, h2⟩ := veil_ok u made H (fun p hp => h p (by simp [hp]))
      refine ⟨h1, fun r o ho hd => ?_⟩
      obtain ⟨h3, h4⟩ := h2 r o ho hd
      exact ⟨h3, fun p hp hup => by
        simp only [List.mem_cons] at hp
        rcases hp with rfl | hp
        · exact absurd hup hu
        · exact h4 p hp hup⟩
section
variable {P : Program} {W : World} {ρ ρ' ρ0 : Plan} {H H1 K M M' new : Heap} {w w' w0 : World}

mutual
theorem leads_and {p q : Nat → Bool} : ∀ v : AV, v.leads p = true → v.leads q = true → v.leads (fun i => p i && q i) = true
  | .ptr o _, h1, h2 => by simp only [AV.leads] at h1 h2 ⊢; simp [h1, h2]
  | .sl o _ _ _ _, h1, h2 => by simp only [AV.leads] at h1 h2 ⊢; simp [h1, h2]
  | .fn _ c, h1, h2 => by simp only [AV.leads] at h1 h2 ⊢; exact leadss_and c h1 h2
  | .agg c, h1, h2 => by simp only [AV.leads] at h1 h2 ⊢; exact leadss_and c h1 h2
  | .tup c, h1, h2 => by simp only [AV.leads] at h1 h2 ⊢; exact leadss_and c h1 h2
  | .int _ _, _, _ => rfl
  | .bool _, _, _ => rfl
  | .str _, _, _ => rfl
  | .pv _, _, _ => rfl
  | .nilp, _, _ => rfl
  | .nili, _, _ => rfl
  | .vs _ _, _, _ => rfl
  | .nils, _, _ => rfl
  | .nilf, _, _ => rfl
  | .undef, _, _ => rfl
theorem leadss_and {p q : Nat → Bool} : ∀ l : List AV, leadss p l = true → leadss q l = true → leadss (fun i => p i && q i) l = true
  | [], _, _ => rfl
  | a :: l, h1, h2 => by
    simp only [leadss, Bool.and_eq_true] at h1 h2 ⊢
    exact ⟨leads_and a h1.1 h2.1, leadss_and l h1.2 h2.2⟩
end
mutual
theorem VR_leads_mono {p q : Nat → Bool} (h : ∀ i, p i = true → q i = true) : ∀ v : AV, v.leads p = true → v.leads q = true
  | .ptr o _, h1 => by simp only [AV.leads] at h1 ⊢; exact h o h1
  | .sl o _ _ _ _, h1 => by simp only [AV.leads] at h1 ⊢; exact h o h1
  | .fn _ c, h1 => by simp only [AV.leads] at h1 ⊢; exact VRs_leads_mono h c h1
  | .agg c, h1 => by simp only [AV.leads] at h1 ⊢; exact VRs_leads_mono h c h1
  | .tup c, h1 => by simp only [AV.leads] at h1 ⊢; exact VRs_leads_mono h c h1
  | .int _ _, _ => rfl
  | .bool _, _ => rfl
  | .str _, _ => rfl
  | .pv _, _ => rfl
  | .nilp, _ => rfl
  | .nili, _ => rfl
  | .vs _ _, _ => rfl
  | .nils, _ => rfl
  | .nilf, _ => rfl
  | .undef, _ => rfl
theorem VRs_leads_mono {p q : Nat → Bool} (h : ∀ i, p i = true → q i = true) : ∀ l : List AV, leadss p l = true → leadss q l = true
  | [], _ => rfl
  | a :: l, h1 => by
    simp only [leadss, Bool.and_eq_true] at h1 ⊢
    exact ⟨VR_leads_mono h a h1.1, VRs_leads_mono h l h1.2⟩
end
theorem AO.leads_mono {p q : Nat → Bool} (h : ∀ i, p i = true → q i = true) {o : AO} (h1 : o.leads p = true) : o.leads q = true := by
  cases o with
  | cells l e rw => exact VRs_leads_mono h l h1
  | iter s p => rfl
  | dead => rfl
theorem AO.under_leads {n : Nat} {o : AO} (h : o.under n = true) {q : Nat → Bool} (hq : ∀ i, i < n → q i = true) : o.leads q = true := by
  cases o with
  | cells l e rw => exact VRs_leads_mono (p := fun o => decide (o < n)) (fun i hi => hq i (by simpa using hi)) l h
  | iter s p => rfl
  | dead => rfl
/-- Of a heap some rows alone, and fewer numbers. -/
theorem rel_less (h : Rel W ρ M w) (hK : ∀ (r : Nat) (o : AO), K[r]? = some o → o ≠ .dead → M[r]? = some o ∧ o.under K.length = true) : Rel W ρ K w := by
  have hl : ∀ i, live K i → live M i := fun i ⟨o, ho, hd⟩ => ⟨o, (hK i o ho hd).1, hd⟩
  refine ⟨h.below, fun i hi => h.lo i (hl i hi), fun i o ho => ?_, fun i j hi hj => h.inj i j (hl i hi) (hl j hj)⟩
  by_cases hd : o = .dead
  · subst hd; trivial
  · exact OR_under (h.obj i o (hK i o ho hd).1) (hK i o ho hd).2 (fun _ _ => rfl)
/-- From that step the greater heap's: new rows stand where nothing was known. -/
theorem stp_more (h0 : Stp W ρ0 H w0 ρ M w) (hHK : H.length ≤ K.length) (hK : ∀ (r : Nat) (o : AO), K[r]? = some o → o ≠ .dead → M[r]? = some o) (op : Stp W ρ K w ρ' (K ++ new) w')
    (hlen : M'.length = M.length) (hin : K.length + new.length ≤ M.length)
    (hM' : ∀ r, M'[r]? = if K.length ≤ r ∧ r < K.length + new.length then new[r - K.length]? else M[r]?)
    (hdead : ∀ r, K.length ≤ r → r < K.length + new.length → ¬ live M r)
    (hlead : ∀ (r : Nat) (o : AO), M[r]? = some o → o ≠ .dead → ¬ live K r → o.leads (fun i => !(decide (K.length ≤ i) && decide (i < K.length + new.length))) = true) :
    Stp W ρ0 H w0 (fun r => if K.length ≤ r ∧ r < K.length + new.length then ρ' r else ρ r) M' w' := by
  have hin' : ∀ r, K.length ≤ r → r < K.length + new.length → (K ++ new)[r]? = new[r - K.length]? := fun r h1 h2 => List.getElem?_append_right h1
  have hnew : ∀ r, r < K.length + new.length → (if K.length ≤ r ∧ r < K.length + new.length then ρ' r else ρ r) = ρ' r := fun r hr => by
    by_cases h1 : K.length ≤ r
    · rw [if_pos ⟨h1, hr⟩]
    · rw [if_neg (by omega), op.same r (by omega)]
  have hKl : ∀ r, live K r → live M r := fun r ⟨o, ho, hd⟩ => ⟨o, hK r o ho hd, hd⟩
  /- which rows there are -/
  have ways : ∀ r, live M' r → (K.length ≤ r ∧ r < K.length + new.length ∧ live (K ++ new) r) ∨ (¬ (K.length ≤ r ∧ r < K.length + new.length) ∧ live M r) := fun r ⟨o, ho, hd⟩ => by
    rw [hM'] at ho
    split at ho
    · rename_i hr; exact .inl ⟨hr.1, hr.2, o, by rw [hin' r hr.1 hr.2]; exact ho, hd⟩
    · rename_i hr; exact .inr ⟨hr, o, ho, hd⟩
  have hrel := op.rel
  have hold := h0.rel
  /- a row that the step doesn't know stands -/
  have stand : ∀ r, live M r → ¬ live K r → w'.heap[(ρ r).b]? = w.heap[(ρ r).b]? := fun r hr hn => by
    refine op.frame _ (hold.hi hr) fun i hi he => ?_
    have := hold.inj i r (hKl i hi) hr he
    subst this
    exact hn hi
  /- where a new row is -/
  have place : ∀ r, K.length ≤ r → r < K.length + new.length → live (K ++ new) r → w.heap.size ≤ (ρ' r).b ∨ ∃ j, live K j ∧ (ρ j).b = (ρ' r).b := fun r _ _ hr => op.own r hr
  refine ⟨fun i hi => ?_, ?_, Nat.le_trans h0.size op.size, fun b hb hn => ?_, fun i hi => ?_, ⟨hrel.below, fun i hi => ?_, fun i o ho => ?_, fun i j hi hj hij => ?_⟩⟩
  · rw [if_neg (by omega)]; exact h0.same i hi
  · rw [hlen]; exact h0.len
  · rw [op.frame b (Nat.lt_of_lt_of_le hb h0.size) fun i hi he => ?_]
    · exact h0.frame b hb hn
    · rcases h0.own i (hKl i hi) with h1 | ⟨j, hj, h1⟩
      · omega
      · exact hn j hj (h1.trans he)
  · rcases ways i hi with ⟨h1, h2, h3⟩ | ⟨h1, h2⟩
    · rw [if_pos ⟨h1, h2⟩]
      rcases place i h1 h2 h3 with h4 | ⟨j, hj, h4⟩
      · exact .inl (Nat.le_trans h0.size h4)
      · rcases h0.own j (hKl j hj) with h5 | ⟨k, hk, h5⟩
        · exact .inl (by omega)
        · exact .inr ⟨k, hk, h5.trans h4⟩
    · rw [if_neg h1]; exact h0.own i h2
  · rcases ways i hi with ⟨h1, h2, h3⟩ | ⟨h1, h2⟩
    · rw [if_pos ⟨h1, h2⟩]; exact hrel.lo i h3
    · rw [if_neg h1]; exact hold.lo i h2
  · rw [hlen]
    have ho' := ho
    rw [hM'] at ho
    split at ho
    · rename_i hr
      rw [if_pos hr]
      have := hrel.obj i o (by rw [hin' i hr.1 hr.2]; exact ho)
      simp only [List.length_append] at this
      exact OR_same this (fun k hk => hnew k hk) hin (fun _ => rfl)
    · rename_i hr
      rw [if_neg hr]
      by_cases hd : o = .dead
      · subst hd; trivial
      by_cases hlk : live K i
      · obtain ⟨o2, ho2, hd2⟩ := hlk
        have heq := hK i o2 ho2 hd2
        rw [ho] at heq
        injection heq with heq
        subst heq
        have hi := (List.getElem?_eq_some_iff.1 ho2).1
        have := hrel.obj i o (by rw [List.getElem?_append_left hi]; exact ho2)
        simp only [List.length_append] at this
        rw [← op.same i hi]
        exact OR_same this (fun k hk => hnew k hk) hin (fun _ => rfl)
      · have hst := stand i ⟨o, ho, hd⟩ hlk
        have hl := hlead i o ho hd hlk
        have hobj := hold.obj i o ho
        cases o with
        | dead => exact absurd rfl hd
        | iter s p => exact ⟨by rw [hst]; exact hobj.1, hobj.2⟩
        | cells l e rw' =>
          obtain ⟨c, fr, q1, q2, q3, q4, q5⟩ := hobj
          refine ⟨c, fr, by rw [hst]; exact q1, q2, q3, fun j v hj => ?_, q5⟩
          obtain ⟨x, y1, y2, y3⟩ := q4 j v hj
          refine ⟨x, y1, ?_, y3⟩
          simp only [AO.leads, leadss_all] at hl
          have hb := VR_bound v x y2
          have hv := hl v (List.mem_of_getElem? hj)
          refine VR_leads (p := fun k => decide (k < M.length) && !(decide (K.length ≤ k) && decide (k < K.length + new.length))) (fun k hk => ?_) v x ?_ y2
          · simp only [Bool.and_eq_true, decide_eq_true_eq, Bool.not_eq_true', Bool.and_eq_false_iff, decide_eq_false_iff_not] at hk
            exact ⟨by rw [if_neg (by omega)], hk.1⟩
          · exact leads_and v hb hv
  · rcases ways i hi with ⟨h1, h2, h3⟩ | ⟨h1, h2⟩ <;> rcases ways j hj with ⟨g1, g2, g3⟩ | ⟨g1, g2⟩
    · rw [if_pos ⟨h1, h2⟩, if_pos ⟨g1, g2⟩] at hij; exact hrel.inj i j h3 g3 hij
    · rw [if_pos ⟨h1, h2⟩, if_neg g1] at hij
      exfalso
      rcases place i h1 h2 h3 with h4 | ⟨k, hk, h4⟩
      · have := hold.hi g2; omega
      · have hkj := hold.inj k j (hKl k hk) g2 (h4.trans hij)
        subst hkj
        have hk' := live_lt hk
        have hlk : live (K ++ new) k := by
          obtain ⟨o, ho, hd⟩ := hk
          exact ⟨o, by rw [List.getElem?_append_left hk']; exact ho, hd⟩
        have := hrel.inj i k h3 hlk (by rw [op.same k hk', ← hij])
        omega
    · rw [if_neg h1, if_pos ⟨g1, g2⟩] at hij
      exfalso
      rcases place j g1 g2 g3 with h4 | ⟨k, hk, h4⟩
      · have := hold.hi h2; omega
      · have hkj := hold.inj k i (hKl k hk) h2 (h4.trans hij.symm)
        subst hkj
        have hk' := live_lt hk
        have hlk : live (K ++ new) k := by
          obtain ⟨o, ho, hd⟩ := hk
          exact ⟨o, by rw [List.getElem?_append_left hk']; exact ho, hd⟩
        have := hrel.inj j k g3 hlk (by rw [op.same k hk', hij])
        omega
    · rw [if_neg h1, if_neg g1] at hij; exact hold.inj i j h2 g2 hij
end
end Go.Den
