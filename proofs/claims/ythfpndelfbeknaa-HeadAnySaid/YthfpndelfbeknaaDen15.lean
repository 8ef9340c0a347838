/- Calls of functions, and regions in the order of their list. -/
import Derived.Test.YthfpndelfbeknaaDen14
import Derived.Calls
import Derived.Tactics
set_option linter.unusedVariables false
set_option linter.unusedSimpArgs false
namespace Go.Den
open Go.RowKit (Below)

/-- A call, seen from the operation that calls. -/
def OpCalls (P : Program) (f : Nat) (args : Array Value) (w : World) (R : Value → World → Prop) : Prop :=
  (∃ x w', (callFunc f args).run P w = .ok (.value x) w' ∧ R x w') ∨
  ((callFunc f args).run P w = .ok (.enter f args) w ∧ Calls P f args w fun | .returned v, w' => R v w' | _, _ => False)
/-- What the abstract machine says of calls is so. -/
def ClOk (P : Program) (cl : CL) : Prop :=
  ∀ (f : Nat) (args : List AV) (H : Heap) (v : AV) (H' : Heap), cl f args H = some (v, H') → ∀ (W : World) (ρ : Plan) (w : World) (vs : List Value), Rel W ρ H w → VRs W ρ H.length args vs →
    OpCalls P f vs.toArray w fun x w' => ∃ ρ', Stp W ρ H w ρ' H' w' ∧ VR W ρ' H'.length v x
section
variable {P : Program} {W : World} {ρ : Plan} {H : Heap} {w : World} {t : List AV} {a : Act} {cl : CL}

theorem OpCalls.mono {f : Nat} {args : Array Value} {R R' : Value → World → Prop} (h : OpCalls P f args w R) (hr : ∀ x w', R x w' → R' x w') : OpCalls P f args w R' := by
  rcases h with ⟨x, w', h1, h2⟩ | ⟨h1, h2⟩
  · exact .inl ⟨x, w', h1, hr _ _ h2⟩
  · exact .inr ⟨h1, h2.mono fun e w' he => by cases e <;> first | exact hr _ _ he | exact he⟩
theorem slimOne_ways {op : Op} {s : SO} (h : slimOne P op = some s) : (s.calls = false ∧ slimOp P op = some s) ∨
    ∃ c xs, op = .call c ∧ c.args.toList.mapM slimX = some xs ∧ ((∃ f, c.callee = .value (.func f) ∧ s = .call f xs) ∨ ∃ k, c.callee = .value (.tmp k) ∧ s = .callv (.t k) xs) := by
  unfold slimOne at h
  split at h
  · rename_i c
    cases hc : s.calls
    · exact .inl ⟨rfl, by simpa [slimOp] using h⟩
    · refine .inr ⟨c, ?_⟩
      simp only [slimCall, Option.bind_eq_some_iff] at h
      obtain ⟨xs, hx, h⟩ := h
      refine ⟨xs, rfl, hx, ?_⟩
      split at h <;> (try (cases h; done))
      · rename_i f hf
        injection h with h
        exact .inl ⟨f, hf, h.symm⟩
      · rename_i k hk
        injection h with h
        exact .inr ⟨k, hk, h.symm⟩
      · exfalso
        split at h <;> (try (cases h; done))
        · split at h <;> (try (cases h; done))
          all_goals
            simp only [Option.bind_eq_some_iff] at h
            obtain ⟨i, hi, z, hz, h⟩ := h
            split at h <;> simp only [Option.some.injEq, reduceCtorEq] at h
            subst h; cases hc
        · split at h <;> simp only [Option.some.injEq, reduceCtorEq] at h <;> (subst h; cases hc)
        · split at h <;> simp only [Option.some.injEq, reduceCtorEq] at h <;> (subst h; cases hc)
        · split at h <;> (try (cases h; done))
          split at h <;> simp only [Option.some.injEq, reduceCtorEq] at h <;> (subst h; cases hc)
        · split at h <;> simp only [Option.some.injEq, reduceCtorEq] at h <;> (subst h; cases hc)
        · split at h <;> (try (cases h; done))
          simp only [Option.bind_eq_some_iff] at h
          obtain ⟨i, hi, h⟩ := h
          split at h <;> simp only [Option.some.injEq, reduceCtorEq] at h
          subst h; cases hc
        · split at h <;> (try (cases h; done))
          simp only [Option.bind_eq_some_iff] at h
          obtain ⟨i, hi, h⟩ := h
          split at h <;> simp only [Option.some.injEq, reduceCtorEq] at h
          subst h; cases hc
        · injection h with h; subst h; cases hc
        · injection h with h; subst h; cases hc
  · simp only [Option.bind_eq_some_iff] at h
    obtain ⟨s', h1, h2⟩ := h
    split at h2 <;> simp only [Option.some.injEq, reduceCtorEq] at h2
    rename_i hc
    subst h2
    exact .inl ⟨by simpa using hc, h1⟩
/-- The operation's run: a value, or a call that returns one. -/
def Runs (P : Program) (o : Oper) (a : Act) (w : World) (R : Value → World → Prop) : Prop :=
  (∃ x w', ((execOp a.eval o).run P w = .ok (.value x) w' ∨ ((execOp a.eval o).run P w = .ok .skip w' ∧ x = undef)) ∧ R x w') ∨
  ∃ f args, (execOp a.eval o).run P w = .ok (.enter f args) w ∧ Calls P f args w fun | .returned v, w' => R v w' | _, _ => False
theorem wp_of_runs {o : Oper} {R : Value → World → Prop} (h : Runs P o a w R) {next : Act → World → Prop} {Q : Exit → Act → World → Prop} (hn : ∀ x w', R x w' → next (a.put o.dst x) w') : o.wp P a w next Q := by
  unfold Oper.wp
  rcases h with ⟨x, w', hrun | ⟨hrun, rfl⟩, h2⟩ | ⟨f, args, h1, h2⟩
  · rw [hrun, Oper.upon_value]; exact hn _ _ h2
  · rw [hrun, Oper.upon_skip]; exact hn _ _ h2
  · rw [h1, Oper.upon_enter]
    exact h2.mono fun e w' he => by cases e <;> first | exact hn _ _ he | exact he.elim
theorem runs_of_calls {o : Oper} {f : Nat} {args : Array Value} {R : Value → World → Prop} (hrun : (execOp a.eval o).run P w = (callFunc f args).run P w) (h : OpCalls P f args w R) : Runs P o a w R := by
  rcases h with ⟨x, w', h1, h2⟩ | ⟨h1, h2⟩
  · exact .inl ⟨x, w', .inl (hrun.trans h1), h2⟩
  · exact .inr ⟨f, args, hrun.trans h1, h2⟩
theorem sop_run (hcl : ClOk P cl) {o : Oper} {s : SO} (hs : slimOne P o.op = some s) (hr : Rel W ρ H w) (ha : AR W ρ H.length t a) {v : AV} {H' : Heap} (he : sop cl t H s = some (v, H')) :
    Runs P o a w fun x w' => ∃ ρ', Stp W ρ H w ρ' H' w' ∧ VR W ρ' H'.length v x := by
  rcases slimOne_ways hs with ⟨h1, h2⟩ | ⟨c, xs, ho, hx, h⟩
  · have he' : aop (evx t) H s = some (v, H') := by
      cases s <;> first | exact he | (cases h1; done)
    obtain ⟨x, w', ρ', hrun, hst, hv⟩ := op_ok h2 h1 hr ha he'
    exact .inl ⟨x, w', hrun, ρ', hst, hv⟩
  · have hargs := evxs_ok ha hx
    have hargs' : c.args.map a.eval = (c.args.toList.map a.eval).toArray := by apply Array.ext'; simp
    rcases h with ⟨f, hc, rfl⟩ | ⟨k, hc, rfl⟩
    · simp only [sop] at he
      refine runs_of_calls (f := f) (args := (c.args.toList.map a.eval).toArray) ?_ (hcl _ _ _ _ _ he W ρ w _ hr hargs)
      simp only [execOp, ho, resolve, hc, Act.eval, Deferred.ofValue, Sem.run_bind, Sem.run_pure, Result.andThen_ok, invoke, ← hargs']
      simp
    · simp only [sop] at he
      split at he <;> (try (cases he; done))
      rename_i f cap hf
      have hfv := evx_ok ha (o := .tmp k) (s := .t k) rfl
      rw [hf] at hfv
      simp only [VR] at hfv
      obtain ⟨l, hl, hcap⟩ := hfv
      refine runs_of_calls (f := f) (args := (c.args.toList.map a.eval ++ l).toArray) ?_ (hcl _ _ _ _ _ he W ρ w _ hr (VRs_append hargs hcap))
      simp only [execOp, ho, resolve, hc, hl, Deferred.ofValue, Sem.run_bind, Sem.run_pure, Result.andThen_ok, invoke]
      rw [hargs']
      simp
theorem sop_ok (hcl : ClOk P cl) {o : Oper} {s : SO} (hs : slimOne P o.op = some s) (hr : Rel W ρ H w) (ha : AR W ρ H.length t a) {v : AV} {H' : Heap} (he : sop cl t H s = some (v, H')) {next : Act → World → Prop} {Q : Exit → Act → World → Prop}
    (hn : ∀ x w' ρ', Stp W ρ H w ρ' H' w' → VR W ρ' H'.length v x → next (a.put o.dst x) w') : o.wp P a w next Q :=
  wp_of_runs (sop_run hcl hs hr ha he) fun x w' ⟨ρ', h1, h2⟩ => hn x w' ρ' h1 h2
theorem put_ok {n : Nat} (ha : AR W ρ n t a) (d : Option Nat) {v : AV} {x : Value} (hv : VR W ρ n v x) : AR W ρ n (put t d v) (a.put d x) := by
  cases d with
  | none => exact ha
  | some d => exact ⟨ha.nod, by simpa [put, Act.put] using VRs_set ha.tmps d hv⟩
theorem AR.step {ρ' : Plan} {H' : Heap} {w' : World} (ha : AR W ρ H.length t a) (h : Stp W ρ H w ρ' H' w') : AR W ρ' H'.length t a :=
  ⟨ha.nod, VRs_mono h.same h.len _ _ ha.tmps⟩
theorem wants_ok {n : Nat} (ha : AR W ρ n t a) {os : Array Oper} {o : Oper} {g : Option (Nat × Bool)} (hg : slimG os o.guard = some g) : Region.wanted o (yielded os a.tmps) = wants t g := by
  unfold Region.wanted
  cases hgo : o.guard with
  | none =>
    rw [hgo] at hg
    simp only [slimG, Option.some.injEq] at hg
    subst hg
    rfl
  | some q =>
    obtain ⟨j, b⟩ := q
    rw [hgo] at hg
    simp only [slimG, Option.map_eq_some_iff] at hg
    obtain ⟨d, hd, rfl⟩ := hg
    simp only [wants, yielded, hd, Option.bind_some]
    by_cases hk : d < t.length
    · obtain ⟨x, h1, h2⟩ := VRs_get ha.tmps (List.getElem?_eq_getElem hk)
      rw [Array.getElem?_toList] at h1
      have h3 : t.getD d .undef = t[d] := by simp [List.getD, hk]
      rw [h1, h3]
      generalize t[d] = v at h2
      cases v <;> simp only [VR] at h2 <;> simp only [bool?]
      case bool c => subst h2; simp
      all_goals
        first
          | (subst h2; rfl)
          | (obtain ⟨_, rfl⟩ := h2; rfl)
          | (obtain ⟨_, rfl, _⟩ := h2; rfl)
          | (obtain ⟨_, _, rfl, _⟩ := h2; rfl)
          | (obtain ⟨_, _, _, rfl, _⟩ := h2; rfl)
    · have h9 := VRs_length ha.tmps
      rw [Array.length_toList (xs := a.tmps)] at h9
      have hk' : a.tmps.size ≤ d := Nat.le_trans (Nat.le_of_eq h9.symm) (Nat.le_of_not_lt hk)
      simp [List.getD, List.getElem?_eq_none (Nat.le_of_not_lt hk), Array.getElem?_eq_none hk', bool?]
theorem ops_ok (hcl : ClOk P cl) {os : Array Oper} {Q : Exit → Act → World → Prop} : ∀ {l : List Oper} {sl : List SOp}, l.mapM (slimOper P os) = some sl → ∀ {ρ : Plan} {H : Heap} {w : World} {t : List AV} {a : Act}, Rel W ρ H w → AR W ρ H.length t a → ∀ {t' : List AV} {H' : Heap}, ops cl sl t H = some (t', H') →
    (∀ a' w' ρ', Stp W ρ H w ρ' H' w' → AR W ρ' H'.length t' a' → Q .normal a' w') → wpList P os Q l a w
  | [], sl, hs, ρ, H, w, t, a, hr, ha, t', H', he, hq => by
    simp at hs
    subst hs
    simp only [ops, Option.some.injEq, Prod.mk.injEq] at he
    obtain ⟨rfl, rfl⟩ := he
    exact hq _ _ _ (.refl hr) ha
  | o :: l, sl, hs, ρ, H, w, t, a, hr, ha, t', H', he, hq => by
    simp only [List.mapM_cons, Option.bind_eq_bind, Option.bind_eq_some_iff, Option.pure_def, Option.some.injEq] at hs
    obtain ⟨so, hso, sl, hsl, rfl⟩ := hs
    simp only [slimOper, Option.map_eq_some_iff] at hso
    obtain ⟨g, hg, rfl⟩ := hso
    simp only [ops] at he
    simp only [wpList, wants_ok ha hg]
    split at he
    · rename_i hw
      rw [if_pos hw]
      simp only [Option.bind_eq_some_iff] at he
      obtain ⟨⟨v, H1⟩, h1, h2⟩ := he
      cases hone : slimOne P o.op with
      | none => simp [hone, sop, aop] at h1
      | some s =>
        simp only [hone, Option.getD_some] at h1
        refine .inl (sop_ok hcl hone hr ha h1 fun x w' ρ' hst hv => ?_)
        refine ops_ok hcl hsl hst.rel (put_ok (ha.step hst) _ hv) h2 fun a' w'' ρ'' hst' ha' => hq _ _ _ (hst.trans hst') ha'
    · rename_i hw
      rw [if_neg hw]
      exact ops_ok hcl hsl hr (put_ok ha _ (by simp only [VR])) he hq
end
end Go.Den
