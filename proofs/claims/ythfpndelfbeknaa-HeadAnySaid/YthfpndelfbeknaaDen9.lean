/- Built-in functions, literals in memory, equality. -/
import Derived.Test.YthfpndelfbeknaaDen8
import Derived.Laws.StructEq
set_option linter.unusedVariables false
set_option linter.unusedSimpArgs false
namespace Go.Den
open Go.RowKit (Below)
section
variable {P : Program} {W : World} {ρ : Plan} {H : Heap} {w : World} {t : List AV} {a : Act}

theorem VRs_one {n : Nat} {p : AV} {l : List Value} (h : VRs W ρ n [p] l) : ∃ x, l = [x] ∧ VR W ρ n p x := by
  simp only [VRs] at h
  obtain ⟨x, r, rfl, hx, rfl⟩ := h
  exact ⟨x, rfl, hx⟩
theorem VRs_two {n : Nat} {p q : AV} {l : List Value} (h : VRs W ρ n [p, q] l) : ∃ x y, l = [x, y] ∧ VR W ρ n p x ∧ VR W ρ n q y := by
  simp only [VRs] at h
  obtain ⟨x, r, rfl, hx, y, r', rfl, hy, rfl⟩ := h
  exact ⟨x, y, rfl, hx, hy⟩
theorem run_builtin {o : Oper} {c : Call} {b : Builtin} (ho : o.op = .call c) (hb : c.callee = .builtin b) {vs : List Value} (hv : c.args.toList.map a.eval = vs) {ts : List TypeId} (ht : c.argTypes.toList = ts) :
    ∃ cs, (execOp a.eval o).run P w = (builtin b ts.toArray o.type cs vs.toArray).run P w := by
  subst hv; subst ht
  have h1 : c.args.map a.eval = (c.args.toList.map a.eval).toArray := by apply Array.ext'; simp
  have h2 : c.argTypes = c.argTypes.toList.toArray := by simp
  rw [← h1, ← h2]
  simp only [execOp, ho, resolve, hb, Sem.run_bind, Sem.run_pure, Result.andThen_ok, invoke]
  exact ⟨_, rfl⟩
theorem op_len {o : Oper} {c : Call} (ho : o.op = .call c) (hb : c.callee = .builtin .len) {ty : TypeId} (ht : c.argTypes.toList = [ty]) {sx : SX} (hx : c.args.toList.mapM slimX = some [sx]) {str : Bool} (hu : if str then P.underlying ty = some .string else ∃ e, P.underlying ty = some (.slice e)) (hr : Rel W ρ H w) (ha : AR W ρ H.length t a) {v : AV} {H' : Heap} (he : aop (evx t) H (.len str sx) = some (v, H')) : Fine P W ρ H w o a v H' := by
  obtain ⟨x, h1, h2⟩ := VRs_one (evxs_ok ha hx)
  obtain ⟨cs, hrun⟩ := run_builtin (P := P) (w := w) ho hb h1 ht
  simp only [aop] at he
  split at he
  · rename_i s hs
    rw [hs] at h2
    simp only [VR] at h2
    split at he <;> simp only [Option.some.injEq, reduceCtorEq, Prod.mk.injEq] at he
    rename_i hst
    obtain ⟨rfl, rfl⟩ := he
    rw [if_pos hst] at hu
    refine fine_pure hr (x := .int .i64 s.size) ?_ rfl
    rw [hrun, h2]
    simp [builtin, Builtin.len_, run_underlying' hu, goInt]
  · rename_i v' hns
    split at he <;> simp only [Option.map_eq_some_iff, reduceCtorEq] at he
    rename_i hst
    obtain ⟨n, hn, he⟩ := he
    obtain ⟨rfl, rfl⟩ := Prod.mk.inj he
    rw [if_neg hst] at hu
    obtain ⟨e, hu⟩ := hu
    rcases alen_ok h2 hn with ⟨p, k, rfl⟩ | ⟨s, _, _, hs⟩
    · refine fine_pure hr (x := .int .i64 n) ?_ rfl
      rw [hrun]
      simp [builtin, Builtin.len_, run_underlying' hu, goInt]
    · exact absurd hs (hns s)
theorem fold_ok {mx : Bool} {k : IntKind} : ∀ {l : List AV} {xs : List Value} {n : Nat}, VRs W ρ n l xs → ∀ {i : Int} {v : AV}, afoldInt mx k i l = some v → ∃ z, (xs.foldlM (if mx then Builtin.max2 else Builtin.min2) (.int k i)).run P w = .ok z w ∧ VR W ρ H.length v z
  | [], xs, n, h, i, v, he => by
    simp only [VRs] at h; subst h
    simp only [afoldInt, Option.some.injEq] at he; subst he
    exact ⟨_, rfl, rfl⟩
  | u :: l, xs, n, h, i, v, he => by
    simp only [VRs] at h
    obtain ⟨x, r, rfl, hx, hr⟩ := h
    unfold afoldInt at he
    split at he
    · rename_i heq; cases heq
    · rename_i k' b l' heq
      injection heq with e1 e2
      subst e1; subst e2
      split at he <;> (try (cases he; done))
      rename_i hk
      subst hk
      simp only [VR] at hx
      subst hx
      obtain ⟨z, h1, h2⟩ := fold_ok hr he
      refine ⟨z, ?_, h2⟩
      simp only [List.foldlM_cons, Sem.run_bind]
      cases mx
      · simp only [Bool.false_eq_true, if_false, Builtin.min2, Sem.run_pure, Result.andThen_ok] at h1 ⊢; exact h1
      · simp only [if_true, Builtin.max2, Sem.run_pure, Result.andThen_ok] at h1 ⊢; exact h1
    · cases he
theorem op_mnmx {o : Oper} {c : Call} {mx : Bool} (ho : o.op = .call c) (hb : c.callee = .builtin (if mx then .max else .min)) {xs : List SX} (hx : c.args.toList.mapM slimX = some xs) (hr : Rel W ρ H w) (ha : AR W ρ H.length t a) {v : AV} {H' : Heap} (he : aop (evx t) H (.mnmx mx xs) = some (v, H')) : Fine P W ρ H w o a v H' := by
  have h2 := evxs_ok ha hx
  obtain ⟨cs, hrun⟩ := run_builtin (P := P) (w := w) (a := a) ho hb rfl rfl
  simp only [aop] at he
  split at he <;> (try (cases he; done))
  rename_i k i l hl
  rw [hl] at h2
  simp only [VRs] at h2
  obtain ⟨x, r, h3, hx', hr'⟩ := h2
  simp only [VR] at hx'
  subst hx'
  simp only [Option.map_eq_some_iff] at he
  obtain ⟨u, hu, he⟩ := he
  obtain ⟨rfl, rfl⟩ := Prod.mk.inj he
  obtain ⟨z, h4, h5⟩ := fold_ok (P := P) (H := H) (w := w) hr' hu
  refine fine_pure hr (x := z) ?_ h5
  rw [hrun, h3]
  cases mx
  · simp only [Bool.false_eq_true, if_false] at h4
    simp [builtin, Builtin.min_, h4]
  · simp only [if_true] at h4
    simp [builtin, Builtin.max_, h4]
theorem op_range {o : Oper} {s : SO} {ty : TypeId} {x : Operand} (ho : o.op = .range ty x) (hs : slimOp P o.op = some s) (hr : Rel W ρ H w) (ha : AR W ρ H.length t a) {v : AV} {H' : Heap} (he : aop (evx t) H s = some (v, H')) : Fine P W ρ H w o a v H' := by
  rw [ho] at hs
  simp only [slimOp] at hs
  split at hs <;> (try (cases hs; done))
  rename_i hu
  simp only [Option.map_eq_some_iff] at hs
  obtain ⟨sx, hx, rfl⟩ := hs
  have h0 := evx_ok ha hx
  simp only [aop] at he
  split at he <;> (try (cases he; done))
  rename_i b hv
  rw [hv] at h0
  simp only [VR] at h0
  simp only [Option.some.injEq, Prod.mk.injEq] at he
  obtain ⟨rfl, rfl⟩ := he
  refine ⟨.pointer (some ⟨w.heap.size, 0, none⟩), { w with heap := w.heap.push (.stringIter b 0) }, ρ.ext H.length ⟨w.heap.size, 0, 0⟩, .inl (by simp [execOp, ho, h0, Instr.range, run_underlying' hu]), stp_push hr Plan.ext_lt (by rw [Plan.ext_at]) (.push _ _) ?_, ?_⟩
  · rw [Plan.ext_at]
    exact ⟨by simp, rfl⟩
  · simp only [VR, List.length_append, List.length_cons, List.length_nil]
    exact ⟨by omega, by rw [Plan.ext_at]⟩
theorem op_next {o : Oper} {s : SO} {x : Operand} {b : Bool} (ho : o.op = .next x b) (hs : slimOp P o.op = some s) (hr : Rel W ρ H w) (ha : AR W ρ H.length t a) {v : AV} {H' : Heap} (he : aop (evx t) H s = some (v, H')) : Fine P W ρ H w o a v H' := by
  rw [ho] at hs
  simp only [slimOp] at hs
  split at hs <;> simp only [Option.map_eq_some_iff, reduceCtorEq] at hs
  rename_i hb
  obtain ⟨sx, hx, rfl⟩ := hs
  have h0 := evx_ok ha hx
  simp only [aop] at he
  split at he <;> (try (cases he; done))
  rename_i ob hv
  rw [hv] at h0
  simp only [VR] at h0
  obtain ⟨h1, h2⟩ := h0
  split at he <;> (try (cases he; done))
  rename_i q pos hH
  obtain ⟨h3, h4⟩ := hr.obj ob _ hH
  rw [h4, Nat.zero_add] at h2
  have hget : (getObj (ρ ob).b).run P w = .ok (.stringIter q pos) w := by
    simp [getObj, Sem.run, h3]
  split at he
  · rename_i hlt
    simp only [Option.some.injEq, Prod.mk.injEq] at he
    obtain ⟨rfl, rfl⟩ := he
    refine ⟨.tuple #[.bool true, .int .i64 pos, .int .i32 (Utf8.decode q pos).1], { w with heap := w.heap.setIfInBounds (ρ ob).b (.stringIter q (pos + (Utf8.decode q pos).2)) }, ρ, .inl ?_, ?_, ?_⟩
    · simp [execOp, ho, h2, Instr.next, hget, hb, hlt, setObj, Sem.run, h3, goInt]
    · have hblt := (Array.getElem?_eq_some_iff.1 h3).1
      refine stp_set hr hH (by simp) (by simp) rfl rfl rfl (fun k hk => ?_) ⟨?_, h4⟩
      · simp [Array.getElem?_setIfInBounds, Ne.symm hk]
      · simp [Array.getElem?_setIfInBounds, hblt]
    · simp only [VR]
      exact ⟨[.bool true, .int .i64 pos, .int .i32 (Utf8.decode q pos).1], rfl, by simp [VRs, VR]⟩
  · rename_i hge
    simp only [Option.some.injEq, Prod.mk.injEq] at he
    obtain ⟨rfl, rfl⟩ := he
    refine fine_pure hr (x := .tuple #[.bool false]) (by simp [execOp, ho, h2, Instr.next, hget, hb, hge]) ?_
    simp only [VR]
    exact ⟨[.bool false], rfl, by simp [VRs, VR]⟩
end
end Go.Den
