/- Every operation that isn't a call of a function. -/
import Derived.Test.YthfpndelfbeknaaDen13
set_option linter.unusedVariables false
set_option linter.unusedSimpArgs false
namespace Go.Den
open Go.RowKit (Below)
section
variable {P : Program} {W : World} {ρ : Plan} {H : Heap} {w : World} {t : List AV} {a : Act}

theorem op_call {o : Oper} {c : Call} {s : SO} (ho : o.op = .call c) (hs : slimCall P c = some s) (hc : s.calls = false) (hr : Rel W ρ H w) (ha : AR W ρ H.length t a) {v : AV} {H' : Heap} (he : aop (evx t) H s = some (v, H')) : Fine P W ρ H w o a v H' := by
  simp only [slimCall, Option.bind_eq_some_iff] at hs
  obtain ⟨xs, hx, hs⟩ := hs
  split at hs <;> (try (cases hs; done))
  · injection hs with hs; subst hs; cases hc
  · injection hs with hs; subst hs; cases hc
  · rename_i b hb
    split at hs <;> (try (cases hs; done))
    · rename_i ty u ss sx ht
      split at hs <;> (try (cases hs; done))
      · rename_i e e' hu hud
        simp only [Option.bind_eq_some_iff] at hs
        obtain ⟨i, hi, z, hz, hs⟩ := hs
        split at hs <;> simp only [Option.some.injEq, reduceCtorEq] at hs
        rename_i hg
        subst hs
        exact op_app ho hb ht hx hu hud (by simp) hi hz hg.1 hg.2.1 hg.2.2.1 hg.2.2.2 hr ha he
      · rename_i e hu hud
        simp only [Option.bind_eq_some_iff] at hs
        obtain ⟨i, hi, z, hz, hs⟩ := hs
        split at hs <;> simp only [Option.some.injEq, reduceCtorEq] at hs
        rename_i hg
        subst hs
        exact op_app ho hb ht hx hu hud (by simp) hi hz hg.1 hg.2.1 hg.2.2.1 hg.2.2.2 hr ha he
      · rename_i e k hu hud
        simp only [Option.bind_eq_some_iff] at hs
        obtain ⟨i, hi, z, hz, hs⟩ := hs
        split at hs <;> simp only [Option.some.injEq, reduceCtorEq] at hs
        rename_i hg
        subst hs
        exact op_appn ho hb ht hx hu hud hi hz hg.1 hg.2.1 hg.2.2.1 hg.2.2.2 hr ha he
    · rename_i ty sx ht
      split at hs <;> simp only [Option.some.injEq, reduceCtorEq] at hs
      rename_i e hu
      subst hs
      exact op_cap ho hb ht hx hu hr ha he
    · rename_i ty sx ht
      split at hs <;> simp only [Option.some.injEq, reduceCtorEq] at hs
      subst hs
      exact op_sdata ho hb ht hx hr ha he
    · rename_i ty u sp sn ht
      split at hs <;> (try (cases hs; done))
      rename_i e hu
      split at hs <;> simp only [Option.some.injEq, reduceCtorEq] at hs
      rename_i hce
      subst hs
      exact op_ustr ho hb ht hx hu hce hr ha he
    · rename_i ty sx ht
      split at hs <;> simp only [Option.some.injEq, reduceCtorEq] at hs
      · rename_i e hu
        subst hs
        exact op_len ho hb ht hx (str := false) (by simp [hu]) hr ha he
      · rename_i hu
        subst hs
        exact op_len ho hb ht hx (str := true) (by simp [hu]) hr ha he
      · rename_i n e hu
        subst hs
        simp only [aop, evx, Option.some.injEq, Prod.mk.injEq] at he
        obtain ⟨rfl, rfl⟩ := he
        obtain ⟨x, h1, h2⟩ := VRs_one (evxs_ok ha hx)
        obtain ⟨cs, hrun⟩ := run_builtin (P := P) (w := w) ho hb h1 ht
        refine fine_pure hr (x := .int .i64 n) ?_ (by simp only [VR])
        rw [hrun]
        simp [builtin, Builtin.len_, run_underlying' hu, goInt]
    · rename_i ty u sd ss ht
      split at hs <;> (try (cases hs; done))
      rename_i e hu
      simp only [Option.bind_eq_some_iff] at hs
      obtain ⟨n, hn, hs⟩ := hs
      split at hs <;> simp only [Option.some.injEq, reduceCtorEq] at hs
      rename_i hg
      subst hs
      exact op_copy ho hb ht hx hu hn hg hr ha he
    · rename_i ty sx ht
      split at hs <;> (try (cases hs; done))
      rename_i e hu
      simp only [Option.bind_eq_some_iff] at hs
      obtain ⟨z, hz, hs⟩ := hs
      split at hs <;> simp only [Option.some.injEq, reduceCtorEq] at hs
      rename_i hg
      subst hs
      exact op_clear ho hb ht hx hu hz hg hr ha he
    · injection hs with hs; subst hs
      exact op_mnmx (mx := false) ho hb hx hr ha he
    · injection hs with hs; subst hs
      exact op_mnmx (mx := true) ho hb hx hr ha he
theorem op_ok {o : Oper} {s : SO} (hs : slimOp P o.op = some s) (hc : s.calls = false) (hr : Rel W ρ H w) (ha : AR W ρ H.length t a) {v : AV} {H' : Heap} (he : aop (evx t) H s = some (v, H')) : Fine P W ρ H w o a v H' := by
  cases ho : o.op
  case move x => exact op_move (.inl ho) hs hr ha he
  case assign x => exact op_move (.inr ho) hs hr ha he
  case pick => exact op_pick ho hs hr ha he
  case alloc e => exact op_box (.inr ⟨_, ho⟩) hs hr ha he
  case box e x => exact op_box (.inl ⟨_, _, ho⟩) hs hr ha he
  case build => exact op_build ho hs hr ha he
  case buildSlice => exact op_bsl ho hs hr ha he
  case load => exact op_load ho hs hr ha he
  case store => exact op_store ho hs hr ha he
  case nilCheck => exact op_nilck ho hs hr ha he
  case binOp => exact op_binop ho hs hr ha he
  case unOp => exact op_un ho hs hr ha he
  case convert => exact op_convert ho hs hr ha he
  case makeFunc => exact op_mkfn ho hs hr ha he
  case makeSlice => exact op_mksl ho hs hr ha he
  case slice => exact op_slice ho hs hr ha he
  case fieldAddr => exact op_faddr ho hs hr ha he
  case field => exact op_fld ho hs hr ha he
  case indexAddr => exact op_iaddr ho hs hr ha he
  case index => exact op_index ho hs hr ha he
  case extract => exact op_extract ho hs hr ha he
  case call c => rw [ho] at hs; exact op_call ho hs hc hr ha he
  case range => exact op_range ho hs hr ha he
  case next => exact op_next ho hs hr ha he
  all_goals (rw [ho] at hs; simp [slimOp] at hs)
end
end Go.Den
