/- Whole calls. -/
import Derived.Test.YthfpndelfbeknaaDen17
set_option linter.unusedVariables false
set_option linter.unusedSimpArgs false
namespace Go.Den
open Go.RowKit (Below)
section
variable {P : Program} {W : World} {ρ ρ' : Plan} {H H1 : Heap} {w w' w1 : World} {t : List AV} {a : Act} {n : Nat}

theorem tidy_ok (hr : Rel W ρ H w) (h : Stp W ρ H w ρ' H1 w1) {v v' : AV} {x : Value} {H2 : Heap} (hv : VR W ρ' H1.length v x) (ht : tidy H v H1 = (v', H2)) : ∃ ρ2, Stp W ρ H w ρ2 H2 w1 ∧ VR W ρ2 H2.length v' x := by
  unfold tidy at ht
  split at ht
  · rename_i hk
    split at ht
    · rename_i v2 m hc
      simp only [Prod.mk.injEq] at ht
      obtain ⟨rfl, rfl⟩ := ht
      have hrel := h.rel
      obtain ⟨ρ3, hm, hs, _, hv3⟩ := carry_ok (n := H.length) hrel v x ([], []) m v2 hv hc ρ' ⟨rfl, fun _ _ => rfl, fun j o r hj => by simp at hj, by simp⟩
      obtain ⟨hlen, hkeep⟩ := keepOld_spec hk
      have hlen' : (H1.take H.length).length = H.length := by simp; omega
      have hlt : (H1.take H.length ++ m.2).length = H.length + m.2.length := by simp; omega
      have hget : ∀ i y, (H1.take H.length ++ m.2)[i]? = some y → (i < H.length ∧ H1[i]? = some y) ∨ (∃ j o, i = H.length + j ∧ m.2[j]? = some y ∧ m.1[j]? = some o) := by
        intro i y hy
        rcases Nat.lt_or_ge i H.length with hi | hi
        · rw [List.getElem?_append_left (by omega), List.getElem?_take, if_pos hi] at hy
          exact .inl ⟨hi, hy⟩
        · rw [List.getElem?_append_right (by omega), hlen'] at hy
          have hj := (List.getElem?_eq_some_iff.1 hy).1
          have hl := hm.len
          exact .inr ⟨i - H.length, m.1[i - H.length]'(by omega), by omega, hy, List.getElem?_eq_getElem (by omega)⟩
      have hlive : ∀ i, live (H1.take H.length ++ m.2) i → (i < H.length ∧ live H1 i ∧ ρ3 i = ρ' i) ∨ ∃ j o, i = H.length + j ∧ m.1[j]? = some o ∧ live H1 o ∧ H.length ≤ o ∧ (ρ3 i).b = (ρ' o).b := by
        rintro i ⟨y, hy, hyd⟩
        rcases hget i y hy with ⟨hi, hy1⟩ | ⟨j, o, rfl, hj, ho⟩
        · exact .inl ⟨hi, ⟨y, hy1, hyd⟩, hm.same i hi⟩
        · obtain ⟨q1, q2, q3, q4⟩ := hm.rows j o y ho hj
          exact .inr ⟨j, o, rfl, ho, q1, q2, q3⟩
      refine ⟨ρ3, ⟨fun i hi => by rw [hm.same i hi]; exact h.same i hi, by omega, h.size, h.frame, fun i hi => ?_, ⟨hrel.below, fun i hi => ?_, fun i y hy => ?_, fun i j hi hj hij => ?_⟩⟩, ?_⟩
      · rcases hlive i hi with ⟨q1, q2, q3⟩ | ⟨j, o, rfl, q1, q2, q3, q4⟩
        · rw [q3]; exact h.own i q2
        · rw [q4]; exact h.own o q2
      · rcases hlive i hi with ⟨q1, q2, q3⟩ | ⟨j, o, rfl, q1, q2, q3, q4⟩
        · rw [q3]; exact hrel.lo i q2
        · rw [q4]; exact hrel.lo o q2
      · rw [hlt]
        rcases hget i y hy with ⟨hi, hy1⟩ | ⟨j, o, rfl, hj, ho⟩
        · rw [hm.same i hi]
          have hOR := hrel.obj i y hy1
          have hu : y.under H.length = true := by
            rcases hkeep i H[i] y (List.getElem?_eq_getElem hi) hy1 with hyy | hyy
            · rw [← hyy]; exact OR_bound (hr.obj i _ (List.getElem?_eq_getElem hi))
            · exact hyy
          exact OR_same (OR_under hOR hu (fun i hi => hm.same i hi)) (fun _ _ => rfl) (by omega) (fun _ => rfl)
        · obtain ⟨q1, q2, q3, q4⟩ := hm.rows j o y ho hj
          exact OR_same q4 (fun _ _ => rfl) (by omega) (fun _ => rfl)
      · rcases hlive i hi with ⟨q1, q2, q3⟩ | ⟨j1, o, rfl, q1, q2, q3, q4⟩ <;> rcases hlive j hj with ⟨p1, p2, p3⟩ | ⟨j2, o2, rfl, p1, p2, p3, p4⟩
        · rw [q3, p3] at hij; exact hrel.inj i j q2 p2 hij
        · rw [q3, p4] at hij; have := hrel.inj i o2 q2 p2 hij; omega
        · rw [q4, p3] at hij; have := hrel.inj o j q2 p2 hij; omega
        · rw [q4, p4] at hij
          have ho := hrel.inj o o2 q2 p2 hij
          subst ho
          have := (List.getElem?_inj (List.getElem?_eq_some_iff.1 q1).1 hm.nodup).1 (q1.trans p1.symm)
          omega
      · rw [hlt]; exact hv3
    · simp only [Prod.mk.injEq] at ht
      obtain ⟨rfl, rfl⟩ := ht
      exact ⟨ρ', h, hv⟩
  · simp only [Prod.mk.injEq] at ht
    obtain ⟨rfl, rfl⟩ := ht
    exact ⟨ρ', h, hv⟩
theorem loadVar_ok {ty : TypeId} {sh : Option Nat} (hsh : shapeT P ty = some sh) (hr : Rel W ρ H w) {p : AV} {px : Value} (hp : VR W ρ H.length p px) {l : List AV} (hl : aload H (sh.getD 1) p = some l) {u : AV} (hu : shape sh l = some u) :
    ∃ ad x, px = .pointer (some ad) ∧ (loadVar ty ad).run P w = .ok x w ∧ VR W ρ H.length u x := by
  obtain ⟨ad, xs, h1, h2, h3, h4, h5, h6, h7⟩ := aload_ok hr hp hl
  refine ⟨ad, ?_⟩
  unfold shapeT at hsh
  split at hsh <;> (try (cases hsh; done))
  · rename_i i fs hi hu'
    injection hsh with hsh
    subst hsh
    simp only [shape, Option.some.injEq] at hu
    subst hu
    refine ⟨.agg xs.toArray, h1, ?_, by simp only [VR]; exact ⟨xs, rfl, h2⟩⟩
    have hl := run_loadCells_xs (P := P) h4 h5
    simp only [Option.getD_some] at hl
    simp [loadVar, isAgg, run_underlying' hu', sizeOf, typeInfo, hi, hl]
  · rename_i i k e hi hu'
    injection hsh with hsh
    subst hsh
    simp only [shape, Option.some.injEq] at hu
    subst hu
    refine ⟨.agg xs.toArray, h1, ?_, by simp only [VR]; exact ⟨xs, rfl, h2⟩⟩
    have hl := run_loadCells_xs (P := P) h4 h5
    simp only [Option.getD_some] at hl
    simp [loadVar, isAgg, run_underlying' hu', sizeOf, typeInfo, hi, hl]
  · rename_i i d hns hna hi hu'
    split at hsh <;> simp at hsh
    subst hsh
    simp only [shape] at hu
    simp only [Option.getD_none] at h3 h4
    match l, h3, xs, h4 with
    | [v0], _, [x0], _ =>
      simp only [one?, Option.some.injEq] at hu
      subst hu
      simp only [VRs] at h2
      obtain ⟨y, r, he, h2, _⟩ := h2
      injection he with he
      subst he
      have hc := h5 0 x0 rfl
      simp only [Addr.add, if_true] at hc
      refine ⟨x0, h1, ?_, h2⟩
      have hagg : (isAgg ty).run P w = .ok false w := by
        unfold isAgg
        simp only [Sem.run_bind, run_underlying' hu', Result.andThen_ok]
        first
          | rfl
          | (split
             · exact absurd rfl (hns _)
             · exact absurd rfl (hna _ _)
             · rfl)
      simp [loadVar, hagg, hc]
theorem getD_ok {n : Nat} (ha : AR W ρ n t a) (k : Nat) : VR W ρ n (t.getD k .undef) (a.tmps.getD k undef) := evx_ok ha (o := .tmp k) (s := .t k) rfl
theorem results_mapM (hr : Rel W ρ H w) (ha : AR W ρ H.length t a) : ∀ {rs : List ResultVar} {ss : List SRes}, rs.mapM (slimRes P) = some ss → ∀ {vs : List AV}, ss.mapM (result1 t H) = some vs →
    ∃ xs : List Value, (rs.mapM fun r => (match r with | .tmp k => pure (a.tmps.getD k undef) | .cell k ty => do loadVar ty (← asAddr (a.tmps.getD k undef)) : Sem Value)).run P w = .ok xs w ∧ VRs W ρ H.length vs xs
  | [], ss, hs, vs, hv => by
    simp at hs
    subst hs
    simp at hv
    subst hv
    exact ⟨[], by simp, by simp [VRs]⟩
  | r :: rs, ss, hs, vs, hv => by
    simp only [List.mapM_cons, Option.bind_eq_bind, Option.bind_eq_some_iff, Option.pure_def, Option.some.injEq] at hs
    obtain ⟨s, h1, ss, h2, rfl⟩ := hs
    simp only [List.mapM_cons, Option.bind_eq_bind, Option.bind_eq_some_iff, Option.pure_def, Option.some.injEq] at hv
    obtain ⟨v, h3, vs, h4, rfl⟩ := hv
    obtain ⟨xs, h5, h6⟩ := results_mapM hr ha h2 h4
    cases r with
    | tmp k =>
      simp only [slimRes, Option.some.injEq] at h1
      subst h1
      simp only [result1, Option.some.injEq] at h3
      subst h3
      refine ⟨a.tmps.getD k undef :: xs, ?_, by simp only [VRs]; exact ⟨_, _, rfl, getD_ok ha k, h6⟩⟩
      simp only [List.mapM_cons, Sem.run_bind, Sem.run_pure, Result.andThen_ok, h5]
    | cell k ty =>
      simp only [slimRes, Option.map_eq_some_iff] at h1
      obtain ⟨sh, hsh, rfl⟩ := h1
      simp only [result1, Option.bind_eq_some_iff] at h3
      obtain ⟨l, hl, hu⟩ := h3
      obtain ⟨ad, x, q1, q2, q3⟩ := loadVar_ok hsh hr (getD_ok ha k) hl hu
      refine ⟨x :: xs, ?_, by simp only [VRs]; exact ⟨_, _, rfl, q3, h6⟩⟩
      simp only [List.mapM_cons, Sem.run_bind, Sem.run_pure, Result.andThen_ok, h5, q1, show asAddr (.pointer (some ad)) = pure ad from rfl, q2]
theorem resultOf_ways {ss : List SRes} {v : AV} (h : resultOf t H ss = some v) : (∃ vs, ss.mapM (result1 t H) = some vs ∧ ((∃ u, vs = [u] ∧ v = u) ∨ (vs.length ≠ 1 ∧ v = .tup vs))) := by
  unfold resultOf at h
  split at h
  · rename_i r
    exact ⟨[v], by simp [h], .inl ⟨v, rfl, rfl⟩⟩
  · rename_i hne
    simp only [Option.map_eq_some_iff] at h
    obtain ⟨vs, h1, rfl⟩ := h
    refine ⟨vs, h1, .inr ⟨?_, rfl⟩⟩
    intro hl
    have : ∀ {ss : List SRes} {vs : List AV}, ss.mapM (result1 t H) = some vs → ss.length = vs.length := by
      intro ss
      induction ss with
      | nil => intro vs h; simp at h; subst h; rfl
      | cons s ss ih =>
        intro vs h
        simp only [List.mapM_cons, Option.bind_eq_bind, Option.bind_eq_some_iff, Option.pure_def, Option.some.injEq] at h
        obtain ⟨u, _, us, h2, rfl⟩ := h
        simp [ih h2]
    have h3 := this h1
    match ss, h3, hne with
    | [], h3, _ => simp at h3; omega
    | [s], _, hne => exact hne s rfl
    | _ :: _ :: _, h3, _ => simp at h3; omega
theorem results_ok {fn : Func} {ss : List SRes} (hs : fn.results.toList.mapM (slimRes P) = some ss) (hr : Rel W ρ H w) (ha : AR W ρ H.length t a) {v : AV} (hv : resultOf t H ss = some v) :
    ∃ x, (results fn a.tmps).run P w = .ok x w ∧ VR W ρ H.length v x := by
  obtain ⟨vs, h1, h2⟩ := resultOf_ways hv
  obtain ⟨xs, h3, h4⟩ := results_mapM hr ha hs h1
  have hlen := VRs_length h4
  have hrun : (results fn a.tmps).run P w = .ok (if h : xs.toArray.size = 1 then xs.toArray[0] else .tuple xs.toArray) w := by
    have h6 : ∀ m : Sem (List Value), m.run P w = .ok xs w → (List.toArray <$> m).run P w = .ok xs.toArray w := fun m h => by simp [h]
    have h5 := h6 _ h3
    unfold results
    rw [Array.mapM_eq_mapM_toList]
    rw [Sem.run_bind]
    refine (congrArg (fun r => Result.andThen r _) h5).trans ?_
    simp only [Result.andThen_ok, Sem.run_pure]
  rcases h2 with ⟨u, rfl, rfl⟩ | ⟨h2, rfl⟩
  · obtain ⟨x, rfl, hx⟩ := VRs_one h4
    exact ⟨x, by simpa using hrun, hx⟩
  · refine ⟨.tuple xs.toArray, ?_, by simp only [VR]; exact ⟨xs, rfl, h4⟩⟩
    rw [hrun]
    have : ¬ (xs.toArray.size = 1) := by simp; omega
    rw [dif_neg this]
theorem start_ok {args : List AV} {vs : List Value} (hv : VRs W ρ n args vs) (k : Nat) : AR W ρ n (args ++ List.replicate (k - args.length) .undef) { tmps := vs.toArray ++ Array.replicate (k - vs.toArray.size) undef, defers := [] } := by
  refine ⟨rfl, ?_⟩
  have hl := VRs_length hv
  have hrep : ∀ m, VRs W ρ n (List.replicate m AV.undef) (List.replicate m undef) := by
    intro m
    induction m with
    | zero => simp [VRs]
    | succ m ih => simp only [List.replicate_succ, VRs, VR]; exact ⟨_, _, rfl, rfl, ih⟩
  have := VRs_append hv (hrep (k - args.length))
  simpa [hl] using this
/-- What is told of the functions is theirs. -/
structure EnvOk (P : Program) (e : Env) : Prop where
  fns : ∀ f s, e.isI f = false → e.E f = some s → ∃ fn, P.funcs[f]? = some fn ∧ slimF P fn = some s
  intr : ∀ f args H v H', e.isI f = true → e.I f args H = some (v, H') → ∀ (W : World) (ρ : Plan) (w : World) (vs : List Value), Rel W ρ H w → VRs W ρ H.length args vs →
    OpCalls P f vs.toArray w fun x w' => ∃ ρ', Stp W ρ H w ρ' H' w' ∧ VR W ρ' H'.length v x
theorem callN_ok {e : Env} (he : EnvOk P e) (hrd : ∀ cl, ClOk P cl → RegdOk P cl) : ∀ n, ClOk P (callN e n)
  | 0 => fun f args H v H' h => by simp [callN] at h
  | n + 1 => by
    intro f args H v H' h W ρ w vs hr hv
    simp only [callN] at h
    split at h
    · rename_i hI
      exact he.intr f args H v H' hI h W ρ w vs hr hv
    · rename_i hI
      simp only [Option.bind_eq_some_iff] at h
      obtain ⟨s, hs, st, hst, hl⟩ := h
      obtain ⟨fn, hf, hfs⟩ := he.fns f s (by simpa using hI) hs
      simp only [slimF, Option.bind_eq_some_iff] at hfs
      obtain ⟨c, hc, b, hb, rs, hrs, hfs⟩ := hfs
      split at hfs <;> simp only [Option.some.injEq, reduceCtorEq] at hfs
      rename_i hname
      subst hfs
      simp only at hst hl
      refine .inr ⟨?_, ?_⟩
      · simp only [callFunc, Sem.run_bind, run_program, Result.andThen_ok, hf, hname, hc]
        simp
      refine calls_of_wp hf hc ?_
      refine code_ok (callN_ok he hrd n) (hrd _ (callN_ok he hrd n)) n c b hb W ρ H w _ _ hr (start_ok hv fn.ntmps) st hst _ fun a' w' ρ' hstp ha' => ?_
      unfold leave at hl
      have key : ∀ ex : Exit, (ex = .normal ∨ ex = .ret) → ((resultOf st.t st.H rs).map fun v => tidy H v st.H) = some (v, H') → bodyPost P fn (fun | .returned v', w' => (∃ ρ', Stp W ρ H w ρ' H' w' ∧ VR W ρ' H'.length v v') | _, _ => False) ex a' w' := by
        intro ex hex hl
        simp only [Option.map_eq_some_iff] at hl
        obtain ⟨u, hu, ht⟩ := hl
        obtain ⟨x, h1, h2⟩ := results_ok hrs hstp.rel ha' hu
        obtain ⟨ρ2, h3, h4⟩ := tidy_ok hr hstp h2 ht
        rcases hex with rfl | rfl
        · exact ⟨ha'.nod, x, h1, ρ2, h3, h4⟩
        · exact ⟨ha'.nod, x, h1, ρ2, h3, h4⟩
      split at hl
      · cases hl
      · rename_i hx
        cases hx1 : st.x with
        | normal => exact key _ (.inl rfl) hl
        | ret => exact key _ (.inr rfl) hl
        | exit id => exact absurd hx1 (hx id)
end
end Go.Den
