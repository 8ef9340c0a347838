/- The machine: texts 39 to 39. -/
import Derived.Test.YtppkggodpihfiaaDen38
import Derived.Shelf.Strings.Builder1
/- strings.Builder: copyCheck, told once and for all. -/
set_option linter.unusedVariables false
set_option linter.unusedSimpArgs false
namespace Go.Proofs
open Go.Shelf Go.RowKit
set_option maxHeartbeats 1000000 in
set_option maxRecDepth 100000 in
/-- copyCheck at a fresh builder that is the first of a block, of whatever type: it stores its own address. -/
theorem Any.copyCheck_first {P : Program} {ρ : Ren} (L : Lays.n240 P ρ) (X : Builder.X72 P ρ) (b : Nat) (w : World) {e : TypeId} (hlie : liesAt P P.depth e (2 / P.cellsOf e) 0 (ρ.t 72) 1 = true) (h0 : w.cell? ⟨b, 0, none⟩ = some (.pointer none)) (hsh : w.shape? b = some (e, 2)) (hfz : w.frozen? ⟨b, 0, none⟩ = false) :
    Calls P (ρ.f 240) #[.pointer (some ⟨b, 0, none⟩)] w fun e w' => e = .returned (.tuple #[]) ∧ w' = w.setCell ⟨b, 0, none⟩ (.pointer (some ⟨b, 0, none⟩)) := by
  obtain ⟨j, hj, hjs⟩ := Option.map_eq_some_iff.1 X.sizeBuilder
  have mixed := L.mixed
  have t72 := L.t72; have a72 := L.a72; have z72 := L.z72; have v72 := L.v72; have u72 := run_underlying L.t72
  have t70 := L.t70; have a70 := L.a70; have z70 := L.z70; have v70 := L.v70; have u70 := run_underlying L.t70
  have t9 := L.t9; have a9 := L.a9; have z9 := L.z9; have v9 := L.v9; have u9 := run_underlying L.t9
  have t4 := L.t4; have a4 := L.a4; have z4 := L.z4; have v4 := L.v4; have u4 := run_underlying L.t4
  have t164 := L.t164; have a164 := L.a164; have z164 := L.z164; have v164 := L.v164; have u164 := run_underlying L.t164
  go_enter L.f240, Body.n240_ntmps ρ
  go_wp2
  rw [Lib.run_to_unsafe w ⟨b, 0, none⟩ L.t70 L.t164 hj (by rw [hjs]; decide) hsh (Nat.zero_lt_succ 1)]
  simp only [Result.andThen]
  rw [Oper.upon_value]
  go_wp2
  rw [run_callFunc_extern L.f276 (by kernel_rfl) (by kernel_rfl) (by kernel_rfl) (e := Extern.AbiNoEscape.same) (by kernel_rfl)]
  rw [Lib.run_noEscape]
  simp only [Result.andThen]
  rw [Oper.upon_value]
  go_wp2
  rw [Lib.run_from_unsafe w ⟨b, 0, none⟩ L.t164 L.t70 hj hsh hlie]
  simp only [Result.andThen]
  rw [Oper.upon_value]
  go_wp2
  go_end0
  exact ⟨rfl, rfl⟩
end Go.Proofs
namespace Go.Den
open Go.Shelf
/-- copyCheck of a builder in a row of its own: a fresh one, or one that bears its own address. -/
def bldCheck (args : List AV) (H : Heap) : Option (AV × Heap) :=
  match args with
  | [.ptr o 0] =>
    match H[o]? with
    | some (.cells [a, b] e true) =>
      if whole e then
        match a with
        | .nilp => some (.tup [], H.set o (.cells [.ptr o 0, b] e true))
        | .ptr o' 0 => if o' = o then some (.tup [], H) else none
        | _ => none
      else none
    | _ => none
  | _ => none
theorem bldCheck_ok {P : Program} {r : Ren} (L : Go.Proofs.Lays.n240 P r) (X : Go.Proofs.Builder.X72 P r) (hwh : ∀ e, whole e = true → liesAt P P.depth e (2 / P.cellsOf e) 0 (r.t 72) 1 = true) {args : List AV} {H : Heap} {v : AV} {H' : Heap} (h : bldCheck args H = some (v, H'))
    (W : World) (ρ : Plan) (w : World) (vs : List Value) (hr : Rel W ρ H w) (hv : VRs W ρ H.length args vs) : OpCalls P (r.f 240) vs.toArray w fun x w' => ∃ ρ', Stp W ρ H w ρ' H' w' ∧ VR W ρ' H'.length v x := by
  unfold bldCheck at h
  split at h <;> (try (cases h; done))
  rename_i o
  split at h <;> (try (cases h; done))
  rename_i a b e hH
  split at h <;> (try (cases h; done))
  rename_i hw
  have hlie := hwh e hw
  simp only [VRs, VR] at hv
  obtain ⟨x, rest, rfl, ⟨ho, rfl⟩, rfl⟩ := hv
  obtain ⟨c, fr, hc, hcz, hl, hcv, hfr, hwo⟩ := hr.obj o _ hH
  obtain ⟨hd, hz⟩ := hwo hw
  obtain ⟨x0, hx0, hvx0, _⟩ := hcv 0 a rfl
  simp only [hd, Nat.zero_add, Nat.add_zero] at hx0 ⊢
  have hz2 : c.size = 2 := by rw [hcz, hz]; rfl
  have hbody : (callFunc (r.f 240) #[.pointer (some ⟨(ρ o).b, 0, none⟩)]).run P w = .ok (.enter (r.f 240) #[.pointer (some ⟨(ρ o).b, 0, none⟩)]) w := by
    simp only [callFunc, Sem.run_bind, run_program, Result.andThen_ok, L.f240]
    rfl
  split at h <;> (try (cases h; done))
  · simp only [Option.some.injEq, Prod.mk.injEq] at h
    obtain ⟨rfl, rfl⟩ := h
    simp only [VR] at hvx0
    subst hvx0
    have h0 : w.cell? ⟨(ρ o).b, 0, none⟩ = some (.pointer none) := by rw [cell_at hc]; exact hx0
    have hsh : w.shape? (ρ o).b = some (e, 2) := by simp [World.shape?, hc, hz2]
    have hfz : w.frozen? ⟨(ρ o).b, 0, none⟩ = false := by
      have := hfr.not (.inl rfl) (Nat.le_refl 0) (i := 0) (by rw [← hcz, hz2]; omega)
      simp [World.frozen?, hc]
      intro h5
      omega
    refine .inr ⟨hbody, (Go.Proofs.Any.copyCheck_first L X (ρ o).b w hlie h0 hsh hfz).mono fun ex w' hx => ?_⟩
    obtain ⟨rfl, rfl⟩ := hx
    have hp : VR W ρ H.length (.ptr o 0) (.pointer (some ⟨(ρ o).b, (ρ o).d + 0, none⟩)) := by simp only [VR]; exact ⟨ho, trivial⟩
    have hs : astore H (.ptr o 0) [.ptr o 0] = some (H.set o (.cells [.ptr o 0, b] e true)) := by
      simp [astore, hH, AV.one, splice]
    obtain ⟨a', w', q1, q2, q3⟩ := astore_ok (P := P) hr hp (xs := [.pointer (some ⟨(ρ o).b, (ρ o).d + 0, none⟩)]) (by simp only [VRs]; exact ⟨_, _, rfl, hp, rfl⟩) hs
    injection q1 with q1
    injection q1 with q1
    obtain ⟨r1, _⟩ := write_ok (P := P) (vs := [.ptr o 0]) (hr.obj o _ hH) (xs := [.pointer (some ⟨(ρ o).b, (ρ o).d + 0, none⟩)]) (o := 0) (.inl rfl) (by simp [hd, hz]) (by simp [Value.oneCell'])
    rw [← q1, r1] at q2
    injection q2 with _ q2
    refine ⟨ρ, ?_, by simp only [VR]; exact ⟨[], rfl, by simp only [VRs]⟩⟩
    rw [← q2] at q3
    simpa [World.setCells, hd] using q3
  · rename_i o' hone
    split at h <;> simp only [Option.some.injEq, Prod.mk.injEq, reduceCtorEq] at h
    rename_i hoo
    subst hoo
    obtain ⟨rfl, rfl⟩ := h
    simp only [VR, hd, Nat.add_zero] at hvx0
    have h0 : w.cell? ⟨(ρ o').b, 0, none⟩ = some (.pointer (some ⟨(ρ o').b, 0, none⟩)) := by rw [cell_at hc, hx0, hvx0.2]
    refine .inr ⟨hbody, (Go.Proofs.Any.Builder_copyCheck_used L X (ρ o').b w h0).mono fun ex w' hx => ?_⟩
    obtain ⟨rfl, rfl⟩ := hx
    exact ⟨ρ, .refl hr, by simp only [VR]; exact ⟨[], rfl, by simp only [VRs]⟩⟩
/-- The machine in which copyCheck, f, and some calls are told. -/
def toldB (e : Env) (l : List Nat) (f : Nat) : Env := { E := e.E, isI := fun g => g == f || l.contains g, I := fun g args H => if g == f then bldCheck args H else match args with | [] => some (.bool true, H) | _ => none }
theorem toldB_ok {P : Program} {r : Ren} (L : Go.Proofs.Lays.n240 P r) (X : Go.Proofs.Builder.X72 P r) (hwh : ∀ e, whole e = true → liesAt P P.depth e (2 / P.cellsOf e) 0 (r.t 72) 1 = true) {e : Env} {l : List Nat} (he : ∀ f s, e.E f = some s → ∃ fn, P.funcs[f]? = some fn ∧ slimF P fn = some s)
    (hs : ClOk P (call e)) (h : ∀ f, l.contains f = true → call e f [] [] = some (.bool true, [])) : EnvOk P (toldB e l (r.f 240)) := by
  refine ⟨fun f s _ hf => he f s hf, fun f args H v H' hI hc W ρ w vs hr hv => ?_⟩
  simp only [toldB] at hc hI
  split at hc
  · rename_i hf
    obtain rfl : f = r.f 240 := by simpa using hf
    exact bldCheck_ok L X hwh hc W ρ w vs hr hv
  · rename_i hf
    have hl : l.contains f = true := by
      rcases Bool.or_eq_true _ _ |>.mp hI with h1 | h1
      · exact absurd h1 hf
      · exact h1
    cases args with
    | nil =>
      have hc' : some (AV.bool true, H) = some (v, H') := hc
      injection hc' with hc'
      injection hc' with h1 h2
      subst h1 h2
      exact awake_ok hs (h f hl) W ρ w H vs hr hv
    | cons x xs => cases hc
theorem call_isI {e : Env} {f : Nat} {args : List AV} {H : Heap} (hI : e.isI f = true) : call e f args H = e.I f args H := opt_ext fun r =>
  ⟨fun h => by
    obtain ⟨n, hn⟩ := call_iff.1 h
    cases n with
    | zero => simp [callN] at hn
    | succ n => rw [callN, if_pos hI] at hn; exact hn, fun h => call_intr hI h⟩
/-- The machine in which one function more is told. -/
def tell (e : Env) (g : Nat) (J : CL) : Env := { E := e.E, isI := fun f => f == g || e.isI f, I := fun f args H => if f == g then J f args H else e.I f args H }
/-- What is told truly changes nothing. -/
theorem tell_less {e : Env} {g : Nat} {J : CL} (hJ : ∀ args H r, J g args H = some r → call e g args H = some r) : ∀ n, Less (callN (tell e g J) n) (call e)
  | 0, f, args, H, r, hr => by simp [callN] at hr
  | n + 1, f, args, H, r, hr => by
    rw [callN] at hr
    by_cases hg : f = g
    · subst hg
      simp only [tell, beq_self_eq_true, Bool.true_or, if_true] at hr
      exact hJ _ _ _ hr
    · have hb : (f == g) = false := by simpa using hg
      simp only [tell, hb, Bool.false_or, Bool.false_eq_true, if_false] at hr
      cases hI : e.isI f with
      | true => rw [hI, if_pos rfl] at hr; exact call_intr hI hr
      | false =>
        rw [hI, if_neg (by simp)] at hr
        simp only [Option.bind_eq_some_iff] at hr
        obtain ⟨fn, hf, s, h1, h2⟩ := hr
        have ih : Less (callN (tell e g J) n) (call e) := tell_less hJ n
        refine call_body hI hf ?_
        simp only [Option.bind_eq_some_iff]
        exact ⟨s, code_iff.2 ⟨n, (codeW_less ih h1).2⟩, h2⟩
end Go.Den
