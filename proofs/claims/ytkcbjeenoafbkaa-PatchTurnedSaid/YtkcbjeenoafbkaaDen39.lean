/- The machine: texts 39 to 39. -/
import Derived.Test.YtkcbjeenoafbkaaDen38
import Derived.Shelf.Strings.Builder1
/- strings.Builder: copyCheck, told once and for all. -/
set_option linter.unusedVariables false
set_option linter.unusedSimpArgs false
namespace Go.Den
open Go.Shelf
/-- copyCheck of a builder in a row of its own: a fresh one, or one that bears its own address. -/
def bldCheck (args : List AV) (H : Heap) : Option (AV × Heap) :=
  match args with
  | [.ptr o 0] =>
    match H[o]? with
    | some (.cells [a, b] e true) =>
      if whole e then
        match a with
        | .nilp => some (.tup [], H.set o (.cells [.ptr o 0, b] e true))
        | .ptr o' 0 => if o' = o then some (.tup [], H) else none
        | _ => none
      else none
    | _ => none
  | _ => none
theorem bldCheck_ok {P : Program} {r : Ren} (L : Go.Proofs.Lays.n240 P r) (X : Go.Proofs.Builder.X72 P r) (hwh : ∀ e, whole e = true → e = r.t 72) {args : List AV} {H : Heap} {v : AV} {H' : Heap} (h : bldCheck args H = some (v, H'))
    (W : World) (ρ : Plan) (w : World) (vs : List Value) (hr : Rel W ρ H w) (hv : VRs W ρ H.length args vs) : OpCalls P (r.f 240) vs.toArray w fun x w' => ∃ ρ', Stp W ρ H w ρ' H' w' ∧ VR W ρ' H'.length v x := by
  unfold bldCheck at h
  split at h <;> (try (cases h; done))
  rename_i o
  split at h <;> (try (cases h; done))
  rename_i a b e hH
  split at h <;> (try (cases h; done))
  rename_i hw
  have he := hwh e hw
  subst he
  simp only [VRs, VR] at hv
  obtain ⟨x, rest, rfl, ⟨ho, rfl⟩, rfl⟩ := hv
  obtain ⟨c, fr, hc, hcz, hl, hcv, hfr, hwo⟩ := hr.obj o _ hH
  obtain ⟨hd, hz⟩ := hwo hw
  obtain ⟨x0, hx0, hvx0, _⟩ := hcv 0 a rfl
  simp only [hd, Nat.zero_add, Nat.add_zero] at hx0 ⊢
  have hz2 : c.size = 2 := by rw [hcz, hz]; rfl
  have hbody : (callFunc (r.f 240) #[.pointer (some ⟨(ρ o).b, 0, none⟩)]).run P w = .ok (.enter (r.f 240) #[.pointer (some ⟨(ρ o).b, 0, none⟩)]) w := by
    simp only [callFunc, Sem.run_bind, run_program, Result.andThen_ok, L.f240]
    rfl
  split at h <;> (try (cases h; done))
  · simp only [Option.some.injEq, Prod.mk.injEq] at h
    obtain ⟨rfl, rfl⟩ := h
    simp only [VR] at hvx0
    subst hvx0
    have h0 : w.cell? ⟨(ρ o).b, 0, none⟩ = some (.pointer none) := by rw [cell_at hc]; exact hx0
    have hsh : w.shape? (ρ o).b = some (r.t 72, 2) := by simp [World.shape?, hc, hz2]
    have hfz : w.frozen? ⟨(ρ o).b, 0, none⟩ = false := by
      have := hfr rfl 0 (by rw [← hcz, hz2]; omega)
      simp [World.frozen?, hc]
      intro h5
      omega
    refine .inr ⟨hbody, (Go.Proofs.Any.Builder_copyCheck_fresh L X (ρ o).b w h0 hsh hfz).mono fun ex w' hx => ?_⟩
    obtain ⟨rfl, rfl⟩ := hx
    have hp : VR W ρ H.length (.ptr o 0) (.pointer (some ⟨(ρ o).b, (ρ o).d + 0, none⟩)) := by simp only [VR]; exact ⟨ho, trivial⟩
    have hs : astore H (.ptr o 0) [.ptr o 0] = some (H.set o (.cells [.ptr o 0, b] (r.t 72) true)) := by
      simp [astore, hH, AV.one, splice]
    obtain ⟨a', w', q1, q2, q3⟩ := astore_ok (P := P) hr hp (xs := [.pointer (some ⟨(ρ o).b, (ρ o).d + 0, none⟩)]) (by simp only [VRs]; exact ⟨_, _, rfl, hp, rfl⟩) hs
    injection q1 with q1
    injection q1 with q1
    obtain ⟨r1, _⟩ := write_ok (P := P) (vs := [.ptr o 0]) (hr.obj o _ hH) (xs := [.pointer (some ⟨(ρ o).b, (ρ o).d + 0, none⟩)]) (o := 0) (by simp [hd, hz]) (by simp [Value.oneCell'])
    rw [← q1, r1] at q2
    injection q2 with _ q2
    refine ⟨ρ, ?_, by simp only [VR]; exact ⟨[], rfl, by simp only [VRs]⟩⟩
    rw [← q2] at q3
    simpa [World.setCells, hd] using q3
  · rename_i o' hone
    split at h <;> simp only [Option.some.injEq, Prod.mk.injEq, reduceCtorEq] at h
    rename_i hoo
    subst hoo
    obtain ⟨rfl, rfl⟩ := h
    simp only [VR, hd, Nat.add_zero] at hvx0
    have h0 : w.cell? ⟨(ρ o').b, 0, none⟩ = some (.pointer (some ⟨(ρ o').b, 0, none⟩)) := by rw [cell_at hc, hx0, hvx0.2]
    refine .inr ⟨hbody, (Go.Proofs.Any.Builder_copyCheck_used L X (ρ o').b w h0).mono fun ex w' hx => ?_⟩
    obtain ⟨rfl, rfl⟩ := hx
    exact ⟨ρ, .refl hr, by simp only [VR]; exact ⟨[], rfl, by simp only [VRs]⟩⟩
/-- The machine in which copyCheck, f, and some calls are told. -/
def toldB (e : Env) (l : List Nat) (f : Nat) : Env := { E := e.E, isI := fun g => g == f || l.contains g, I := fun g args H => if g == f then bldCheck args H else match args with | [] => some (.bool true, H) | _ => none }
theorem toldB_ok {P : Program} {r : Ren} (L : Go.Proofs.Lays.n240 P r) (X : Go.Proofs.Builder.X72 P r) (hwh : ∀ e, whole e = true → e = r.t 72) {e : Env} {l : List Nat} (he : ∀ f s, e.E f = some s → ∃ fn, P.funcs[f]? = some fn ∧ slimF P fn = some s)
    (hs : ClOk P (call e)) (h : ∀ f, l.contains f = true → call e f [] [] = some (.bool true, [])) : EnvOk P (toldB e l (r.f 240)) := by
  refine ⟨fun f s _ hf => he f s hf, fun f args H v H' hI hc W ρ w vs hr hv => ?_⟩
  simp only [toldB] at hc hI
  split at hc
  · rename_i hf
    obtain rfl : f = r.f 240 := by simpa using hf
    exact bldCheck_ok L X hwh hc W ρ w vs hr hv
  · rename_i hf
    have hl : l.contains f = true := by
      rcases Bool.or_eq_true _ _ |>.mp hI with h1 | h1
      · exact absurd h1 hf
      · exact h1
    cases args with
    | nil =>
      have hc' : some (AV.bool true, H) = some (v, H') := hc
      injection hc' with hc'
      injection hc' with h1 h2
      subst h1 h2
      exact awake_ok hs (h f hl) W ρ w H vs hr hv
    | cons x xs => cases hc
theorem call_isI {e : Env} {f : Nat} {args : List AV} {H : Heap} (hI : e.isI f = true) : call e f args H = e.I f args H := opt_ext fun r =>
  ⟨fun h => by
    obtain ⟨n, hn⟩ := call_iff.1 h
    cases n with
    | zero => simp [callN] at hn
    | succ n => rw [callN, if_pos hI] at hn; exact hn, fun h => call_intr hI h⟩
end Go.Den
