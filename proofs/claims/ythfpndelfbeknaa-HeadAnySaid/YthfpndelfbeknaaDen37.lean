/- A call that needs nothing of the heap: it may be told once and for all. -/
import Derived.Test.YthfpndelfbeknaaDen36
set_option linter.unusedVariables false
set_option linter.unusedSimpArgs false
namespace Go.Den
open Go.RowKit
theorem OR_frame {W : World} {ρ : Plan} {n : Nat} {o : AO} {s : Spot} {w w' : World} (h : OR W ρ n o s w) (hb : ∀ b, b < w.heap.size → w'.heap[b]? = w.heap[b]?) : OR W ρ n o s w' := by
  cases o with
  | cells l e rw =>
    have hlt := OR_lt h (by simp)
    obtain ⟨c, fr, h1, h2⟩ := h
    exact ⟨c, fr, by rw [hb _ hlt]; exact h1, h2⟩
  | iter t p =>
    have hlt := OR_lt h (by simp)
    exact ⟨by rw [hb _ hlt]; exact h.1, h.2⟩
  | dead => exact trivial
theorem awake_ok {P : Program} {cl : CL} {f : Nat} (hs : ClOk P cl) (h : cl f [] [] = some (.bool true, [])) (W : World) (ρ : Plan) (w : World) (H : Heap) (vs : List Value) (hr : Rel W ρ H w) (hv : VRs W ρ H.length [] vs) :
    OpCalls P f vs.toArray w fun x w' => ∃ ρ', Stp W ρ H w ρ' H w' ∧ VR W ρ' H.length (.bool true) x := by
  simp only [VRs] at hv
  subst hv
  refine (hs f [] [] (.bool true) [] h w ρ w [] (rel_start w ρ) (by simp only [VRs])).mono fun x w' hx => ?_
  obtain ⟨ρ', hst, hx⟩ := hx
  have hb := hst.rel.below
  have hbl : ∀ b, b < w.heap.size → w'.heap[b]? = w.heap[b]? := hb.block
  refine ⟨ρ, ⟨fun i _ => rfl, Nat.le_refl _, hst.size, fun b hb' _ => hbl b hb', fun i hi => .inr ⟨i, hi, rfl⟩, ?_⟩, by simpa only [VR] using hx⟩
  exact ⟨hr.below.trans (hb.mono hr.below.size), hr.lo, fun i o ho => OR_frame (hr.obj i o ho) hbl, hr.inj⟩
/-- The machine in which some calls are told. -/
def told (e : Env) (l : List Nat) : Env := { E := e.E, isI := fun f => l.contains f, I := fun f args H => match args with | [] => some (.bool true, H) | _ => none }
theorem told_ok {P : Program} {e : Env} {l : List Nat} (he : ∀ f s, e.E f = some s → ∃ fn, P.funcs[f]? = some fn ∧ slimF P fn = some s) (hs : ClOk P (call e)) (h : ∀ f, l.contains f = true → call e f [] [] = some (.bool true, [])) : EnvOk P (told e l) := by
  refine ⟨fun f s _ hf => he f s hf, fun f args H v H' hI hc W ρ w vs hr hv => ?_⟩
  cases args with
  | nil =>
    have hc' : some (AV.bool true, H) = some (v, H') := hc
    injection hc' with hc'
    injection hc' with h1 h2
    subst h1 h2
    exact awake_ok hs (h f hI) W ρ w H vs hr hv
  | cons a as => cases hc
theorem call_told {e : Env} {l : List Nat} {f : Nat} {H : Heap} (h : l.contains f = true) : call (told e l) f [] H = some (.bool true, H) := call_intr h rfl
end Go.Den
