/- A call of which it is said that it comes to something of a kind. -/
import Derived.Test.YtdlolhkeckjipaaDoorEnv
import Derived.Test.YtdlolhkeckjipaaDoorDen38
set_option linter.unusedVariables false
set_option linter.unusedSimpArgs false
namespace Go.Den
def LeftE (H : Heap) (rs : List SRes) (P : AV × Heap → Prop) : AX → List AV → Heap → Prop := fun x t H1 => ∃ r, leave H rs ⟨x, t, H1⟩ = some r ∧ P r
def Got (P : AV × Heap → Prop) (o : Option AV) (H H1 : Heap) : Prop := ∃ v, o = some v ∧ P (tidy H v H1)
section
variable {H H1 : Heap} {rs : List SRes} {P : AV × Heap → Prop} {t : List AV}
theorem left_got {o : Option AV} : (∃ r, o.map (fun v => tidy H v H1) = some r ∧ P r) = Got P o H H1 := by
  apply propext
  unfold Got
  cases o with
  | none => simp
  | some v => simp
theorem leftE_ret : LeftE H rs P .ret t H1 = Got P (resultOf t H1 rs) H H1 := left_got
theorem leftE_normal : LeftE H rs P .normal t H1 = Got P (resultOf t H1 rs) H H1 := left_got
theorem got_some {v : AV} : Got P (some v) H H1 = P (tidy H v H1) := by
  apply propext; unfold Got; simp
end
theorem call_endsE {e : Env} {f : Nat} {args : List AV} {H : Heap} {W : AV × Heap → Prop} {fn : SFn} (hI : e.isI f = false) (hf : e.E f = some fn) (hl : args.length ≤ fn.ntmps)
    (h : ∀ P : AV × Heap → Prop, (∀ r, W r → P r) → Ends (call e) fn.body (tm (blank fn.ntmps) (idx 0 args)) H (LeftE H fn.results P)) : ∃ r, call e f args H = some r ∧ W r := by
  obtain ⟨⟨x, t, H1⟩, h1, r, h2, h3⟩ := h W fun _ h => h
  exact ⟨r, call_ends hI hf hl ⟨⟨x, t, H1⟩, h1, h2⟩, h3⟩
end Go.Den
