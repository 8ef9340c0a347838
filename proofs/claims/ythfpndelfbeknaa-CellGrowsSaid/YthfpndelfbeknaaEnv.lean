/- The slim functions are the program's. -/
import Derived.Test.YthfpndelfbeknaaProg
import Derived.Test.YthfpndelfbeknaaS
import Derived.Test.YthfpndelfbeknaaDen37
import Derived.KernelRfl
set_option linter.unusedVariables false
set_option maxRecDepth 100000
namespace Go.Proofs.Ythfpndelfbeknaa
open Go Go.Den
theorem e6 : slimF Try.prog Try.f6 = some s6 := by kernel_rfl
theorem e7 : slimF Try.prog Try.f7 = some s7 := by kernel_rfl
theorem e23 : slimF Try.prog Try.f23 = some s23 := by kernel_rfl
theorem e25 : slimF Try.prog Try.f25 = some s25 := by kernel_rfl
theorem e26 : slimF Try.prog Try.f26 = some s26 := by kernel_rfl
theorem e27 : slimF Try.prog Try.f27 = some s27 := by kernel_rfl
theorem e28 : slimF Try.prog Try.f28 = some s28 := by kernel_rfl
theorem e29 : slimF Try.prog Try.f29 = some s29 := by kernel_rfl
theorem e30 : slimF Try.prog Try.f30 = some s30 := by kernel_rfl
theorem e31 : slimF Try.prog Try.f31 = some s31 := by kernel_rfl
theorem e32 : slimF Try.prog Try.f32 = some s32 := by kernel_rfl
theorem e55 : slimF Try.prog Try.f55 = some s55 := by kernel_rfl
theorem e65 : slimF Try.prog Try.f65 = some s65 := by kernel_rfl
theorem e66 : slimF Try.prog Try.f66 = some s66 := by kernel_rfl
theorem e68 : slimF Try.prog Try.f68 = some s68 := by kernel_rfl
theorem e69 : slimF Try.prog Try.f69 = some s69 := by kernel_rfl
theorem e70 : slimF Try.prog Try.f70 = some s70 := by kernel_rfl
theorem e71 : slimF Try.prog Try.f71 = some s71 := by kernel_rfl
theorem e72 : slimF Try.prog Try.f72 = some s72 := by kernel_rfl
theorem e73 : slimF Try.prog Try.f73 = some s73 := by kernel_rfl
theorem e74 : slimF Try.prog Try.f74 = some s74 := by kernel_rfl
theorem e75 : slimF Try.prog Try.f75 = some s75 := by kernel_rfl
theorem e76 : slimF Try.prog Try.f76 = some s76 := by kernel_rfl
theorem e77 : slimF Try.prog Try.f77 = some s77 := by kernel_rfl
theorem e78 : slimF Try.prog Try.f78 = some s78 := by kernel_rfl
theorem e106 : slimF Try.prog Try.f106 = some s106 := by kernel_rfl
theorem e107 : slimF Try.prog Try.f107 = some s107 := by kernel_rfl
theorem e108 : slimF Try.prog Try.f108 = some s108 := by kernel_rfl
theorem e109 : slimF Try.prog Try.f109 = some s109 := by kernel_rfl
theorem e110 : slimF Try.prog Try.f110 = some s110 := by kernel_rfl
theorem e111 : slimF Try.prog Try.f111 = some s111 := by kernel_rfl
theorem mixed : Try.prog.follows .mixedOrders = true := by kernel_rfl
theorem fnsOk : ∀ (f : Nat) (s : SFn), E f = some s → ∃ fn, Try.prog.funcs[f]? = some fn ∧ slimF Try.prog fn = some s := by
  intro f s h
  unfold E at h
  split at h
  · injection h with h; subst h; exact ⟨_, Try.func6, e6⟩
  · injection h with h; subst h; exact ⟨_, Try.func7, e7⟩
  · injection h with h; subst h; exact ⟨_, Try.func23, e23⟩
  · injection h with h; subst h; exact ⟨_, Try.func25, e25⟩
  · injection h with h; subst h; exact ⟨_, Try.func26, e26⟩
  · injection h with h; subst h; exact ⟨_, Try.func27, e27⟩
  · injection h with h; subst h; exact ⟨_, Try.func28, e28⟩
  · injection h with h; subst h; exact ⟨_, Try.func29, e29⟩
  · injection h with h; subst h; exact ⟨_, Try.func30, e30⟩
  · injection h with h; subst h; exact ⟨_, Try.func31, e31⟩
  · injection h with h; subst h; exact ⟨_, Try.func32, e32⟩
  · injection h with h; subst h; exact ⟨_, Try.func55, e55⟩
  · injection h with h; subst h; exact ⟨_, Try.func65, e65⟩
  · injection h with h; subst h; exact ⟨_, Try.func66, e66⟩
  · injection h with h; subst h; exact ⟨_, Try.func68, e68⟩
  · injection h with h; subst h; exact ⟨_, Try.func69, e69⟩
  · injection h with h; subst h; exact ⟨_, Try.func70, e70⟩
  · injection h with h; subst h; exact ⟨_, Try.func71, e71⟩
  · injection h with h; subst h; exact ⟨_, Try.func72, e72⟩
  · injection h with h; subst h; exact ⟨_, Try.func73, e73⟩
  · injection h with h; subst h; exact ⟨_, Try.func74, e74⟩
  · injection h with h; subst h; exact ⟨_, Try.func75, e75⟩
  · injection h with h; subst h; exact ⟨_, Try.func76, e76⟩
  · injection h with h; subst h; exact ⟨_, Try.func77, e77⟩
  · injection h with h; subst h; exact ⟨_, Try.func78, e78⟩
  · injection h with h; subst h; exact ⟨_, Try.func106, e106⟩
  · injection h with h; subst h; exact ⟨_, Try.func107, e107⟩
  · injection h with h; subst h; exact ⟨_, Try.func108, e108⟩
  · injection h with h; subst h; exact ⟨_, Try.func109, e109⟩
  · injection h with h; subst h; exact ⟨_, Try.func110, e110⟩
  · injection h with h; subst h; exact ⟨_, Try.func111, e111⟩
  · cases h
theorem sound0 : ClOk Try.prog (call env0) := call_sound mixed ⟨fun f s _ h => fnsOk f s h, fun f _ _ _ _ h => by cases h⟩
theorem a25 : call env0 25 [] [] = some (.bool true, []) := call_of (n := 100) (by kernel_rfl)
/-- The machine: the functions, and those that are told once and for all. -/
def env : Env := told env0 [25]
theorem envOk : EnvOk Try.prog env := told_ok fnsOk sound0 fun f hf => by
  simp at hf
  subst hf
  exact a25
theorem w25 (H : Heap) : call env 25 [] H = some (.bool true, H) := call_told rfl
/-- What the machine says of a call is what the program does. -/
theorem sound : ClOk Try.prog (call env) := call_sound mixed envOk
end Go.Proofs.Ythfpndelfbeknaa
