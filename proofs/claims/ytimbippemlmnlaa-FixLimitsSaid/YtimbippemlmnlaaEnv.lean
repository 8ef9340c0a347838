/- The slim functions are the program's. -/
import Derived.Test.YtimbippemlmnlaaProg
import Derived.Test.YtimbippemlmnlaaS
import Derived.Test.YtimbippemlmnlaaDen26
import Derived.KernelRfl
set_option linter.unusedVariables false
set_option maxRecDepth 100000
namespace Go.Proofs.Ytimbippemlmnlaa
open Go Go.Den
theorem e4 : slimF Try.prog Try.f4 = some s4 := by kernel_rfl
theorem e5 : slimF Try.prog Try.f5 = some s5 := by kernel_rfl
theorem e14 : slimF Try.prog Try.f14 = some s14 := by kernel_rfl
theorem e15 : slimF Try.prog Try.f15 = some s15 := by kernel_rfl
theorem e16 : slimF Try.prog Try.f16 = some s16 := by kernel_rfl
theorem e17 : slimF Try.prog Try.f17 = some s17 := by kernel_rfl
theorem e18 : slimF Try.prog Try.f18 = some s18 := by kernel_rfl
theorem e19 : slimF Try.prog Try.f19 = some s19 := by kernel_rfl
theorem e20 : slimF Try.prog Try.f20 = some s20 := by kernel_rfl
theorem e21 : slimF Try.prog Try.f21 = some s21 := by kernel_rfl
theorem e22 : slimF Try.prog Try.f22 = some s22 := by kernel_rfl
theorem e66 : slimF Try.prog Try.f66 = some s66 := by kernel_rfl
theorem e67 : slimF Try.prog Try.f67 = some s67 := by kernel_rfl
theorem mixed : Try.prog.follows .mixedOrders = true := by kernel_rfl
theorem fnsOk : ∀ (f : Nat) (s : SFn), E f = some s → ∃ fn, Try.prog.funcs[f]? = some fn ∧ slimF Try.prog fn = some s := by
  intro f s h
  unfold E at h
  split at h
  · injection h with h; subst h; exact ⟨_, Try.func4, e4⟩
  · injection h with h; subst h; exact ⟨_, Try.func5, e5⟩
  · injection h with h; subst h; exact ⟨_, Try.func14, e14⟩
  · injection h with h; subst h; exact ⟨_, Try.func15, e15⟩
  · injection h with h; subst h; exact ⟨_, Try.func16, e16⟩
  · injection h with h; subst h; exact ⟨_, Try.func17, e17⟩
  · injection h with h; subst h; exact ⟨_, Try.func18, e18⟩
  · injection h with h; subst h; exact ⟨_, Try.func19, e19⟩
  · injection h with h; subst h; exact ⟨_, Try.func20, e20⟩
  · injection h with h; subst h; exact ⟨_, Try.func21, e21⟩
  · injection h with h; subst h; exact ⟨_, Try.func22, e22⟩
  · injection h with h; subst h; exact ⟨_, Try.func66, e66⟩
  · injection h with h; subst h; exact ⟨_, Try.func67, e67⟩
  · cases h
theorem envOk : EnvOk Try.prog env := ⟨fun f s _ h => fnsOk f s h, fun f _ _ _ _ h => by cases h⟩
/-- What the machine says of a call is what the program does. -/
theorem sound : ClOk Try.prog (call env) := call_sound mixed envOk
end Go.Proofs.Ytimbippemlmnlaa
