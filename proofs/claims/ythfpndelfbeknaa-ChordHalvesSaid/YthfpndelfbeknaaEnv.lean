/- The slim functions are the program's. -/
import Derived.Test.YthfpndelfbeknaaProg
import Derived.Test.YthfpndelfbeknaaS
import Derived.Test.YthfpndelfbeknaaDen37
import Derived.KernelRfl
set_option linter.unusedVariables false
set_option maxRecDepth 100000
namespace Go.Proofs.Ythfpndelfbeknaa
open Go Go.Den
theorem e3 : slimF Try.prog Try.f3 = some s3 := by kernel_rfl
theorem e4 : slimF Try.prog Try.f4 = some s4 := by kernel_rfl
theorem e5 : slimF Try.prog Try.f5 = some s5 := by kernel_rfl
theorem e14 : slimF Try.prog Try.f14 = some s14 := by kernel_rfl
theorem e15 : slimF Try.prog Try.f15 = some s15 := by kernel_rfl
theorem e16 : slimF Try.prog Try.f16 = some s16 := by kernel_rfl
theorem e17 : slimF Try.prog Try.f17 = some s17 := by kernel_rfl
theorem e18 : slimF Try.prog Try.f18 = some s18 := by kernel_rfl
theorem e19 : slimF Try.prog Try.f19 = some s19 := by kernel_rfl
theorem e20 : slimF Try.prog Try.f20 = some s20 := by kernel_rfl
theorem e21 : slimF Try.prog Try.f21 = some s21 := by kernel_rfl
theorem e22 : slimF Try.prog Try.f22 = some s22 := by kernel_rfl
theorem e23 : slimF Try.prog Try.f23 = some s23 := by kernel_rfl
theorem e24 : slimF Try.prog Try.f24 = some s24 := by kernel_rfl
theorem e53 : slimF Try.prog Try.f53 = some s53 := by kernel_rfl
theorem e54 : slimF Try.prog Try.f54 = some s54 := by kernel_rfl
theorem e55 : slimF Try.prog Try.f55 = some s55 := by kernel_rfl
theorem e56 : slimF Try.prog Try.f56 = some s56 := by kernel_rfl
theorem e57 : slimF Try.prog Try.f57 = some s57 := by kernel_rfl
theorem e58 : slimF Try.prog Try.f58 = some s58 := by kernel_rfl
theorem e59 : slimF Try.prog Try.f59 = some s59 := by kernel_rfl
theorem e60 : slimF Try.prog Try.f60 = some s60 := by kernel_rfl
theorem e61 : slimF Try.prog Try.f61 = some s61 := by kernel_rfl
theorem e62 : slimF Try.prog Try.f62 = some s62 := by kernel_rfl
theorem e63 : slimF Try.prog Try.f63 = some s63 := by kernel_rfl
theorem e64 : slimF Try.prog Try.f64 = some s64 := by kernel_rfl
theorem e65 : slimF Try.prog Try.f65 = some s65 := by kernel_rfl
theorem e66 : slimF Try.prog Try.f66 = some s66 := by kernel_rfl
theorem e67 : slimF Try.prog Try.f67 = some s67 := by kernel_rfl
theorem e105 : slimF Try.prog Try.f105 = some s105 := by kernel_rfl
theorem mixed : Try.prog.follows .mixedOrders = true := by kernel_rfl
theorem fnsOk : ∀ (f : Nat) (s : SFn), E f = some s → ∃ fn, Try.prog.funcs[f]? = some fn ∧ slimF Try.prog fn = some s := by
  intro f s h
  unfold E at h
  split at h
  · injection h with h; subst h; exact ⟨_, Try.func3, e3⟩
  · injection h with h; subst h; exact ⟨_, Try.func4, e4⟩
  · injection h with h; subst h; exact ⟨_, Try.func5, e5⟩
  · injection h with h; subst h; exact ⟨_, Try.func14, e14⟩
  · injection h with h; subst h; exact ⟨_, Try.func15, e15⟩
  · injection h with h; subst h; exact ⟨_, Try.func16, e16⟩
  · injection h with h; subst h; exact ⟨_, Try.func17, e17⟩
  · injection h with h; subst h; exact ⟨_, Try.func18, e18⟩
  · injection h with h; subst h; exact ⟨_, Try.func19, e19⟩
  · injection h with h; subst h; exact ⟨_, Try.func20, e20⟩
  · injection h with h; subst h; exact ⟨_, Try.func21, e21⟩
  · injection h with h; subst h; exact ⟨_, Try.func22, e22⟩
  · injection h with h; subst h; exact ⟨_, Try.func23, e23⟩
  · injection h with h; subst h; exact ⟨_, Try.func24, e24⟩
  · injection h with h; subst h; exact ⟨_, Try.func53, e53⟩
  · injection h with h; subst h; exact ⟨_, Try.func54, e54⟩
  · injection h with h; subst h; exact ⟨_, Try.func55, e55⟩
  · injection h with h; subst h; exact ⟨_, Try.func56, e56⟩
  · injection h with h; subst h; exact ⟨_, Try.func57, e57⟩
  · injection h with h; subst h; exact ⟨_, Try.func58, e58⟩
  · injection h with h; subst h; exact ⟨_, Try.func59, e59⟩
  · injection h with h; subst h; exact ⟨_, Try.func60, e60⟩
  · injection h with h; subst h; exact ⟨_, Try.func61, e61⟩
  · injection h with h; subst h; exact ⟨_, Try.func62, e62⟩
  · injection h with h; subst h; exact ⟨_, Try.func63, e63⟩
  · injection h with h; subst h; exact ⟨_, Try.func64, e64⟩
  · injection h with h; subst h; exact ⟨_, Try.func65, e65⟩
  · injection h with h; subst h; exact ⟨_, Try.func66, e66⟩
  · injection h with h; subst h; exact ⟨_, Try.func67, e67⟩
  · injection h with h; subst h; exact ⟨_, Try.func105, e105⟩
  · cases h
theorem sound0 : ClOk Try.prog (call env0) := call_sound mixed ⟨fun f s _ h => fnsOk f s h, fun f _ _ _ _ h => by cases h⟩
theorem a14 : call env0 14 [] [] = some (.bool true, []) := call_of (n := 100) (by kernel_rfl)
/-- The machine: the functions, and those that are told once and for all. -/
def env : Env := told env0 [14]
theorem envOk : EnvOk Try.prog env := told_ok fnsOk sound0 fun f hf => by
  simp at hf
  subst hf
  exact a14
theorem w14 (H : Heap) : call env 14 [] H = some (.bool true, H) := call_told rfl
/-- What the machine says of a call is what the program does. -/
theorem sound : ClOk Try.prog (call env) := call_sound mixed envOk
end Go.Proofs.Ythfpndelfbeknaa
