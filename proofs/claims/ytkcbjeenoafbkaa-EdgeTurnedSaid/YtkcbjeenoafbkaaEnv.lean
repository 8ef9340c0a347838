/- The slim functions are the program's. -/
import Derived.Test.YtkcbjeenoafbkaaProg
import Derived.Test.YtkcbjeenoafbkaaS
import Derived.Test.YtkcbjeenoafbkaaDen38
import Derived.KernelRfl
set_option linter.unusedVariables false
set_option maxRecDepth 100000
namespace Go.Proofs.Ytkcbjeenoafbkaa
open Go Go.Den
theorem e3 : slimF Try.prog Try.f3 = some s3 := by kernel_rfl
theorem e4 : slimF Try.prog Try.f4 = some s4 := by kernel_rfl
theorem e5 : slimF Try.prog Try.f5 = some s5 := by kernel_rfl
theorem e13 : slimF Try.prog Try.f13 = some s13 := by kernel_rfl
theorem e14 : slimF Try.prog Try.f14 = some s14 := by kernel_rfl
theorem e15 : slimF Try.prog Try.f15 = some s15 := by kernel_rfl
theorem e16 : slimF Try.prog Try.f16 = some s16 := by kernel_rfl
theorem e17 : slimF Try.prog Try.f17 = some s17 := by kernel_rfl
theorem e18 : slimF Try.prog Try.f18 = some s18 := by kernel_rfl
theorem e19 : slimF Try.prog Try.f19 = some s19 := by kernel_rfl
theorem e20 : slimF Try.prog Try.f20 = some s20 := by kernel_rfl
theorem e21 : slimF Try.prog Try.f21 = some s21 := by kernel_rfl
theorem e22 : slimF Try.prog Try.f22 = some s22 := by kernel_rfl
theorem e23 : slimF Try.prog Try.f23 = some s23 := by kernel_rfl
theorem e24 : slimF Try.prog Try.f24 = some s24 := by kernel_rfl
theorem e41 : slimF Try.prog Try.f41 = some s41 := by kernel_rfl
theorem e42 : slimF Try.prog Try.f42 = some s42 := by kernel_rfl
theorem e43 : slimF Try.prog Try.f43 = some s43 := by kernel_rfl
theorem e44 : slimF Try.prog Try.f44 = some s44 := by kernel_rfl
theorem e45 : slimF Try.prog Try.f45 = some s45 := by kernel_rfl
theorem e46 : slimF Try.prog Try.f46 = some s46 := by kernel_rfl
theorem e47 : slimF Try.prog Try.f47 = some s47 := by kernel_rfl
theorem e48 : slimF Try.prog Try.f48 = some s48 := by kernel_rfl
theorem e76 : slimF Try.prog Try.f76 = some s76 := by kernel_rfl
theorem e77 : slimF Try.prog Try.f77 = some s77 := by kernel_rfl
theorem e78 : slimF Try.prog Try.f78 = some s78 := by kernel_rfl
theorem e79 : slimF Try.prog Try.f79 = some s79 := by kernel_rfl
theorem e80 : slimF Try.prog Try.f80 = some s80 := by kernel_rfl
theorem e102 : slimF Try.prog Try.f102 = some s102 := by kernel_rfl
theorem e103 : slimF Try.prog Try.f103 = some s103 := by kernel_rfl
theorem e104 : slimF Try.prog Try.f104 = some s104 := by kernel_rfl
theorem e122 : slimF Try.prog Try.f122 = some s122 := by kernel_rfl
theorem mixed : Try.prog.follows .mixedOrders = true := by kernel_rfl
theorem fnsOk : ∀ (f : Nat) (s : SFn), E f = some s → ∃ fn, Try.prog.funcs[f]? = some fn ∧ slimF Try.prog fn = some s := by
  intro f s h
  unfold E at h
  split at h
  · injection h with h; subst h; exact ⟨_, Try.func3, e3⟩
  · injection h with h; subst h; exact ⟨_, Try.func4, e4⟩
  · injection h with h; subst h; exact ⟨_, Try.func5, e5⟩
  · injection h with h; subst h; exact ⟨_, Try.func13, e13⟩
  · injection h with h; subst h; exact ⟨_, Try.func14, e14⟩
  · injection h with h; subst h; exact ⟨_, Try.func15, e15⟩
  · injection h with h; subst h; exact ⟨_, Try.func16, e16⟩
  · injection h with h; subst h; exact ⟨_, Try.func17, e17⟩
  · injection h with h; subst h; exact ⟨_, Try.func18, e18⟩
  · injection h with h; subst h; exact ⟨_, Try.func19, e19⟩
  · injection h with h; subst h; exact ⟨_, Try.func20, e20⟩
  · injection h with h; subst h; exact ⟨_, Try.func21, e21⟩
  · injection h with h; subst h; exact ⟨_, Try.func22, e22⟩
  · injection h with h; subst h; exact ⟨_, Try.func23, e23⟩
  · injection h with h; subst h; exact ⟨_, Try.func24, e24⟩
  · injection h with h; subst h; exact ⟨_, Try.func41, e41⟩
  · injection h with h; subst h; exact ⟨_, Try.func42, e42⟩
  · injection h with h; subst h; exact ⟨_, Try.func43, e43⟩
  · injection h with h; subst h; exact ⟨_, Try.func44, e44⟩
  · injection h with h; subst h; exact ⟨_, Try.func45, e45⟩
  · injection h with h; subst h; exact ⟨_, Try.func46, e46⟩
  · injection h with h; subst h; exact ⟨_, Try.func47, e47⟩
  · injection h with h; subst h; exact ⟨_, Try.func48, e48⟩
  · injection h with h; subst h; exact ⟨_, Try.func76, e76⟩
  · injection h with h; subst h; exact ⟨_, Try.func77, e77⟩
  · injection h with h; subst h; exact ⟨_, Try.func78, e78⟩
  · injection h with h; subst h; exact ⟨_, Try.func79, e79⟩
  · injection h with h; subst h; exact ⟨_, Try.func80, e80⟩
  · injection h with h; subst h; exact ⟨_, Try.func102, e102⟩
  · injection h with h; subst h; exact ⟨_, Try.func103, e103⟩
  · injection h with h; subst h; exact ⟨_, Try.func104, e104⟩
  · injection h with h; subst h; exact ⟨_, Try.func122, e122⟩
  · cases h
theorem sound0 : ClOk Try.prog (call env0) := call_sound mixed ⟨fun f s _ h => fnsOk f s h, fun f _ _ _ _ h => by cases h⟩
theorem a13 : call env0 13 [] [] = some (.bool true, []) := call_of (n := 100) (by kernel_rfl)
/-- The machine: the functions, and those that are told once and for all. -/
def env : Env := told env0 [13]
theorem envOk : EnvOk Try.prog env := told_ok fnsOk sound0 fun f hf => by
  simp at hf
  subst hf
  exact a13
theorem w13 (H : Heap) : call env 13 [] H = some (.bool true, H) := call_told rfl
/-- What the machine says of a call is what the program does. -/
theorem sound : ClOk Try.prog (call env) := call_sound mixed envOk
end Go.Proofs.Ytkcbjeenoafbkaa
