/- The slim functions are the program's. -/
import Derived.Test.YtkcbjeenoafbkaaProg
import Derived.Test.YtkcbjeenoafbkaaS
import Derived.Test.YtkcbjeenoafbkaaDen39
import Derived.KernelRfl
set_option linter.unusedVariables false
set_option maxRecDepth 100000
namespace Go.Proofs.Ytkcbjeenoafbkaa
open Go Go.Den
theorem e6 : slimF Try.prog Try.f6 = some s6 := by kernel_rfl
theorem e7 : slimF Try.prog Try.f7 = some s7 := by kernel_rfl
theorem e8 : slimF Try.prog Try.f8 = some s8 := by kernel_rfl
theorem e25 : slimF Try.prog Try.f25 = some s25 := by kernel_rfl
theorem e26 : slimF Try.prog Try.f26 = some s26 := by kernel_rfl
theorem e27 : slimF Try.prog Try.f27 = some s27 := by kernel_rfl
theorem e28 : slimF Try.prog Try.f28 = some s28 := by kernel_rfl
theorem e29 : slimF Try.prog Try.f29 = some s29 := by kernel_rfl
theorem e30 : slimF Try.prog Try.f30 = some s30 := by kernel_rfl
theorem e31 : slimF Try.prog Try.f31 = some s31 := by kernel_rfl
theorem e32 : slimF Try.prog Try.f32 = some s32 := by kernel_rfl
theorem e49 : slimF Try.prog Try.f49 = some s49 := by kernel_rfl
theorem e50 : slimF Try.prog Try.f50 = some s50 := by kernel_rfl
theorem e51 : slimF Try.prog Try.f51 = some s51 := by kernel_rfl
theorem e52 : slimF Try.prog Try.f52 = some s52 := by kernel_rfl
theorem e53 : slimF Try.prog Try.f53 = some s53 := by kernel_rfl
theorem e54 : slimF Try.prog Try.f54 = some s54 := by kernel_rfl
theorem e55 : slimF Try.prog Try.f55 = some s55 := by kernel_rfl
theorem e56 : slimF Try.prog Try.f56 = some s56 := by kernel_rfl
theorem e57 : slimF Try.prog Try.f57 = some s57 := by kernel_rfl
theorem e58 : slimF Try.prog Try.f58 = some s58 := by kernel_rfl
theorem e59 : slimF Try.prog Try.f59 = some s59 := by kernel_rfl
theorem e60 : slimF Try.prog Try.f60 = some s60 := by kernel_rfl
theorem e81 : slimF Try.prog Try.f81 = some s81 := by kernel_rfl
theorem e82 : slimF Try.prog Try.f82 = some s82 := by kernel_rfl
theorem e83 : slimF Try.prog Try.f83 = some s83 := by kernel_rfl
theorem e84 : slimF Try.prog Try.f84 = some s84 := by kernel_rfl
theorem e85 : slimF Try.prog Try.f85 = some s85 := by kernel_rfl
theorem e86 : slimF Try.prog Try.f86 = some s86 := by kernel_rfl
theorem e87 : slimF Try.prog Try.f87 = some s87 := by kernel_rfl
theorem e88 : slimF Try.prog Try.f88 = some s88 := by kernel_rfl
theorem e89 : slimF Try.prog Try.f89 = some s89 := by kernel_rfl
theorem e90 : slimF Try.prog Try.f90 = some s90 := by kernel_rfl
theorem e91 : slimF Try.prog Try.f91 = some s91 := by kernel_rfl
theorem e105 : slimF Try.prog Try.f105 = some s105 := by kernel_rfl
theorem e106 : slimF Try.prog Try.f106 = some s106 := by kernel_rfl
theorem e107 : slimF Try.prog Try.f107 = some s107 := by kernel_rfl
theorem e108 : slimF Try.prog Try.f108 = some s108 := by kernel_rfl
theorem e109 : slimF Try.prog Try.f109 = some s109 := by kernel_rfl
theorem e110 : slimF Try.prog Try.f110 = some s110 := by kernel_rfl
theorem e111 : slimF Try.prog Try.f111 = some s111 := by kernel_rfl
theorem e112 : slimF Try.prog Try.f112 = some s112 := by kernel_rfl
theorem e114 : slimF Try.prog Try.f114 = some s114 := by kernel_rfl
theorem mixed : Try.prog.follows .mixedOrders = true := by kernel_rfl
theorem fnsOk : ∀ (f : Nat) (s : SFn), E f = some s → ∃ fn, Try.prog.funcs[f]? = some fn ∧ slimF Try.prog fn = some s := by
  intro f s h
  unfold E at h
  split at h
  · injection h with h; subst h; exact ⟨_, Try.func6, e6⟩
  · injection h with h; subst h; exact ⟨_, Try.func7, e7⟩
  · injection h with h; subst h; exact ⟨_, Try.func8, e8⟩
  · injection h with h; subst h; exact ⟨_, Try.func25, e25⟩
  · injection h with h; subst h; exact ⟨_, Try.func26, e26⟩
  · injection h with h; subst h; exact ⟨_, Try.func27, e27⟩
  · injection h with h; subst h; exact ⟨_, Try.func28, e28⟩
  · injection h with h; subst h; exact ⟨_, Try.func29, e29⟩
  · injection h with h; subst h; exact ⟨_, Try.func30, e30⟩
  · injection h with h; subst h; exact ⟨_, Try.func31, e31⟩
  · injection h with h; subst h; exact ⟨_, Try.func32, e32⟩
  · injection h with h; subst h; exact ⟨_, Try.func49, e49⟩
  · injection h with h; subst h; exact ⟨_, Try.func50, e50⟩
  · injection h with h; subst h; exact ⟨_, Try.func51, e51⟩
  · injection h with h; subst h; exact ⟨_, Try.func52, e52⟩
  · injection h with h; subst h; exact ⟨_, Try.func53, e53⟩
  · injection h with h; subst h; exact ⟨_, Try.func54, e54⟩
  · injection h with h; subst h; exact ⟨_, Try.func55, e55⟩
  · injection h with h; subst h; exact ⟨_, Try.func56, e56⟩
  · injection h with h; subst h; exact ⟨_, Try.func57, e57⟩
  · injection h with h; subst h; exact ⟨_, Try.func58, e58⟩
  · injection h with h; subst h; exact ⟨_, Try.func59, e59⟩
  · injection h with h; subst h; exact ⟨_, Try.func60, e60⟩
  · injection h with h; subst h; exact ⟨_, Try.func81, e81⟩
  · injection h with h; subst h; exact ⟨_, Try.func82, e82⟩
  · injection h with h; subst h; exact ⟨_, Try.func83, e83⟩
  · injection h with h; subst h; exact ⟨_, Try.func84, e84⟩
  · injection h with h; subst h; exact ⟨_, Try.func85, e85⟩
  · injection h with h; subst h; exact ⟨_, Try.func86, e86⟩
  · injection h with h; subst h; exact ⟨_, Try.func87, e87⟩
  · injection h with h; subst h; exact ⟨_, Try.func88, e88⟩
  · injection h with h; subst h; exact ⟨_, Try.func89, e89⟩
  · injection h with h; subst h; exact ⟨_, Try.func90, e90⟩
  · injection h with h; subst h; exact ⟨_, Try.func91, e91⟩
  · injection h with h; subst h; exact ⟨_, Try.func105, e105⟩
  · injection h with h; subst h; exact ⟨_, Try.func106, e106⟩
  · injection h with h; subst h; exact ⟨_, Try.func107, e107⟩
  · injection h with h; subst h; exact ⟨_, Try.func108, e108⟩
  · injection h with h; subst h; exact ⟨_, Try.func109, e109⟩
  · injection h with h; subst h; exact ⟨_, Try.func110, e110⟩
  · injection h with h; subst h; exact ⟨_, Try.func111, e111⟩
  · injection h with h; subst h; exact ⟨_, Try.func112, e112⟩
  · injection h with h; subst h; exact ⟨_, Try.func114, e114⟩
  · cases h
def ren : Go.Shelf.Ren := ⟨fun n => if n = 240 then 113 else 123, fun n => match n with | 0 => 0 | 4 => 4 | 9 => 9 | 20 => 20 | 37 => 52 | 70 => 143 | 72 => 145 | 164 => 176 | _ => 0, fun n => n⟩
theorem lays : Go.Proofs.Lays.n240 Try.prog ren where
  mixed := mixed
  f240 := by kernel_rfl
  f276 := by kernel_rfl
  t0 := by kernel_rfl
  a0 := fun w => by kernel_rfl
  z0 := fun w => by kernel_rfl
  v0 := fun w => by kernel_rfl
  t4 := by kernel_rfl
  a4 := fun w => by kernel_rfl
  z4 := fun w => by kernel_rfl
  v4 := fun w => by kernel_rfl
  t9 := by kernel_rfl
  a9 := fun w => by kernel_rfl
  z9 := fun w => by kernel_rfl
  v9 := fun w => by kernel_rfl
  t20 := by kernel_rfl
  a20 := fun w => by kernel_rfl
  z20 := fun w => by kernel_rfl
  v20 := fun w => by kernel_rfl
  t70 := by kernel_rfl
  a70 := fun w => by kernel_rfl
  z70 := fun w => by kernel_rfl
  v70 := fun w => by kernel_rfl
  t72 := by kernel_rfl
  a72 := fun w => by kernel_rfl
  z72 := fun w => by kernel_rfl
  v72 := fun w => by kernel_rfl
  t164 := by kernel_rfl
  a164 := fun w => by kernel_rfl
  z164 := fun w => by kernel_rfl
  v164 := fun w => by kernel_rfl
theorem lies : Go.Proofs.Builder.X72 Try.prog ren := ⟨by kernel_rfl, by kernel_rfl⟩
theorem isWhole : ∀ e, whole e = true → e = ren.t 72 := fun e h => by
  have h2 : e = 145 := by simpa [whole] using h
  exact h2
theorem sound00 : ClOk Try.prog (call env0) := call_sound mixed ⟨fun f s _ h => fnsOk f s h, fun f _ _ _ _ h => by cases h⟩
def envB : Env := toldB env0 [] 113
theorem sound0 : ClOk Try.prog (call envB) := call_sound mixed (toldB_ok lays lies isWhole fnsOk sound00 fun f hf => by cases hf)
/-- The machine: the functions, and those that are told once and for all. -/
def env : Env := toldB envB [] 113
theorem envOk : EnvOk Try.prog env := toldB_ok lays lies isWhole fnsOk sound0 fun f hf => by
  simp at hf
theorem cCheck (args : List AV) (H : Heap) : call env 113 args H = bldCheck args H := call_isI (e := env) rfl
/-- What the machine says of a call is what the program does. -/
theorem sound : ClOk Try.prog (call env) := call_sound mixed envOk
end Go.Proofs.Ytkcbjeenoafbkaa
