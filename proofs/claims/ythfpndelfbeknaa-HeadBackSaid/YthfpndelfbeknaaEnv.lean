/- The slim functions are the program's. -/
import Derived.Test.YthfpndelfbeknaaProg
import Derived.Test.YthfpndelfbeknaaS
import Derived.Test.YthfpndelfbeknaaDen39
import Derived.KernelRfl
set_option linter.unusedVariables false
set_option maxRecDepth 100000
namespace Go.Proofs.Ythfpndelfbeknaa
open Go Go.Den
theorem e9 : slimF Try.prog Try.f9 = some s9 := by kernel_rfl
theorem e10 : slimF Try.prog Try.f10 = some s10 := by kernel_rfl
theorem e11 : slimF Try.prog Try.f11 = some s11 := by kernel_rfl
theorem e12 : slimF Try.prog Try.f12 = some s12 := by kernel_rfl
theorem e13 : slimF Try.prog Try.f13 = some s13 := by kernel_rfl
theorem e34 : slimF Try.prog Try.f34 = some s34 := by kernel_rfl
theorem e35 : slimF Try.prog Try.f35 = some s35 := by kernel_rfl
theorem e36 : slimF Try.prog Try.f36 = some s36 := by kernel_rfl
theorem e37 : slimF Try.prog Try.f37 = some s37 := by kernel_rfl
theorem e38 : slimF Try.prog Try.f38 = some s38 := by kernel_rfl
theorem e39 : slimF Try.prog Try.f39 = some s39 := by kernel_rfl
theorem e40 : slimF Try.prog Try.f40 = some s40 := by kernel_rfl
theorem e41 : slimF Try.prog Try.f41 = some s41 := by kernel_rfl
theorem e42 : slimF Try.prog Try.f42 = some s42 := by kernel_rfl
theorem e43 : slimF Try.prog Try.f43 = some s43 := by kernel_rfl
theorem e44 : slimF Try.prog Try.f44 = some s44 := by kernel_rfl
theorem e45 : slimF Try.prog Try.f45 = some s45 := by kernel_rfl
theorem e46 : slimF Try.prog Try.f46 = some s46 := by kernel_rfl
theorem e47 : slimF Try.prog Try.f47 = some s47 := by kernel_rfl
theorem e48 : slimF Try.prog Try.f48 = some s48 := by kernel_rfl
theorem e49 : slimF Try.prog Try.f49 = some s49 := by kernel_rfl
theorem e50 : slimF Try.prog Try.f50 = some s50 := by kernel_rfl
theorem e51 : slimF Try.prog Try.f51 = some s51 := by kernel_rfl
theorem e52 : slimF Try.prog Try.f52 = some s52 := by kernel_rfl
theorem e80 : slimF Try.prog Try.f80 = some s80 := by kernel_rfl
theorem e81 : slimF Try.prog Try.f81 = some s81 := by kernel_rfl
theorem e82 : slimF Try.prog Try.f82 = some s82 := by kernel_rfl
theorem e83 : slimF Try.prog Try.f83 = some s83 := by kernel_rfl
theorem e84 : slimF Try.prog Try.f84 = some s84 := by kernel_rfl
theorem e85 : slimF Try.prog Try.f85 = some s85 := by kernel_rfl
theorem e86 : slimF Try.prog Try.f86 = some s86 := by kernel_rfl
theorem e87 : slimF Try.prog Try.f87 = some s87 := by kernel_rfl
theorem e88 : slimF Try.prog Try.f88 = some s88 := by kernel_rfl
theorem e89 : slimF Try.prog Try.f89 = some s89 := by kernel_rfl
theorem e90 : slimF Try.prog Try.f90 = some s90 := by kernel_rfl
theorem e91 : slimF Try.prog Try.f91 = some s91 := by kernel_rfl
theorem e92 : slimF Try.prog Try.f92 = some s92 := by kernel_rfl
theorem e93 : slimF Try.prog Try.f93 = some s93 := by kernel_rfl
theorem e94 : slimF Try.prog Try.f94 = some s94 := by kernel_rfl
theorem e95 : slimF Try.prog Try.f95 = some s95 := by kernel_rfl
theorem e96 : slimF Try.prog Try.f96 = some s96 := by kernel_rfl
theorem e97 : slimF Try.prog Try.f97 = some s97 := by kernel_rfl
theorem e98 : slimF Try.prog Try.f98 = some s98 := by kernel_rfl
theorem e99 : slimF Try.prog Try.f99 = some s99 := by kernel_rfl
theorem e100 : slimF Try.prog Try.f100 = some s100 := by kernel_rfl
theorem e101 : slimF Try.prog Try.f101 = some s101 := by kernel_rfl
theorem e102 : slimF Try.prog Try.f102 = some s102 := by kernel_rfl
theorem e103 : slimF Try.prog Try.f103 = some s103 := by kernel_rfl
theorem e104 : slimF Try.prog Try.f104 = some s104 := by kernel_rfl
theorem e113 : slimF Try.prog Try.f113 = some s113 := by kernel_rfl
theorem e114 : slimF Try.prog Try.f114 = some s114 := by kernel_rfl
theorem e115 : slimF Try.prog Try.f115 = some s115 := by kernel_rfl
theorem e116 : slimF Try.prog Try.f116 = some s116 := by kernel_rfl
theorem e117 : slimF Try.prog Try.f117 = some s117 := by kernel_rfl
theorem e119 : slimF Try.prog Try.f119 = some s119 := by kernel_rfl
theorem e120 : slimF Try.prog Try.f120 = some s120 := by kernel_rfl
theorem e121 : slimF Try.prog Try.f121 = some s121 := by kernel_rfl
theorem e122 : slimF Try.prog Try.f122 = some s122 := by kernel_rfl
theorem e123 : slimF Try.prog Try.f123 = some s123 := by kernel_rfl
theorem e124 : slimF Try.prog Try.f124 = some s124 := by kernel_rfl
theorem e125 : slimF Try.prog Try.f125 = some s125 := by kernel_rfl
theorem e127 : slimF Try.prog Try.f127 = some s127 := by kernel_rfl
theorem e128 : slimF Try.prog Try.f128 = some s128 := by kernel_rfl
theorem e129 : slimF Try.prog Try.f129 = some s129 := by kernel_rfl
theorem e130 : slimF Try.prog Try.f130 = some s130 := by kernel_rfl
theorem mixed : Try.prog.follows .mixedOrders = true := by kernel_rfl
theorem fnsOk : ∀ (f : Nat) (s : SFn), E f = some s → ∃ fn, Try.prog.funcs[f]? = some fn ∧ slimF Try.prog fn = some s := by
  intro f s h
  unfold E at h
  split at h
  · injection h with h; subst h; exact ⟨_, Try.func9, e9⟩
  · injection h with h; subst h; exact ⟨_, Try.func10, e10⟩
  · injection h with h; subst h; exact ⟨_, Try.func11, e11⟩
  · injection h with h; subst h; exact ⟨_, Try.func12, e12⟩
  · injection h with h; subst h; exact ⟨_, Try.func13, e13⟩
  · injection h with h; subst h; exact ⟨_, Try.func34, e34⟩
  · injection h with h; subst h; exact ⟨_, Try.func35, e35⟩
  · injection h with h; subst h; exact ⟨_, Try.func36, e36⟩
  · injection h with h; subst h; exact ⟨_, Try.func37, e37⟩
  · injection h with h; subst h; exact ⟨_, Try.func38, e38⟩
  · injection h with h; subst h; exact ⟨_, Try.func39, e39⟩
  · injection h with h; subst h; exact ⟨_, Try.func40, e40⟩
  · injection h with h; subst h; exact ⟨_, Try.func41, e41⟩
  · injection h with h; subst h; exact ⟨_, Try.func42, e42⟩
  · injection h with h; subst h; exact ⟨_, Try.func43, e43⟩
  · injection h with h; subst h; exact ⟨_, Try.func44, e44⟩
  · injection h with h; subst h; exact ⟨_, Try.func45, e45⟩
  · injection h with h; subst h; exact ⟨_, Try.func46, e46⟩
  · injection h with h; subst h; exact ⟨_, Try.func47, e47⟩
  · injection h with h; subst h; exact ⟨_, Try.func48, e48⟩
  · injection h with h; subst h; exact ⟨_, Try.func49, e49⟩
  · injection h with h; subst h; exact ⟨_, Try.func50, e50⟩
  · injection h with h; subst h; exact ⟨_, Try.func51, e51⟩
  · injection h with h; subst h; exact ⟨_, Try.func52, e52⟩
  · injection h with h; subst h; exact ⟨_, Try.func80, e80⟩
  · injection h with h; subst h; exact ⟨_, Try.func81, e81⟩
  · injection h with h; subst h; exact ⟨_, Try.func82, e82⟩
  · injection h with h; subst h; exact ⟨_, Try.func83, e83⟩
  · injection h with h; subst h; exact ⟨_, Try.func84, e84⟩
  · injection h with h; subst h; exact ⟨_, Try.func85, e85⟩
  · injection h with h; subst h; exact ⟨_, Try.func86, e86⟩
  · injection h with h; subst h; exact ⟨_, Try.func87, e87⟩
  · injection h with h; subst h; exact ⟨_, Try.func88, e88⟩
  · injection h with h; subst h; exact ⟨_, Try.func89, e89⟩
  · injection h with h; subst h; exact ⟨_, Try.func90, e90⟩
  · injection h with h; subst h; exact ⟨_, Try.func91, e91⟩
  · injection h with h; subst h; exact ⟨_, Try.func92, e92⟩
  · injection h with h; subst h; exact ⟨_, Try.func93, e93⟩
  · injection h with h; subst h; exact ⟨_, Try.func94, e94⟩
  · injection h with h; subst h; exact ⟨_, Try.func95, e95⟩
  · injection h with h; subst h; exact ⟨_, Try.func96, e96⟩
  · injection h with h; subst h; exact ⟨_, Try.func97, e97⟩
  · injection h with h; subst h; exact ⟨_, Try.func98, e98⟩
  · injection h with h; subst h; exact ⟨_, Try.func99, e99⟩
  · injection h with h; subst h; exact ⟨_, Try.func100, e100⟩
  · injection h with h; subst h; exact ⟨_, Try.func101, e101⟩
  · injection h with h; subst h; exact ⟨_, Try.func102, e102⟩
  · injection h with h; subst h; exact ⟨_, Try.func103, e103⟩
  · injection h with h; subst h; exact ⟨_, Try.func104, e104⟩
  · injection h with h; subst h; exact ⟨_, Try.func113, e113⟩
  · injection h with h; subst h; exact ⟨_, Try.func114, e114⟩
  · injection h with h; subst h; exact ⟨_, Try.func115, e115⟩
  · injection h with h; subst h; exact ⟨_, Try.func116, e116⟩
  · injection h with h; subst h; exact ⟨_, Try.func117, e117⟩
  · injection h with h; subst h; exact ⟨_, Try.func119, e119⟩
  · injection h with h; subst h; exact ⟨_, Try.func120, e120⟩
  · injection h with h; subst h; exact ⟨_, Try.func121, e121⟩
  · injection h with h; subst h; exact ⟨_, Try.func122, e122⟩
  · injection h with h; subst h; exact ⟨_, Try.func123, e123⟩
  · injection h with h; subst h; exact ⟨_, Try.func124, e124⟩
  · injection h with h; subst h; exact ⟨_, Try.func125, e125⟩
  · injection h with h; subst h; exact ⟨_, Try.func127, e127⟩
  · injection h with h; subst h; exact ⟨_, Try.func128, e128⟩
  · injection h with h; subst h; exact ⟨_, Try.func129, e129⟩
  · injection h with h; subst h; exact ⟨_, Try.func130, e130⟩
  · cases h
def ren : Go.Shelf.Ren := ⟨fun n => if n = 240 then 118 else 126, fun n => match n with | 0 => 0 | 4 => 4 | 9 => 9 | 20 => 20 | 37 => 130 | 70 => 129 | 72 => 132 | 164 => 168 | _ => 0, fun n => n⟩
theorem lays : Go.Proofs.Lays.n240 Try.prog ren where
  mixed := mixed
  f240 := by kernel_rfl
  f276 := by kernel_rfl
  t0 := by kernel_rfl
  a0 := fun w => by kernel_rfl
  z0 := fun w => by kernel_rfl
  v0 := fun w => by kernel_rfl
  t4 := by kernel_rfl
  a4 := fun w => by kernel_rfl
  z4 := fun w => by kernel_rfl
  v4 := fun w => by kernel_rfl
  t9 := by kernel_rfl
  a9 := fun w => by kernel_rfl
  z9 := fun w => by kernel_rfl
  v9 := fun w => by kernel_rfl
  t20 := by kernel_rfl
  a20 := fun w => by kernel_rfl
  z20 := fun w => by kernel_rfl
  v20 := fun w => by kernel_rfl
  t70 := by kernel_rfl
  a70 := fun w => by kernel_rfl
  z70 := fun w => by kernel_rfl
  v70 := fun w => by kernel_rfl
  t72 := by kernel_rfl
  a72 := fun w => by kernel_rfl
  z72 := fun w => by kernel_rfl
  v72 := fun w => by kernel_rfl
  t164 := by kernel_rfl
  a164 := fun w => by kernel_rfl
  z164 := fun w => by kernel_rfl
  v164 := fun w => by kernel_rfl
theorem lies : Go.Proofs.Builder.X72 Try.prog ren := ⟨by kernel_rfl, by kernel_rfl⟩
theorem isWhole : ∀ e, whole e = true → e = ren.t 72 := fun e h => by
  have h2 : e = 132 := by simpa [whole] using h
  exact h2
theorem sound00 : ClOk Try.prog (call env0) := call_sound mixed ⟨fun f s _ h => fnsOk f s h, fun f _ _ _ _ h => by cases h⟩
def envB : Env := toldB env0 [] 118
theorem sound0 : ClOk Try.prog (call envB) := call_sound mixed (toldB_ok lays lies isWhole fnsOk sound00 fun f hf => by cases hf)
theorem a34 : call envB 34 [] [] = some (.bool true, []) := call_of (n := 200) (by kernel_rfl)
theorem a43 : call envB 43 [] [] = some (.bool true, []) := call_of (n := 200) (by kernel_rfl)
/-- The machine: the functions, and those that are told once and for all. -/
def env : Env := toldB envB [34, 43] 118
theorem envOk : EnvOk Try.prog env := toldB_ok lays lies isWhole fnsOk sound0 fun f hf => by
  simp at hf
  rcases hf with rfl | rfl
  · exact a34
  · exact a43
theorem w34 (H : Heap) : call env 34 [] H = some (.bool true, H) := call_intr rfl rfl
theorem w43 (H : Heap) : call env 43 [] H = some (.bool true, H) := call_intr rfl rfl
theorem cCheck (args : List AV) (H : Heap) : call env 118 args H = bldCheck args H := call_isI (e := env) rfl
/-- What the machine says of a call is what the program does. -/
theorem sound : ClOk Try.prog (call env) := call_sound mixed envOk
end Go.Proofs.Ythfpndelfbeknaa
