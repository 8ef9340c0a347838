/- The slim functions are the program's. -/
import Derived.Test.YtkcbjeenoafbkaaProg
import Derived.Test.YtkcbjeenoafbkaaS
import Derived.Test.YtkcbjeenoafbkaaDen38
import Derived.KernelRfl
set_option linter.unusedVariables false
set_option maxRecDepth 100000
namespace Go.Proofs.Ytkcbjeenoafbkaa
open Go Go.Den
theorem e9 : slimF Try.prog Try.f9 = some s9 := by kernel_rfl
theorem e10 : slimF Try.prog Try.f10 = some s10 := by kernel_rfl
theorem e12 : slimF Try.prog Try.f12 = some s12 := by kernel_rfl
theorem e33 : slimF Try.prog Try.f33 = some s33 := by kernel_rfl
theorem e34 : slimF Try.prog Try.f34 = some s34 := by kernel_rfl
theorem e35 : slimF Try.prog Try.f35 = some s35 := by kernel_rfl
theorem e36 : slimF Try.prog Try.f36 = some s36 := by kernel_rfl
theorem e37 : slimF Try.prog Try.f37 = some s37 := by kernel_rfl
theorem e38 : slimF Try.prog Try.f38 = some s38 := by kernel_rfl
theorem e39 : slimF Try.prog Try.f39 = some s39 := by kernel_rfl
theorem e40 : slimF Try.prog Try.f40 = some s40 := by kernel_rfl
theorem e61 : slimF Try.prog Try.f61 = some s61 := by kernel_rfl
theorem e62 : slimF Try.prog Try.f62 = some s62 := by kernel_rfl
theorem e63 : slimF Try.prog Try.f63 = some s63 := by kernel_rfl
theorem e64 : slimF Try.prog Try.f64 = some s64 := by kernel_rfl
theorem e65 : slimF Try.prog Try.f65 = some s65 := by kernel_rfl
theorem e66 : slimF Try.prog Try.f66 = some s66 := by kernel_rfl
theorem e67 : slimF Try.prog Try.f67 = some s67 := by kernel_rfl
theorem e68 : slimF Try.prog Try.f68 = some s68 := by kernel_rfl
theorem e69 : slimF Try.prog Try.f69 = some s69 := by kernel_rfl
theorem e70 : slimF Try.prog Try.f70 = some s70 := by kernel_rfl
theorem e71 : slimF Try.prog Try.f71 = some s71 := by kernel_rfl
theorem e72 : slimF Try.prog Try.f72 = some s72 := by kernel_rfl
theorem e73 : slimF Try.prog Try.f73 = some s73 := by kernel_rfl
theorem e74 : slimF Try.prog Try.f74 = some s74 := by kernel_rfl
theorem e75 : slimF Try.prog Try.f75 = some s75 := by kernel_rfl
theorem e92 : slimF Try.prog Try.f92 = some s92 := by kernel_rfl
theorem e93 : slimF Try.prog Try.f93 = some s93 := by kernel_rfl
theorem e94 : slimF Try.prog Try.f94 = some s94 := by kernel_rfl
theorem e95 : slimF Try.prog Try.f95 = some s95 := by kernel_rfl
theorem e96 : slimF Try.prog Try.f96 = some s96 := by kernel_rfl
theorem e97 : slimF Try.prog Try.f97 = some s97 := by kernel_rfl
theorem e98 : slimF Try.prog Try.f98 = some s98 := by kernel_rfl
theorem e99 : slimF Try.prog Try.f99 = some s99 := by kernel_rfl
theorem e100 : slimF Try.prog Try.f100 = some s100 := by kernel_rfl
theorem e101 : slimF Try.prog Try.f101 = some s101 := by kernel_rfl
theorem e115 : slimF Try.prog Try.f115 = some s115 := by kernel_rfl
theorem e116 : slimF Try.prog Try.f116 = some s116 := by kernel_rfl
theorem e117 : slimF Try.prog Try.f117 = some s117 := by kernel_rfl
theorem e118 : slimF Try.prog Try.f118 = some s118 := by kernel_rfl
theorem e119 : slimF Try.prog Try.f119 = some s119 := by kernel_rfl
theorem e120 : slimF Try.prog Try.f120 = some s120 := by kernel_rfl
theorem e121 : slimF Try.prog Try.f121 = some s121 := by kernel_rfl
theorem e124 : slimF Try.prog Try.f124 = some s124 := by kernel_rfl
theorem e125 : slimF Try.prog Try.f125 = some s125 := by kernel_rfl
theorem e126 : slimF Try.prog Try.f126 = some s126 := by kernel_rfl
theorem e127 : slimF Try.prog Try.f127 = some s127 := by kernel_rfl
theorem e128 : slimF Try.prog Try.f128 = some s128 := by kernel_rfl
theorem e129 : slimF Try.prog Try.f129 = some s129 := by kernel_rfl
theorem e130 : slimF Try.prog Try.f130 = some s130 := by kernel_rfl
theorem mixed : Try.prog.follows .mixedOrders = true := by kernel_rfl
theorem fnsOk : ∀ (f : Nat) (s : SFn), E f = some s → ∃ fn, Try.prog.funcs[f]? = some fn ∧ slimF Try.prog fn = some s := by
  intro f s h
  unfold E at h
  split at h
  · injection h with h; subst h; exact ⟨_, Try.func9, e9⟩
  · injection h with h; subst h; exact ⟨_, Try.func10, e10⟩
  · injection h with h; subst h; exact ⟨_, Try.func12, e12⟩
  · injection h with h; subst h; exact ⟨_, Try.func33, e33⟩
  · injection h with h; subst h; exact ⟨_, Try.func34, e34⟩
  · injection h with h; subst h; exact ⟨_, Try.func35, e35⟩
  · injection h with h; subst h; exact ⟨_, Try.func36, e36⟩
  · injection h with h; subst h; exact ⟨_, Try.func37, e37⟩
  · injection h with h; subst h; exact ⟨_, Try.func38, e38⟩
  · injection h with h; subst h; exact ⟨_, Try.func39, e39⟩
  · injection h with h; subst h; exact ⟨_, Try.func40, e40⟩
  · injection h with h; subst h; exact ⟨_, Try.func61, e61⟩
  · injection h with h; subst h; exact ⟨_, Try.func62, e62⟩
  · injection h with h; subst h; exact ⟨_, Try.func63, e63⟩
  · injection h with h; subst h; exact ⟨_, Try.func64, e64⟩
  · injection h with h; subst h; exact ⟨_, Try.func65, e65⟩
  · injection h with h; subst h; exact ⟨_, Try.func66, e66⟩
  · injection h with h; subst h; exact ⟨_, Try.func67, e67⟩
  · injection h with h; subst h; exact ⟨_, Try.func68, e68⟩
  · injection h with h; subst h; exact ⟨_, Try.func69, e69⟩
  · injection h with h; subst h; exact ⟨_, Try.func70, e70⟩
  · injection h with h; subst h; exact ⟨_, Try.func71, e71⟩
  · injection h with h; subst h; exact ⟨_, Try.func72, e72⟩
  · injection h with h; subst h; exact ⟨_, Try.func73, e73⟩
  · injection h with h; subst h; exact ⟨_, Try.func74, e74⟩
  · injection h with h; subst h; exact ⟨_, Try.func75, e75⟩
  · injection h with h; subst h; exact ⟨_, Try.func92, e92⟩
  · injection h with h; subst h; exact ⟨_, Try.func93, e93⟩
  · injection h with h; subst h; exact ⟨_, Try.func94, e94⟩
  · injection h with h; subst h; exact ⟨_, Try.func95, e95⟩
  · injection h with h; subst h; exact ⟨_, Try.func96, e96⟩
  · injection h with h; subst h; exact ⟨_, Try.func97, e97⟩
  · injection h with h; subst h; exact ⟨_, Try.func98, e98⟩
  · injection h with h; subst h; exact ⟨_, Try.func99, e99⟩
  · injection h with h; subst h; exact ⟨_, Try.func100, e100⟩
  · injection h with h; subst h; exact ⟨_, Try.func101, e101⟩
  · injection h with h; subst h; exact ⟨_, Try.func115, e115⟩
  · injection h with h; subst h; exact ⟨_, Try.func116, e116⟩
  · injection h with h; subst h; exact ⟨_, Try.func117, e117⟩
  · injection h with h; subst h; exact ⟨_, Try.func118, e118⟩
  · injection h with h; subst h; exact ⟨_, Try.func119, e119⟩
  · injection h with h; subst h; exact ⟨_, Try.func120, e120⟩
  · injection h with h; subst h; exact ⟨_, Try.func121, e121⟩
  · injection h with h; subst h; exact ⟨_, Try.func124, e124⟩
  · injection h with h; subst h; exact ⟨_, Try.func125, e125⟩
  · injection h with h; subst h; exact ⟨_, Try.func126, e126⟩
  · injection h with h; subst h; exact ⟨_, Try.func127, e127⟩
  · injection h with h; subst h; exact ⟨_, Try.func128, e128⟩
  · injection h with h; subst h; exact ⟨_, Try.func129, e129⟩
  · injection h with h; subst h; exact ⟨_, Try.func130, e130⟩
  · cases h
theorem sound0 : ClOk Try.prog (call env0) := call_sound mixed ⟨fun f s _ h => fnsOk f s h, fun f _ _ _ _ h => by cases h⟩
theorem a33 : call env0 33 [] [] = some (.bool true, []) := call_of (n := 100) (by kernel_rfl)
/-- The machine: the functions, and those that are told once and for all. -/
def env : Env := told env0 [33]
theorem envOk : EnvOk Try.prog env := told_ok fnsOk sound0 fun f hf => by
  simp at hf
  subst hf
  exact a33
theorem w33 (H : Heap) : call env 33 [] H = some (.bool true, H) := call_told rfl
/-- What the machine says of a call is what the program does. -/
theorem sound : ClOk Try.prog (call env) := call_sound mixed envOk
end Go.Proofs.Ytkcbjeenoafbkaa
