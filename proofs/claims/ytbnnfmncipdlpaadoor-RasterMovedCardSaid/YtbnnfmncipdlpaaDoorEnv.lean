/- The slim functions are the program's. -/
import Derived.Test.YtbnnfmncipdlpaaDoorProg
import Derived.Test.YtbnnfmncipdlpaaDoorS
import Derived.Test.YtbnnfmncipdlpaaDoorDen43
import Derived.KernelRfl
set_option linter.unusedVariables false
set_option maxRecDepth 100000
namespace Go.Proofs.YtbnnfmncipdlpaaDoor
open Go Go.Den
theorem e7 : slimF Tryd.prog Tryd.f7 = some s7 := by kernel_rfl
theorem e8 : slimF Tryd.prog Tryd.f8 = some s8 := by kernel_rfl
theorem e9 : slimF Tryd.prog Tryd.f9 = some s9 := by kernel_rfl
theorem e10 : slimF Tryd.prog Tryd.f10 = some s10 := by kernel_rfl
theorem e15 : slimF Tryd.prog Tryd.f15 = some s15 := by kernel_rfl
theorem e24 : slimF Tryd.prog Tryd.f24 = some s24 := by kernel_rfl
theorem e25 : slimF Tryd.prog Tryd.f25 = some s25 := by kernel_rfl
theorem e26 : slimF Tryd.prog Tryd.f26 = some s26 := by kernel_rfl
theorem e27 : slimF Tryd.prog Tryd.f27 = some s27 := by kernel_rfl
theorem e28 : slimF Tryd.prog Tryd.f28 = some s28 := by kernel_rfl
theorem e29 : slimF Tryd.prog Tryd.f29 = some s29 := by kernel_rfl
theorem e30 : slimF Tryd.prog Tryd.f30 = some s30 := by kernel_rfl
theorem e31 : slimF Tryd.prog Tryd.f31 = some s31 := by kernel_rfl
theorem e32 : slimF Tryd.prog Tryd.f32 = some s32 := by kernel_rfl
theorem e33 : slimF Tryd.prog Tryd.f33 = some s33 := by kernel_rfl
theorem e34 : slimF Tryd.prog Tryd.f34 = some s34 := by kernel_rfl
theorem e49 : slimF Tryd.prog Tryd.f49 = some s49 := by kernel_rfl
theorem e50 : slimF Tryd.prog Tryd.f50 = some s50 := by kernel_rfl
theorem e51 : slimF Tryd.prog Tryd.f51 = some s51 := by kernel_rfl
theorem e52 : slimF Tryd.prog Tryd.f52 = some s52 := by kernel_rfl
theorem e53 : slimF Tryd.prog Tryd.f53 = some s53 := by kernel_rfl
theorem e54 : slimF Tryd.prog Tryd.f54 = some s54 := by kernel_rfl
theorem e55 : slimF Tryd.prog Tryd.f55 = some s55 := by kernel_rfl
theorem e56 : slimF Tryd.prog Tryd.f56 = some s56 := by kernel_rfl
theorem e57 : slimF Tryd.prog Tryd.f57 = some s57 := by kernel_rfl
theorem e58 : slimF Tryd.prog Tryd.f58 = some s58 := by kernel_rfl
theorem e59 : slimF Tryd.prog Tryd.f59 = some s59 := by kernel_rfl
theorem e60 : slimF Tryd.prog Tryd.f60 = some s60 := by kernel_rfl
theorem e61 : slimF Tryd.prog Tryd.f61 = some s61 := by kernel_rfl
theorem e62 : slimF Tryd.prog Tryd.f62 = some s62 := by kernel_rfl
theorem e63 : slimF Tryd.prog Tryd.f63 = some s63 := by kernel_rfl
theorem e64 : slimF Tryd.prog Tryd.f64 = some s64 := by kernel_rfl
theorem e65 : slimF Tryd.prog Tryd.f65 = some s65 := by kernel_rfl
theorem e66 : slimF Tryd.prog Tryd.f66 = some s66 := by kernel_rfl
theorem e67 : slimF Tryd.prog Tryd.f67 = some s67 := by kernel_rfl
theorem e69 : slimF Tryd.prog Tryd.f69 = some s69 := by kernel_rfl
theorem e78 : slimF Tryd.prog Tryd.f78 = some s78 := by kernel_rfl
theorem e79 : slimF Tryd.prog Tryd.f79 = some s79 := by kernel_rfl
theorem e80 : slimF Tryd.prog Tryd.f80 = some s80 := by kernel_rfl
theorem e81 : slimF Tryd.prog Tryd.f81 = some s81 := by kernel_rfl
theorem e82 : slimF Tryd.prog Tryd.f82 = some s82 := by kernel_rfl
theorem e83 : slimF Tryd.prog Tryd.f83 = some s83 := by kernel_rfl
theorem e84 : slimF Tryd.prog Tryd.f84 = some s84 := by kernel_rfl
theorem e85 : slimF Tryd.prog Tryd.f85 = some s85 := by kernel_rfl
theorem e86 : slimF Tryd.prog Tryd.f86 = some s86 := by kernel_rfl
theorem e87 : slimF Tryd.prog Tryd.f87 = some s87 := by kernel_rfl
theorem e88 : slimF Tryd.prog Tryd.f88 = some s88 := by kernel_rfl
theorem e89 : slimF Tryd.prog Tryd.f89 = some s89 := by kernel_rfl
theorem e90 : slimF Tryd.prog Tryd.f90 = some s90 := by kernel_rfl
theorem e91 : slimF Tryd.prog Tryd.f91 = some s91 := by kernel_rfl
theorem e92 : slimF Tryd.prog Tryd.f92 = some s92 := by kernel_rfl
theorem e93 : slimF Tryd.prog Tryd.f93 = some s93 := by kernel_rfl
theorem e94 : slimF Tryd.prog Tryd.f94 = some s94 := by kernel_rfl
theorem e95 : slimF Tryd.prog Tryd.f95 = some s95 := by kernel_rfl
theorem e103 : slimF Tryd.prog Tryd.f103 = some s103 := by kernel_rfl
theorem e104 : slimF Tryd.prog Tryd.f104 = some s104 := by kernel_rfl
theorem e105 : slimF Tryd.prog Tryd.f105 = some s105 := by kernel_rfl
theorem e106 : slimF Tryd.prog Tryd.f106 = some s106 := by kernel_rfl
theorem e107 : slimF Tryd.prog Tryd.f107 = some s107 := by kernel_rfl
theorem e108 : slimF Tryd.prog Tryd.f108 = some s108 := by kernel_rfl
theorem e109 : slimF Tryd.prog Tryd.f109 = some s109 := by kernel_rfl
theorem e110 : slimF Tryd.prog Tryd.f110 = some s110 := by kernel_rfl
theorem e111 : slimF Tryd.prog Tryd.f111 = some s111 := by kernel_rfl
theorem e117 : slimF Tryd.prog Tryd.f117 = some s117 := by kernel_rfl
theorem e118 : slimF Tryd.prog Tryd.f118 = some s118 := by kernel_rfl
theorem e119 : slimF Tryd.prog Tryd.f119 = some s119 := by kernel_rfl
theorem e120 : slimF Tryd.prog Tryd.f120 = some s120 := by kernel_rfl
theorem e121 : slimF Tryd.prog Tryd.f121 = some s121 := by kernel_rfl
theorem e122 : slimF Tryd.prog Tryd.f122 = some s122 := by kernel_rfl
theorem e123 : slimF Tryd.prog Tryd.f123 = some s123 := by kernel_rfl
theorem e124 : slimF Tryd.prog Tryd.f124 = some s124 := by kernel_rfl
theorem e126 : slimF Tryd.prog Tryd.f126 = some s126 := by kernel_rfl
theorem e127 : slimF Tryd.prog Tryd.f127 = some s127 := by kernel_rfl
theorem e128 : slimF Tryd.prog Tryd.f128 = some s128 := by kernel_rfl
theorem e129 : slimF Tryd.prog Tryd.f129 = some s129 := by kernel_rfl
theorem e130 : slimF Tryd.prog Tryd.f130 = some s130 := by kernel_rfl
theorem e131 : slimF Tryd.prog Tryd.f131 = some s131 := by kernel_rfl
theorem e132 : slimF Tryd.prog Tryd.f132 = some s132 := by kernel_rfl
theorem e133 : slimF Tryd.prog Tryd.f133 = some s133 := by kernel_rfl
theorem e134 : slimF Tryd.prog Tryd.f134 = some s134 := by kernel_rfl
theorem e135 : slimF Tryd.prog Tryd.f135 = some s135 := by kernel_rfl
theorem e136 : slimF Tryd.prog Tryd.f136 = some s136 := by kernel_rfl
theorem e137 : slimF Tryd.prog Tryd.f137 = some s137 := by kernel_rfl
theorem e139 : slimF Tryd.prog Tryd.f139 = some s139 := by kernel_rfl
theorem e140 : slimF Tryd.prog Tryd.f140 = some s140 := by kernel_rfl
theorem e141 : slimF Tryd.prog Tryd.f141 = some s141 := by kernel_rfl
theorem e142 : slimF Tryd.prog Tryd.f142 = some s142 := by kernel_rfl
theorem mixed : Tryd.prog.follows .mixedOrders = true := by kernel_rfl
theorem fnsOk : ∀ (f : Nat) (s : SFn), E f = some s → ∃ fn, Tryd.prog.funcs[f]? = some fn ∧ slimF Tryd.prog fn = some s := by
  intro f s h
  unfold E at h
  split at h
  · injection h with h; subst h; exact ⟨_, Tryd.func7, e7⟩
  · injection h with h; subst h; exact ⟨_, Tryd.func8, e8⟩
  · injection h with h; subst h; exact ⟨_, Tryd.func9, e9⟩
  · injection h with h; subst h; exact ⟨_, Tryd.func10, e10⟩
  · injection h with h; subst h; exact ⟨_, Tryd.func15, e15⟩
  · injection h with h; subst h; exact ⟨_, Tryd.func24, e24⟩
  · injection h with h; subst h; exact ⟨_, Tryd.func25, e25⟩
  · injection h with h; subst h; exact ⟨_, Tryd.func26, e26⟩
  · injection h with h; subst h; exact ⟨_, Tryd.func27, e27⟩
  · injection h with h; subst h; exact ⟨_, Tryd.func28, e28⟩
  · injection h with h; subst h; exact ⟨_, Tryd.func29, e29⟩
  · injection h with h; subst h; exact ⟨_, Tryd.func30, e30⟩
  · injection h with h; subst h; exact ⟨_, Tryd.func31, e31⟩
  · injection h with h; subst h; exact ⟨_, Tryd.func32, e32⟩
  · injection h with h; subst h; exact ⟨_, Tryd.func33, e33⟩
  · injection h with h; subst h; exact ⟨_, Tryd.func34, e34⟩
  · injection h with h; subst h; exact ⟨_, Tryd.func49, e49⟩
  · injection h with h; subst h; exact ⟨_, Tryd.func50, e50⟩
  · injection h with h; subst h; exact ⟨_, Tryd.func51, e51⟩
  · injection h with h; subst h; exact ⟨_, Tryd.func52, e52⟩
  · injection h with h; subst h; exact ⟨_, Tryd.func53, e53⟩
  · injection h with h; subst h; exact ⟨_, Tryd.func54, e54⟩
  · injection h with h; subst h; exact ⟨_, Tryd.func55, e55⟩
  · injection h with h; subst h; exact ⟨_, Tryd.func56, e56⟩
  · injection h with h; subst h; exact ⟨_, Tryd.func57, e57⟩
  · injection h with h; subst h; exact ⟨_, Tryd.func58, e58⟩
  · injection h with h; subst h; exact ⟨_, Tryd.func59, e59⟩
  · injection h with h; subst h; exact ⟨_, Tryd.func60, e60⟩
  · injection h with h; subst h; exact ⟨_, Tryd.func61, e61⟩
  · injection h with h; subst h; exact ⟨_, Tryd.func62, e62⟩
  · injection h with h; subst h; exact ⟨_, Tryd.func63, e63⟩
  · injection h with h; subst h; exact ⟨_, Tryd.func64, e64⟩
  · injection h with h; subst h; exact ⟨_, Tryd.func65, e65⟩
  · injection h with h; subst h; exact ⟨_, Tryd.func66, e66⟩
  · injection h with h; subst h; exact ⟨_, Tryd.func67, e67⟩
  · injection h with h; subst h; exact ⟨_, Tryd.func69, e69⟩
  · injection h with h; subst h; exact ⟨_, Tryd.func78, e78⟩
  · injection h with h; subst h; exact ⟨_, Tryd.func79, e79⟩
  · injection h with h; subst h; exact ⟨_, Tryd.func80, e80⟩
  · injection h with h; subst h; exact ⟨_, Tryd.func81, e81⟩
  · injection h with h; subst h; exact ⟨_, Tryd.func82, e82⟩
  · injection h with h; subst h; exact ⟨_, Tryd.func83, e83⟩
  · injection h with h; subst h; exact ⟨_, Tryd.func84, e84⟩
  · injection h with h; subst h; exact ⟨_, Tryd.func85, e85⟩
  · injection h with h; subst h; exact ⟨_, Tryd.func86, e86⟩
  · injection h with h; subst h; exact ⟨_, Tryd.func87, e87⟩
  · injection h with h; subst h; exact ⟨_, Tryd.func88, e88⟩
  · injection h with h; subst h; exact ⟨_, Tryd.func89, e89⟩
  · injection h with h; subst h; exact ⟨_, Tryd.func90, e90⟩
  · injection h with h; subst h; exact ⟨_, Tryd.func91, e91⟩
  · injection h with h; subst h; exact ⟨_, Tryd.func92, e92⟩
  · injection h with h; subst h; exact ⟨_, Tryd.func93, e93⟩
  · injection h with h; subst h; exact ⟨_, Tryd.func94, e94⟩
  · injection h with h; subst h; exact ⟨_, Tryd.func95, e95⟩
  · injection h with h; subst h; exact ⟨_, Tryd.func103, e103⟩
  · injection h with h; subst h; exact ⟨_, Tryd.func104, e104⟩
  · injection h with h; subst h; exact ⟨_, Tryd.func105, e105⟩
  · injection h with h; subst h; exact ⟨_, Tryd.func106, e106⟩
  · injection h with h; subst h; exact ⟨_, Tryd.func107, e107⟩
  · injection h with h; subst h; exact ⟨_, Tryd.func108, e108⟩
  · injection h with h; subst h; exact ⟨_, Tryd.func109, e109⟩
  · injection h with h; subst h; exact ⟨_, Tryd.func110, e110⟩
  · injection h with h; subst h; exact ⟨_, Tryd.func111, e111⟩
  · injection h with h; subst h; exact ⟨_, Tryd.func117, e117⟩
  · injection h with h; subst h; exact ⟨_, Tryd.func118, e118⟩
  · injection h with h; subst h; exact ⟨_, Tryd.func119, e119⟩
  · injection h with h; subst h; exact ⟨_, Tryd.func120, e120⟩
  · injection h with h; subst h; exact ⟨_, Tryd.func121, e121⟩
  · injection h with h; subst h; exact ⟨_, Tryd.func122, e122⟩
  · injection h with h; subst h; exact ⟨_, Tryd.func123, e123⟩
  · injection h with h; subst h; exact ⟨_, Tryd.func124, e124⟩
  · injection h with h; subst h; exact ⟨_, Tryd.func126, e126⟩
  · injection h with h; subst h; exact ⟨_, Tryd.func127, e127⟩
  · injection h with h; subst h; exact ⟨_, Tryd.func128, e128⟩
  · injection h with h; subst h; exact ⟨_, Tryd.func129, e129⟩
  · injection h with h; subst h; exact ⟨_, Tryd.func130, e130⟩
  · injection h with h; subst h; exact ⟨_, Tryd.func131, e131⟩
  · injection h with h; subst h; exact ⟨_, Tryd.func132, e132⟩
  · injection h with h; subst h; exact ⟨_, Tryd.func133, e133⟩
  · injection h with h; subst h; exact ⟨_, Tryd.func134, e134⟩
  · injection h with h; subst h; exact ⟨_, Tryd.func135, e135⟩
  · injection h with h; subst h; exact ⟨_, Tryd.func136, e136⟩
  · injection h with h; subst h; exact ⟨_, Tryd.func137, e137⟩
  · injection h with h; subst h; exact ⟨_, Tryd.func139, e139⟩
  · injection h with h; subst h; exact ⟨_, Tryd.func140, e140⟩
  · injection h with h; subst h; exact ⟨_, Tryd.func141, e141⟩
  · injection h with h; subst h; exact ⟨_, Tryd.func142, e142⟩
  · cases h
def ren : Go.Shelf.Ren := ⟨fun n => if n = 25 then 0 else 138, fun n => 149, fun n => n⟩
theorem okAdd : ∀ g, (none : Option Nat) = some g → AddOk Tryd.prog g := fun g h => by cases h
theorem laysSub : Go.Proofs.Lays7.n26 Tryd.prog ren where
  mixed := mixed
  f26 := by kernel_rfl
  t22 := by kernel_rfl
  a22 := fun w => by kernel_rfl
  z22 := fun w => by kernel_rfl
  v22 := fun w => by kernel_rfl
  i22 := by kernel_rfl
theorem okSub : ∀ g, (some 138) = some g → SubOk Tryd.prog g := fun g h => by
  injection h with h
  subst h
  exact fun x y b hb w => Go.Proofs.Any7.bits_Sub64 laysSub x y b hb w
theorem sound00 : ClOk Tryd.prog (call env0) := call_sound mixed ⟨fun f s _ h => fnsOk f s h, fun f _ _ _ _ h => by cases h⟩
def envC : Env := toldC env0 [] none (some 138)
theorem sound0 : ClOk Tryd.prog (call envC) := call_sound mixed (toldC_ok okAdd okSub fnsOk sound00 fun f hf => by cases hf)
theorem a25 : call envC 25 [] [] = some (.bool true, []) := call_of (n := 200) (by kernel_rfl)
/-- The machine: the functions, and those that are told once and for all. -/
def env : Env := toldC env0 [25] none (some 138)
theorem envOk : EnvOk Tryd.prog env := toldC_ok okAdd okSub fnsOk sound0 fun f hf => by
  simp at hf
  subst hf
  exact a25
theorem w25 (H : Heap) : call env 25 [] H = some (.bool true, H) := call_intr rfl rfl
theorem csub64 (args : List AV) (H : Heap) : call env 138 args H = sub64A args H := call_isC (e := env) rfl
/-- What the machine says of a call is what the program does. -/
theorem sound : ClOk Tryd.prog (call env) := call_sound mixed envOk
end Go.Proofs.YtbnnfmncipdlpaaDoor
