/- The slim functions are the program's. -/
import Derived.Test.YtdlolhkeckjipaaDoorProg
import Derived.Test.YtdlolhkeckjipaaDoorS
import Derived.Test.YtdlolhkeckjipaaDoorDen43
import Derived.KernelRfl
set_option linter.unusedVariables false
set_option maxRecDepth 100000
namespace Go.Proofs.YtdlolhkeckjipaaDoor
open Go Go.Den
theorem e3 : slimF Tryd.prog Tryd.f3 = some s3 := by kernel_rfl
theorem e4 : slimF Tryd.prog Tryd.f4 = some s4 := by kernel_rfl
theorem e5 : slimF Tryd.prog Tryd.f5 = some s5 := by kernel_rfl
theorem e6 : slimF Tryd.prog Tryd.f6 = some s6 := by kernel_rfl
theorem e7 : slimF Tryd.prog Tryd.f7 = some s7 := by kernel_rfl
theorem e8 : slimF Tryd.prog Tryd.f8 = some s8 := by kernel_rfl
theorem e9 : slimF Tryd.prog Tryd.f9 = some s9 := by kernel_rfl
theorem e10 : slimF Tryd.prog Tryd.f10 = some s10 := by kernel_rfl
theorem e11 : slimF Tryd.prog Tryd.f11 = some s11 := by kernel_rfl
theorem e12 : slimF Tryd.prog Tryd.f12 = some s12 := by kernel_rfl
theorem e13 : slimF Tryd.prog Tryd.f13 = some s13 := by kernel_rfl
theorem e14 : slimF Tryd.prog Tryd.f14 = some s14 := by kernel_rfl
theorem e15 : slimF Tryd.prog Tryd.f15 = some s15 := by kernel_rfl
theorem e16 : slimF Tryd.prog Tryd.f16 = some s16 := by kernel_rfl
theorem e17 : slimF Tryd.prog Tryd.f17 = some s17 := by kernel_rfl
theorem e18 : slimF Tryd.prog Tryd.f18 = some s18 := by kernel_rfl
theorem e19 : slimF Tryd.prog Tryd.f19 = some s19 := by kernel_rfl
theorem e20 : slimF Tryd.prog Tryd.f20 = some s20 := by kernel_rfl
theorem e21 : slimF Tryd.prog Tryd.f21 = some s21 := by kernel_rfl
theorem e22 : slimF Tryd.prog Tryd.f22 = some s22 := by kernel_rfl
theorem e23 : slimF Tryd.prog Tryd.f23 = some s23 := by kernel_rfl
theorem e24 : slimF Tryd.prog Tryd.f24 = some s24 := by kernel_rfl
theorem e25 : slimF Tryd.prog Tryd.f25 = some s25 := by kernel_rfl
theorem e26 : slimF Tryd.prog Tryd.f26 = some s26 := by kernel_rfl
theorem e27 : slimF Tryd.prog Tryd.f27 = some s27 := by kernel_rfl
theorem e28 : slimF Tryd.prog Tryd.f28 = some s28 := by kernel_rfl
theorem e29 : slimF Tryd.prog Tryd.f29 = some s29 := by kernel_rfl
theorem e30 : slimF Tryd.prog Tryd.f30 = some s30 := by kernel_rfl
theorem e31 : slimF Tryd.prog Tryd.f31 = some s31 := by kernel_rfl
theorem e32 : slimF Tryd.prog Tryd.f32 = some s32 := by kernel_rfl
theorem e33 : slimF Tryd.prog Tryd.f33 = some s33 := by kernel_rfl
theorem e34 : slimF Tryd.prog Tryd.f34 = some s34 := by kernel_rfl
theorem e35 : slimF Tryd.prog Tryd.f35 = some s35 := by kernel_rfl
theorem e36 : slimF Tryd.prog Tryd.f36 = some s36 := by kernel_rfl
theorem e37 : slimF Tryd.prog Tryd.f37 = some s37 := by kernel_rfl
theorem e38 : slimF Tryd.prog Tryd.f38 = some s38 := by kernel_rfl
theorem e39 : slimF Tryd.prog Tryd.f39 = some s39 := by kernel_rfl
theorem e40 : slimF Tryd.prog Tryd.f40 = some s40 := by kernel_rfl
theorem e41 : slimF Tryd.prog Tryd.f41 = some s41 := by kernel_rfl
theorem e42 : slimF Tryd.prog Tryd.f42 = some s42 := by kernel_rfl
theorem e43 : slimF Tryd.prog Tryd.f43 = some s43 := by kernel_rfl
theorem e44 : slimF Tryd.prog Tryd.f44 = some s44 := by kernel_rfl
theorem e45 : slimF Tryd.prog Tryd.f45 = some s45 := by kernel_rfl
theorem e46 : slimF Tryd.prog Tryd.f46 = some s46 := by kernel_rfl
theorem e47 : slimF Tryd.prog Tryd.f47 = some s47 := by kernel_rfl
theorem e48 : slimF Tryd.prog Tryd.f48 = some s48 := by kernel_rfl
theorem e49 : slimF Tryd.prog Tryd.f49 = some s49 := by kernel_rfl
theorem e50 : slimF Tryd.prog Tryd.f50 = some s50 := by kernel_rfl
theorem e51 : slimF Tryd.prog Tryd.f51 = some s51 := by kernel_rfl
theorem e52 : slimF Tryd.prog Tryd.f52 = some s52 := by kernel_rfl
theorem e53 : slimF Tryd.prog Tryd.f53 = some s53 := by kernel_rfl
theorem e54 : slimF Tryd.prog Tryd.f54 = some s54 := by kernel_rfl
theorem e55 : slimF Tryd.prog Tryd.f55 = some s55 := by kernel_rfl
theorem e56 : slimF Tryd.prog Tryd.f56 = some s56 := by kernel_rfl
theorem e57 : slimF Tryd.prog Tryd.f57 = some s57 := by kernel_rfl
theorem e58 : slimF Tryd.prog Tryd.f58 = some s58 := by kernel_rfl
theorem e59 : slimF Tryd.prog Tryd.f59 = some s59 := by kernel_rfl
theorem e60 : slimF Tryd.prog Tryd.f60 = some s60 := by kernel_rfl
theorem e61 : slimF Tryd.prog Tryd.f61 = some s61 := by kernel_rfl
theorem e62 : slimF Tryd.prog Tryd.f62 = some s62 := by kernel_rfl
theorem e63 : slimF Tryd.prog Tryd.f63 = some s63 := by kernel_rfl
theorem e64 : slimF Tryd.prog Tryd.f64 = some s64 := by kernel_rfl
theorem e65 : slimF Tryd.prog Tryd.f65 = some s65 := by kernel_rfl
theorem e66 : slimF Tryd.prog Tryd.f66 = some s66 := by kernel_rfl
theorem e67 : slimF Tryd.prog Tryd.f67 = some s67 := by kernel_rfl
theorem e68 : slimF Tryd.prog Tryd.f68 = some s68 := by kernel_rfl
theorem e69 : slimF Tryd.prog Tryd.f69 = some s69 := by kernel_rfl
theorem e71 : slimF Tryd.prog Tryd.f71 = some s71 := by kernel_rfl
theorem e72 : slimF Tryd.prog Tryd.f72 = some s72 := by kernel_rfl
theorem e73 : slimF Tryd.prog Tryd.f73 = some s73 := by kernel_rfl
theorem e75 : slimF Tryd.prog Tryd.f75 = some s75 := by kernel_rfl
theorem e76 : slimF Tryd.prog Tryd.f76 = some s76 := by kernel_rfl
theorem e77 : slimF Tryd.prog Tryd.f77 = some s77 := by kernel_rfl
theorem e78 : slimF Tryd.prog Tryd.f78 = some s78 := by kernel_rfl
theorem e79 : slimF Tryd.prog Tryd.f79 = some s79 := by kernel_rfl
theorem e80 : slimF Tryd.prog Tryd.f80 = some s80 := by kernel_rfl
theorem e81 : slimF Tryd.prog Tryd.f81 = some s81 := by kernel_rfl
theorem e82 : slimF Tryd.prog Tryd.f82 = some s82 := by kernel_rfl
theorem e83 : slimF Tryd.prog Tryd.f83 = some s83 := by kernel_rfl
theorem e84 : slimF Tryd.prog Tryd.f84 = some s84 := by kernel_rfl
theorem e85 : slimF Tryd.prog Tryd.f85 = some s85 := by kernel_rfl
theorem e86 : slimF Tryd.prog Tryd.f86 = some s86 := by kernel_rfl
theorem mixed : Tryd.prog.follows .mixedOrders = true := by kernel_rfl
theorem fnsOk : ∀ (f : Nat) (s : SFn), E f = some s → ∃ fn, Tryd.prog.funcs[f]? = some fn ∧ slimF Tryd.prog fn = some s := by
  intro f s h
  unfold E at h
  split at h
  · injection h with h; subst h; exact ⟨_, Tryd.func3, e3⟩
  · injection h with h; subst h; exact ⟨_, Tryd.func4, e4⟩
  · injection h with h; subst h; exact ⟨_, Tryd.func5, e5⟩
  · injection h with h; subst h; exact ⟨_, Tryd.func6, e6⟩
  · injection h with h; subst h; exact ⟨_, Tryd.func7, e7⟩
  · injection h with h; subst h; exact ⟨_, Tryd.func8, e8⟩
  · injection h with h; subst h; exact ⟨_, Tryd.func9, e9⟩
  · injection h with h; subst h; exact ⟨_, Tryd.func10, e10⟩
  · injection h with h; subst h; exact ⟨_, Tryd.func11, e11⟩
  · injection h with h; subst h; exact ⟨_, Tryd.func12, e12⟩
  · injection h with h; subst h; exact ⟨_, Tryd.func13, e13⟩
  · injection h with h; subst h; exact ⟨_, Tryd.func14, e14⟩
  · injection h with h; subst h; exact ⟨_, Tryd.func15, e15⟩
  · injection h with h; subst h; exact ⟨_, Tryd.func16, e16⟩
  · injection h with h; subst h; exact ⟨_, Tryd.func17, e17⟩
  · injection h with h; subst h; exact ⟨_, Tryd.func18, e18⟩
  · injection h with h; subst h; exact ⟨_, Tryd.func19, e19⟩
  · injection h with h; subst h; exact ⟨_, Tryd.func20, e20⟩
  · injection h with h; subst h; exact ⟨_, Tryd.func21, e21⟩
  · injection h with h; subst h; exact ⟨_, Tryd.func22, e22⟩
  · injection h with h; subst h; exact ⟨_, Tryd.func23, e23⟩
  · injection h with h; subst h; exact ⟨_, Tryd.func24, e24⟩
  · injection h with h; subst h; exact ⟨_, Tryd.func25, e25⟩
  · injection h with h; subst h; exact ⟨_, Tryd.func26, e26⟩
  · injection h with h; subst h; exact ⟨_, Tryd.func27, e27⟩
  · injection h with h; subst h; exact ⟨_, Tryd.func28, e28⟩
  · injection h with h; subst h; exact ⟨_, Tryd.func29, e29⟩
  · injection h with h; subst h; exact ⟨_, Tryd.func30, e30⟩
  · injection h with h; subst h; exact ⟨_, Tryd.func31, e31⟩
  · injection h with h; subst h; exact ⟨_, Tryd.func32, e32⟩
  · injection h with h; subst h; exact ⟨_, Tryd.func33, e33⟩
  · injection h with h; subst h; exact ⟨_, Tryd.func34, e34⟩
  · injection h with h; subst h; exact ⟨_, Tryd.func35, e35⟩
  · injection h with h; subst h; exact ⟨_, Tryd.func36, e36⟩
  · injection h with h; subst h; exact ⟨_, Tryd.func37, e37⟩
  · injection h with h; subst h; exact ⟨_, Tryd.func38, e38⟩
  · injection h with h; subst h; exact ⟨_, Tryd.func39, e39⟩
  · injection h with h; subst h; exact ⟨_, Tryd.func40, e40⟩
  · injection h with h; subst h; exact ⟨_, Tryd.func41, e41⟩
  · injection h with h; subst h; exact ⟨_, Tryd.func42, e42⟩
  · injection h with h; subst h; exact ⟨_, Tryd.func43, e43⟩
  · injection h with h; subst h; exact ⟨_, Tryd.func44, e44⟩
  · injection h with h; subst h; exact ⟨_, Tryd.func45, e45⟩
  · injection h with h; subst h; exact ⟨_, Tryd.func46, e46⟩
  · injection h with h; subst h; exact ⟨_, Tryd.func47, e47⟩
  · injection h with h; subst h; exact ⟨_, Tryd.func48, e48⟩
  · injection h with h; subst h; exact ⟨_, Tryd.func49, e49⟩
  · injection h with h; subst h; exact ⟨_, Tryd.func50, e50⟩
  · injection h with h; subst h; exact ⟨_, Tryd.func51, e51⟩
  · injection h with h; subst h; exact ⟨_, Tryd.func52, e52⟩
  · injection h with h; subst h; exact ⟨_, Tryd.func53, e53⟩
  · injection h with h; subst h; exact ⟨_, Tryd.func54, e54⟩
  · injection h with h; subst h; exact ⟨_, Tryd.func55, e55⟩
  · injection h with h; subst h; exact ⟨_, Tryd.func56, e56⟩
  · injection h with h; subst h; exact ⟨_, Tryd.func57, e57⟩
  · injection h with h; subst h; exact ⟨_, Tryd.func58, e58⟩
  · injection h with h; subst h; exact ⟨_, Tryd.func59, e59⟩
  · injection h with h; subst h; exact ⟨_, Tryd.func60, e60⟩
  · injection h with h; subst h; exact ⟨_, Tryd.func61, e61⟩
  · injection h with h; subst h; exact ⟨_, Tryd.func62, e62⟩
  · injection h with h; subst h; exact ⟨_, Tryd.func63, e63⟩
  · injection h with h; subst h; exact ⟨_, Tryd.func64, e64⟩
  · injection h with h; subst h; exact ⟨_, Tryd.func65, e65⟩
  · injection h with h; subst h; exact ⟨_, Tryd.func66, e66⟩
  · injection h with h; subst h; exact ⟨_, Tryd.func67, e67⟩
  · injection h with h; subst h; exact ⟨_, Tryd.func68, e68⟩
  · injection h with h; subst h; exact ⟨_, Tryd.func69, e69⟩
  · injection h with h; subst h; exact ⟨_, Tryd.func71, e71⟩
  · injection h with h; subst h; exact ⟨_, Tryd.func72, e72⟩
  · injection h with h; subst h; exact ⟨_, Tryd.func73, e73⟩
  · injection h with h; subst h; exact ⟨_, Tryd.func75, e75⟩
  · injection h with h; subst h; exact ⟨_, Tryd.func76, e76⟩
  · injection h with h; subst h; exact ⟨_, Tryd.func77, e77⟩
  · injection h with h; subst h; exact ⟨_, Tryd.func78, e78⟩
  · injection h with h; subst h; exact ⟨_, Tryd.func79, e79⟩
  · injection h with h; subst h; exact ⟨_, Tryd.func80, e80⟩
  · injection h with h; subst h; exact ⟨_, Tryd.func81, e81⟩
  · injection h with h; subst h; exact ⟨_, Tryd.func82, e82⟩
  · injection h with h; subst h; exact ⟨_, Tryd.func83, e83⟩
  · injection h with h; subst h; exact ⟨_, Tryd.func84, e84⟩
  · injection h with h; subst h; exact ⟨_, Tryd.func85, e85⟩
  · injection h with h; subst h; exact ⟨_, Tryd.func86, e86⟩
  · cases h
def ren : Go.Shelf.Ren := ⟨fun n => if n = 25 then 74 else 70, fun n => 45, fun n => n⟩
theorem laysAdd : Go.Proofs.Lays7.n25 Tryd.prog ren where
  mixed := mixed
  f25 := by kernel_rfl
  t22 := by kernel_rfl
  a22 := fun w => by kernel_rfl
  z22 := fun w => by kernel_rfl
  v22 := fun w => by kernel_rfl
  i22 := by kernel_rfl
theorem okAdd : ∀ g, (some 74) = some g → AddOk Tryd.prog g := fun g h => by
  injection h with h
  subst h
  exact fun x y b hb w => Go.Proofs.Any7.bits_Add64 laysAdd x y b hb w
theorem laysSub : Go.Proofs.Lays7.n26 Tryd.prog ren where
  mixed := mixed
  f26 := by kernel_rfl
  t22 := by kernel_rfl
  a22 := fun w => by kernel_rfl
  z22 := fun w => by kernel_rfl
  v22 := fun w => by kernel_rfl
  i22 := by kernel_rfl
theorem okSub : ∀ g, (some 70) = some g → SubOk Tryd.prog g := fun g h => by
  injection h with h
  subst h
  exact fun x y b hb w => Go.Proofs.Any7.bits_Sub64 laysSub x y b hb w
theorem sound00 : ClOk Tryd.prog (call env0) := call_sound mixed ⟨fun f s _ h => fnsOk f s h, fun f _ _ _ _ h => by cases h⟩
def envC : Env := toldC env0 [] (some 74) (some 70)
theorem sound0 : ClOk Tryd.prog (call envC) := call_sound mixed (toldC_ok okAdd okSub fnsOk sound00 fun f hf => by cases hf)
theorem a6 : call envC 6 [] [] = some (.bool true, []) := call_of (n := 200) (by kernel_rfl)
/-- The machine: the functions, and those that are told once and for all. -/
def env : Env := toldC env0 [6] (some 74) (some 70)
theorem envOk : EnvOk Tryd.prog env := toldC_ok okAdd okSub fnsOk sound0 fun f hf => by
  simp at hf
  subst hf
  exact a6
theorem w6 (H : Heap) : call env 6 [] H = some (.bool true, H) := call_intr rfl rfl
theorem cadd64 (args : List AV) (H : Heap) : call env 74 args H = add64A args H := call_isC (e := env) rfl
theorem csub64 (args : List AV) (H : Heap) : call env 70 args H = sub64A args H := call_isC (e := env) rfl
/-- What the machine says of a call is what the program does. -/
theorem sound : ClOk Tryd.prog (call env) := call_sound mixed envOk
end Go.Proofs.YtdlolhkeckjipaaDoor
