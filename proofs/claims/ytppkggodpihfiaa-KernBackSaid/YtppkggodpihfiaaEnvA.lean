/- The slim functions are the program's. -/
import Derived.Test.YtppkggodpihfiaaProg
import Derived.Test.YtppkggodpihfiaaS
import Derived.Test.YtppkggodpihfiaaDen39
import Derived.KernelRfl
set_option linter.unusedVariables false
set_option maxRecDepth 100000
namespace Go.Proofs.Ytppkggodpihfiaa
open Go Go.Den
theorem e3 : slimF Try.prog Try.f3 = some s3 := by kernel_rfl
theorem e4 : slimF Try.prog Try.f4 = some s4 := by kernel_rfl
theorem e5 : slimF Try.prog Try.f5 = some s5 := by kernel_rfl
theorem e6 : slimF Try.prog Try.f6 = some s6 := by kernel_rfl
theorem e7 : slimF Try.prog Try.f7 = some s7 := by kernel_rfl
theorem e8 : slimF Try.prog Try.f8 = some s8 := by kernel_rfl
theorem e9 : slimF Try.prog Try.f9 = some s9 := by kernel_rfl
theorem e10 : slimF Try.prog Try.f10 = some s10 := by kernel_rfl
theorem e11 : slimF Try.prog Try.f11 = some s11 := by kernel_rfl
theorem e12 : slimF Try.prog Try.f12 = some s12 := by kernel_rfl
theorem e13 : slimF Try.prog Try.f13 = some s13 := by kernel_rfl
theorem e14 : slimF Try.prog Try.f14 = some s14 := by kernel_rfl
theorem e15 : slimF Try.prog Try.f15 = some s15 := by kernel_rfl
theorem e16 : slimF Try.prog Try.f16 = some s16 := by kernel_rfl
theorem e17 : slimF Try.prog Try.f17 = some s17 := by kernel_rfl
theorem e18 : slimF Try.prog Try.f18 = some s18 := by kernel_rfl
theorem e19 : slimF Try.prog Try.f19 = some s19 := by kernel_rfl
theorem e20 : slimF Try.prog Try.f20 = some s20 := by kernel_rfl
theorem e21 : slimF Try.prog Try.f21 = some s21 := by kernel_rfl
theorem e22 : slimF Try.prog Try.f22 = some s22 := by kernel_rfl
theorem e23 : slimF Try.prog Try.f23 = some s23 := by kernel_rfl
theorem e24 : slimF Try.prog Try.f24 = some s24 := by kernel_rfl
theorem e25 : slimF Try.prog Try.f25 = some s25 := by kernel_rfl
theorem e26 : slimF Try.prog Try.f26 = some s26 := by kernel_rfl
theorem e27 : slimF Try.prog Try.f27 = some s27 := by kernel_rfl
theorem e28 : slimF Try.prog Try.f28 = some s28 := by kernel_rfl
theorem e29 : slimF Try.prog Try.f29 = some s29 := by kernel_rfl
theorem e30 : slimF Try.prog Try.f30 = some s30 := by kernel_rfl
theorem e31 : slimF Try.prog Try.f31 = some s31 := by kernel_rfl
theorem e32 : slimF Try.prog Try.f32 = some s32 := by kernel_rfl
theorem e33 : slimF Try.prog Try.f33 = some s33 := by kernel_rfl
theorem e34 : slimF Try.prog Try.f34 = some s34 := by kernel_rfl
theorem e35 : slimF Try.prog Try.f35 = some s35 := by kernel_rfl
theorem e36 : slimF Try.prog Try.f36 = some s36 := by kernel_rfl
theorem e37 : slimF Try.prog Try.f37 = some s37 := by kernel_rfl
theorem e38 : slimF Try.prog Try.f38 = some s38 := by kernel_rfl
theorem e39 : slimF Try.prog Try.f39 = some s39 := by kernel_rfl
theorem e40 : slimF Try.prog Try.f40 = some s40 := by kernel_rfl
theorem e41 : slimF Try.prog Try.f41 = some s41 := by kernel_rfl
theorem e42 : slimF Try.prog Try.f42 = some s42 := by kernel_rfl
theorem e43 : slimF Try.prog Try.f43 = some s43 := by kernel_rfl
theorem e44 : slimF Try.prog Try.f44 = some s44 := by kernel_rfl
theorem e45 : slimF Try.prog Try.f45 = some s45 := by kernel_rfl
theorem e46 : slimF Try.prog Try.f46 = some s46 := by kernel_rfl
theorem e47 : slimF Try.prog Try.f47 = some s47 := by kernel_rfl
theorem e48 : slimF Try.prog Try.f48 = some s48 := by kernel_rfl
theorem e49 : slimF Try.prog Try.f49 = some s49 := by kernel_rfl
theorem e50 : slimF Try.prog Try.f50 = some s50 := by kernel_rfl
theorem e51 : slimF Try.prog Try.f51 = some s51 := by kernel_rfl
theorem e52 : slimF Try.prog Try.f52 = some s52 := by kernel_rfl
theorem e53 : slimF Try.prog Try.f53 = some s53 := by kernel_rfl
theorem e54 : slimF Try.prog Try.f54 = some s54 := by kernel_rfl
theorem e55 : slimF Try.prog Try.f55 = some s55 := by kernel_rfl
theorem e56 : slimF Try.prog Try.f56 = some s56 := by kernel_rfl
theorem e57 : slimF Try.prog Try.f57 = some s57 := by kernel_rfl
theorem e58 : slimF Try.prog Try.f58 = some s58 := by kernel_rfl
theorem e59 : slimF Try.prog Try.f59 = some s59 := by kernel_rfl
theorem e60 : slimF Try.prog Try.f60 = some s60 := by kernel_rfl
theorem e61 : slimF Try.prog Try.f61 = some s61 := by kernel_rfl
theorem e62 : slimF Try.prog Try.f62 = some s62 := by kernel_rfl
theorem e63 : slimF Try.prog Try.f63 = some s63 := by kernel_rfl
theorem e64 : slimF Try.prog Try.f64 = some s64 := by kernel_rfl
theorem e65 : slimF Try.prog Try.f65 = some s65 := by kernel_rfl
theorem e66 : slimF Try.prog Try.f66 = some s66 := by kernel_rfl
theorem e67 : slimF Try.prog Try.f67 = some s67 := by kernel_rfl
theorem e68 : slimF Try.prog Try.f68 = some s68 := by kernel_rfl
theorem e69 : slimF Try.prog Try.f69 = some s69 := by kernel_rfl
theorem e70 : slimF Try.prog Try.f70 = some s70 := by kernel_rfl
theorem e71 : slimF Try.prog Try.f71 = some s71 := by kernel_rfl
theorem e72 : slimF Try.prog Try.f72 = some s72 := by kernel_rfl
theorem e73 : slimF Try.prog Try.f73 = some s73 := by kernel_rfl
theorem e74 : slimF Try.prog Try.f74 = some s74 := by kernel_rfl
theorem e75 : slimF Try.prog Try.f75 = some s75 := by kernel_rfl
theorem e76 : slimF Try.prog Try.f76 = some s76 := by kernel_rfl
theorem e78 : slimF Try.prog Try.f78 = some s78 := by kernel_rfl
theorem e79 : slimF Try.prog Try.f79 = some s79 := by kernel_rfl
theorem e80 : slimF Try.prog Try.f80 = some s80 := by kernel_rfl
theorem e81 : slimF Try.prog Try.f81 = some s81 := by kernel_rfl
theorem e82 : slimF Try.prog Try.f82 = some s82 := by kernel_rfl
theorem e83 : slimF Try.prog Try.f83 = some s83 := by kernel_rfl
theorem e84 : slimF Try.prog Try.f84 = some s84 := by kernel_rfl
theorem e85 : slimF Try.prog Try.f85 = some s85 := by kernel_rfl
theorem e86 : slimF Try.prog Try.f86 = some s86 := by kernel_rfl
theorem e87 : slimF Try.prog Try.f87 = some s87 := by kernel_rfl
theorem e88 : slimF Try.prog Try.f88 = some s88 := by kernel_rfl
theorem e89 : slimF Try.prog Try.f89 = some s89 := by kernel_rfl
theorem e90 : slimF Try.prog Try.f90 = some s90 := by kernel_rfl
theorem e91 : slimF Try.prog Try.f91 = some s91 := by kernel_rfl
theorem e92 : slimF Try.prog Try.f92 = some s92 := by kernel_rfl
theorem e93 : slimF Try.prog Try.f93 = some s93 := by kernel_rfl
theorem e94 : slimF Try.prog Try.f94 = some s94 := by kernel_rfl
theorem e95 : slimF Try.prog Try.f95 = some s95 := by kernel_rfl
theorem e96 : slimF Try.prog Try.f96 = some s96 := by kernel_rfl
theorem e98 : slimF Try.prog Try.f98 = some s98 := by kernel_rfl
theorem e99 : slimF Try.prog Try.f99 = some s99 := by kernel_rfl
theorem e100 : slimF Try.prog Try.f100 = some s100 := by kernel_rfl
theorem e101 : slimF Try.prog Try.f101 = some s101 := by kernel_rfl
theorem e102 : slimF Try.prog Try.f102 = some s102 := by kernel_rfl
theorem e103 : slimF Try.prog Try.f103 = some s103 := by kernel_rfl
theorem e104 : slimF Try.prog Try.f104 = some s104 := by kernel_rfl
theorem e105 : slimF Try.prog Try.f105 = some s105 := by kernel_rfl
theorem mixed : Try.prog.follows .mixedOrders = true := by kernel_rfl
theorem fnsOk : ∀ (f : Nat) (s : SFn), E f = some s → ∃ fn, Try.prog.funcs[f]? = some fn ∧ slimF Try.prog fn = some s := by
  intro f s h
  unfold E at h
  split at h
  · injection h with h; subst h; exact ⟨_, Try.func3, e3⟩
  · injection h with h; subst h; exact ⟨_, Try.func4, e4⟩
  · injection h with h; subst h; exact ⟨_, Try.func5, e5⟩
  · injection h with h; subst h; exact ⟨_, Try.func6, e6⟩
  · injection h with h; subst h; exact ⟨_, Try.func7, e7⟩
  · injection h with h; subst h; exact ⟨_, Try.func8, e8⟩
  · injection h with h; subst h; exact ⟨_, Try.func9, e9⟩
  · injection h with h; subst h; exact ⟨_, Try.func10, e10⟩
  · injection h with h; subst h; exact ⟨_, Try.func11, e11⟩
  · injection h with h; subst h; exact ⟨_, Try.func12, e12⟩
  · injection h with h; subst h; exact ⟨_, Try.func13, e13⟩
  · injection h with h; subst h; exact ⟨_, Try.func14, e14⟩
  · injection h with h; subst h; exact ⟨_, Try.func15, e15⟩
  · injection h with h; subst h; exact ⟨_, Try.func16, e16⟩
  · injection h with h; subst h; exact ⟨_, Try.func17, e17⟩
  · injection h with h; subst h; exact ⟨_, Try.func18, e18⟩
  · injection h with h; subst h; exact ⟨_, Try.func19, e19⟩
  · injection h with h; subst h; exact ⟨_, Try.func20, e20⟩
  · injection h with h; subst h; exact ⟨_, Try.func21, e21⟩
  · injection h with h; subst h; exact ⟨_, Try.func22, e22⟩
  · injection h with h; subst h; exact ⟨_, Try.func23, e23⟩
  · injection h with h; subst h; exact ⟨_, Try.func24, e24⟩
  · injection h with h; subst h; exact ⟨_, Try.func25, e25⟩
  · injection h with h; subst h; exact ⟨_, Try.func26, e26⟩
  · injection h with h; subst h; exact ⟨_, Try.func27, e27⟩
  · injection h with h; subst h; exact ⟨_, Try.func28, e28⟩
  · injection h with h; subst h; exact ⟨_, Try.func29, e29⟩
  · injection h with h; subst h; exact ⟨_, Try.func30, e30⟩
  · injection h with h; subst h; exact ⟨_, Try.func31, e31⟩
  · injection h with h; subst h; exact ⟨_, Try.func32, e32⟩
  · injection h with h; subst h; exact ⟨_, Try.func33, e33⟩
  · injection h with h; subst h; exact ⟨_, Try.func34, e34⟩
  · injection h with h; subst h; exact ⟨_, Try.func35, e35⟩
  · injection h with h; subst h; exact ⟨_, Try.func36, e36⟩
  · injection h with h; subst h; exact ⟨_, Try.func37, e37⟩
  · injection h with h; subst h; exact ⟨_, Try.func38, e38⟩
  · injection h with h; subst h; exact ⟨_, Try.func39, e39⟩
  · injection h with h; subst h; exact ⟨_, Try.func40, e40⟩
  · injection h with h; subst h; exact ⟨_, Try.func41, e41⟩
  · injection h with h; subst h; exact ⟨_, Try.func42, e42⟩
  · injection h with h; subst h; exact ⟨_, Try.func43, e43⟩
  · injection h with h; subst h; exact ⟨_, Try.func44, e44⟩
  · injection h with h; subst h; exact ⟨_, Try.func45, e45⟩
  · injection h with h; subst h; exact ⟨_, Try.func46, e46⟩
  · injection h with h; subst h; exact ⟨_, Try.func47, e47⟩
  · injection h with h; subst h; exact ⟨_, Try.func48, e48⟩
  · injection h with h; subst h; exact ⟨_, Try.func49, e49⟩
  · injection h with h; subst h; exact ⟨_, Try.func50, e50⟩
  · injection h with h; subst h; exact ⟨_, Try.func51, e51⟩
  · injection h with h; subst h; exact ⟨_, Try.func52, e52⟩
  · injection h with h; subst h; exact ⟨_, Try.func53, e53⟩
  · injection h with h; subst h; exact ⟨_, Try.func54, e54⟩
  · injection h with h; subst h; exact ⟨_, Try.func55, e55⟩
  · injection h with h; subst h; exact ⟨_, Try.func56, e56⟩
  · injection h with h; subst h; exact ⟨_, Try.func57, e57⟩
  · injection h with h; subst h; exact ⟨_, Try.func58, e58⟩
  · injection h with h; subst h; exact ⟨_, Try.func59, e59⟩
  · injection h with h; subst h; exact ⟨_, Try.func60, e60⟩
  · injection h with h; subst h; exact ⟨_, Try.func61, e61⟩
  · injection h with h; subst h; exact ⟨_, Try.func62, e62⟩
  · injection h with h; subst h; exact ⟨_, Try.func63, e63⟩
  · injection h with h; subst h; exact ⟨_, Try.func64, e64⟩
  · injection h with h; subst h; exact ⟨_, Try.func65, e65⟩
  · injection h with h; subst h; exact ⟨_, Try.func66, e66⟩
  · injection h with h; subst h; exact ⟨_, Try.func67, e67⟩
  · injection h with h; subst h; exact ⟨_, Try.func68, e68⟩
  · injection h with h; subst h; exact ⟨_, Try.func69, e69⟩
  · injection h with h; subst h; exact ⟨_, Try.func70, e70⟩
  · injection h with h; subst h; exact ⟨_, Try.func71, e71⟩
  · injection h with h; subst h; exact ⟨_, Try.func72, e72⟩
  · injection h with h; subst h; exact ⟨_, Try.func73, e73⟩
  · injection h with h; subst h; exact ⟨_, Try.func74, e74⟩
  · injection h with h; subst h; exact ⟨_, Try.func75, e75⟩
  · injection h with h; subst h; exact ⟨_, Try.func76, e76⟩
  · injection h with h; subst h; exact ⟨_, Try.func78, e78⟩
  · injection h with h; subst h; exact ⟨_, Try.func79, e79⟩
  · injection h with h; subst h; exact ⟨_, Try.func80, e80⟩
  · injection h with h; subst h; exact ⟨_, Try.func81, e81⟩
  · injection h with h; subst h; exact ⟨_, Try.func82, e82⟩
  · injection h with h; subst h; exact ⟨_, Try.func83, e83⟩
  · injection h with h; subst h; exact ⟨_, Try.func84, e84⟩
  · injection h with h; subst h; exact ⟨_, Try.func85, e85⟩
  · injection h with h; subst h; exact ⟨_, Try.func86, e86⟩
  · injection h with h; subst h; exact ⟨_, Try.func87, e87⟩
  · injection h with h; subst h; exact ⟨_, Try.func88, e88⟩
  · injection h with h; subst h; exact ⟨_, Try.func89, e89⟩
  · injection h with h; subst h; exact ⟨_, Try.func90, e90⟩
  · injection h with h; subst h; exact ⟨_, Try.func91, e91⟩
  · injection h with h; subst h; exact ⟨_, Try.func92, e92⟩
  · injection h with h; subst h; exact ⟨_, Try.func93, e93⟩
  · injection h with h; subst h; exact ⟨_, Try.func94, e94⟩
  · injection h with h; subst h; exact ⟨_, Try.func95, e95⟩
  · injection h with h; subst h; exact ⟨_, Try.func96, e96⟩
  · injection h with h; subst h; exact ⟨_, Try.func98, e98⟩
  · injection h with h; subst h; exact ⟨_, Try.func99, e99⟩
  · injection h with h; subst h; exact ⟨_, Try.func100, e100⟩
  · injection h with h; subst h; exact ⟨_, Try.func101, e101⟩
  · injection h with h; subst h; exact ⟨_, Try.func102, e102⟩
  · injection h with h; subst h; exact ⟨_, Try.func103, e103⟩
  · injection h with h; subst h; exact ⟨_, Try.func104, e104⟩
  · injection h with h; subst h; exact ⟨_, Try.func105, e105⟩
  · cases h
def ren : Go.Shelf.Ren := ⟨fun n => if n = 240 then 77 else 97, fun n => match n with | 0 => 0 | 4 => 4 | 9 => 9 | 20 => 20 | 37 => 64 | 70 => 73 | 72 => 75 | 164 => 157 | _ => 0, fun n => n⟩
theorem lays : Go.Proofs.Lays.n240 Try.prog ren where
  mixed := mixed
  f240 := by kernel_rfl
  f276 := by kernel_rfl
  t0 := by kernel_rfl
  a0 := fun w => by kernel_rfl
  z0 := fun w => by kernel_rfl
  v0 := fun w => by kernel_rfl
  t4 := by kernel_rfl
  a4 := fun w => by kernel_rfl
  z4 := fun w => by kernel_rfl
  v4 := fun w => by kernel_rfl
  t9 := by kernel_rfl
  a9 := fun w => by kernel_rfl
  z9 := fun w => by kernel_rfl
  v9 := fun w => by kernel_rfl
  t20 := by kernel_rfl
  a20 := fun w => by kernel_rfl
  z20 := fun w => by kernel_rfl
  v20 := fun w => by kernel_rfl
  t70 := by kernel_rfl
  a70 := fun w => by kernel_rfl
  z70 := fun w => by kernel_rfl
  v70 := fun w => by kernel_rfl
  t72 := by kernel_rfl
  a72 := fun w => by kernel_rfl
  z72 := fun w => by kernel_rfl
  v72 := fun w => by kernel_rfl
  t164 := by kernel_rfl
  a164 := fun w => by kernel_rfl
  z164 := fun w => by kernel_rfl
  v164 := fun w => by kernel_rfl
theorem lies : Go.Proofs.Builder.X72 Try.prog ren := ⟨by kernel_rfl, by kernel_rfl⟩
theorem lies75 : liesAt Try.prog Try.prog.depth 75 (2 / Try.prog.cellsOf 75) 0 (ren.t 72) 1 = true := by kernel_rfl
theorem lies110 : liesAt Try.prog Try.prog.depth 110 (2 / Try.prog.cellsOf 110) 0 (ren.t 72) 1 = true := by kernel_rfl
theorem isWhole : ∀ e, whole e = true → liesAt Try.prog Try.prog.depth e (2 / Try.prog.cellsOf e) 0 (ren.t 72) 1 = true := fun e h => by
  have h2 : e = 75 ∨ e = 110 := by simpa [whole] using h
  rcases h2 with rfl | rfl
  · exact lies75
  · exact lies110
theorem sound00 : ClOk Try.prog (call env0) := call_sound mixed ⟨fun f s _ h => fnsOk f s h, fun f _ _ _ _ h => by cases h⟩
def envB : Env := toldB env0 [] 77
theorem sound0 : ClOk Try.prog (call envB) := call_sound mixed (toldB_ok lays lies isWhole fnsOk sound00 fun f hf => by cases hf)
end Go.Proofs.Ytppkggodpihfiaa
