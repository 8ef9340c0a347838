/- The machine in which some calls are told. -/
import Derived.Test.YtppkggodpihfiaaC08p
set_option linter.unusedVariables false
set_option maxRecDepth 100000
namespace Go.Proofs.Ytppkggodpihfiaa
open Go Go.Den
theorem a10 : call envB 10 [] [] = some (.bool true, []) := tell_less (e := envB) (g := 55) (J := Pre.tells) Pre.tells_ok 200 _ _ _ _ (by kernel_rfl)
theorem a23 : call envB 23 [] [] = some (.bool true, []) := tell_less (e := envB) (g := 55) (J := Pre.tells) Pre.tells_ok 200 _ _ _ _ (by kernel_rfl)
/-- The machine: the functions, and those that are told once and for all. -/
def env : Env := toldB envB [10, 23] 77
theorem envOk : EnvOk Try.prog env := toldB_ok lays lies isWhole fnsOk sound0 fun f hf => by
  simp at hf
  rcases hf with rfl | rfl
  · exact a10
  · exact a23
theorem w10 (H : Heap) : call env 10 [] H = some (.bool true, H) := call_intr rfl rfl
theorem w23 (H : Heap) : call env 23 [] H = some (.bool true, H) := call_intr rfl rfl
theorem cCheck (args : List AV) (H : Heap) : call env 77 args H = bldCheck args H := call_isI (e := env) rfl
/-- What the machine says of a call is what the program does. -/
theorem sound : ClOk Try.prog (call env) := call_sound mixed envOk
end Go.Proofs.Ytppkggodpihfiaa
