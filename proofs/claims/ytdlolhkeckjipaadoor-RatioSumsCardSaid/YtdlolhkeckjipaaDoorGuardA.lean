/- Operations with a guard that leave be what is looked at. -/
import Derived.Test.YtdlolhkeckjipaaDoorEnv
set_option linter.unusedVariables false
set_option linter.unusedSimpArgs false
namespace Go.Den
section
variable {cl : CL} {t : List AV} {H : Heap} {d : Option Nat} {o : SO} {r : List SOp} {i : Nat} {m : List (Nat × Nat × Nat)}
/-- An operation with a guard that leaves be what is looked at. -/
def guardA (b : Bool) (o : SO) (ap : List (Option (Nat × Bool) × SX)) (cl : CL) (i : Nat) (m : List (Nat × Nat × Nat)) (d : Option Nat) (r : List SOp) (t : List AV) (H : Heap) : Option (List AV × Heap) :=
  if b = true then thenAllA cl i m ap (sop cl t H o) d r t H else opsd cl (i + 1) m r (put t d .undef) H
theorem opsd_ga {g p l} : opsd cl i m (⟨d, o, some g, none, p :: l⟩ :: r) t H = guardA (wants t (some g)) o (p :: l) cl i m d r t H := _root_.id rfl
theorem guardA_t {ap} : guardA true o ap cl i m d r t H = thenAllA cl i m ap (sop cl t H o) d r t H := _root_.id rfl
theorem guardA_f {ap} : guardA false o ap cl i m d r t H = opsd cl (i + 1) m r (put t d .undef) H := _root_.id rfl
end
end Go.Den
