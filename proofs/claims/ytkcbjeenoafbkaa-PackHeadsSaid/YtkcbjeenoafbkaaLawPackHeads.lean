/- PackHeads: the row. For every input the law's function returns true and leaves its arguments as they were. -/
import Derived.Test.YtkcbjeenoafbkaaC29u
import Derived.Test.YtkcbjeenoafbkaaRows
import Derived.Test.YtkcbjeenoafbkaaDen38
set_option linter.unusedVariables false
set_option linter.unusedSimpArgs false
set_option maxRecDepth 100000
namespace Go.Proofs.Ytkcbjeenoafbkaa.packHeads
open Go Go.Den
theorem inMachine (xs : List AV) (h : ArgsAre [.slice (.agg [.int .i64, .int .i64]), .agg [.int .i64, .int .i64, .int .i64], .int .u8] xs) : ∃ H', call env 12 xs [] = some (.bool true, H') := by
  obtain ⟨v, r, rfl, h1, w, r', rfl, h2, u, r2, rfl, h3, rfl⟩ := h
  obtain ⟨l, s1, n1⟩ := sizes_in [] h1
  obtain ⟨c, rfl, hx⟩ := h2
  obtain ⟨a, b, c, rfl⟩ := three_in hx
  obtain ⟨k, hk, hw⟩ := has_int h3
  injection hk with hk
  subst hk
  have := wf_u8 hw
  exact c12 s1 a b c k (by omega)
theorem laidOut : laidOutB Try.prog = true := by kernel_rfl
theorem own : ownKnob Try.prog.godebug = none := by kernel_rfl
theorem lifted (os : Os) (started : os.Started) (H : Type) (enc : TypeId × Value → H) :
    ReturnsInHanded {} Try.checked os 12 .any (Rows.packHeadsSpec.pre6 enc Try.prog Try.f12 Rows.packHeadsRow.domain false) (Rows.packHeadsSpec.post enc Try.prog Try.f12 false true false false) :=
  law_of (C := Try.checked) (e := env) (sf := s12) (tb := 4) [.slice (.agg [.int .i64, .int .i64]), .agg [.int .i64, .int .i64, .int .i64], .int .u8] own started (by kernel_rfl) Try.func12
    (ChangeSpec.witness6 (enc := enc) (C := Try.checked) false ⟨#[], #[.slice none 0 0, .agg #[.int .i64 0, .int .i64 0, .int .i64 0], .int .u8 0], []⟩ 8 (by kernel_rfl) (by kernel_rfl) (by kernel_rfl) (by kernel_rfl))
    rfl (fun ds hd => by match ds, hd with | [a, b, c], _ => rfl) (fitsArgs_ok (by kernel_rfl)) (by kernel_rfl) laidOut (by kernel_rfl) Try.underlying4 envOk rfl rfl sound inMachine
theorem over : Rows.packHeadsRow.holds Try.pinned (OpenSpec.ofChange Rows.packHeadsSpec) :=
  OpenClaim.holds_of_wide 12 Try.f12 rfl rfl rfl rfl rfl rfl rfl ⟨rfl, rfl, rfl, rfl, rfl⟩ rfl rfl rfl rfl rfl (by kernel_rfl) Try.func12 (by kernel_rfl)
    (of_decide_eq_true (by kernel_rfl)) (by unfold Func.isWrapper; first | (rw [if_pos (by decide +kernel)]; kernel_rfl) | (rw [if_neg (by decide +kernel)]; exact ⟨rfl, rfl⟩))
    (fun os started H enc _ => lifted os started H enc)
end Go.Proofs.Ytkcbjeenoafbkaa.packHeads
namespace Go.Proofs.Ytkcbjeenoafbkaa
/-- The row, under a short name, for the claim. -/
theorem packHeads_holds : Rows.PackHeadsSaid := packHeads.over
#print axioms packHeads_holds
end Go.Proofs.Ytkcbjeenoafbkaa
