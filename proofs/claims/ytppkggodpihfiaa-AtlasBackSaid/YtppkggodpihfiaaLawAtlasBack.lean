/- AtlasBack: the row. For every input the law's function returns true and leaves its arguments as they were. -/
import Derived.Test.YtppkggodpihfiaaC30ab
import Derived.Test.YtppkggodpihfiaaC30i
import Derived.Test.YtppkggodpihfiaaRows
import Derived.Test.YtppkggodpihfiaaDen38
set_option linter.unusedVariables false
set_option linter.unusedSimpArgs false
set_option maxRecDepth 100000
namespace Go.Proofs.Ytppkggodpihfiaa.atlasBack
open Go Go.Den
theorem inMachine (xs : List AV) (h : ArgsAre [AtlT] xs) : ∃ H', call env 6 xs [] = some (.bool true, H') := by
  obtain ⟨v, r, rfl, h1, rfl⟩ := h
  obtain ⟨a, vg, vp, vs, rfl, hs, n1, _⟩ := atl_arg h1
  exact c6 hs n1
theorem laidOut : laidOutB Try.prog = true := by kernel_rfl
theorem own : ownKnob Try.prog.godebug = none := by kernel_rfl
theorem lifted (os : Os) (started : os.Started) (H : Type) (enc : TypeId × Value → H) :
    ReturnsInHanded {} Try.checked os 6 .any (Rows.atlasBackSpec.pre6 enc Try.prog Try.f6 Rows.atlasBackRow.domain false) (Rows.atlasBackSpec.post enc Try.prog Try.f6 false true false false) :=
  law_of (C := Try.checked) (e := env) (sf := s6) (tb := 4) [AtlT] own started (by kernel_rfl) Try.func6
    (ChangeSpec.witness6 (enc := enc) (C := Try.checked) false ⟨#[], #[.agg #[.int .i64 0, .int .i64 0, .int .i64 0, .int .i64 0, .int .i64 0, .int .i64 0, .int .i64 0, .int .i64 0, .slice none 0 0, .slice none 0 0, .slice none 0 0]], []⟩ 8 (by kernel_rfl) (by kernel_rfl) (by kernel_rfl) (by kernel_rfl))
    rfl (fun ds hd => by match ds, hd with | [a], _ => rfl) (fitsArgs_ok (by kernel_rfl)) (by kernel_rfl) laidOut (by kernel_rfl) Try.underlying4 envOk rfl rfl sound inMachine
theorem over : Rows.atlasBackRow.holds Try.pinned (OpenSpec.ofChange Rows.atlasBackSpec) :=
  OpenClaim.holds_of_wide 6 Try.f6 rfl rfl rfl rfl rfl rfl rfl ⟨rfl, rfl, rfl, rfl, rfl⟩ rfl rfl rfl rfl rfl (by kernel_rfl) Try.func6 (by kernel_rfl)
    (of_decide_eq_true (by kernel_rfl)) (by unfold Func.isWrapper; first | (rw [if_pos (by decide +kernel)]; kernel_rfl) | (rw [if_neg (by decide +kernel)]; exact ⟨rfl, rfl⟩))
    (fun os started H enc _ => lifted os started H enc)
end Go.Proofs.Ytppkggodpihfiaa.atlasBack
namespace Go.Proofs.Ytppkggodpihfiaa
/-- The row, under a short name, for the claim. -/
theorem atlasBack_holds : Rows.AtlasBackSaid := atlasBack.over
#print axioms atlasBack_holds
end Go.Proofs.Ytppkggodpihfiaa
