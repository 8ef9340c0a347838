/- AtlasAny: the row. For every input the law's function returns true and leaves its arguments as they were. -/
import Derived.Test.YtppkggodpihfiaaC30x
import Derived.Test.YtppkggodpihfiaaC30i
import Derived.Test.YtppkggodpihfiaaRows
import Derived.Test.YtppkggodpihfiaaDen38
set_option linter.unusedVariables false
set_option linter.unusedSimpArgs false
set_option maxRecDepth 100000
namespace Go.Proofs.Ytppkggodpihfiaa.atlasAny
open Go Go.Den
theorem inMachine (xs : List AV) (h : ArgsAre [.str] xs) : ∃ H', call env 7 xs [] = some (.bool true, H') := by
  obtain ⟨v, r, rfl, h1, rfl⟩ := h
  obtain ⟨s, h2, _⟩ := has_str (show Has .str [v] from h1)
  injection h2 with h2
  subst h2
  have := c7 s.data.toList
  rwa [mkS_self] at this
theorem laidOut : laidOutB Try.prog = true := by kernel_rfl
theorem own : ownKnob Try.prog.godebug = none := by kernel_rfl
theorem lifted (os : Os) (started : os.Started) (H : Type) (enc : TypeId × Value → H) :
    ReturnsInHanded {} Try.checked os 7 .any (Rows.atlasAnySpec.pre6 enc Try.prog Try.f7 Rows.atlasAnyRow.domain false) (Rows.atlasAnySpec.post enc Try.prog Try.f7 false true false false) :=
  law_of (C := Try.checked) (e := env) (sf := s7) (tb := 4) [.str] own started (by kernel_rfl) Try.func7
    (ChangeSpec.witness6 (enc := enc) (C := Try.checked) false ⟨#[], #[.string ⟨#[]⟩], []⟩ 8 (by kernel_rfl) (by kernel_rfl) (by kernel_rfl) (by kernel_rfl))
    rfl (fun ds hd => by match ds, hd with | [a], _ => rfl) (fitsArgs_ok (by kernel_rfl)) (by kernel_rfl) laidOut (by kernel_rfl) Try.underlying4 envOk rfl rfl sound inMachine
theorem over : Rows.atlasAnyRow.holds Try.pinned (OpenSpec.ofChange Rows.atlasAnySpec) :=
  OpenClaim.holds_of_wide 7 Try.f7 rfl rfl rfl rfl rfl rfl rfl ⟨rfl, rfl, rfl, rfl, rfl⟩ rfl rfl rfl rfl rfl (by kernel_rfl) Try.func7 (by kernel_rfl)
    (of_decide_eq_true (by kernel_rfl)) (by unfold Func.isWrapper; first | (rw [if_pos (by decide +kernel)]; kernel_rfl) | (rw [if_neg (by decide +kernel)]; exact ⟨rfl, rfl⟩))
    (fun os started H enc _ => lifted os started H enc)
end Go.Proofs.Ytppkggodpihfiaa.atlasAny
namespace Go.Proofs.Ytppkggodpihfiaa
/-- The row, under a short name, for the claim. -/
theorem atlasAny_holds : Rows.AtlasAnySaid := atlasAny.over
#print axioms atlasAny_holds
end Go.Proofs.Ytppkggodpihfiaa
