/- KernAny: the row. For every input the law's function returns true and leaves its arguments as they were. -/
import Derived.Test.YtppkggodpihfiaaK40n
import Derived.Test.YtppkggodpihfiaaRows
import Derived.Test.YtppkggodpihfiaaDen38
set_option linter.unusedVariables false
set_option linter.unusedSimpArgs false
set_option maxRecDepth 100000
namespace Go.Proofs.Ytppkggodpihfiaa.kernAny
open Go Go.Den
theorem inMachine (xs : List AV) (h : ArgsAre [.str, .int .i64] xs) : ∃ H', call env 4 xs [] = some (.bool true, H') := by
  obtain ⟨v, r, rfl, h1, w, r', rfl, h3, rfl⟩ := h
  obtain ⟨s, h2, _⟩ := has_str (show Has .str [v] from h1)
  injection h2 with h2
  subst h2
  obtain ⟨g, h4, _⟩ := has_int (show Has (.int .i64) [w] from h3)
  injection h4 with h4
  subst h4
  have := c4 s.data.toList g
  rwa [mkS_self] at this
theorem laidOut : laidOutB Try.prog = true := by kernel_rfl
theorem own : ownKnob Try.prog.godebug = none := by kernel_rfl
theorem lifted (os : Os) (started : os.Started) (H : Type) (enc : TypeId × Value → H) :
    ReturnsInHanded {} Try.checked os 4 .any (Rows.kernAnySpec.pre6 enc Try.prog Try.f4 Rows.kernAnyRow.domain false) (Rows.kernAnySpec.post enc Try.prog Try.f4 false true false false) :=
  law_of (C := Try.checked) (e := env) (sf := s4) (tb := 4) [.str, .int .i64] own started (by kernel_rfl) Try.func4
    (ChangeSpec.witness6 (enc := enc) (C := Try.checked) false ⟨#[], #[.string ⟨#[]⟩, .int .i64 0], []⟩ 8 (by kernel_rfl) (by kernel_rfl) (by kernel_rfl) (by kernel_rfl))
    rfl (fun ds hd => by match ds, hd with | [a, b], _ => rfl) (fitsArgs_ok (by kernel_rfl)) (by kernel_rfl) laidOut (by kernel_rfl) Try.underlying4 envOk rfl rfl sound inMachine
theorem over : Rows.kernAnyRow.holds Try.pinned (OpenSpec.ofChange Rows.kernAnySpec) :=
  OpenClaim.holds_of_wide 4 Try.f4 rfl rfl rfl rfl rfl rfl rfl ⟨rfl, rfl, rfl, rfl, rfl⟩ rfl rfl rfl rfl rfl (by kernel_rfl) Try.func4 (by kernel_rfl)
    (of_decide_eq_true (by kernel_rfl)) (by unfold Func.isWrapper; first | (rw [if_pos (by decide +kernel)]; kernel_rfl) | (rw [if_neg (by decide +kernel)]; exact ⟨rfl, rfl⟩))
    (fun os started H enc _ => lifted os started H enc)
end Go.Proofs.Ytppkggodpihfiaa.kernAny
namespace Go.Proofs.Ytppkggodpihfiaa
/-- The row, under a short name, for the claim. -/
theorem kernAny_holds : Rows.KernAnySaid := kernAny.over
#print axioms kernAny_holds
end Go.Proofs.Ytppkggodpihfiaa
