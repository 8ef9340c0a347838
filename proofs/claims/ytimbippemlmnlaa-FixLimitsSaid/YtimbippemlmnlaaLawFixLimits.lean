/- FixLimits: the row. For every input the law's function returns true and leaves its arguments as they were. -/
import Derived.Test.YtimbippemlmnlaaC27b
import Derived.Test.YtimbippemlmnlaaC27t
import Derived.Test.YtimbippemlmnlaaRows
import Derived.Test.YtimbippemlmnlaaDen33
set_option linter.unusedVariables false
set_option linter.unusedSimpArgs false
set_option maxRecDepth 100000
namespace Go.Proofs.Ytimbippemlmnlaa.fixLimits
open Go Go.Den
theorem inMachine (xs : List AV) (h : ArgsAre [.slice texTy, .int .i64, .int .i64] xs) : ∃ H', call env 5 xs [] = some (.bool true, H') := by
  obtain ⟨v, r, rfl, h1, w, r', rfl, h2, u, r', rfl, h3, rfl⟩ := h
  obtain ⟨l, hl, hok, hm⟩ := slice_in (H := []) h1 (by decide) tex_in (fun a => rfl)
  obtain ⟨n, hn, hw⟩ := has_int h2
  injection hn with hn
  subst hn
  obtain ⟨n', hn, hw⟩ := has_int h3
  injection hn with hn
  subst hn
  exact ⟨_, c5 n n' hl hok⟩
theorem laidOut : laidOutB Try.prog = true := by kernel_rfl
theorem own : ownKnob Try.prog.godebug = none := by kernel_rfl
theorem lifted (os : Os) (started : os.Started) (H : Type) (enc : TypeId × Value → H) :
    ReturnsInHanded {} Try.checked os 5 .any (Rows.fixLimitsSpec.pre6 enc Try.prog Try.f5 Rows.fixLimitsRow.domain false) (Rows.fixLimitsSpec.post enc Try.prog Try.f5 false true false false) :=
  law_of (C := Try.checked) (e := env) (sf := s5) (tb := 4) [.slice texTy, .int .i64, .int .i64] own started (by kernel_rfl) Try.func5
    (ChangeSpec.witness6 (enc := enc) (C := Try.checked) false ⟨#[], #[.slice none 0 0, .int .i64 0, .int .i64 0], []⟩ 8 (by kernel_rfl) (by kernel_rfl) (by kernel_rfl) (by kernel_rfl))
    rfl (fun ds hd => by match ds, hd with | [a, b, c], _ => rfl) (fitsArgs_ok (by kernel_rfl)) (by kernel_rfl) laidOut (by kernel_rfl) Try.underlying4 envOk rfl rfl sound inMachine
theorem over : Rows.fixLimitsRow.holds Try.pinned (OpenSpec.ofChange Rows.fixLimitsSpec) :=
  OpenClaim.holds_of_wide 5 Try.f5 rfl rfl rfl rfl rfl rfl rfl ⟨rfl, rfl, rfl, rfl, rfl⟩ rfl rfl rfl rfl rfl (by kernel_rfl) Try.func5 (by kernel_rfl)
    (of_decide_eq_true (by kernel_rfl)) (by unfold Func.isWrapper; first | (rw [if_pos (by decide +kernel)]; kernel_rfl) | (rw [if_neg (by decide +kernel)]; exact ⟨rfl, rfl⟩))
    (fun os started H enc _ => lifted os started H enc)
end Go.Proofs.Ytimbippemlmnlaa.fixLimits
namespace Go.Proofs.Ytimbippemlmnlaa
/-- The row, under a short name, for the claim. -/
theorem fixLimits_holds : Rows.FixLimitsSaid := fixLimits.over
#print axioms fixLimits_holds
end Go.Proofs.Ytimbippemlmnlaa
