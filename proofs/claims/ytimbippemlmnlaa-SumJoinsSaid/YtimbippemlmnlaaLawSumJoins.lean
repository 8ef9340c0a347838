/- SumJoins: the row. For every input the law's function returns true and leaves its arguments as they were. -/
import Derived.Test.YtimbippemlmnlaaC08j
import Derived.Test.YtimbippemlmnlaaRows
import Derived.Test.YtimbippemlmnlaaDen33
set_option linter.unusedVariables false
set_option linter.unusedSimpArgs false
set_option maxRecDepth 100000
namespace Go.Proofs.Ytimbippemlmnlaa.sumJoins
open Go Go.Den
theorem inMachine (xs : List AV) (h : ArgsAre [.str, .str, .int .i64] xs) : ∃ H', call env 10 xs [] = some (.bool true, H') := by
  obtain ⟨v, r, rfl, h1, w, r', rfl, h2, u, r', rfl, h3, rfl⟩ := h
  obtain ⟨s, hs, hw⟩ := has_str h1
  injection hs with hs
  subst hs
  obtain ⟨t, hs, hw⟩ := has_str h2
  injection hs with hs
  subst hs
  obtain ⟨n, hn, _⟩ := has_int h3
  injection hn with hn
  subst hn
  rw [← mkS_self s, ← mkS_self t]
  exact ⟨_, c10 _ _ n⟩
theorem laidOut : laidOutB Try.prog = true := by kernel_rfl
theorem own : ownKnob Try.prog.godebug = none := by kernel_rfl
theorem lifted (os : Os) (started : os.Started) (H : Type) (enc : TypeId × Value → H) :
    ReturnsInHanded {} Try.checked os 10 .any (Rows.sumJoinsSpec.pre6 enc Try.prog Try.f10 Rows.sumJoinsRow.domain false) (Rows.sumJoinsSpec.post enc Try.prog Try.f10 false true false false) :=
  law_of (C := Try.checked) (e := env) (sf := s10) (tb := 4) [.str, .str, .int .i64] own started (by kernel_rfl) Try.func10
    (ChangeSpec.witness6 (enc := enc) (C := Try.checked) false ⟨#[], #[.string ⟨#[]⟩, .string ⟨#[]⟩, .int .i64 0], []⟩ 8 (by kernel_rfl) (by kernel_rfl) (by kernel_rfl) (by kernel_rfl))
    rfl (fun ds hd => by match ds, hd with | [a, b, c], _ => rfl) (fitsArgs_ok (by kernel_rfl)) (by kernel_rfl) laidOut (by kernel_rfl) Try.underlying4 envOk rfl rfl sound inMachine
theorem over : Rows.sumJoinsRow.holds Try.pinned (OpenSpec.ofChange Rows.sumJoinsSpec) :=
  OpenClaim.holds_of_wide 10 Try.f10 rfl rfl rfl rfl rfl rfl rfl ⟨rfl, rfl, rfl, rfl, rfl⟩ rfl rfl rfl rfl rfl (by kernel_rfl) Try.func10 (by kernel_rfl)
    (of_decide_eq_true (by kernel_rfl)) (by unfold Func.isWrapper; first | (rw [if_pos (by decide +kernel)]; kernel_rfl) | (rw [if_neg (by decide +kernel)]; exact ⟨rfl, rfl⟩))
    (fun os started H enc _ => lifted os started H enc)
end Go.Proofs.Ytimbippemlmnlaa.sumJoins
namespace Go.Proofs.Ytimbippemlmnlaa
/-- The row, under a short name, for the claim. -/
theorem sumJoins_holds : Rows.SumJoinsSaid := sumJoins.over
#print axioms sumJoins_holds
end Go.Proofs.Ytimbippemlmnlaa
