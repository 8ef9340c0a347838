/- AtlasTurned: the row. For every input the law's function returns true and leaves its arguments as they were. -/
import Derived.Test.YtppkggodpihfiaaC30tb
import Derived.Test.YtppkggodpihfiaaC30i
import Derived.Test.YtppkggodpihfiaaRows
import Derived.Test.YtppkggodpihfiaaDen38
set_option linter.unusedVariables false
set_option linter.unusedSimpArgs false
set_option maxRecDepth 100000
namespace Go.Proofs.Ytppkggodpihfiaa.atlasTurned
open Go Go.Den
theorem inMachine (xs : List AV) (h : ArgsAre [AtlT, .int .u16, .int .u8] xs) : ∃ H', call env 8 xs [] = some (.bool true, H') := by
  obtain ⟨v, r, rfl, h1, v2, r', rfl, h2, v3, r'', rfl, h3, rfl⟩ := h
  obtain ⟨a, vg, vp, vs, rfl, hs, n1, _⟩ := atl_arg h1
  obtain ⟨x, h4, w4⟩ := has_int (show Has (.int .u16) [v2] from h2)
  obtain ⟨y, h5, w5⟩ := has_int (show Has (.int .u8) [v3] from h3)
  injection h4 with h4
  injection h5 with h5
  subst h4 h5
  have hx := wf_u16 w4
  have hy := wf_u8 w5
  obtain ⟨n, rfl⟩ : ∃ n : Nat, x = n := ⟨x.toNat, by omega⟩
  obtain ⟨c, rfl⟩ : ∃ c : UInt8, y = (c.toNat : Int) := ⟨UInt8.ofNat y.toNat, by simp; omega⟩
  exact c8 hs n1 n (by omega) c
theorem laidOut : laidOutB Try.prog = true := by kernel_rfl
theorem own : ownKnob Try.prog.godebug = none := by kernel_rfl
theorem lifted (os : Os) (started : os.Started) (H : Type) (enc : TypeId × Value → H) :
    ReturnsInHanded {} Try.checked os 8 .any (Rows.atlasTurnedSpec.pre6 enc Try.prog Try.f8 Rows.atlasTurnedRow.domain false) (Rows.atlasTurnedSpec.post enc Try.prog Try.f8 false true false false) :=
  law_of (C := Try.checked) (e := env) (sf := s8) (tb := 4) [AtlT, .int .u16, .int .u8] own started (by kernel_rfl) Try.func8
    (ChangeSpec.witness6 (enc := enc) (C := Try.checked) false ⟨#[], #[.agg #[.int .i64 0, .int .i64 0, .int .i64 0, .int .i64 0, .int .i64 0, .int .i64 0, .int .i64 0, .int .i64 0, .slice none 0 0, .slice none 0 0, .slice none 0 0], .int .u16 0, .int .u8 0], []⟩ 8 (by kernel_rfl) (by kernel_rfl) (by kernel_rfl) (by kernel_rfl))
    rfl (fun ds hd => by match ds, hd with | [a, b, c], _ => rfl) (fitsArgs_ok (by kernel_rfl)) (by kernel_rfl) laidOut (by kernel_rfl) Try.underlying4 envOk rfl rfl sound inMachine
theorem over : Rows.atlasTurnedRow.holds Try.pinned (OpenSpec.ofChange Rows.atlasTurnedSpec) :=
  OpenClaim.holds_of_wide 8 Try.f8 rfl rfl rfl rfl rfl rfl rfl ⟨rfl, rfl, rfl, rfl, rfl⟩ rfl rfl rfl rfl rfl (by kernel_rfl) Try.func8 (by kernel_rfl)
    (of_decide_eq_true (by kernel_rfl)) (by unfold Func.isWrapper; first | (rw [if_pos (by decide +kernel)]; kernel_rfl) | (rw [if_neg (by decide +kernel)]; exact ⟨rfl, rfl⟩))
    (fun os started H enc _ => lifted os started H enc)
end Go.Proofs.Ytppkggodpihfiaa.atlasTurned
namespace Go.Proofs.Ytppkggodpihfiaa
/-- The row, under a short name, for the claim. -/
theorem atlasTurned_holds : Rows.AtlasTurnedSaid := atlasTurned.over
#print axioms atlasTurned_holds
end Go.Proofs.Ytppkggodpihfiaa
