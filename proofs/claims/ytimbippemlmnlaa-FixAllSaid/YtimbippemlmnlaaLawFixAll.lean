/- FixAll: the row. -/
import Derived.Test.YtimbippemlmnlaaC27a
import Derived.Test.YtimbippemlmnlaaRows
import Derived.Test.YtimbippemlmnlaaDen33
set_option linter.unusedVariables false
set_option linter.unusedSimpArgs false
set_option maxRecDepth 100000
namespace Go.Proofs.Ytimbippemlmnlaa
open Go Go.Den
theorem laidOut : laidOutB Try.prog = true := by kernel_rfl
theorem own : ownKnob Try.prog.godebug = none := by kernel_rfl
def texTy : Ty := .agg [.int .u8, .int .u8, .int .u8, .int .u8]
theorem tex_in (x : List AV) (h : Has texTy x) : ∃ a : Tex, x = a.cs ∧ a.Ok := by
  unfold texTy at h
  simp only [Has] at h
  obtain ⟨a, r, rfl, h1, h⟩ := has_cons h
  obtain ⟨b, r, rfl, h2, h⟩ := has_cons h
  obtain ⟨c, r, rfl, h3, h⟩ := has_cons h
  obtain ⟨d, r, rfl, h4, h⟩ := has_cons h
  obtain rfl := has_nil h
  obtain ⟨t, rfl, w1⟩ := has_int h1
  obtain ⟨r, rfl, w2⟩ := has_int h2
  obtain ⟨g, rfl, w3⟩ := has_int h3
  obtain ⟨b, rfl, w4⟩ := has_int h4
  exact ⟨⟨t, r, g, b⟩, rfl, wf_u8 w1, wf_u8 w2, wf_u8 w3, wf_u8 w4⟩
namespace fixAll
theorem inMachine (xs : List AV) (h : ArgsAre [.slice texTy, .int .i64] xs) : ∃ H', call env 4 xs [] = some (.bool true, H') := by
  obtain ⟨v, r, rfl, h1, w, r', rfl, h2, rfl⟩ := h
  obtain ⟨l, hl, hok, hm⟩ := slice_in (H := []) h1 (by decide) tex_in (fun a => rfl)
  obtain ⟨n, hn, hw⟩ := has_int h2
  injection hn with hn
  subst hn
  exact ⟨_, c4 n hl hok⟩
theorem lifted (os : Os) (started : os.Started) (H : Type) (enc : TypeId × Value → H) :
    ReturnsInHanded {} Try.checked os 4 .any (Rows.fixAllSpec.pre6 enc Try.prog Try.f4 Rows.fixAllRow.domain false) (Rows.fixAllSpec.post enc Try.prog Try.f4 false true false false) :=
  law_of (C := Try.checked) (e := env) (sf := s4) (tb := 4) [.slice texTy, .int .i64] own started (by kernel_rfl) Try.func4
    (ChangeSpec.witness6 (enc := enc) (C := Try.checked) false ⟨#[], #[.slice none 0 0, .int .i64 0], []⟩ 8 (by kernel_rfl) (by kernel_rfl) (by kernel_rfl) (by kernel_rfl))
    rfl (fun ds hd => by match ds, hd with | [a, b], _ => rfl) (fitsArgs_ok (by kernel_rfl)) (by kernel_rfl) laidOut (by kernel_rfl) Try.underlying4 envOk rfl rfl sound inMachine
theorem over : Rows.fixAllRow.holds Try.pinned (OpenSpec.ofChange Rows.fixAllSpec) :=
  OpenClaim.holds_of_wide 4 Try.f4 rfl rfl rfl rfl rfl rfl rfl ⟨rfl, rfl, rfl, rfl, rfl⟩ rfl rfl rfl rfl rfl (by kernel_rfl) Try.func4 (by kernel_rfl)
    (of_decide_eq_true (by kernel_rfl)) (by unfold Func.isWrapper; first | (rw [if_pos (by decide +kernel)]; kernel_rfl) | (rw [if_neg (by decide +kernel)]; exact ⟨rfl, rfl⟩))
    (fun os started H enc _ => lifted os started H enc)
end fixAll
/-- The row, under a short name, for the claim. -/
theorem fixAll_holds : Rows.FixAllSaid := fixAll.over
#print axioms fixAll_holds
end Go.Proofs.Ytimbippemlmnlaa
