/- OctetReads: the row. For every input the law's function returns true and leaves its arguments as they were. -/
import Derived.Test.YtimbippemlmnlaaC07s
import Derived.Test.YtimbippemlmnlaaRows
import Derived.Test.YtimbippemlmnlaaDen33
set_option linter.unusedVariables false
set_option linter.unusedSimpArgs false
set_option maxRecDepth 100000
namespace Go.Proofs.Ytimbippemlmnlaa.octetReads
open Go Go.Den
theorem inMachine (xs : List AV) (h : ArgsAre [.str, .slice (.agg [.int .u8, .int .i64])] xs) : ∃ H', call env 9 xs [] = some (.bool true, H') := by
  obtain ⟨v, r, rfl, h1, w, r', rfl, h2, rfl⟩ := h
  obtain ⟨s, hs, hw⟩ := has_str h1
  injection hs with hs
  subst hs
  obtain ⟨l, hl, hok, hm⟩ := slice_in (H := []) (g := Deed.cs) (ok := Deed.Ok) h2 (by decide) (fun x hx => by
    simp only [Has] at hx
    obtain ⟨a, r, rfl, h1, hx⟩ := has_cons hx
    obtain ⟨b, r, rfl, h2, hx⟩ := has_cons hx
    obtain rfl := has_nil hx
    obtain ⟨k, rfl, w1⟩ := has_int h1
    obtain ⟨n, rfl, w2⟩ := has_int h2
    exact ⟨⟨k, n⟩, rfl, wf_u8 w1⟩) (fun a => rfl)
  rw [← mkS_self s]
  exact ⟨_, c9 _ hl hok⟩
theorem laidOut : laidOutB Try.prog = true := by kernel_rfl
theorem own : ownKnob Try.prog.godebug = none := by kernel_rfl
theorem lifted (os : Os) (started : os.Started) (H : Type) (enc : TypeId × Value → H) :
    ReturnsInHanded {} Try.checked os 9 .any (Rows.octetReadsSpec.pre6 enc Try.prog Try.f9 Rows.octetReadsRow.domain false) (Rows.octetReadsSpec.post enc Try.prog Try.f9 false true false false) :=
  law_of (C := Try.checked) (e := env) (sf := s9) (tb := 4) [.str, .slice (.agg [.int .u8, .int .i64])] own started (by kernel_rfl) Try.func9
    (ChangeSpec.witness6 (enc := enc) (C := Try.checked) false ⟨#[], #[.string ⟨#[]⟩, .slice none 0 0], []⟩ 8 (by kernel_rfl) (by kernel_rfl) (by kernel_rfl) (by kernel_rfl))
    rfl (fun ds hd => by match ds, hd with | [a, b], _ => rfl) (fitsArgs_ok (by kernel_rfl)) (by kernel_rfl) laidOut (by kernel_rfl) Try.underlying4 envOk rfl rfl sound inMachine
theorem over : Rows.octetReadsRow.holds Try.pinned (OpenSpec.ofChange Rows.octetReadsSpec) :=
  OpenClaim.holds_of_wide 9 Try.f9 rfl rfl rfl rfl rfl rfl rfl ⟨rfl, rfl, rfl, rfl, rfl⟩ rfl rfl rfl rfl rfl (by kernel_rfl) Try.func9 (by kernel_rfl)
    (of_decide_eq_true (by kernel_rfl)) (by unfold Func.isWrapper; first | (rw [if_pos (by decide +kernel)]; kernel_rfl) | (rw [if_neg (by decide +kernel)]; exact ⟨rfl, rfl⟩))
    (fun os started H enc _ => lifted os started H enc)
end Go.Proofs.Ytimbippemlmnlaa.octetReads
namespace Go.Proofs.Ytimbippemlmnlaa
/-- The row, under a short name, for the claim. -/
theorem octetReads_holds : Rows.OctetReadsSaid := octetReads.over
#print axioms octetReads_holds
end Go.Proofs.Ytimbippemlmnlaa
