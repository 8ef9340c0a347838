/- A texel that comes in. -/
import Derived.Test.YtimbippemlmnlaaC27
import Derived.Test.YtimbippemlmnlaaDen33
set_option linter.unusedVariables false
set_option linter.unusedSimpArgs false
namespace Go.Proofs.Ytimbippemlmnlaa
open Go Go.Den
def texTy : Ty := .agg [.int .u8, .int .u8, .int .u8, .int .u8]
theorem tex_in (x : List AV) (h : Has texTy x) : ∃ a : Tex, x = a.cs ∧ a.Ok := by
  unfold texTy at h
  simp only [Has] at h
  obtain ⟨a, r, rfl, h1, h⟩ := has_cons h
  obtain ⟨b, r, rfl, h2, h⟩ := has_cons h
  obtain ⟨c, r, rfl, h3, h⟩ := has_cons h
  obtain ⟨d, r, rfl, h4, h⟩ := has_cons h
  obtain rfl := has_nil h
  obtain ⟨t, rfl, w1⟩ := has_int h1
  obtain ⟨r, rfl, w2⟩ := has_int h2
  obtain ⟨g, rfl, w3⟩ := has_int h3
  obtain ⟨b, rfl, w4⟩ := has_int h4
  exact ⟨⟨t, r, g, b⟩, rfl, wf_u8 w1, wf_u8 w2, wf_u8 w3, wf_u8 w4⟩
end Go.Proofs.Ytimbippemlmnlaa
