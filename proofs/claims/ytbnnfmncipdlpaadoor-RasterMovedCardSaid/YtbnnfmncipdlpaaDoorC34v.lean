/- Chapter 34: arguments. -/
import Derived.Test.YtbnnfmncipdlpaaDoorC34a
import Derived.Test.YtbnnfmncipdlpaaDoorC30i
set_option linter.unusedVariables false
set_option linter.unusedSimpArgs false
set_option maxRecDepth 100000
namespace Go.Proofs.YtbnnfmncipdlpaaDoor
open Go Go.Den
abbrev ViewT : Ty := .agg [.int .i64, .int .i64, .int .i64, .int .i64, .int .i64, .int .i64]
abbrev PldT : Ty := .agg [.int .i64, .int .i64, .int .i64]
theorem view_arg {v : AV} (h : ArgIs ViewT v) : ∃ w : View, v = .agg w.cs := by
  obtain ⟨c, rfl, h⟩ := h
  obtain ⟨c1, r, rfl, h1, h⟩ := has_cons h
  obtain ⟨c2, r, rfl, h2, h⟩ := has_cons h
  obtain ⟨c3, r, rfl, h3, h⟩ := has_cons h
  obtain ⟨c4, r, rfl, h4, h⟩ := has_cons h
  obtain ⟨c5, r, rfl, h5, h⟩ := has_cons h
  obtain ⟨c6, r, rfl, h6, h⟩ := has_cons h
  obtain rfl := has_nil h
  obtain ⟨x1, rfl, _⟩ := has_int h1
  obtain ⟨x2, rfl, _⟩ := has_int h2
  obtain ⟨x3, rfl, _⟩ := has_int h3
  obtain ⟨x4, rfl, _⟩ := has_int h4
  obtain ⟨x5, rfl, _⟩ := has_int h5
  obtain ⟨x6, rfl, _⟩ := has_int h6
  exact ⟨⟨x1, x2, x3, x4, x5, x6⟩, rfl⟩
theorem pld_in {c : List AV} (h : Has PldT c) : ∃ p : Pld, c = p.cs ∧ True := by
  simp only [PldT, Has] at h
  obtain ⟨c1, r, rfl, h1, h⟩ := has_cons h
  obtain ⟨c2, r, rfl, h2, h⟩ := has_cons h
  obtain ⟨c3, r, rfl, h3, h⟩ := has_cons h
  obtain rfl := has_nil h
  obtain ⟨x1, rfl, _⟩ := has_int h1
  obtain ⟨x2, rfl, _⟩ := has_int h2
  obtain ⟨x3, rfl, _⟩ := has_int h3
  exact ⟨⟨x1, x2, x3⟩, rfl, trivial⟩
end Go.Proofs.YtbnnfmncipdlpaaDoor
