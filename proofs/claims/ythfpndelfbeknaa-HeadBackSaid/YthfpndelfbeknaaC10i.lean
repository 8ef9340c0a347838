/- Chapter 10: heads and numbers that come in. -/
import Derived.Test.YthfpndelfbeknaaC10a
import Derived.Test.YthfpndelfbeknaaDen38
set_option linter.unusedVariables false
namespace Go.Proofs.Ythfpndelfbeknaa
open Go Go.Den
theorem head_arg {v : AV} (h : ArgIs (.agg [.int .i64, .bool, .int .i64, .int .i64, .int .i64, .int .i64, .int .i64]) v) : ∃ e : Hd, v = .agg e.cs := by
  obtain ⟨c, rfl, h⟩ := h
  obtain ⟨c1, r, rfl, h1, h⟩ := has_cons h
  obtain ⟨c2, r, rfl, h2, h⟩ := has_cons h
  obtain ⟨c3, r, rfl, h3, h⟩ := has_cons h
  obtain ⟨c4, r, rfl, h4, h⟩ := has_cons h
  obtain ⟨c5, r, rfl, h5, h⟩ := has_cons h
  obtain ⟨c6, r, rfl, h6, h⟩ := has_cons h
  obtain ⟨c7, r, rfl, h7, h⟩ := has_cons h
  obtain rfl := has_nil h
  obtain ⟨x1, rfl, _⟩ := has_int h1
  obtain ⟨x2, rfl⟩ := has_bool h2
  obtain ⟨x3, rfl, _⟩ := has_int h3
  obtain ⟨x4, rfl, _⟩ := has_int h4
  obtain ⟨x5, rfl, _⟩ := has_int h5
  obtain ⟨x6, rfl, _⟩ := has_int h6
  obtain ⟨x7, rfl, _⟩ := has_int h7
  exact ⟨⟨x1, x2, x3, x4, x5, x6, x7⟩, rfl⟩
theorem str_arg {v : AV} (h : ArgIs .str v) : ∃ s : List UInt8, v = .str (mkS s) := by
  obtain ⟨s, h1, _⟩ := has_str (show Has .str [v] from h)
  injection h1 with h1
  exact ⟨_, by rw [h1, ← mkS_self s]⟩
theorem int_arg {k : IntKind} {v : AV} (h : ArgIs (.int k) v) : ∃ n, v = .int k n ∧ (Lit.int k n).wf = true := by
  obtain ⟨n, h1, h2⟩ := has_int (show Has (.int k) [v] from h)
  injection h1 with h1
  exact ⟨n, h1, h2⟩
end Go.Proofs.Ythfpndelfbeknaa
