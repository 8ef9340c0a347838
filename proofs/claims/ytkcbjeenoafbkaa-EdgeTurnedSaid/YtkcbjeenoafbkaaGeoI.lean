/- Points and edges that come in. -/
import Derived.Test.YtkcbjeenoafbkaaGeo
import Derived.Test.YtkcbjeenoafbkaaDen38
set_option linter.unusedVariables false
namespace Go.Proofs.Ytkcbjeenoafbkaa
open Go Go.Den
theorem pt_in {c : List AV} (h : Has (.agg [.int .i64, .int .i64]) c) : ∃ p : Pt, c = p.cs := by
  simp only [Has] at h
  obtain ⟨a, r, rfl, h1, h⟩ := has_cons h
  obtain ⟨b, r, rfl, h2, h⟩ := has_cons h
  obtain rfl := has_nil h
  obtain ⟨x, rfl, w1⟩ := has_int h1
  obtain ⟨y, rfl, w2⟩ := has_int h2
  exact ⟨⟨x, y⟩, rfl⟩
theorem edge_cells {c : List AV} (h : HasAll [.int .i64, .bool, .agg [.int .i64, .int .i64], .agg [.int .i64, .int .i64], .agg [.int .i64, .int .i64]] c) : ∃ e : Edge, c = e.cs := by
  obtain ⟨a, r, rfl, h1, h⟩ := has_cons h
  obtain ⟨b, r, rfl, h2, h⟩ := has_cons h
  obtain ⟨c1, r, rfl, h3, h⟩ := has_cons h
  obtain ⟨c2, r, rfl, h4, h⟩ := has_cons h
  obtain ⟨c3, r, rfl, h5, h⟩ := has_cons h
  obtain rfl := has_nil h
  obtain ⟨n, rfl, _⟩ := has_int h1
  obtain ⟨q, rfl⟩ := has_bool h2
  obtain ⟨p1, rfl⟩ := pt_in h3
  obtain ⟨p2, rfl⟩ := pt_in h4
  obtain ⟨p3, rfl⟩ := pt_in h5
  exact ⟨⟨n, q, p1, p2, p3⟩, rfl⟩
theorem edge_arg {v : AV} (h : ArgIs (.agg [.int .i64, .bool, .agg [.int .i64, .int .i64], .agg [.int .i64, .int .i64], .agg [.int .i64, .int .i64]]) v) : ∃ e : Edge, v = .agg e.cs := by
  obtain ⟨c, rfl, h⟩ := h
  obtain ⟨e, rfl⟩ := edge_cells h
  exact ⟨e, rfl⟩
theorem int_arg {k : IntKind} {v : AV} (h : ArgIs (.int k) v) : ∃ n, v = .int k n ∧ (Lit.int k n).wf = true := by
  obtain ⟨n, h1, h2⟩ := has_int (show Has (.int k) [v] from h)
  injection h1 with h1
  exact ⟨n, h1, h2⟩
theorem bool_arg {v : AV} (h : ArgIs .bool v) : ∃ b, v = .bool b := by
  obtain ⟨n, h1⟩ := has_bool (show Has .bool [v] from h)
  injection h1 with h1
  exact ⟨n, h1⟩
end Go.Proofs.Ytkcbjeenoafbkaa
