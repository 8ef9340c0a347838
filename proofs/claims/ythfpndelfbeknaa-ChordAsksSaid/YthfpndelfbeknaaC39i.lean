/- Chapter 39: points and edges that come in. -/
import Derived.Test.YthfpndelfbeknaaC39a
import Derived.Test.YthfpndelfbeknaaDen33
set_option linter.unusedVariables false
namespace Go.Proofs.Ythfpndelfbeknaa
open Go Go.Den
theorem pt_in {c : List AV} (h : Has (.agg [.int .i64, .int .i64]) c) : ∃ p : Pt, c = p.cs := by
  simp only [Has] at h
  obtain ⟨a, r, rfl, h1, h⟩ := has_cons h
  obtain ⟨b, r, rfl, h2, h⟩ := has_cons h
  obtain rfl := has_nil h
  obtain ⟨x, rfl, w1⟩ := has_int h1
  obtain ⟨y, rfl, w2⟩ := has_int h2
  exact ⟨⟨x, y⟩, rfl⟩
theorem edge_cells {c : List AV} (h : HasAll [.int .i64, .bool, .agg [.int .i64, .int .i64], .agg [.int .i64, .int .i64], .agg [.int .i64, .int .i64]] c) : ∃ e : Edge, c = e.cs := by
  obtain ⟨a, r, rfl, h1, h⟩ := has_cons h
  obtain ⟨b, r, rfl, h2, h⟩ := has_cons h
  obtain ⟨c1, r, rfl, h3, h⟩ := has_cons h
  obtain ⟨c2, r, rfl, h4, h⟩ := has_cons h
  obtain ⟨c3, r, rfl, h5, h⟩ := has_cons h
  obtain rfl := has_nil h
  obtain ⟨n, rfl, _⟩ := has_int h1
  obtain ⟨q, rfl⟩ := has_bool h2
  obtain ⟨p1, rfl⟩ := pt_in h3
  obtain ⟨p2, rfl⟩ := pt_in h4
  obtain ⟨p3, rfl⟩ := pt_in h5
  exact ⟨⟨n, q, p1, p2, p3⟩, rfl⟩
theorem edge_arg {v : AV} (h : ArgIs (.agg [.int .i64, .bool, .agg [.int .i64, .int .i64], .agg [.int .i64, .int .i64], .agg [.int .i64, .int .i64]]) v) : ∃ e : Edge, v = .agg e.cs := by
  obtain ⟨c, rfl, h⟩ := h
  obtain ⟨e, rfl⟩ := edge_cells h
  exact ⟨e, rfl⟩
theorem int_arg {k : IntKind} {v : AV} (h : ArgIs (.int k) v) : ∃ n, v = .int k n ∧ (Lit.int k n).wf = true := by
  obtain ⟨n, h1, h2⟩ := has_int (show Has (.int k) [v] from h)
  injection h1 with h1
  exact ⟨n, h1, h2⟩
theorem bool_arg {v : AV} (h : ArgIs .bool v) : ∃ b, v = .bool b := by
  obtain ⟨n, h1⟩ := has_bool (show Has .bool [v] from h)
  injection h1 with h1
  exact ⟨n, h1⟩
theorem two_in {c : List AV} (h : Has (.agg [.int .i16, .int .i16]) c) : ∃ x y : Int, c = [.int .i16 x, .int .i16 y] ∧ (-32768 ≤ x ∧ x < 32768) ∧ -32768 ≤ y ∧ y < 32768 := by
  simp only [Has] at h
  obtain ⟨a, r, rfl, h1, h⟩ := has_cons h
  obtain ⟨b, r, rfl, h2, h⟩ := has_cons h
  obtain rfl := has_nil h
  obtain ⟨x, rfl, w1⟩ := has_int h1
  obtain ⟨y, rfl, w2⟩ := has_int h2
  exact ⟨x, y, rfl, wf_i16 w1, wf_i16 w2⟩
theorem six_arg {v : AV} (h : ArgIs (.agg [.agg [.int .i16, .int .i16], .agg [.int .i16, .int .i16], .agg [.int .i16, .int .i16]]) v) :
    ∃ ax ay bx by' cx cy : Int, v = .agg [.int .i16 ax, .int .i16 ay, .int .i16 bx, .int .i16 by', .int .i16 cx, .int .i16 cy] ∧ (-32768 ≤ ax ∧ ax < 32768) ∧ (-32768 ≤ ay ∧ ay < 32768) ∧ (-32768 ≤ bx ∧ bx < 32768) ∧ (-32768 ≤ by' ∧ by' < 32768) ∧ (-32768 ≤ cx ∧ cx < 32768) ∧ (-32768 ≤ cy ∧ cy < 32768) := by
  obtain ⟨c, rfl, h⟩ := h
  obtain ⟨c1, r, rfl, h1, h⟩ := has_cons h
  obtain ⟨c2, r, rfl, h2, h⟩ := has_cons h
  obtain ⟨c3, r, rfl, h3, h⟩ := has_cons h
  obtain rfl := has_nil h
  obtain ⟨ax, ay, rfl, g1, g2⟩ := two_in h1
  obtain ⟨bx, by', rfl, g3, g4⟩ := two_in h2
  obtain ⟨cx, cy, rfl, g5, g6⟩ := two_in h3
  exact ⟨ax, ay, bx, by', cx, cy, rfl, g1, g2, g3, g4, g5, g6⟩
end Go.Proofs.Ythfpndelfbeknaa
