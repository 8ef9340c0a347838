/- Chapter 40: pairs that come in. -/
import Derived.Test.YtppkggodpihfiaaK40a
import Derived.Test.YtppkggodpihfiaaDen38
set_option linter.unusedVariables false
set_option linter.unusedSimpArgs false
namespace Go.Proofs.Ytppkggodpihfiaa
open Go Go.Den
theorem kern_in {x : List AV} (h : Has (.agg [.int .i64, .int .i64, .int .i64]) x) : ∃ q : Kn, x = q.cs := by
  simp only [Has] at h
  obtain ⟨c1, r, rfl, h1, h⟩ := has_cons h
  obtain ⟨c2, r, rfl, h2, h⟩ := has_cons h
  obtain ⟨c3, r, rfl, h3, h⟩ := has_cons h
  obtain rfl := has_nil h
  obtain ⟨x1, rfl, _⟩ := has_int h1
  obtain ⟨x2, rfl, _⟩ := has_int h2
  obtain ⟨x3, rfl, _⟩ := has_int h3
  exact ⟨⟨x1, x2, x3⟩, rfl⟩
theorem kerns_in {v : AV} (H : Heap) (h : Has (.slice (.agg [.int .i64, .int .i64, .int .i64])) [v]) : ∃ l : List Kn, SlOf H 3 Kn.cs v l ∧ l.length ≤ maxLen := by
  obtain ⟨l, h1, _, h2⟩ := slice_in (H := H) (g := Kn.cs) (ok := fun _ => True) h (by decide) (fun x hx => by
    obtain ⟨p, rfl⟩ := kern_in hx
    exact ⟨p, rfl, trivial⟩) (fun a => rfl)
  exact ⟨l, h1, h2⟩
end Go.Proofs.Ytppkggodpihfiaa
