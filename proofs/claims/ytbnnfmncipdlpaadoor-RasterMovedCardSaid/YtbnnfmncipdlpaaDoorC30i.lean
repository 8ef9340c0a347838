/- Chapter 30: atlases that come in. -/
import Derived.Test.YtbnnfmncipdlpaaDoorC30c
import Derived.Test.YtbnnfmncipdlpaaDoorDen38
set_option linter.unusedVariables false
namespace Go.Proofs.YtbnnfmncipdlpaaDoor
open Go Go.Den
theorem slice_cell {e : Ty} {c : List AV} (h : Has (.slice e) c) : ∃ v, c = [v] := by
  simp only [Has] at h
  rcases h with h | ⟨_, h, _⟩ <;> exact ⟨_, h⟩
theorem ent_in {c : List AV} (h : Has (.agg [.int .i64, .agg [.int .i64, .int .i64, .int .i64, .int .i64], .agg [.int .i64, .int .i64, .int .i64]]) c) : ∃ e : Ent, c = e.cs ∧ True := by
  simp only [Has] at h
  obtain ⟨c1, r, rfl, h1, h⟩ := has_cons h
  obtain ⟨c2, r, rfl, h2, h⟩ := has_cons h
  obtain ⟨c3, r, rfl, h3, h⟩ := has_cons h
  obtain rfl := has_nil h
  simp only [Has] at h2 h3
  obtain ⟨d1, r, rfl, k1, h⟩ := has_cons h2
  obtain ⟨d2, r, rfl, k2, h⟩ := has_cons h
  obtain ⟨d3, r, rfl, k3, h⟩ := has_cons h
  obtain ⟨d4, r, rfl, k4, h⟩ := has_cons h
  obtain rfl := has_nil h
  obtain ⟨f1, r, rfl, m1, h⟩ := has_cons h3
  obtain ⟨f2, r, rfl, m2, h⟩ := has_cons h
  obtain ⟨f3, r, rfl, m3, h⟩ := has_cons h
  obtain rfl := has_nil h
  obtain ⟨x, rfl, _⟩ := has_int h1
  obtain ⟨x1, rfl, _⟩ := has_int k1
  obtain ⟨x2, rfl, _⟩ := has_int k2
  obtain ⟨x3, rfl, _⟩ := has_int k3
  obtain ⟨x4, rfl, _⟩ := has_int k4
  obtain ⟨y1, rfl, _⟩ := has_int m1
  obtain ⟨y2, rfl, _⟩ := has_int m2
  obtain ⟨y3, rfl, _⟩ := has_int m3
  exact ⟨⟨x, ⟨x1, x2, x3, x4⟩, y1, y2, y3⟩, rfl, trivial⟩
theorem pr_in {c : List AV} (h : Has (.agg [.int .i64, .int .i64]) c) : ∃ p : Pr, c = p.cs ∧ True := by
  simp only [Has] at h
  obtain ⟨a, r, rfl, h1, h⟩ := has_cons h
  obtain ⟨b, r, rfl, h2, h⟩ := has_cons h
  obtain rfl := has_nil h
  obtain ⟨x, rfl, w1⟩ := has_int h1
  obtain ⟨y, rfl, w2⟩ := has_int h2
  exact ⟨⟨x, y⟩, rfl, trivial⟩
theorem strC_in {c : List AV} (h : Has .str c) : ∃ l : List UInt8, c = StrC l ∧ l.length ≤ maxLen := by
  obtain ⟨s, rfl, hm⟩ := has_str h
  exact ⟨s.data.toList, (congrArg (fun x => [AV.str x]) (mkS_self s) : _), hm⟩
abbrev AtlT : Ty := .agg [.int .i64, .int .i64, .int .i64, .int .i64, .int .i64, .int .i64, .agg [.int .i64, .int .i64], .slice (.agg [.int .i64, .agg [.int .i64, .int .i64, .int .i64, .int .i64], .agg [.int .i64, .int .i64, .int .i64]]), .slice (.agg [.int .i64, .int .i64]), .slice .str]
theorem atl_arg {v : AV} (h : ArgIs AtlT v) : ∃ (a : Atl) (vg vp vs : AV), v = .agg (a.cs vg vp vs) ∧ AtlOf [] a vg vp vs ∧ a.pgs.length ≤ maxLen ∧ a.pr.length ≤ maxLen ∧ a.gl.length ≤ maxLen ∧ ∀ s ∈ a.pgs, s.length ≤ maxLen := by
  obtain ⟨c, rfl, h⟩ := h
  obtain ⟨c1, r, rfl, h1, h⟩ := has_cons h
  obtain ⟨c2, r, rfl, h2, h⟩ := has_cons h
  obtain ⟨c3, r, rfl, h3, h⟩ := has_cons h
  obtain ⟨c4, r, rfl, h4, h⟩ := has_cons h
  obtain ⟨c5, r, rfl, h5, h⟩ := has_cons h
  obtain ⟨c6, r, rfl, h6, h⟩ := has_cons h
  obtain ⟨c7, r, rfl, h7, h⟩ := has_cons h
  obtain ⟨c8, r, rfl, h8, h⟩ := has_cons h
  obtain ⟨c9, r, rfl, h9, h⟩ := has_cons h
  obtain ⟨c10, r, rfl, h10, h⟩ := has_cons h
  obtain rfl := has_nil h
  obtain ⟨x1, rfl, _⟩ := has_int h1
  obtain ⟨x2, rfl, _⟩ := has_int h2
  obtain ⟨x3, rfl, _⟩ := has_int h3
  obtain ⟨x4, rfl, _⟩ := has_int h4
  obtain ⟨x5, rfl, _⟩ := has_int h5
  obtain ⟨x6, rfl, _⟩ := has_int h6
  simp only [Has] at h7
  obtain ⟨d1, r, rfl, k1, h⟩ := has_cons h7
  obtain ⟨d2, r, rfl, k2, h⟩ := has_cons h
  obtain rfl := has_nil h
  obtain ⟨x7, rfl, _⟩ := has_int k1
  obtain ⟨x8, rfl, _⟩ := has_int k2
  obtain ⟨vg, rfl⟩ := slice_cell h8
  obtain ⟨vp, rfl⟩ := slice_cell h9
  obtain ⟨vs, rfl⟩ := slice_cell h10
  obtain ⟨gl, s1, _, n1⟩ := slice_in (H := []) (g := Ent.cs) (ok := fun _ => True) h8 (by decide) (fun x hx => ent_in hx) (fun a => rfl)
  obtain ⟨pr, s2, _, n2⟩ := slice_in (H := []) (g := Pr.cs) (ok := fun _ => True) h9 (by decide) (fun x hx => pr_in hx) (fun a => rfl)
  obtain ⟨pgs, s3, hx, n3⟩ := slice_in (H := []) (g := StrC) (ok := fun l => l.length ≤ maxLen) h10 (by decide) (fun x hx => strC_in hx) (fun a => rfl)
  exact ⟨⟨x1, x2, x3, x4, x5, x6, x7, x8, gl, pr, pgs⟩, vg, vp, vs, rfl, ⟨s1, s2, s3⟩, n3, n2, n1, hx⟩
end Go.Proofs.YtbnnfmncipdlpaaDoor
