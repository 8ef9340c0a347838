/- Chapter 32: what is sampled is small. -/
import Derived.Test.YtbnnfmncipdlpaaDoorC32d
set_option linter.unusedVariables false
set_option linter.unusedSimpArgs false
set_option maxRecDepth 100000
set_option maxHeartbeats 8000000
namespace Go.Proofs.YtbnnfmncipdlpaaDoor
open Go Go.Den
theorem at_four (a : Atl) (n x y : Int) : ∃ p0 p1 p2 p3 : Int, atC a n x y = [.int .i64 p0, .int .i64 p1, .int .i64 p2, .int .i64 p3] ∧ (0 ≤ p0 ∧ p0 ≤ 100000000) ∧ (0 ≤ p1 ∧ p1 ≤ 100000000) ∧ (0 ≤ p2 ∧ p2 ≤ 100000000) ∧ 0 ≤ p3 ∧ p3 ≤ 100000000 := by
  unfold atC
  by_cases hask : AskA a n
  · rw [if_pos hask]
    by_cases hin : InC (entA a n) x y
    · rw [if_pos hin]
      have ok := ent_ok hask hin.1
      generalize entA a n = e at *
      obtain ⟨_, h1, h2⟩ := hin
      have cx := cutI_ok (x := x) (n := e.c.w) (by omega) ok.w.1 (by omega)
      have cy := cutI_ok (x := y) (n := e.c.h) (by omega) ok.h.1 (by omega)
      have hb : ∀ c, 0 ≤ bilI a e x y c ∧ bilI a e x y c ≤ 100000000 := fun c => by
        have h3 := row_le a e.pg (e.x + cutI x e.c.w) (e.y + cutI y e.c.h) (u := x - 256 * cutI x e.c.w) (by omega) c
        have h4 := row_le a e.pg (e.x + cutI x e.c.w) (e.y + (cutI y e.c.h + 1)) (u := x - 256 * cutI x e.c.w) (by omega) c
        have := (mix_le h3 h4 (u := y - 256 * cutI y e.c.h) (by omega)).2.2
        unfold bilI
        omega
      exact ⟨_, _, _, _, rfl, hb 0, hb 1, hb 2, hb 3⟩
    · rw [if_neg hin]
      exact ⟨0, 0, 0, 0, rfl, by omega, by omega, by omega, by omega⟩
  · rw [if_neg hask]
    exact ⟨0, 0, 0, 0, rfl, by omega, by omega, by omega, by omega⟩
end Go.Proofs.YtbnnfmncipdlpaaDoor
