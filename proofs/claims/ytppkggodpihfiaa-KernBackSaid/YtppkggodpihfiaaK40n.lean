/- Chapter 40: the law of any bytes. -/
import Derived.Test.YtppkggodpihfiaaK40m
import Derived.Test.YtppkggodpihfiaaDen38
set_option linter.unusedVariables false
set_option linter.unusedSimpArgs false
set_option maxRecDepth 100000
set_option maxHeartbeats 4000000
namespace Go.Proofs.Ytppkggodpihfiaa
open Go Go.Den
theorem pars_may {p : List UInt8} {g : Int} (h : (parsK p g).2 = 0) : mayK (parsK p g).1 g := by
  unfold parsK at h ⊢
  by_cases h1 : g < 1 ∨ g > 1024
  · rw [if_pos h1] at h; cases h
  rw [if_neg h1] at h ⊢
  by_cases h2 : p.length < 18
  · rw [if_pos h2] at h; cases h
  rw [if_neg h2] at h ⊢
  by_cases h3 : n2 p 10 > 4096
  · rw [if_pos h3] at h; cases h
  rw [if_neg h3] at h ⊢
  by_cases h4 : p.take 18 ≠ shB (headL (n2 p 10))
  · rw [if_pos h4] at h; cases h
  rw [if_neg h4] at h ⊢
  by_cases h5 : p.length < 18 + 6 * n2 p 10
  · rw [if_pos h5] at h; cases h
  rw [if_neg h5] at h ⊢
  by_cases h6 : ∀ i, i < n2 p 10 → okRow p g i
  · rw [if_pos h6]
    refine ⟨⟨by omega, by omega, by rw [rowsK_len]; omega⟩, fun i hi => ?_⟩
    rw [rowsK_len] at hi
    obtain ⟨⟨k1, k2⟩, k3⟩ := h6 i hi
    have hs := sg16_in (n2 p (22 + 6 * i)) (n2_lt _ _)
    unfold okAt
    rw [rowsK_get p hi]
    refine ⟨?_, ⟨k1, k2⟩, ?_, (rises_rows p hi).2 k3⟩
    · unfold rowK; simp only; omega
    · unfold rowK; simp only; omega
  · rw [if_neg h6] at h; cases h
theorem parsK_len (p : List UInt8) (g : Int) : (parsK p g).1.length ≤ 4096 := by
  unfold parsK
  repeat' split
  all_goals first | simp; done | (rw [rowsK_len]; omega)
theorem ne_self' (n : Int) : (n != 0) = decide (¬ n = 0) := by by_cases h : n = 0 <;> simp [h]
theorem c4 (p : List UInt8) (g : Int) : ∃ H', call env 4 [.str (mkS p), .int .i64 g] [] = some (.bool true, H') := by
  suffices h : ∃ r, call env 4 [.str (mkS p), .int .i64 g] [] = some r ∧ r.1 = .bool true by
    obtain ⟨⟨a, b⟩, h1, rfl⟩ := h
    exact ⟨b, h1⟩
  refine call_endsE (fn := s4) rfl rfl (by simp [s4]) fun W hW => ?_
  have fin : ∀ X : Heap, W (tidy [] (.bool true) X) := fun X => hW _ (by rw [tidy_law])
  by_cases h1 : p.length ≤ 700
  · have c1 : ((p.length : Int) > 700) = False := eq_false (by omega)
    obtain ⟨r1, e1, v, X, rfl, s1⟩ := c17 (p := p) (by omega) g []
    obtain ⟨r2, e2, w, Y, rfl, s2⟩ := c19 (p := p) (by omega) g ([] ++ X)
    have hl := parsK_len p g
    have e3 := c18 (s1.app Y) s2 (by omega)
    have e4 := c13 (s1.app Y) (by omega) g
    have hm := pars_may (p := p) (g := g)
    generalize parsK p g = z at *
    obtain ⟨zl, ze⟩ := z
    simp only at *
    have c2 : (ze == ze) = true := by simp
    simp only [List.nil_append] at e1 e2 e3 e4
    by_cases hz : ze = 0
    · have c3 : (ze != 0) = false := by simp [hz]
      rw [decide_eq_true (hm hz)] at e4
      simp only [s4, R1, R2, R3, R4, R5, R6, R7, R8, AV.flat, fillIn_nil, fillIn_cons, splice, AV.cells, AV.one, eqsOf, idx, SO.calls, List.reduceReplicate, Nat.reduceBEq, Nat.reduceLT, Nat.reduceAdd, Nat.reduceMul, Nat.reduceSub, Nat.reduceLeDiff, Nat.reduceEqDiff, ↓reduceIte, Int.reduceLT, Int.reduceEq, Int.reduceBNe, Int.reduceBEq, aeq, Int.reduceLE, Int.reduceNeg, Int.reduceMul, Int.reduceAdd, Int.reduceSub, Int.reduceToNat, Int.reducePow, w10, c1, e1, e2, e3, e4, c2, c3, leftE_ret, got_some]
      first | exact fin [] | exact fin _
    · have c3 : (ze != 0) = true := by simp [hz]
      simp only [s4, R1, R2, R3, R4, R5, R6, R7, R8, AV.flat, fillIn_nil, fillIn_cons, splice, AV.cells, AV.one, eqsOf, idx, SO.calls, List.reduceReplicate, Nat.reduceBEq, Nat.reduceLT, Nat.reduceAdd, Nat.reduceMul, Nat.reduceSub, Nat.reduceLeDiff, Nat.reduceEqDiff, ↓reduceIte, Int.reduceLT, Int.reduceEq, Int.reduceBNe, Int.reduceBEq, aeq, Int.reduceLE, Int.reduceNeg, Int.reduceMul, Int.reduceAdd, Int.reduceSub, Int.reduceToNat, Int.reducePow, w10, c1, e1, e2, e3, e4, c2, c3, leftE_ret, got_some]
      first | exact fin [] | exact fin _
  · have c1 : ((p.length : Int) > 700) = True := eq_true (by omega)
    simp only [s4, R1, R2, R3, R4, R5, R6, R7, R8, AV.flat, fillIn_nil, fillIn_cons, splice, AV.cells, AV.one, eqsOf, idx, SO.calls, List.reduceReplicate, Nat.reduceBEq, Nat.reduceLT, Nat.reduceAdd, Nat.reduceMul, Nat.reduceSub, Nat.reduceLeDiff, Nat.reduceEqDiff, ↓reduceIte, Int.reduceLT, Int.reduceEq, Int.reduceBNe, Int.reduceBEq, aeq, Int.reduceLE, Int.reduceNeg, Int.reduceMul, Int.reduceAdd, Int.reduceSub, Int.reduceToNat, Int.reducePow, w10, c1, leftE_ret, got_some]
    first | exact fin [] | exact fin _
end Go.Proofs.Ytppkggodpihfiaa
