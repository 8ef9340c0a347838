/- Chapter 29: the law of laying. -/
import Derived.Test.YtkcbjeenoafbkaaC29q
import Derived.Test.YtkcbjeenoafbkaaC29s
import Derived.Test.YtkcbjeenoafbkaaC29t
import Derived.Test.YtkcbjeenoafbkaaC29n
import Derived.Test.YtkcbjeenoafbkaaDen38
set_option linter.unusedVariables false
set_option linter.unusedSimpArgs false
set_option maxRecDepth 100000
set_option maxHeartbeats 4000000
namespace Go.Proofs.Ytkcbjeenoafbkaa
open Go Go.Den
theorem two_in {x : List AV} (h : Has (.agg [.int .i64, .int .i64]) x) : ∃ a b : Int, x = [.int .i64 a, .int .i64 b] := by
  simp only [Has] at h
  obtain ⟨c1, r, rfl, h1, h⟩ := has_cons h
  obtain ⟨c2, r, rfl, h2, h⟩ := has_cons h
  obtain rfl := has_nil h
  obtain ⟨x1, rfl, w1⟩ := has_int h1
  obtain ⟨x2, rfl, w2⟩ := has_int h2
  exact ⟨x1, x2, rfl⟩
theorem sizes_in {v : AV} (H : Heap) (h : Has (.slice (.agg [.int .i64, .int .i64])) [v]) : ∃ l : List Sz, SlOf H 2 Sz.cs v l ∧ l.length ≤ maxLen := by
  obtain ⟨l, h1, _, h2⟩ := slice_in (H := H) (g := Sz.cs) (ok := fun _ => True) h (by decide) (fun x hx => by
    obtain ⟨a, b, rfl⟩ := two_in hx
    exact ⟨⟨a, b⟩, rfl, trivial⟩) (fun a => rfl)
  exact ⟨l, h1, h2⟩
theorem layR_len (l : List Sz) (pw ph pad : Int) : (layR l pw ph pad).1.length ≤ l.length := by
  by_cases h : (layR l pw ph pad).2.2 = 0
  · rw [(lay_heads h (Nat.le_refl _)).2.2]; exact Nat.le_refl _
  · rw [lay_bad h]; simp
theorem c9 {v : AV} {l : List Sz} (hs : SlOf [] 2 Sz.cs v l) (a b c : Int) : ∃ H', call env 9 [v, .agg [.int .i64 a, .int .i64 b], .int .i64 c] [] = some (.bool true, H') := by
  have l1 := hs.lenOf
  suffices h : ∃ r, call env 9 [v, .agg [.int .i64 a, .int .i64 b], .int .i64 c] [] = some r ∧ r.1 = .bool true by
    obtain ⟨⟨a, b⟩, h1, rfl⟩ := h
    exact ⟨b, h1⟩
  refine call_endsE (fn := s9) rfl rfl (by simp [s9]) fun W hW => ?_
  have fin : ∀ X : Heap, W (tidy [] (.bool true) X) := fun X => hW _ (by rw [tidy_law])
  by_cases b1 : l.length ≤ 40
  rotate_left
  · have c1 : ((l.length : Int) > 40) = True := eq_true (by omega)
    simp only [s9, R1, R2, R3, R4, R5, R6, R7, R8, AV.flat, fillIn_nil, fillIn_cons, splice, AV.cells, AV.one, eqsOf, idx, SO.calls, List.reduceReplicate, Nat.reduceBEq, Nat.reduceLT, Nat.reduceAdd, Nat.reduceMul, Nat.reduceSub, Nat.reduceLeDiff, Nat.reduceEqDiff, ↓reduceIte, Int.reduceLT, Int.reduceEq, Int.reduceBNe, Int.reduceBEq, aeq, Int.reduceLE, Int.reduceNeg, Int.reduceMul, Int.reduceAdd, Int.reduceSub, Int.reduceToNat, Int.reducePow, w33, l1, c1, leftE_ret, got_some]
    first | exact fin [] | exact fin _
  have c1 : ((l.length : Int) > 40) = False := eq_false (by omega)
  have hs1 := fun X => hs.app X
  simp only [List.nil_append] at hs1
  have hll := layR_len l a b c
  obtain ⟨p, Z1, e1, s1⟩ := c34 (hs1 [.cells [.int .i64 a, .int .i64 b] 61 true]) b1 a b c
  obtain ⟨q, Z2, e2, s2⟩ := c35 (hs1 ([.cells [.int .i64 a, .int .i64 b] 61 true] ++ Z1)) b1 a b c
  have s1' := s1.app Z2
  have e3 := c36 s1' s2 (by omega)
  have e4 := c37 (hs1 ([.cells [.int .i64 a, .int .i64 b] 61 true] ++ Z1 ++ Z2)) s1' (by omega) (by omega) a b c
  have e5 := c38 (hs1 ([.cells [.int .i64 a, .int .i64 b] 61 true] ++ Z1 ++ Z2)) b1 c
  have e6 := c39 (hs1 ([.cells [.int .i64 a, .int .i64 b] 61 true] ++ Z1 ++ Z2)) b1 c
  simp only [List.append_assoc, List.cons_append, List.nil_append] at e1 e2 e3 e4 e5 e6
  have hchk := @lay_chk l a b c
  generalize layR l a b c = R at *
  obtain ⟨r1, r2, r3⟩ := R
  simp only at e1 e2 hchk e4
  by_cases he : r3 = 0
  · subst he
    rw [decide_eq_true (hchk rfl)] at e4
    simp only [s9, R1, R2, R3, R4, R5, R6, R7, R8, AV.flat, fillIn_nil, fillIn_cons, splice, AV.cells, AV.one, eqsOf, idx, SO.calls, List.reduceReplicate, Nat.reduceBEq, Nat.reduceLT, Nat.reduceAdd, Nat.reduceMul, Nat.reduceSub, Nat.reduceLeDiff, Nat.reduceEqDiff, ↓reduceIte, Int.reduceLT, Int.reduceEq, Int.reduceBNe, Int.reduceBEq, aeq, Int.reduceLE, Int.reduceNeg, Int.reduceMul, Int.reduceAdd, Int.reduceSub, Int.reduceToNat, Int.reducePow, w33, l1, c1, e1, e2, e3, e4, e5, e6, veil_un, shun_un, leftE_ret, got_some]
    first | exact fin [] | exact fin _
  · have c2 : (r3 != 0) = true := by rw [bne_iff_ne]; exact he
    simp only [s9, R1, R2, R3, R4, R5, R6, R7, R8, AV.flat, fillIn_nil, fillIn_cons, splice, AV.cells, AV.one, eqsOf, idx, SO.calls, List.reduceReplicate, Nat.reduceBEq, Nat.reduceLT, Nat.reduceAdd, Nat.reduceMul, Nat.reduceSub, Nat.reduceLeDiff, Nat.reduceEqDiff, ↓reduceIte, Int.reduceLT, Int.reduceEq, Int.reduceBNe, Int.reduceBEq, aeq, Int.reduceLE, Int.reduceNeg, Int.reduceMul, Int.reduceAdd, Int.reduceSub, Int.reduceToNat, Int.reducePow, w33, l1, c1, e1, e2, e3, e5, e6, c2, veil_un, shun_un, leftE_ret, got_some]
    first | exact fin [] | exact fin _
end Go.Proofs.Ytkcbjeenoafbkaa
