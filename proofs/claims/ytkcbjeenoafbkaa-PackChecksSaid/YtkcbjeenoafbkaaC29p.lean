/- Chapter 29: the law of the check. -/
import Derived.Test.YtkcbjeenoafbkaaC29o
import Derived.Test.YtkcbjeenoafbkaaDen38
set_option linter.unusedVariables false
set_option linter.unusedSimpArgs false
set_option maxRecDepth 100000
set_option maxHeartbeats 4000000
namespace Go.Proofs.Ytkcbjeenoafbkaa
open Go Go.Den
theorem two_in {x : List AV} (h : Has (.agg [.int .i64, .int .i64]) x) : ∃ a b : Int, x = [.int .i64 a, .int .i64 b] ∧ (Lit.int .i64 a).wf = true ∧ (Lit.int .i64 b).wf = true := by
  simp only [Has] at h
  obtain ⟨c1, r, rfl, h1, h⟩ := has_cons h
  obtain ⟨c2, r, rfl, h2, h⟩ := has_cons h
  obtain rfl := has_nil h
  obtain ⟨x1, rfl, w1⟩ := has_int h1
  obtain ⟨x2, rfl, w2⟩ := has_int h2
  exact ⟨x1, x2, rfl, w1, w2⟩
theorem three_in {x : List AV} (h : Has (.agg [.int .i64, .int .i64, .int .i64]) x) : ∃ a b c : Int, x = [.int .i64 a, .int .i64 b, .int .i64 c] := by
  simp only [Has] at h
  obtain ⟨c1, r, rfl, h1, h⟩ := has_cons h
  obtain ⟨c2, r, rfl, h2, h⟩ := has_cons h
  obtain ⟨c3, r, rfl, h3, h⟩ := has_cons h
  obtain rfl := has_nil h
  obtain ⟨x1, rfl, _⟩ := has_int h1
  obtain ⟨x2, rfl, _⟩ := has_int h2
  obtain ⟨x3, rfl, _⟩ := has_int h3
  exact ⟨x1, x2, x3, rfl⟩
theorem sizes_in {v : AV} (H : Heap) (h : Has (.slice (.agg [.int .i64, .int .i64])) [v]) : ∃ l : List Sz, SlOf H 2 Sz.cs v l ∧ l.length ≤ maxLen := by
  obtain ⟨l, h1, _, h2⟩ := slice_in (H := H) (g := Sz.cs) (ok := fun _ => True) h (by decide) (fun x hx => by
    obtain ⟨a, b, rfl, _⟩ := two_in hx
    exact ⟨⟨a, b⟩, rfl, trivial⟩) (fun a => rfl)
  exact ⟨l, h1, h2⟩
theorem places_in {v : AV} (H : Heap) (h : Has (.slice (.agg [.int .i64, .int .i64, .int .i64])) [v]) : ∃ l : List Plc, SlOf H 3 Plc.cs v l ∧ l.length ≤ maxLen := by
  obtain ⟨l, h1, _, h2⟩ := slice_in (H := H) (g := Plc.cs) (ok := fun _ => True) h (by decide) (fun x hx => by
    obtain ⟨a, b, c, rfl⟩ := three_in hx
    exact ⟨⟨a, b, c⟩, rfl, trivial⟩) (fun a => rfl)
  exact ⟨l, h1, h2⟩
theorem c10 {v w : AV} {l : List Sz} {q : List Plc} (hs : SlOf [] 2 Sz.cs v l) (hp : SlOf [] 3 Plc.cs w q) (a b c : Int) : ∃ H', call env 10 [v, .agg [.int .i64 a, .int .i64 b, .int .i64 c], w] [] = some (.bool true, H') := by
  have l1 := hs.lenOf
  have l2 := hp.lenOf
  suffices h : ∃ r, call env 10 [v, .agg [.int .i64 a, .int .i64 b, .int .i64 c], w] [] = some r ∧ r.1 = .bool true by
    obtain ⟨⟨a, b⟩, h1, rfl⟩ := h
    exact ⟨b, h1⟩
  refine call_endsE (fn := s10) rfl rfl (by simp [s10]) fun W hW => ?_
  have fin : ∀ X : Heap, W (tidy [] (.bool true) X) := fun X => hW _ (by rw [tidy_law])
  by_cases b1 : l.length ≤ 40
  · have c1 : ((l.length : Int) > 40) = False := eq_false (by omega)
    by_cases b2 : q.length ≤ 50
    · have c2 : ((q.length : Int) > 50) = False := eq_false (by omega)
      have hs1 := fun X => hs.app X
      have hp1 := fun X => hp.app X
      simp only [List.nil_append] at hs1 hp1
      have e1 := fun X => c37 (hs1 X) (hp1 X) (by omega) (by omega) a b c
      have e2 := fun X => c40 (hs1 X) (hp1 X) (by omega) (by omega) a b c
      have c3 : ∀ x : Bool, (x == x) = true := fun x => by simp
      simp only [s10, R1, R2, R3, R4, R5, R6, R7, R8, AV.flat, fillIn_nil, fillIn_cons, splice, AV.cells, AV.one, eqsOf, idx, SO.calls, List.reduceReplicate, Nat.reduceBEq, Nat.reduceLT, Nat.reduceAdd, Nat.reduceMul, Nat.reduceSub, Nat.reduceLeDiff, Nat.reduceEqDiff, ↓reduceIte, Int.reduceLT, Int.reduceEq, Int.reduceBNe, Int.reduceBEq, aeq, Int.reduceLE, Int.reduceNeg, Int.reduceMul, Int.reduceAdd, Int.reduceSub, Int.reduceToNat, Int.reducePow, w33, l1, l2, c1, c2, e1, e2, c3, leftE_ret, got_some]
      first | exact fin [] | exact fin _
    · have c2 : ((q.length : Int) > 50) = True := eq_true (by omega)
      simp only [s10, R1, R2, R3, R4, R5, R6, R7, R8, AV.flat, fillIn_nil, fillIn_cons, splice, AV.cells, AV.one, eqsOf, idx, SO.calls, List.reduceReplicate, Nat.reduceBEq, Nat.reduceLT, Nat.reduceAdd, Nat.reduceMul, Nat.reduceSub, Nat.reduceLeDiff, Nat.reduceEqDiff, ↓reduceIte, Int.reduceLT, Int.reduceEq, Int.reduceBNe, Int.reduceBEq, aeq, Int.reduceLE, Int.reduceNeg, Int.reduceMul, Int.reduceAdd, Int.reduceSub, Int.reduceToNat, Int.reducePow, w33, l1, l2, c1, c2, leftE_ret, got_some]
      first | exact fin [] | exact fin _
  · have c1 : ((l.length : Int) > 40) = True := eq_true (by omega)
    simp only [s10, R1, R2, R3, R4, R5, R6, R7, R8, AV.flat, fillIn_nil, fillIn_cons, splice, AV.cells, AV.one, eqsOf, idx, SO.calls, List.reduceReplicate, Nat.reduceBEq, Nat.reduceLT, Nat.reduceAdd, Nat.reduceMul, Nat.reduceSub, Nat.reduceLeDiff, Nat.reduceEqDiff, ↓reduceIte, Int.reduceLT, Int.reduceEq, Int.reduceBNe, Int.reduceBEq, aeq, Int.reduceLE, Int.reduceNeg, Int.reduceMul, Int.reduceAdd, Int.reduceSub, Int.reduceToNat, Int.reducePow, w33, l1, l2, c1, leftE_ret, got_some]
    first | exact fin [] | exact fin _
end Go.Proofs.Ytkcbjeenoafbkaa
