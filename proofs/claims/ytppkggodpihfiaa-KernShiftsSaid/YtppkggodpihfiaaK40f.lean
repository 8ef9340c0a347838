/- Chapter 40: the law of glyphs that are moved. -/
import Derived.Test.YtppkggodpihfiaaK40e
import Derived.Test.YtppkggodpihfiaaDen38
set_option linter.unusedVariables false
set_option linter.unusedSimpArgs false
set_option maxRecDepth 100000
set_option maxHeartbeats 4000000
namespace Go.Proofs.Ytppkggodpihfiaa
open Go Go.Den
theorem kern_in {x : List AV} (h : Has (.agg [.int .i64, .int .i64, .int .i64]) x) : ∃ q : Kn, x = q.cs := by
  simp only [Has] at h
  obtain ⟨c1, r, rfl, h1, h⟩ := has_cons h
  obtain ⟨c2, r, rfl, h2, h⟩ := has_cons h
  obtain ⟨c3, r, rfl, h3, h⟩ := has_cons h
  obtain rfl := has_nil h
  obtain ⟨x1, rfl, _⟩ := has_int h1
  obtain ⟨x2, rfl, _⟩ := has_int h2
  obtain ⟨x3, rfl, _⟩ := has_int h3
  exact ⟨⟨x1, x2, x3⟩, rfl⟩
theorem kerns_in {v : AV} (H : Heap) (h : Has (.slice (.agg [.int .i64, .int .i64, .int .i64])) [v]) : ∃ l : List Kn, SlOf H 3 Kn.cs v l ∧ l.length ≤ maxLen := by
  obtain ⟨l, h1, _, h2⟩ := slice_in (H := H) (g := Kn.cs) (ok := fun _ => True) h (by decide) (fun x hx => by
    obtain ⟨p, rfl⟩ := kern_in hx
    exact ⟨p, rfl, trivial⟩) (fun a => rfl)
  exact ⟨l, h1, h2⟩
theorem places_in {v : AV} (H : Heap) (h : Has (.slice (.agg [.int .i64, .int .i64, .int .i64])) [v]) : ∃ l : List Pc, SlOf H 3 Pc.cs v l ∧ l.length ≤ maxLen := by
  obtain ⟨l, h1, _, h2⟩ := slice_in (H := H) (g := Pc.cs) (ok := fun _ => True) h (by decide) (fun x hx => by
    obtain ⟨⟨a, b, c⟩, rfl⟩ := kern_in hx
    exact ⟨⟨a, b, c⟩, rfl, trivial⟩) (fun a => rfl)
  exact ⟨l, h1, h2⟩
theorem more_one {α : Type} {P : α → Prop} {l : List α} {i : Nat} (hi : i < l.length) (h : ∀ k ∈ l.take i, P k) (h1 : P l[i]) : ∀ k ∈ l.take (i + 1), P k := by
  intro k hk
  rw [List.take_succ_eq_append_getElem hi] at hk
  rcases List.mem_append.1 hk with hk | hk
  · exact h k hk
  · simp only [List.mem_singleton] at hk; subst hk; exact h1
theorem c5 {v w : AV} {l : List Kn} {p : List Pc} (hs : SlOf [] 3 Kn.cs v l) (hp : SlOf [] 3 Pc.cs w p) (hn : l.length ≤ 9223372036854775807) (hm : p.length ≤ 9223372036854775807) : ∃ H', call env 5 [v, w] [] = some (.bool true, H') := by
  have l1 := hs.lenOf
  have l2 := hp.lenOf
  suffices h : ∃ r, call env 5 [v, w] [] = some r ∧ r.1 = .bool true by
    obtain ⟨⟨a, b⟩, h1, rfl⟩ := h
    exact ⟨b, h1⟩
  refine call_endsE (fn := s5) rfl rfl (by simp [s5]) fun W hW => ?_
  have fin : ∀ X : Heap, W (tidy [] (.bool true) X) := fun X => hW _ (by rw [tidy_law])
  by_cases b1 : l.length ≤ 100
  · by_cases b2 : p.length ≤ 60
    · have c1 : ((l.length : Int) > 100) = False := eq_false (by omega)
      have c2 : ((p.length : Int) > 60) = False := eq_false (by omega)
      simp only [s5, R1, R2, R3, R4, R5, R6, R7, R8, AV.flat, fillIn_nil, fillIn_cons, splice, AV.cells, AV.one, eqsOf, idx, SO.calls, List.reduceReplicate, Nat.reduceBEq, Nat.reduceLT, Nat.reduceAdd, Nat.reduceMul, Nat.reduceSub, Nat.reduceLeDiff, Nat.reduceEqDiff, ↓reduceIte, Int.reduceLT, Int.reduceEq, Int.reduceBNe, Int.reduceBEq, aeq, Int.reduceLE, Int.reduceNeg, Int.reduceMul, Int.reduceAdd, Int.reduceSub, Int.reduceToNat, Int.reducePow, w10, l1, l2, c1, c2]
      refine ends_loop (fun k t H' => t.length = 62 ∧ (t.getD 0 .undef = v ∧ t.getD 1 .undef = w ∧ t.getD 19 .undef = v ∧ t.getD 20 .undef = .int .i64 (l.length : Int)) ∧
        ∃ i : Nat, i ≤ l.length ∧ k = l.length - i ∧ t.getD 21 .undef = .int .i64 (i : Int) ∧ ∀ k ∈ l.take i, -1099511627776 ≤ k.b ∧ k.b ≤ 1099511627776) l.length ?_ ?_
      · simp only [R1, R2, R3, R4, R5, R6, R7, R8, AV.flat, fillIn_nil, fillIn_cons, splice, AV.cells, AV.one, eqsOf, idx, SO.calls, List.reduceReplicate, Nat.reduceBEq, Nat.reduceLT, Nat.reduceAdd, Nat.reduceMul, Nat.reduceSub, Nat.reduceLeDiff, Nat.reduceEqDiff, ↓reduceIte, Int.reduceLT, Int.reduceEq, Int.reduceBNe, Int.reduceBEq, aeq, Int.reduceLE, Int.reduceNeg, Int.reduceMul, Int.reduceAdd, Int.reduceSub, Int.reduceToNat, Int.reducePow]
        exact ⟨0, by omega, by omega, rfl, by simp⟩
      rintro k t X ⟨g1, ⟨g2, g3, g4, g5⟩, i, hi, rfl, g6, hb⟩
      rw [← tm_nil t]
      by_cases hc : i < l.length
      · have a1 : ((i : Int) < (l.length : Int)) = True := eq_true (by omega)
        have w1 : IntKind.i64.wrap ((i : Int) + 1) = ((i + 1 : Nat) : Int) := by rw [wrap_i64 (by omega) (by omega)]; rfl
        have E := hs.elem hc
        have hM := more_one hc hb
        generalize l[i] = q at *
        obtain ⟨x, y, z⟩ := q
        simp only [Kn.cs, List.nil_append] at E hM
        by_cases h1 : z > 1099511627776
        · have d1 : (z > 1099511627776) = True := eq_true h1
          simp only [R1, R2, R3, R4, R5, R6, R7, R8, AV.flat, fillIn_nil, fillIn_cons, splice, AV.cells, AV.one, eqsOf, idx, SO.calls, List.reduceReplicate, Nat.reduceBEq, Nat.reduceLT, Nat.reduceAdd, Nat.reduceMul, Nat.reduceSub, Nat.reduceLeDiff, Nat.reduceEqDiff, ↓reduceIte, Int.reduceLT, Int.reduceEq, Int.reduceBNe, Int.reduceBEq, aeq, Int.reduceLE, Int.reduceNeg, Int.reduceMul, Int.reduceAdd, Int.reduceSub, Int.reduceToNat, Int.reducePow, g1, g2, g3, g4, g5, g6, a1, w1, E, d1, leftE_ret, got_some]
          first | exact fin [] | exact fin _
        · have d1 : (z > 1099511627776) = False := eq_false h1
          by_cases h2 : z < -1099511627776
          · have d2 : (z < -1099511627776) = True := eq_true h2
            simp only [R1, R2, R3, R4, R5, R6, R7, R8, AV.flat, fillIn_nil, fillIn_cons, splice, AV.cells, AV.one, eqsOf, idx, SO.calls, List.reduceReplicate, Nat.reduceBEq, Nat.reduceLT, Nat.reduceAdd, Nat.reduceMul, Nat.reduceSub, Nat.reduceLeDiff, Nat.reduceEqDiff, ↓reduceIte, Int.reduceLT, Int.reduceEq, Int.reduceBNe, Int.reduceBEq, aeq, Int.reduceLE, Int.reduceNeg, Int.reduceMul, Int.reduceAdd, Int.reduceSub, Int.reduceToNat, Int.reducePow, g1, g2, g3, g4, g5, g6, a1, w1, E, d1, d2, leftE_ret, got_some]
            first | exact fin [] | exact fin _
          · have d2 : (z < -1099511627776) = False := eq_false h2
            simp only [R1, R2, R3, R4, R5, R6, R7, R8, AV.flat, fillIn_nil, fillIn_cons, splice, AV.cells, AV.one, eqsOf, idx, SO.calls, List.reduceReplicate, Nat.reduceBEq, Nat.reduceLT, Nat.reduceAdd, Nat.reduceMul, Nat.reduceSub, Nat.reduceLeDiff, Nat.reduceEqDiff, ↓reduceIte, Int.reduceLT, Int.reduceEq, Int.reduceBNe, Int.reduceBEq, aeq, Int.reduceLE, Int.reduceNeg, Int.reduceMul, Int.reduceAdd, Int.reduceSub, Int.reduceToNat, Int.reducePow, g1, g2, g3, g4, g5, g6, a1, w1, E, d1, d2]
            exact ⟨_, by omega, i + 1, by omega, rfl, rfl, hM ⟨by omega, by omega⟩⟩
      have a1 : ((i : Int) < (l.length : Int)) = False := eq_false (by omega)
      obtain rfl : i = l.length := by omega
      rw [List.take_length] at hb
      simp only [R1, R2, R3, R4, R5, R6, R7, R8, AV.flat, fillIn_nil, fillIn_cons, splice, AV.cells, AV.one, eqsOf, idx, SO.calls, List.reduceReplicate, Nat.reduceBEq, Nat.reduceLT, Nat.reduceAdd, Nat.reduceMul, Nat.reduceSub, Nat.reduceLeDiff, Nat.reduceEqDiff, ↓reduceIte, Int.reduceLT, Int.reduceEq, Int.reduceBNe, Int.reduceBEq, aeq, Int.reduceLE, Int.reduceNeg, Int.reduceMul, Int.reduceAdd, Int.reduceSub, Int.reduceToNat, Int.reducePow, g1, g2, g3, g4, g5, g6, a1, l2]
      refine ends_loop (fun k t H' => t.length = 62 ∧ (t.getD 0 .undef = v ∧ t.getD 1 .undef = w ∧ t.getD 34 .undef = w ∧ t.getD 35 .undef = .int .i64 (p.length : Int)) ∧
        ∃ i : Nat, i ≤ p.length ∧ k = p.length - i ∧ t.getD 36 .undef = .int .i64 (i : Int) ∧ ∀ k ∈ p.take i, -1099511627776 ≤ k.x ∧ k.x ≤ 1099511627776) p.length ?_ ?_
      · simp only [R1, R2, R3, R4, R5, R6, R7, R8, AV.flat, fillIn_nil, fillIn_cons, splice, AV.cells, AV.one, eqsOf, idx, SO.calls, List.reduceReplicate, Nat.reduceBEq, Nat.reduceLT, Nat.reduceAdd, Nat.reduceMul, Nat.reduceSub, Nat.reduceLeDiff, Nat.reduceEqDiff, ↓reduceIte, Int.reduceLT, Int.reduceEq, Int.reduceBNe, Int.reduceBEq, aeq, Int.reduceLE, Int.reduceNeg, Int.reduceMul, Int.reduceAdd, Int.reduceSub, Int.reduceToNat, Int.reducePow, g1, g2, g3]
        exact ⟨0, by omega, by omega, rfl, by simp⟩
      clear g1 g2 g3 g4 g5 g6 a1
      rintro k t X ⟨g1, ⟨g2, g3, g4, g5⟩, i, hi, rfl, g6, hx⟩
      rw [← tm_nil t]
      by_cases hc : i < p.length
      · have a1 : ((i : Int) < (p.length : Int)) = True := eq_true (by omega)
        have w1 : IntKind.i64.wrap ((i : Int) + 1) = ((i + 1 : Nat) : Int) := by rw [wrap_i64 (by omega) (by omega)]; rfl
        have E := hp.elem hc
        have hM := more_one hc hx
        generalize p[i] = q at *
        obtain ⟨x, y, z⟩ := q
        simp only [Pc.cs, List.nil_append] at E hM
        by_cases h1 : y > 1099511627776
        · have d1 : (y > 1099511627776) = True := eq_true h1
          simp only [R1, R2, R3, R4, R5, R6, R7, R8, AV.flat, fillIn_nil, fillIn_cons, splice, AV.cells, AV.one, eqsOf, idx, SO.calls, List.reduceReplicate, Nat.reduceBEq, Nat.reduceLT, Nat.reduceAdd, Nat.reduceMul, Nat.reduceSub, Nat.reduceLeDiff, Nat.reduceEqDiff, ↓reduceIte, Int.reduceLT, Int.reduceEq, Int.reduceBNe, Int.reduceBEq, aeq, Int.reduceLE, Int.reduceNeg, Int.reduceMul, Int.reduceAdd, Int.reduceSub, Int.reduceToNat, Int.reducePow, g1, g2, g3, g4, g5, g6, a1, w1, E, d1, leftE_ret, got_some]
          first | exact fin [] | exact fin _
        · have d1 : (y > 1099511627776) = False := eq_false h1
          by_cases h2 : y < -1099511627776
          · have d2 : (y < -1099511627776) = True := eq_true h2
            simp only [R1, R2, R3, R4, R5, R6, R7, R8, AV.flat, fillIn_nil, fillIn_cons, splice, AV.cells, AV.one, eqsOf, idx, SO.calls, List.reduceReplicate, Nat.reduceBEq, Nat.reduceLT, Nat.reduceAdd, Nat.reduceMul, Nat.reduceSub, Nat.reduceLeDiff, Nat.reduceEqDiff, ↓reduceIte, Int.reduceLT, Int.reduceEq, Int.reduceBNe, Int.reduceBEq, aeq, Int.reduceLE, Int.reduceNeg, Int.reduceMul, Int.reduceAdd, Int.reduceSub, Int.reduceToNat, Int.reducePow, g1, g2, g3, g4, g5, g6, a1, w1, E, d1, d2, leftE_ret, got_some]
            first | exact fin [] | exact fin _
          · have d2 : (y < -1099511627776) = False := eq_false h2
            simp only [R1, R2, R3, R4, R5, R6, R7, R8, AV.flat, fillIn_nil, fillIn_cons, splice, AV.cells, AV.one, eqsOf, idx, SO.calls, List.reduceReplicate, Nat.reduceBEq, Nat.reduceLT, Nat.reduceAdd, Nat.reduceMul, Nat.reduceSub, Nat.reduceLeDiff, Nat.reduceEqDiff, ↓reduceIte, Int.reduceLT, Int.reduceEq, Int.reduceBNe, Int.reduceBEq, aeq, Int.reduceLE, Int.reduceNeg, Int.reduceMul, Int.reduceAdd, Int.reduceSub, Int.reduceToNat, Int.reducePow, g1, g2, g3, g4, g5, g6, a1, w1, E, d1, d2]
            exact ⟨_, by omega, i + 1, by omega, rfl, rfl, hM ⟨by omega, by omega⟩⟩
      have a1 : ((i : Int) < (p.length : Int)) = False := eq_false (by omega)
      obtain rfl : i = p.length := by omega
      rw [List.take_length] at hx
      have hs1 := hs.app X
      have hp1 := hp.app X
      rw [List.nil_append] at hs1 hp1
      obtain ⟨⟨r1, H1⟩, e1, X1, rfl, s1⟩ := c21 hs1 hp1 (by omega) (by omega) hb hx
      obtain ⟨⟨r2, H2⟩, e2, X2, rfl, s2⟩ := c22 (hs1.app X1) (hp1.app X1) (by omega) (by omega) hb hx
      obtain ⟨⟨r3, H3⟩, e3, X3, rfl, s3⟩ := c21 (SlOf.nils (by decide) (H := X ++ X1 ++ X2) (g := Kn.cs)) ((hp1.app X1).app X2) (by simp) (by omega) (by simp) hx
      have e4 := c20 (s1.app X2) s2 (by rw [shiftP_len]; omega)
      rw [shiftP_nil] at s3
      have e5 := c20 s3 (((hp1.app X1).app X2).app X3) (by omega)
      simp only [List.append_assoc] at e1 e2 e3 e4 e5
      simp only [R1, R2, R3, R4, R5, R6, R7, R8, AV.flat, fillIn_nil, fillIn_cons, splice, AV.cells, AV.one, eqsOf, idx, SO.calls, List.reduceReplicate, Nat.reduceBEq, Nat.reduceLT, Nat.reduceAdd, Nat.reduceMul, Nat.reduceSub, Nat.reduceLeDiff, Nat.reduceEqDiff, ↓reduceIte, Int.reduceLT, Int.reduceEq, Int.reduceBNe, Int.reduceBEq, aeq, Int.reduceLE, Int.reduceNeg, Int.reduceMul, Int.reduceAdd, Int.reduceSub, Int.reduceToNat, Int.reducePow, g1, g2, g3, g4, g5, g6, a1, e1, e2, e3, e4, e5, leftE_ret, got_some]
      first | exact fin [] | exact fin _
    · have c1 : ((l.length : Int) > 100) = False := eq_false (by omega)
      have c2 : ((p.length : Int) > 60) = True := eq_true (by omega)
      simp only [s5, R1, R2, R3, R4, R5, R6, R7, R8, AV.flat, fillIn_nil, fillIn_cons, splice, AV.cells, AV.one, eqsOf, idx, SO.calls, List.reduceReplicate, Nat.reduceBEq, Nat.reduceLT, Nat.reduceAdd, Nat.reduceMul, Nat.reduceSub, Nat.reduceLeDiff, Nat.reduceEqDiff, ↓reduceIte, Int.reduceLT, Int.reduceEq, Int.reduceBNe, Int.reduceBEq, aeq, Int.reduceLE, Int.reduceNeg, Int.reduceMul, Int.reduceAdd, Int.reduceSub, Int.reduceToNat, Int.reducePow, w10, l1, l2, c1, c2, leftE_ret, got_some]
      first | exact fin [] | exact fin _
  · have c1 : ((l.length : Int) > 100) = True := eq_true (by omega)
    simp only [s5, R1, R2, R3, R4, R5, R6, R7, R8, AV.flat, fillIn_nil, fillIn_cons, splice, AV.cells, AV.one, eqsOf, idx, SO.calls, List.reduceReplicate, Nat.reduceBEq, Nat.reduceLT, Nat.reduceAdd, Nat.reduceMul, Nat.reduceSub, Nat.reduceLeDiff, Nat.reduceEqDiff, ↓reduceIte, Int.reduceLT, Int.reduceEq, Int.reduceBNe, Int.reduceBEq, aeq, Int.reduceLE, Int.reduceNeg, Int.reduceMul, Int.reduceAdd, Int.reduceSub, Int.reduceToNat, Int.reducePow, w10, l1, l2, c1, leftE_ret, got_some]
    first | exact fin [] | exact fin _
end Go.Proofs.Ytppkggodpihfiaa
