/- Chapter 29: the law of heads. -/
import Derived.Test.YtkcbjeenoafbkaaC29q
import Derived.Test.YtkcbjeenoafbkaaC29s
import Derived.Test.YtkcbjeenoafbkaaDen38
set_option linter.unusedVariables false
set_option linter.unusedSimpArgs false
set_option maxRecDepth 100000
set_option maxHeartbeats 4000000
namespace Go.Proofs.Ytkcbjeenoafbkaa
open Go Go.Den
theorem two_in {x : List AV} (h : Has (.agg [.int .i64, .int .i64]) x) : ∃ a b : Int, x = [.int .i64 a, .int .i64 b] := by
  simp only [Has] at h
  obtain ⟨c1, r, rfl, h1, h⟩ := has_cons h
  obtain ⟨c2, r, rfl, h2, h⟩ := has_cons h
  obtain rfl := has_nil h
  obtain ⟨x1, rfl, w1⟩ := has_int h1
  obtain ⟨x2, rfl, w2⟩ := has_int h2
  exact ⟨x1, x2, rfl⟩
theorem three_in {x : List AV} (h : Has (.agg [.int .i64, .int .i64, .int .i64]) x) : ∃ a b c : Int, x = [.int .i64 a, .int .i64 b, .int .i64 c] := by
  simp only [Has] at h
  obtain ⟨c1, r, rfl, h1, h⟩ := has_cons h
  obtain ⟨c2, r, rfl, h2, h⟩ := has_cons h
  obtain ⟨c3, r, rfl, h3, h⟩ := has_cons h
  obtain rfl := has_nil h
  obtain ⟨x1, rfl, _⟩ := has_int h1
  obtain ⟨x2, rfl, _⟩ := has_int h2
  obtain ⟨x3, rfl, _⟩ := has_int h3
  exact ⟨x1, x2, x3, rfl⟩
theorem sizes_in {v : AV} (H : Heap) (h : Has (.slice (.agg [.int .i64, .int .i64])) [v]) : ∃ l : List Sz, SlOf H 2 Sz.cs v l ∧ l.length ≤ maxLen := by
  obtain ⟨l, h1, _, h2⟩ := slice_in (H := H) (g := Sz.cs) (ok := fun _ => True) h (by decide) (fun x hx => by
    obtain ⟨a, b, rfl⟩ := two_in hx
    exact ⟨⟨a, b⟩, rfl, trivial⟩) (fun a => rfl)
  exact ⟨l, h1, h2⟩
theorem c12 {v : AV} {l : List Sz} (hs : SlOf [] 2 Sz.cs v l) (a b c k : Int) (hk : 0 ≤ k ∧ k ≤ 255) : ∃ H', call env 12 [v, .agg [.int .i64 a, .int .i64 b, .int .i64 c], .int .u8 k] [] = some (.bool true, H') := by
  have l1 := hs.lenOf
  suffices h : ∃ r, call env 12 [v, .agg [.int .i64 a, .int .i64 b, .int .i64 c], .int .u8 k] [] = some r ∧ r.1 = .bool true by
    obtain ⟨⟨a, b⟩, h1, rfl⟩ := h
    exact ⟨b, h1⟩
  refine call_endsE (fn := s12) rfl rfl (by simp [s12]) fun W hW => ?_
  have fin : ∀ X : Heap, W (tidy [] (.bool true) X) := fun X => hW _ (by rw [tidy_law])
  by_cases b1 : l.length ≤ 30
  rotate_left
  · have c1 : ((l.length : Int) > 30) = True := eq_true (by omega)
    simp only [s12, R1, R2, R3, R4, R5, R6, R7, R8, AV.flat, fillIn_nil, fillIn_cons, splice, AV.cells, AV.one, eqsOf, idx, SO.calls, List.reduceReplicate, Nat.reduceBEq, Nat.reduceLT, Nat.reduceAdd, Nat.reduceMul, Nat.reduceSub, Nat.reduceLeDiff, Nat.reduceEqDiff, ↓reduceIte, Int.reduceLT, Int.reduceEq, Int.reduceBNe, Int.reduceBEq, aeq, Int.reduceLE, Int.reduceNeg, Int.reduceMul, Int.reduceAdd, Int.reduceSub, Int.reduceToNat, Int.reducePow, w33, l1, c1, leftE_ret, got_some]
    first | exact fin [] | exact fin _
  have c1 : ((l.length : Int) > 30) = False := eq_false (by omega)
  by_cases b2 : l.length = 0
  · have c2 : ((l.length : Int) == 0) = true := by rw [beq_iff_eq]; omega
    simp only [s12, R1, R2, R3, R4, R5, R6, R7, R8, AV.flat, fillIn_nil, fillIn_cons, splice, AV.cells, AV.one, eqsOf, idx, SO.calls, List.reduceReplicate, Nat.reduceBEq, Nat.reduceLT, Nat.reduceAdd, Nat.reduceMul, Nat.reduceSub, Nat.reduceLeDiff, Nat.reduceEqDiff, ↓reduceIte, Int.reduceLT, Int.reduceEq, Int.reduceBNe, Int.reduceBEq, aeq, Int.reduceLE, Int.reduceNeg, Int.reduceMul, Int.reduceAdd, Int.reduceSub, Int.reduceToNat, Int.reducePow, w33, l1, c1, c2, leftE_ret, got_some]
    first | exact fin [] | exact fin _
  have c2 : ((l.length : Int) == 0) = false := by rw [beq_eq_false_iff_ne]; omega
  have w0 := wrap_i64 (x := k) (by omega) (by omega)
  have w1 := wrap_i64 (x := (l.length : Int) + 1) (by omega) (by omega)
  obtain ⟨n, hn⟩ : ∃ n : Nat, k.tmod ((l.length : Int) + 1) = (n : Int) := ⟨(k.tmod ((l.length : Int) + 1)).toNat, by rw [Int.toNat_of_nonneg (Int.tmod_nonneg _ hk.1)]⟩
  have hnl : n ≤ l.length := by
    have := Int.tmod_lt_of_pos k (show 0 < (l.length : Int) + 1 by omega)
    rw [hn] at this; omega
  have w2 := wrap_i64 (x := (n : Int)) (by omega) (by omega)
  have hs1 := fun X => hs.app X
  simp only [List.nil_append] at hs1
  obtain ⟨p, Z1, e1, s1⟩ := c34 (hs1 [.cells [.int .i64 a, .int .i64 b, .int .i64 c] 71 true, .cells [.int .i64 a, .int .i64 b] 61 true]) (by omega) a b c
  obtain ⟨w, q1, s0, _⟩ := slof_sub (hs1 ([.cells [.int .i64 a, .int .i64 b, .int .i64 c] 71 true, .cells [.int .i64 a, .int .i64 b] 61 true] ++ Z1)) (Nat.zero_le n) hnl
  rw [List.drop_zero, Nat.sub_zero] at s0
  obtain ⟨p2, Z2, e2, s2⟩ := c34 s0 (by rw [List.length_take]; omega) a b c
  have l2 := s1.lenOf
  have hd := @lay_heads l a b c
  have hbad := @lay_bad l a b c
  have hR := fun h => @lay_heads l a b c h n hnl
  have c5 : ((l.length : Int) + 1 = 0) = False := eq_false (by omega)
  have q1' : ∀ H', slcOf 2 v (some none) (some (some n)) (some none) H' = some (w, H') := fun H' => by rw [← q1 H']; rfl
  have l4 := s1.lenOf
  simp only [List.append_assoc, List.cons_append, List.nil_append] at e1 e2 s1 s2
  by_cases he : (layR l a b c).2.2 = 0
  rotate_left
  · have c3 : ((layR l a b c).2.2 != 0) = true := by rw [bne_iff_ne]; exact he
    have c4 : (((layR l a b c).1.length : Int) == 0) = true := by rw [hbad he]; rfl
    simp only [s12, R1, R2, R3, R4, R5, R6, R7, R8, AV.flat, fillIn_nil, fillIn_cons, splice, AV.cells, AV.one, eqsOf, idx, SO.calls, List.reduceReplicate, Nat.reduceBEq, Nat.reduceLT, Nat.reduceAdd, Nat.reduceMul, Nat.reduceSub, Nat.reduceLeDiff, Nat.reduceEqDiff, ↓reduceIte, Int.reduceLT, Int.reduceEq, Int.reduceBNe, Int.reduceBEq, aeq, Int.reduceLE, Int.reduceNeg, Int.reduceMul, Int.reduceAdd, Int.reduceSub, Int.reduceToNat, Int.reducePow, w33, l1, l2, c1, c2, w0, w1, w2, hn, e1, e2, q1', c3, c4, c5, veil_un, shun_un, leftE_ret, got_some]
    first | exact fin [] | exact fin _
  · obtain ⟨h1, h2, h3⟩ := hR he
    have c3 : ((layR l a b c).2.2 != 0) = false := by rw [he]; rfl
    have c6 : ((layR (l.take n) a b c).2.2 == 0) = true := by rw [h1]; rfl
    obtain ⟨w2', q2, s3, _⟩ := slof_sub (s1.app Z2) (Nat.zero_le n) (by rw [h3]; exact hnl)
    rw [List.drop_zero, Nat.sub_zero, ← h2] at s3
    have q2' : ∀ H', slcOf 3 p (some none) (some (some n)) (some none) H' = some (w2', H') := fun H' => by rw [← q2 H']; rfl
    simp only [List.append_assoc, List.cons_append, List.nil_append] at s3
    have e3 := c36 s2 s3 (by rw [h2, List.length_take, h3]; omega)
    simp only [s12, R1, R2, R3, R4, R5, R6, R7, R8, AV.flat, fillIn_nil, fillIn_cons, splice, AV.cells, AV.one, eqsOf, idx, SO.calls, List.reduceReplicate, Nat.reduceBEq, Nat.reduceLT, Nat.reduceAdd, Nat.reduceMul, Nat.reduceSub, Nat.reduceLeDiff, Nat.reduceEqDiff, ↓reduceIte, Int.reduceLT, Int.reduceEq, Int.reduceBNe, Int.reduceBEq, aeq, Int.reduceLE, Int.reduceNeg, Int.reduceMul, Int.reduceAdd, Int.reduceSub, Int.reduceToNat, Int.reducePow, w33, l1, l2, c1, c2, w0, w1, w2, hn, e1, e2, q1', c3, c5, c6, q2', e3, veil_un, shun_un, leftE_ret, got_some]
    first | exact fin [] | exact fin _
end Go.Proofs.Ytkcbjeenoafbkaa
