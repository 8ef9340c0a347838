/- Chapter 10: the reference's Parse. -/
import Derived.Test.YthfpndelfbeknaaC10e
set_option linter.unusedVariables false
set_option linter.unusedSimpArgs false
set_option maxRecDepth 100000
set_option maxHeartbeats 1000000
namespace Go.Proofs.Ythfpndelfbeknaa
open Go Go.Den
def tHead : List UInt8 := [104, 101, 97, 100]
def tMaxp : List UInt8 := [109, 97, 120, 112]
def tHhea : List UInt8 := [104, 104, 101, 97]
def zeroH : Hd := ⟨0, false, 0, 0, 0, 0, 0⟩
def ParseR (l : List Tab) : Hd × Int :=
  match findP tHead l with
  | none => (zeroH, 7)
  | some s1 => if headE s1 ≠ 0 then (zeroH, headE s1) else
    match findP tMaxp l with
    | none => (zeroH, 7)
    | some s2 => if maxpE s2 ≠ 0 then (zeroH, maxpE s2) else
      match findP tHhea l with
      | none => (zeroH, 7)
      | some s3 => if hheaE s3 (n2 s2 4 : Nat) ≠ 0 then (zeroH, hheaE s3 (n2 s2 4 : Nat)) else (hheaH s3 (maxpH s2 (headH s1 zeroH)), 0)
theorem find_in {tag : List UInt8} : ∀ {l : List Tab} {s : List UInt8}, findP tag l = some s → ∃ t ∈ l, t.data = s
  | [], s, h => by cases h
  | t :: r, s, h => by
    unfold findP at h
    split at h
    · injection h with h; exact ⟨t, by simp, h⟩
    · obtain ⟨t', h1, h2⟩ := find_in h; exact ⟨t', by simp [h1], h2⟩
theorem c50 {H : Heap} {v : AV} {l : List Tab} (hs : SlOf H 2 Tab.cs v l) (hn : l.length ≤ 1000000) (hd : ∀ t ∈ l, t.data.length ≤ 1000000) :
    call env 50 [v] H = some (.tup [.agg (ParseR l).1.cs, .int .i64 (ParseR l).2], H) := by
  have f1 := fun X => c101 (hs.app X) hn tHead
  have f2 := fun X => c101 (hs.app X) hn tMaxp
  have f3 := fun X => c101 (hs.app X) hn tHhea
  have w1 : IntKind.i64.wrap (0 + 1) = 1 := by decide
  have w2 : IntKind.i64.wrap (1 + 1) = 2 := by decide
  have w3 : IntKind.i64.wrap (2 + 1) = 3 := by decide
  have u1 := fun r t H Q => @ends_unroll (call env) t H Q (.seq (.seq (.reg [⟨some 12, .mv (.t 7), none, none, []⟩, ⟨some 13, .bin .lss (.t 12) (.v (.int .i64 3)), none, none, []⟩]) (.cond (.t 13) .skip (.exit 0))) r)
  unfold ParseR
  simp only [tHead, tMaxp, tHhea] at f1 f2 f3 ⊢
  cases hf1 : findP [104, 101, 97, 100] l with
  | none =>
    simp only [hf1, foundS, Option.isSome, Option.getD_none] at f1
    simp only [zeroH, Hd.cs]
    refine call_ends (fn := s50) rfl rfl (by simp [s50]) ?_
    simp only [s50, R1, R2, R3, R4, R5, R6, R7, R8, AV.flat, fillIn_nil, fillIn_cons, splice, AV.cells, AV.one, eqsOf, idx, SO.calls, List.reduceReplicate, Nat.reduceBEq, Nat.reduceLT, Nat.reduceAdd, Nat.reduceMul, Nat.reduceSub, Nat.reduceLeDiff, Nat.reduceEqDiff, ↓reduceIte, Int.reduceLT, Int.reduceEq, Int.reduceBNe, Int.reduceBEq, aeq, Int.reduceLE, Int.reduceNeg, Int.reduceMul, Int.reduceAdd, Int.reduceSub, Int.reduceToNat, Int.reducePow, u1, f1]
    rw [tidy_still rfl]
  | some s1 =>
    simp only [hf1, foundS, Option.isSome, Option.getD_some] at f1
    obtain ⟨t1, ht1, hd1⟩ := find_in hf1
    have hl1 := hd t1 ht1
    rw [hd1] at hl1
    obtain ⟨h1, p1, r1⟩ := c102 hl1 zeroH (H ++ [.cells zeroH.cs 71 true, .cells zeroH.cs 71 true, .cells [.str (mkS [104, 101, 97, 100]), .str (mkS [109, 97, 120, 112]), .str (mkS [104, 104, 101, 97])] 9 true])
    by_cases he1 : headE s1 = 0
    · rw [he1] at p1
      have r1' := r1 he1
      simp only [he1, ne_eq, not_true_eq_false, if_false]
      cases hf2 : findP [109, 97, 120, 112] l with
      | none =>
        simp only [hf2, foundS, Option.isSome, Option.getD_none] at f2
        simp only [zeroH, Hd.cs] at p1 ⊢
        refine call_ends (fn := s50) rfl rfl (by simp [s50]) ?_
        simp only [s50, R1, R2, R3, R4, R5, R6, R7, R8, AV.flat, fillIn_nil, fillIn_cons, splice, AV.cells, AV.one, eqsOf, idx, SO.calls, List.reduceReplicate, Nat.reduceBEq, Nat.reduceLT, Nat.reduceAdd, Nat.reduceMul, Nat.reduceSub, Nat.reduceLeDiff, Nat.reduceEqDiff, ↓reduceIte, Int.reduceLT, Int.reduceEq, Int.reduceBNe, Int.reduceBEq, aeq, Int.reduceLE, Int.reduceNeg, Int.reduceMul, Int.reduceAdd, Int.reduceSub, Int.reduceToNat, Int.reducePow, u1, f1, f2, p1, w1]
        rw [tidy_still rfl]
      | some s2 =>
        simp only [hf2, foundS, Option.isSome, Option.getD_some] at f2
        obtain ⟨t2, ht2, hd2⟩ := find_in hf2
        have hl2 := hd t2 ht2
        rw [hd2] at hl2
        obtain ⟨h2, p2, r2⟩ := c103 hl2 h1 (H ++ [.cells zeroH.cs 71 true, .cells h1.cs 71 true, .cells [.str (mkS [104, 101, 97, 100]), .str (mkS [109, 97, 120, 112]), .str (mkS [104, 104, 101, 97])] 9 true])
        by_cases he2 : maxpE s2 = 0
        · rw [he2] at p2
          have r2' := r2 he2
          simp only [he2, ne_eq, not_true_eq_false, if_false]
          cases hf3 : findP [104, 104, 101, 97] l with
          | none =>
            simp only [hf3, foundS, Option.isSome, Option.getD_none] at f3
            simp only [zeroH, Hd.cs] at p1 p2 ⊢
            refine call_ends (fn := s50) rfl rfl (by simp [s50]) ?_
            simp only [s50, R1, R2, R3, R4, R5, R6, R7, R8, AV.flat, fillIn_nil, fillIn_cons, splice, AV.cells, AV.one, eqsOf, idx, SO.calls, List.reduceReplicate, Nat.reduceBEq, Nat.reduceLT, Nat.reduceAdd, Nat.reduceMul, Nat.reduceSub, Nat.reduceLeDiff, Nat.reduceEqDiff, ↓reduceIte, Int.reduceLT, Int.reduceEq, Int.reduceBNe, Int.reduceBEq, aeq, Int.reduceLE, Int.reduceNeg, Int.reduceMul, Int.reduceAdd, Int.reduceSub, Int.reduceToNat, Int.reducePow, u1, f1, f2, f3, p1, p2, w1, w2]
            rw [tidy_still rfl]
          | some s3 =>
            simp only [hf3, foundS, Option.isSome, Option.getD_some] at f3
            obtain ⟨t3, ht3, hd3⟩ := find_in hf3
            have hl3 := hd t3 ht3
            rw [hd3] at hl3
            obtain ⟨h3, p3, r3⟩ := c104 hl3 h2 (H ++ [.cells zeroH.cs 71 true, .cells h2.cs 71 true, .cells [.str (mkS [104, 101, 97, 100]), .str (mkS [109, 97, 120, 112]), .str (mkS [104, 104, 101, 97])] 9 true])
            have hg : h2.glyphs = (n2 s2 4 : Nat) := by rw [r2']; rfl
            rw [hg] at p3 r3
            by_cases he3 : hheaE s3 (n2 s2 4 : Nat) = 0
            · rw [he3] at p3
              have r3' := r3 he3
              simp only [he3, ne_eq, not_true_eq_false, if_false]
              rw [← r1', ← r2', ← r3']
              simp only [zeroH, Hd.cs] at p1 p2 p3 ⊢
              refine call_ends (fn := s50) rfl rfl (by simp [s50]) ?_
              simp only [s50, R1, R2, R3, R4, R5, R6, R7, R8, AV.flat, fillIn_nil, fillIn_cons, splice, AV.cells, AV.one, eqsOf, idx, SO.calls, List.reduceReplicate, Nat.reduceBEq, Nat.reduceLT, Nat.reduceAdd, Nat.reduceMul, Nat.reduceSub, Nat.reduceLeDiff, Nat.reduceEqDiff, ↓reduceIte, Int.reduceLT, Int.reduceEq, Int.reduceBNe, Int.reduceBEq, aeq, Int.reduceLE, Int.reduceNeg, Int.reduceMul, Int.reduceAdd, Int.reduceSub, Int.reduceToNat, Int.reducePow, u1, f1, f2, f3, p1, p2, p3, w1, w2, w3]
              rw [tidy_still rfl]
            · have b3 : (hheaE s3 (n2 s2 4 : Nat) != 0) = true := by simpa using he3
              simp only [he3, ne_eq, not_false_eq_true, if_true]
              generalize hheaE s3 (n2 s2 4 : Nat) = x3 at b3 p3 ⊢
              simp only [zeroH, Hd.cs] at p1 p2 p3 ⊢
              refine call_ends (fn := s50) rfl rfl (by simp [s50]) ?_
              simp only [s50, R1, R2, R3, R4, R5, R6, R7, R8, AV.flat, fillIn_nil, fillIn_cons, splice, AV.cells, AV.one, eqsOf, idx, SO.calls, List.reduceReplicate, Nat.reduceBEq, Nat.reduceLT, Nat.reduceAdd, Nat.reduceMul, Nat.reduceSub, Nat.reduceLeDiff, Nat.reduceEqDiff, ↓reduceIte, Int.reduceLT, Int.reduceEq, Int.reduceBNe, Int.reduceBEq, aeq, Int.reduceLE, Int.reduceNeg, Int.reduceMul, Int.reduceAdd, Int.reduceSub, Int.reduceToNat, Int.reducePow, u1, f1, f2, f3, p1, p2, p3, w1, w2, w3, b3]
              rw [tidy_still rfl]
        · have b2 : (maxpE s2 != 0) = true := by simpa using he2
          simp only [he2, ne_eq, not_false_eq_true, if_true]
          generalize maxpE s2 = x2 at b2 p2 ⊢
          simp only [zeroH, Hd.cs] at p1 p2 ⊢
          refine call_ends (fn := s50) rfl rfl (by simp [s50]) ?_
          simp only [s50, R1, R2, R3, R4, R5, R6, R7, R8, AV.flat, fillIn_nil, fillIn_cons, splice, AV.cells, AV.one, eqsOf, idx, SO.calls, List.reduceReplicate, Nat.reduceBEq, Nat.reduceLT, Nat.reduceAdd, Nat.reduceMul, Nat.reduceSub, Nat.reduceLeDiff, Nat.reduceEqDiff, ↓reduceIte, Int.reduceLT, Int.reduceEq, Int.reduceBNe, Int.reduceBEq, aeq, Int.reduceLE, Int.reduceNeg, Int.reduceMul, Int.reduceAdd, Int.reduceSub, Int.reduceToNat, Int.reducePow, u1, f1, f2, p1, p2, w1, w2, b2]
          rw [tidy_still rfl]
    · have b1 : (headE s1 != 0) = true := by simpa using he1
      simp only [he1, ne_eq, not_false_eq_true, if_true]
      generalize headE s1 = x1 at b1 p1 ⊢
      simp only [zeroH, Hd.cs] at p1 ⊢
      refine call_ends (fn := s50) rfl rfl (by simp [s50]) ?_
      simp only [s50, R1, R2, R3, R4, R5, R6, R7, R8, AV.flat, fillIn_nil, fillIn_cons, splice, AV.cells, AV.one, eqsOf, idx, SO.calls, List.reduceReplicate, Nat.reduceBEq, Nat.reduceLT, Nat.reduceAdd, Nat.reduceMul, Nat.reduceSub, Nat.reduceLeDiff, Nat.reduceEqDiff, ↓reduceIte, Int.reduceLT, Int.reduceEq, Int.reduceBNe, Int.reduceBEq, aeq, Int.reduceLE, Int.reduceNeg, Int.reduceMul, Int.reduceAdd, Int.reduceSub, Int.reduceToNat, Int.reducePow, u1, f1, p1, w1, b1]
      rw [tidy_still rfl]
end Go.Proofs.Ythfpndelfbeknaa
