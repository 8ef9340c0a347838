/- Chapter 10: Parse. -/
import Derived.Test.YthfpndelfbeknaaC10h
set_option linter.unusedVariables false
set_option linter.unusedSimpArgs false
set_option maxRecDepth 100000
set_option maxHeartbeats 1000000
namespace Go.Proofs.Ythfpndelfbeknaa
open Go Go.Den
theorem parse_1 {l : List Tab} (h : eHead l ≠ 0) : ParseR l = (zeroH, eHead l) := by
  unfold eHead at h ⊢; unfold ParseR
  cases hf : findP tHead l with
  | none => rfl
  | some s => rw [hf] at h; simp only at h ⊢; rw [if_pos h]
theorem parse_2 {l : List Tab} (h1 : eHead l = 0) (h : eMaxp l ≠ 0) : ParseR l = (zeroH, eMaxp l) := by
  unfold eHead at h1; unfold eMaxp at h ⊢; unfold ParseR
  cases hf : findP tHead l with
  | none => rw [hf] at h1; cases h1
  | some s =>
    rw [hf] at h1; simp only at h1 ⊢; rw [if_neg (by simp [h1])]
    cases hg : findP tMaxp l with
    | none => rfl
    | some s2 => rw [hg] at h; simp only at h ⊢; rw [if_pos h]
theorem parse_3 {l : List Tab} {s1 s2 : List UInt8} (f1 : findP tHead l = some s1) (h1 : eHead l = 0) (f2 : findP tMaxp l = some s2) (h2 : eMaxp l = 0) (h : eHhea l (n2 s2 4 : Nat) ≠ 0) : ParseR l = (zeroH, eHhea l (n2 s2 4 : Nat)) := by
  unfold eHead at h1; unfold eMaxp at h2; unfold eHhea at h ⊢; unfold ParseR
  rw [f1] at h1 ⊢; rw [f2] at h2 ⊢
  simp only at h1 h2 ⊢
  rw [if_neg (by simp [h1]), if_neg (by simp [h2])]
  cases hg : findP tHhea l with
  | none => rfl
  | some s3 => rw [hg] at h; simp only at h ⊢; rw [if_pos h]
theorem parse_4 {l : List Tab} {s1 s2 s3 : List UInt8} (f1 : findP tHead l = some s1) (h1 : eHead l = 0) (f2 : findP tMaxp l = some s2) (h2 : eMaxp l = 0) (f3 : findP tHhea l = some s3) (h : eHhea l (n2 s2 4 : Nat) = 0) : ParseR l = (hheaH s3 (maxpH s2 (headH s1 zeroH)), 0) := by
  unfold eHead at h1; unfold eMaxp at h2; unfold eHhea at h; unfold ParseR
  rw [f1] at h1 ⊢; rw [f2] at h2 ⊢; rw [f3] at h ⊢
  simp only at h1 h2 h ⊢
  rw [if_neg (by simp [h1]), if_neg (by simp [h2]), if_neg (by simp [h])]
theorem c47 {H : Heap} {v : AV} {l : List Tab} (hs : SlOf H 2 Tab.cs v l) (hn : l.length ≤ 1000000) (hd : ∀ t ∈ l, t.data.length ≤ 1000000) :
    call env 47 [v] H = some (.tup [.agg (ParseR l).1.cs, .int .i64 (ParseR l).2], H) := by
  have w1 : IntKind.i64.wrap (0 + 1) = 1 := by decide
  have w2 : IntKind.i64.wrap (1 + 1) = 2 := by decide
  have w3 : IntKind.i64.wrap (2 + 1) = 3 := by decide
  have u1 := fun r t H Q => @ends_unroll (call env) t H Q (.seq (.reg [⟨some 16, .bin .lss (.t 15) (.t 14), none, none, []⟩]) r)
  obtain ⟨h1, p1, r1⟩ := c96 (H := H ++ [.cells zeroH.cs 71 true, .cells zeroH.cs 71 true]) (hs.app _) hn hd (o := H.length + 1) (h := zeroH) at1
  rw [set1] at p1
  obtain ⟨h2, p2, r2⟩ := c97 (H := H ++ [.cells zeroH.cs 71 true, .cells h1.cs 71 true]) (hs.app _) hn hd (o := H.length + 1) (h := h1) at1
  rw [set1] at p2
  obtain ⟨h3, p3, r3⟩ := c98 (H := H ++ [.cells zeroH.cs 71 true, .cells h2.cs 71 true]) (hs.app _) hn hd (o := H.length + 1) (h := h2) at1
  rw [set1] at p3
  by_cases he1 : eHead l = 0
  · obtain ⟨s1, f1, q1⟩ := r1 he1
    have b1 : (eHead l != 0) = false := by simp [he1]
    by_cases he2 : eMaxp l = 0
    · obtain ⟨s2, f2, q2⟩ := r2 he2
      have b2 : (eMaxp l != 0) = false := by simp [he2]
      have hg : h2.glyphs = (n2 s2 4 : Nat) := by rw [q2]; rfl
      rw [hg] at p3 r3
      by_cases he3 : eHhea l (n2 s2 4 : Nat) = 0
      · obtain ⟨s3, f3, q3⟩ := r3 he3
        rw [parse_4 f1 he1 f2 he2 f3 he3, ← q1, ← q2, ← q3]
        rw [he1] at p1
        rw [he2] at p2
        rw [he3] at p3
        simp only [zeroH, Hd.cs] at p1 p2 p3 ⊢
        refine call_ends (fn := s47) rfl rfl (by simp [s47]) ?_
        simp only [s47, R1, R2, R3, R4, R5, R6, R7, R8, AV.flat, fillIn_nil, fillIn_cons, splice, AV.cells, AV.one, eqsOf, idx, SO.calls, List.reduceReplicate, Nat.reduceBEq, Nat.reduceLT, Nat.reduceAdd, Nat.reduceMul, Nat.reduceSub, Nat.reduceLeDiff, Nat.reduceEqDiff, ↓reduceIte, Int.reduceLT, Int.reduceEq, Int.reduceBNe, Int.reduceBEq, aeq, Int.reduceLE, Int.reduceNeg, Int.reduceMul, Int.reduceAdd, Int.reduceSub, Int.reduceToNat, Int.reducePow, u1, p1, p2, p3, w1, w2, w3]
        rw [tidy_still rfl]
      · have b3 : (eHhea l (n2 s2 4 : Nat) != 0) = true := by simp [he3]
        rw [parse_3 f1 he1 f2 he2 he3]
        rw [he1] at p1
        rw [he2] at p2
        generalize eHhea l (n2 s2 4 : Nat) = x at p3 b3 ⊢
        simp only [zeroH, Hd.cs] at p1 p2 p3 ⊢
        refine call_ends (fn := s47) rfl rfl (by simp [s47]) ?_
        simp only [s47, R1, R2, R3, R4, R5, R6, R7, R8, AV.flat, fillIn_nil, fillIn_cons, splice, AV.cells, AV.one, eqsOf, idx, SO.calls, List.reduceReplicate, Nat.reduceBEq, Nat.reduceLT, Nat.reduceAdd, Nat.reduceMul, Nat.reduceSub, Nat.reduceLeDiff, Nat.reduceEqDiff, ↓reduceIte, Int.reduceLT, Int.reduceEq, Int.reduceBNe, Int.reduceBEq, aeq, Int.reduceLE, Int.reduceNeg, Int.reduceMul, Int.reduceAdd, Int.reduceSub, Int.reduceToNat, Int.reducePow, u1, p1, p2, p3, w1, w2, w3, b3]
        rw [tidy_still rfl]
    · have b2 : (eMaxp l != 0) = true := by simp [he2]
      rw [parse_2 he1 he2]
      rw [he1] at p1
      generalize eMaxp l = x at p2 b2 ⊢
      generalize eHhea l h2.glyphs = y at p3
      simp only [zeroH, Hd.cs] at p1 p2 p3 ⊢
      refine call_ends (fn := s47) rfl rfl (by simp [s47]) ?_
      simp only [s47, R1, R2, R3, R4, R5, R6, R7, R8, AV.flat, fillIn_nil, fillIn_cons, splice, AV.cells, AV.one, eqsOf, idx, SO.calls, List.reduceReplicate, Nat.reduceBEq, Nat.reduceLT, Nat.reduceAdd, Nat.reduceMul, Nat.reduceSub, Nat.reduceLeDiff, Nat.reduceEqDiff, ↓reduceIte, Int.reduceLT, Int.reduceEq, Int.reduceBNe, Int.reduceBEq, aeq, Int.reduceLE, Int.reduceNeg, Int.reduceMul, Int.reduceAdd, Int.reduceSub, Int.reduceToNat, Int.reducePow, u1, p1, p2, p3, w1, w2, w3, b2]
      rw [tidy_still rfl]
  · have b1 : (eHead l != 0) = true := by simp [he1]
    rw [parse_1 he1]
    generalize eHead l = x at p1 b1 ⊢
    generalize eMaxp l = y at p2
    generalize eHhea l h2.glyphs = z at p3
    simp only [zeroH, Hd.cs] at p1 p2 p3 ⊢
    refine call_ends (fn := s47) rfl rfl (by simp [s47]) ?_
    simp only [s47, R1, R2, R3, R4, R5, R6, R7, R8, AV.flat, fillIn_nil, fillIn_cons, splice, AV.cells, AV.one, eqsOf, idx, SO.calls, List.reduceReplicate, Nat.reduceBEq, Nat.reduceLT, Nat.reduceAdd, Nat.reduceMul, Nat.reduceSub, Nat.reduceLeDiff, Nat.reduceEqDiff, ↓reduceIte, Int.reduceLT, Int.reduceEq, Int.reduceBNe, Int.reduceBEq, aeq, Int.reduceLE, Int.reduceNeg, Int.reduceMul, Int.reduceAdd, Int.reduceSub, Int.reduceToNat, Int.reducePow, u1, p1, p2, p3, w1, w2, w3, b1]
    rw [tidy_still rfl]
end Go.Proofs.Ythfpndelfbeknaa
