/- Chapter 10: a table that is read; the reference's parts. -/
import Derived.Test.YthfpndelfbeknaaC10c
set_option linter.unusedVariables false
set_option linter.unusedSimpArgs false
set_option maxRecDepth 100000
set_option maxHeartbeats 1000000
namespace Go.Proofs.Ythfpndelfbeknaa
open Go Go.Den
theorem tidy_ptr2 {H X : Heap} {l : List AV} {e : TypeId} {w : Bool} {k : IntKind} {n : Int} (hl : l.all AV.flat = true) :
    tidy H (.tup [.ptr H.length 0, .int k n]) (H ++ .cells l e w :: X) = (.tup [.ptr H.length 0, .int k n], H ++ [.cells l e w]) := by
  have hu : unders H.length l = true := leadss_flat hl
  simp [tidy, keepOld_append, AV.carry, carries, hu]
/-- A table, by its name: what its bytes come to, or that there is none. -/
def readE (tag : List UInt8) (size : Nat) (l : List Tab) : Int := match findP tag l with | none => 7 | some s => if s.length < size then 3 else 0
def bytesL (tag : List UInt8) (l : List Tab) : List UInt8 := foundS (findP tag l)
theorem c119 {H : Heap} {v : AV} {l : List Tab} (hs : SlOf H 2 Tab.cs v l) (hn : l.length ≤ 1000000) (tag : List UInt8) (size : Nat) :
    call env 119 [v, .str (mkS tag), .int .i64 (size : Int)] H =
      if readE tag size l = 0 then some (.tup [.ptr H.length 0, .int .i64 0], H ++ [.cells (RD (bytesL tag l) 0 false) 155 true]) else some (.tup [.nilp, .int .i64 (readE tag size l)], H) := by
  have e1 := c127 hs hn tag
  have e2 := fun s => c80 s H
  unfold bytesL
  cases hf : findP tag l with
  | none =>
    rw [hf] at e1
    simp only [foundS, Option.isSome, Option.getD_none] at e1
    have hE : readE tag size l = 7 := by simp [readE, hf]
    rw [hE, if_neg (by decide)]
    refine call_ends (fn := s119) rfl rfl (by simp [s119]) ?_
    simp only [s119, R1, R2, R3, R4, R5, R6, R7, R8, AV.flat, fillIn_nil, fillIn_cons, splice, AV.cells, AV.one, eqsOf, idx, SO.calls, List.reduceReplicate, Nat.reduceBEq, Nat.reduceLT, Nat.reduceAdd, Nat.reduceMul, Nat.reduceSub, Nat.reduceLeDiff, Nat.reduceEqDiff, ↓reduceIte, Int.reduceLT, Int.reduceEq, Int.reduceBNe, Int.reduceBEq, aeq, Int.reduceLE, Int.reduceNeg, Int.reduceMul, Int.reduceAdd, Int.reduceSub, Int.reduceToNat, Int.reducePow, e1]
  | some s =>
    rw [hf] at e1
    simp only [foundS, Option.isSome, Option.getD_some] at e1 ⊢
    by_cases hl : s.length < size
    · have a1 : ((s.length : Int) < (size : Int)) = True := eq_true (by omega)
      have hE : readE tag size l = 3 := by simp [readE, hf, hl]
      rw [hE, if_neg (by decide)]
      refine call_ends (fn := s119) rfl rfl (by simp [s119]) ?_
      simp only [s119, R1, R2, R3, R4, R5, R6, R7, R8, AV.flat, fillIn_nil, fillIn_cons, splice, AV.cells, AV.one, eqsOf, idx, SO.calls, List.reduceReplicate, Nat.reduceBEq, Nat.reduceLT, Nat.reduceAdd, Nat.reduceMul, Nat.reduceSub, Nat.reduceLeDiff, Nat.reduceEqDiff, ↓reduceIte, Int.reduceLT, Int.reduceEq, Int.reduceBNe, Int.reduceBEq, aeq, Int.reduceLE, Int.reduceNeg, Int.reduceMul, Int.reduceAdd, Int.reduceSub, Int.reduceToNat, Int.reducePow, e1, a1]
    · have a1 : ((s.length : Int) < (size : Int)) = False := eq_false (by omega)
      have hE : readE tag size l = 0 := by simp [readE, hf, hl]
      rw [hE, if_pos rfl]
      refine call_ends (fn := s119) rfl rfl (by simp [s119]) ?_
      simp only [s119, R1, R2, R3, R4, R5, R6, R7, R8, AV.flat, fillIn_nil, fillIn_cons, splice, AV.cells, AV.one, eqsOf, idx, SO.calls, List.reduceReplicate, Nat.reduceBEq, Nat.reduceLT, Nat.reduceAdd, Nat.reduceMul, Nat.reduceSub, Nat.reduceLeDiff, Nat.reduceEqDiff, ↓reduceIte, Int.reduceLT, Int.reduceEq, Int.reduceBNe, Int.reduceBEq, aeq, Int.reduceLE, Int.reduceNeg, Int.reduceMul, Int.reduceAdd, Int.reduceSub, Int.reduceToNat, Int.reducePow, e1, a1, e2]
      rw [tidy_ptr2 rfl]
def headOk (s : List UInt8) : Prop := n2 s 0 = 1 ∧ n2 s 2 = 0 ∧ n4 s 12 = 1594834165 ∧ 16 ≤ n2 s 18 ∧ n2 s 18 ≤ 16384 ∧ n2 s 50 ≤ 1 ∧ n2 s 52 = 0
instance (s : List UInt8) : Decidable (headOk s) := by unfold headOk; exact inferInstance
def headE (s : List UInt8) : Int := if s.length < 54 then 3 else if headOk s then 0 else 4
def maxpE (s : List UInt8) : Int := if s.length < 32 then 3 else if n4 s 0 ≠ 65536 then 4 else if n2 s 4 > 1024 then 6 else if n2 s 4 = 0 then 4 else 0
def hheaOk (s : List UInt8) (g : Int) : Prop := n4 s 0 = 65536 ∧ n2 s 32 = 0 ∧ 1 ≤ n2 s 34 ∧ (n2 s 34 : Int) ≤ g
instance (s : List UInt8) (g : Int) : Decidable (hheaOk s g) := by unfold hheaOk; exact inferInstance
def hheaE (s : List UInt8) (g : Int) : Int := if s.length < 36 then 3 else if hheaOk s g then 0 else 4
def headH (s : List UInt8) (h : Hd) : Hd := { h with em := (n2 s 18 : Nat), long := n2 s 50 == 1 }
def maxpH (s : List UInt8) (h : Hd) : Hd := { h with glyphs := (n2 s 4 : Nat) }
def hheaH (s : List UInt8) (h : Hd) : Hd := { h with up := sg (n2 s 4), down := sg (n2 s 6), gap := sg (n2 s 8), metrics := (n2 s 34 : Nat) }
theorem c102 {s : List UInt8} (hs : s.length ≤ 1000000) (h : Hd) (H : Heap) :
    ∃ h', call env 102 [.str (mkS s), .agg h.cs] H = some (.tup [.agg h'.cs, .int .i64 (headE s)], H) ∧ (headE s = 0 → h' = headH s h) := by
  obtain ⟨em, long, glyphs, metrics, up, down, gap⟩ := h
  unfold headE
  by_cases hl : s.length < 54
  · have a1 : ((s.length : Int) < 54) = True := eq_true (by omega)
    refine ⟨⟨em, long, glyphs, metrics, up, down, gap⟩, ?_, by simp [hl]⟩
    rw [if_pos hl]
    simp only [Hd.cs]
    refine call_ends (fn := s102) rfl rfl (by simp [s102]) ?_
    simp only [s102, R1, R2, R3, R4, R5, R6, R7, R8, AV.flat, fillIn_nil, fillIn_cons, splice, AV.cells, AV.one, eqsOf, idx, SO.calls, List.reduceReplicate, Nat.reduceBEq, Nat.reduceLT, Nat.reduceAdd, Nat.reduceMul, Nat.reduceSub, Nat.reduceLeDiff, Nat.reduceEqDiff, ↓reduceIte, Int.reduceLT, Int.reduceEq, Int.reduceBNe, Int.reduceBEq, aeq, Int.reduceLE, Int.reduceNeg, Int.reduceMul, Int.reduceAdd, Int.reduceSub, Int.reduceToNat, Int.reducePow, a1]
    rw [tidy_still rfl]
  · have a1 : ((s.length : Int) < 54) = False := eq_false (by omega)
    rw [if_neg hl]
    have q0 := fun H => c122 hs (a := 0) (by omega) H
    have q2 := fun H => c122 hs (a := 2) (by omega) H
    have q18 := fun H => c122 hs (a := 18) (by omega) H
    have q50 := fun H => c122 hs (a := 50) (by omega) H
    have q52 := fun H => c122 hs (a := 52) (by omega) H
    have q12 := fun H => c123 hs (a := 12) (by omega) H
    simp only [Int.cast_ofNat_Int, Int.natCast_zero] at q0 q2 q18 q50 q52 q12
    by_cases ho : headOk s
    · rw [if_pos ho]
      obtain ⟨o1, o2, o3, o4, o5, o6, o7⟩ := ho
      refine ⟨headH s ⟨em, long, glyphs, metrics, up, down, gap⟩, ?_, fun _ => rfl⟩
      rw [o1] at q0
      rw [o2] at q2
      rw [o3] at q12
      rw [o7] at q52
      have b1 : (((n2 s 18 : Nat) : Int) < 16) = False := eq_false (by omega)
      have b2 : (((n2 s 18 : Nat) : Int) > 16384) = False := eq_false (by omega)
      have b3 : (((n2 s 50 : Nat) : Int) > 1) = False := eq_false (by omega)
      have b4 : (((n2 s 50 : Nat) : Int) == 1) = (n2 s 50 == 1) := by rw [Bool.eq_iff_iff]; simp; omega
      simp only [Hd.cs, headH]
      refine call_ends (fn := s102) rfl rfl (by simp [s102]) ?_
      simp only [s102, R1, R2, R3, R4, R5, R6, R7, R8, AV.flat, fillIn_nil, fillIn_cons, splice, AV.cells, AV.one, eqsOf, idx, SO.calls, List.reduceReplicate, Nat.reduceBEq, Nat.reduceLT, Nat.reduceAdd, Nat.reduceMul, Nat.reduceSub, Nat.reduceLeDiff, Nat.reduceEqDiff, ↓reduceIte, Int.reduceLT, Int.reduceEq, Int.reduceBNe, Int.reduceBEq, aeq, Int.reduceLE, Int.reduceNeg, Int.reduceMul, Int.reduceAdd, Int.reduceSub, Int.reduceToNat, Int.reducePow, a1, q0, q2, q18, q50, q52, q12, b1, b2, b3, b4]
      rw [tidy_still rfl]
    · rw [if_neg ho]
      refine ⟨⟨(n2 s 18 : Nat), long, glyphs, metrics, up, down, gap⟩, ?_, fun h => by cases h⟩
      simp only [Hd.cs]
      unfold headOk at ho
      refine call_ends (fn := s102) rfl rfl (by simp [s102]) ?_
      have hh : True := trivial
      have hk : True := trivial
      have hj : True := trivial
      simp only [s102]
      repeat' (first
        | simp only [R1, R2, R3, R4, R5, R6, R7, R8, AV.flat, fillIn_nil, fillIn_cons, splice, AV.cells, AV.one, eqsOf, idx, SO.calls, List.reduceReplicate, Nat.reduceBEq, Nat.reduceLT, Nat.reduceAdd, Nat.reduceMul, Nat.reduceSub, Nat.reduceLeDiff, Nat.reduceEqDiff, ↓reduceIte, Int.reduceLT, Int.reduceEq, Int.reduceBNe, Int.reduceBEq, aeq, Int.reduceLE, Int.reduceNeg, Int.reduceMul, Int.reduceAdd, Int.reduceSub, Int.reduceToNat, Int.reducePow, hh, hk, hj, a1, q0, q2, q18, q50, q52, q12]
        | simp (disch := omega) only [wrap_i64]
        | (simp only [gets_guard, gets_guardd, endsIf_any]; split <;> rename_i hk <;> (try simp only [Bool.not_eq_true] at hk) <;> (have hh := hk) <;> (have hj := hk) <;> (try simp only [Bool.not_eq_true', Bool.not_eq_false'] at hj) <;> (try simp only [decide_eq_true_eq, Bool.not_eq_true, decide_eq_false_iff_not, Bool.not_eq_true', Bool.not_eq_false', Bool.and_eq_true, Bool.or_eq_true, beq_iff_eq, bne_iff_ne, ne_eq] at hh)))
      all_goals first | (rw [tidy_still rfl]; done) | (exfalso; simp only [bne_eq_false_iff_eq] at *; omega)
end Go.Proofs.Ythfpndelfbeknaa
