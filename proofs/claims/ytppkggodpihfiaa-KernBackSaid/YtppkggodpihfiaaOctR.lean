/- The readers of chapter 07. -/
import Derived.Test.YtppkggodpihfiaaOct
set_option linter.unusedVariables false
set_option linter.unusedSimpArgs false
set_option maxRecDepth 100000
set_option maxHeartbeats 1000000
namespace Go.Proofs.Ytppkggodpihfiaa
open Go Go.Den
/-- A reader's cells. -/
def RD (l : List UInt8) (a : Nat) (b : Bool) : List AV := [.str (mkS l), .int .i64 (a : Int), .bool b]
theorem RD_flat (l : List UInt8) (a : Nat) (b : Bool) : (RD l a b).all AV.flat = true := rfl
/-- What a reader takes, where it stands then, whether it has failed. -/
def took (l : List UInt8) (a : Nat) (b : Bool) (n : Int) : List UInt8 := if b then [] else cutS (cut l a n)
def tookA (l : List UInt8) (a : Nat) (b : Bool) (n : Int) : Nat := if b then a else if (cut l a n).isSome then a + n.toNat else a
def tookB (l : List UInt8) (a : Nat) (b : Bool) (n : Int) : Bool := b || !(cut l a n).isSome
theorem cut_some {l : List UInt8} {a : Nat} {n : Int} {x : List UInt8} (h : cut l a n = some x) : 0 ≤ n ∧ (a : Int) + n ≤ l.length ∧ x.length = n.toNat := by
  unfold cut at h
  split at h
  · cases h
  · injection h with h; subst h
    simp; omega
theorem tookA_le {l : List UInt8} {a : Nat} {b : Bool} {n : Int} (h : a ≤ l.length) : tookA l a b n ≤ l.length := by
  unfold tookA
  cases b
  · cases hc : cut l a n with
    | none => simpa using h
    | some x => have := cut_some hc; simp; omega
  · simpa using h
theorem took_len {l : List UInt8} {a : Nat} {b : Bool} {n : Int} : (took l a b n).length ≤ n.toNat ∧ (took l a b n).length ≤ l.length := by
  unfold took
  cases b
  · cases hc : cut l a n with
    | none => simp [cutS]
    | some x => have := cut_some hc; simp [cutS]; omega
  · simp
theorem c83 {H : Heap} {o : Nat} {e : TypeId} {l : List UInt8} {a : Nat} {b : Bool} (n : Int) (h : H[o]? = some (.cells (RD l a b) e true)) (ha : a ≤ l.length) (hl : l.length ≤ 1000000) :
    call env 83 [.ptr o 0, .int .i64 n] H = some (.str (mkS (took l a b n)), H.set o (.cells (RD l (tookA l a b n) (tookB l a b n)) e true)) := by
  refine call_ends (fn := s83) rfl rfl (by simp [s83]) ?_
  have e1 := fun n off => aload_row (n := n) (off := off) h
  have e2 := fun off c => astore_row (off := off) (c := c) h
  have e3 := c81 l a n H hl
  simp only [RD] at e1 e2
  cases b
  · cases hc : cut l a n with
    | none =>
      have e4 : H.set o (.cells [.str (mkS l), .int .i64 (a : Int), .bool true] e true) = H.set o (.cells [.str (mkS l), .int .i64 (a : Int), .bool true] e true) := rfl
      simp only [hc, cutS, cutE, Option.isSome] at e3
      simp only [s83, R1, R2, R3, R4, R5, R6, R7, R8, AV.flat, fillIn_nil, fillIn_cons, splice, AV.cells, AV.one, eqsOf, idx, SO.calls, List.reduceReplicate, Nat.reduceBEq, Nat.reduceLT, Nat.reduceAdd, Nat.reduceMul, Nat.reduceSub, Nat.reduceLeDiff, Nat.reduceEqDiff, ↓reduceIte, Int.reduceLT, Int.reduceEq, Int.reduceBNe, Int.reduceBEq, aeq, Int.reduceLE, Int.reduceNeg, Int.reduceMul, Int.reduceAdd, Int.reduceSub, Int.reduceToNat, Int.reducePow, e1, e2, e3]
      rw [tidy_set rfl rfl]
      simp [took, tookA, tookB, hc, cutS, RD]
    | some x =>
      have hx := cut_some hc
      have w := wrap_i64 (x := (a : Int) + n) (by omega) (by omega)
      have w2 : (a : Int) + n = ((a + n.toNat : Nat) : Int) := by omega
      rw [w2] at w
      simp only [hc, cutS, cutE, Option.isSome] at e3
      simp only [s83, R1, R2, R3, R4, R5, R6, R7, R8, AV.flat, fillIn_nil, fillIn_cons, splice, AV.cells, AV.one, eqsOf, idx, SO.calls, List.reduceReplicate, Nat.reduceBEq, Nat.reduceLT, Nat.reduceAdd, Nat.reduceMul, Nat.reduceSub, Nat.reduceLeDiff, Nat.reduceEqDiff, ↓reduceIte, Int.reduceLT, Int.reduceEq, Int.reduceBNe, Int.reduceBEq, aeq, Int.reduceLE, Int.reduceNeg, Int.reduceMul, Int.reduceAdd, Int.reduceSub, Int.reduceToNat, Int.reducePow, e1, e2, e3, w2, w]
      rw [tidy_set rfl rfl]
      simp [took, tookA, tookB, hc, cutS, RD]
  · have e4 := set_same h
    simp only [RD] at e4
    simp only [s83, R1, R2, R3, R4, R5, R6, R7, R8, AV.flat, fillIn_nil, fillIn_cons, splice, AV.cells, AV.one, eqsOf, idx, SO.calls, List.reduceReplicate, Nat.reduceBEq, Nat.reduceLT, Nat.reduceAdd, Nat.reduceMul, Nat.reduceSub, Nat.reduceLeDiff, Nat.reduceEqDiff, ↓reduceIte, Int.reduceLT, Int.reduceEq, Int.reduceBNe, Int.reduceBEq, aeq, Int.reduceLE, Int.reduceNeg, Int.reduceMul, Int.reduceAdd, Int.reduceSub, Int.reduceToNat, Int.reducePow, e1, e2]
    simp only [took, tookA, tookB, RD, Bool.true_or, if_true, e4, tidy_str0]
theorem c83_n (n : Int) (H : Heap) : call env 83 [.nilp, .int .i64 n] H = some (.str (mkS []), H) := by
  refine call_ends (fn := s83) rfl rfl (by simp [s83]) ?_
  simp only [s83, R1, R2, R3, R4, R5, R6, R7, R8, AV.flat, fillIn_nil, fillIn_cons, splice, AV.cells, AV.one, eqsOf, idx, SO.calls, List.reduceReplicate, Nat.reduceBEq, Nat.reduceLT, Nat.reduceAdd, Nat.reduceMul, Nat.reduceSub, Nat.reduceLeDiff, Nat.reduceEqDiff, ↓reduceIte, Int.reduceLT, Int.reduceEq, Int.reduceBNe, Int.reduceBEq, aeq, Int.reduceLE, Int.reduceNeg, Int.reduceMul, Int.reduceAdd, Int.reduceSub, Int.reduceToNat, Int.reducePow, tidy_str0]
end Go.Proofs.Ytppkggodpihfiaa
