/- Chapter 10: the parts of Make. -/
import Derived.Test.YthfpndelfbeknaaC10h
set_option linter.unusedVariables false
set_option linter.unusedSimpArgs false
set_option maxRecDepth 100000
set_option maxHeartbeats 1000000
namespace Go.Proofs.Ythfpndelfbeknaa
open Go Go.Den
/-- A number's two bytes, whatever its sign. -/
def b16 (n : Int) : List UInt8 := putB (n % 65536).toNat 2
theorem u16_nat (n : Int) : IntKind.u16.wrap n = ((n % 65536).toNat : Int) := by rw [wrap_u16_mod]; omega
theorem c91 (n : Int) (H : Heap) : call env 91 [.int .i64 n] H = some (.str (mkS (b16 n)), H) := by
  have e1 := c87 (n % 65536).toNat
  have w1 := u16_nat n
  unfold b16
  refine call_ends (fn := s91) rfl rfl (by simp [s91]) ?_
  simp only [s91, R1, R2, R3, R4, R5, R6, R7, R8, AV.flat, fillIn_nil, fillIn_cons, splice, AV.cells, AV.one, eqsOf, idx, SO.calls, List.reduceReplicate, Nat.reduceBEq, Nat.reduceLT, Nat.reduceAdd, Nat.reduceMul, Nat.reduceSub, Nat.reduceLeDiff, Nat.reduceEqDiff, ↓reduceIte, Int.reduceLT, Int.reduceEq, Int.reduceBNe, Int.reduceBEq, aeq, Int.reduceLE, Int.reduceNeg, Int.reduceMul, Int.reduceAdd, Int.reduceSub, Int.reduceToNat, Int.reducePow, w1, e1, tidy_str0]
theorem c99 (n : Int) (H : Heap) : call env 99 [.int .i64 n] H = some (.str (mkS (b16 n)), H) := by
  have e1 := fun H => c89 (n % 65536).toNat 2 H (by omega) (by omega)
  have w1 := u16_nat n
  have w2 : IntKind.u32.wrap ((n % 65536).toNat : Int) = ((n % 65536).toNat : Int) := wrap_u32 (by omega) (by omega)
  unfold b16
  simp only [Int.cast_ofNat_Int] at e1
  refine call_ends (fn := s99) rfl rfl (by simp [s99]) ?_
  simp only [s99, R1, R2, R3, R4, R5, R6, R7, R8, AV.flat, fillIn_nil, fillIn_cons, splice, AV.cells, AV.one, eqsOf, idx, SO.calls, List.reduceReplicate, Nat.reduceBEq, Nat.reduceLT, Nat.reduceAdd, Nat.reduceMul, Nat.reduceSub, Nat.reduceLeDiff, Nat.reduceEqDiff, ↓reduceIte, Int.reduceLT, Int.reduceEq, Int.reduceBNe, Int.reduceBEq, aeq, Int.reduceLE, Int.reduceNeg, Int.reduceMul, Int.reduceAdd, Int.reduceSub, Int.reduceToNat, Int.reducePow, w1, w2, e1, tidy_str0]
def zs (n : Nat) : List UInt8 := List.replicate n 0
theorem zs_row (n : Nat) : (List.replicate n [AV.int .u8 0]).flatten = u8s (zs n) := by
  unfold zs u8s
  induction n with
  | zero => rfl
  | succ n ih => simp only [List.replicate_succ, List.flatten_cons, ih, List.map_cons]; rfl
theorem mk_zs (n : Nat) (hn : n ≤ 100000) (H : Heap) : mkslOf 5 [.int .u8 0] (.int .i64 (n : Int)) (.int .i64 (n : Int)) H = some (.sl H.length 0 n 1 (some n), H ++ [.cells (u8s (zs n)) 5 true]) := by
  have hr : roomy n = true := by simp [roomy]; omega
  simp [mkslOf, hr, ← zs_row n]
theorem str_row {l : List UInt8} {H : Heap} {e : TypeId} {w : Bool} {c : Option Nat} {o : Nat} (h : H[o]? = some (.cells (u8s l) e w)) : strOf (.sl o 0 l.length 1 c) H = some (.str (mkS l), H) :=
  str_of (l := l) (by
    have : aload H (l.length * 1) (.ptr o 0) = some (u8s l) := by rw [aload_row h, if_pos (by rw [u8s_len]; omega), List.drop_zero, List.take_of_length_le (by rw [u8s_len]; omega)]
    simpa only [acells] using this) rfl
theorem c100 (n : Nat) (hn : n ≤ 100000) (H : Heap) : call env 100 [.int .i64 (n : Int)] H = some (.str (mkS (zs n)), H) := by
  have e1 := mk_zs n hn H
  have e2 := @str_row (zs n) (H ++ [.cells (u8s (zs n)) 5 true]) 5 true (some n) H.length (by simp)
  rw [show (zs n).length = n by simp [zs]] at e2
  generalize zs n = z at e1 e2 ⊢
  generalize u8s z = row at e1 e2
  refine call_ends (fn := s100) rfl rfl (by simp [s100]) ?_
  simp only [s100, R1, R2, R3, R4, R5, R6, R7, R8, AV.flat, fillIn_nil, fillIn_cons, splice, AV.cells, AV.one, eqsOf, idx, SO.calls, List.reduceReplicate, Nat.reduceBEq, Nat.reduceLT, Nat.reduceAdd, Nat.reduceMul, Nat.reduceSub, Nat.reduceLeDiff, Nat.reduceEqDiff, ↓reduceIte, Int.reduceLT, Int.reduceEq, Int.reduceBNe, Int.reduceBEq, aeq, Int.reduceLE, Int.reduceNeg, Int.reduceMul, Int.reduceAdd, Int.reduceSub, Int.reduceToNat, Int.reducePow, e1, e2, tidy_str]
/-- Bytes put into a page. -/
theorem put_copy {H : Heap} {o a n : Nat} {c : List AV} {s : List UInt8} {cap : Option Nat} (h : H[o]? = some (.cells c 5 true)) (hc : c.length = n) (ha : a + s.length ≤ n) :
    copyOf 1 (.sl o a (n - a) 1 cap) (.str (mkS s)) H = some (.int .i64 (s.length : Int), H.set o (.cells (splice c a (u8s s)) 5 true)) := by
  have e1 : alen (.str (mkS s)) = some s.length := by simp [alen, mkS, ByteArray.size]
  have e2 : newOf H 1 (.str (mkS s)) = some (u8s s) := by simp [newOf, strCells_mkS]
  have e3 : min s.length (n - a) = s.length := by omega
  simp only [copyOf, e1, e2, u8s_len, Nat.mul_one, and_self, if_true, e3, List.take_of_length_le (Nat.le_of_eq (u8s_len s))]
  rw [astore_row h, if_pos ⟨by rw [u8s_len]; omega, u8s_one s⟩]
  rfl
theorem c90 {H : Heap} {o a n : Nat} {c : List AV} {s : List UInt8} (h : H[o]? = some (.cells c 5 true)) (hc : c.length = n) (ha : a + s.length ≤ n) (hf : (splice c a (u8s s)).all AV.flat = true) :
    call env 90 [.sl o 0 n 1 (some n), .int .i64 (a : Int), .str (mkS s)] H = some (.tup [], H.set o (.cells (splice c a (u8s s)) 5 true)) := by
  have e1 : slcOf 1 (.sl o 0 n 1 (some n)) (some (some a)) (some none) (some none) H = some (.sl o a (n - a) 1 (some (n - a)), H) := by
    have h1 : a ≤ n := by omega
    simp [slcOf, acut, alen, h1]
  have e2 := put_copy (cap := some (n - a)) h hc ha
  generalize splice c a (u8s s) = row at e2 hf ⊢
  refine call_ends (fn := s90) rfl rfl (by simp [s90]) ?_
  simp only [s90, R1, R2, R3, R4, R5, R6, R7, R8, AV.flat, fillIn_nil, fillIn_cons, splice, AV.cells, AV.one, eqsOf, idx, SO.calls, List.reduceReplicate, Nat.reduceBEq, Nat.reduceLT, Nat.reduceAdd, Nat.reduceMul, Nat.reduceSub, Nat.reduceLeDiff, Nat.reduceEqDiff, ↓reduceIte, Int.reduceLT, Int.reduceEq, Int.reduceBNe, Int.reduceBEq, aeq, Int.reduceLE, Int.reduceNeg, Int.reduceMul, Int.reduceAdd, Int.reduceSub, Int.reduceToNat, Int.reducePow, e1, e2]
  rw [tidy_setU hf]
end Go.Proofs.Ythfpndelfbeknaa
