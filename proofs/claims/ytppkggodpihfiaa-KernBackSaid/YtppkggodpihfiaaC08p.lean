/- What the functions of chapter 08 come to, ahead of what is told. -/
import Derived.Test.YtppkggodpihfiaaEnvA
import Derived.Test.YtppkggodpihfiaaDen38
import Derived.Test.YtppkggodpihfiaaPureSum
set_option linter.unusedVariables false
set_option linter.unusedSimpArgs false
set_option maxRecDepth 100000
set_option maxHeartbeats 1000000
namespace Go.Proofs.Ytppkggodpihfiaa.Pre
open Go Go.Den Crc
theorem one32 : (AV.int .u32 1) = AV.int .u32 ((1#32 : W).toNat : Int) := rfl
/-- sum.through. -/
theorem c101 (c : W) (n : Nat) (H : Heap) (hn : n ≤ 1000000) : call envB 101 [.int .u32 (c.toNat : Int), .int .i64 (n : Int)] H = some (.int .u32 ((steps n c).toNat : Int), H) := by
  refine call_ends (fn := s101) rfl rfl (by simp [s101]) ?_
  simp only [s101, R1, R2, R3, R4, R5, R6, R7, R8, AV.flat, fillIn_nil, fillIn_cons, splice, AV.cells, AV.one, eqsOf, idx, SO.calls, List.reduceReplicate, Nat.reduceBEq, Nat.reduceLT, Nat.reduceAdd, Nat.reduceMul, Nat.reduceSub, Nat.reduceLeDiff, Nat.reduceEqDiff, ↓reduceIte, Int.reduceLT, Int.reduceEq, Int.reduceBNe, Int.reduceBEq, aeq, Int.reduceLE, Int.reduceNeg, Int.reduceMul, Int.reduceAdd, Int.reduceSub, Int.reduceToNat, Int.reducePow]
  refine ends_loop (fun k t H' => t.length = 17 ∧ H' = H ∧ t.getD 5 .undef = .int .i64 (n : Int) ∧ ∃ i : Nat, i ≤ n ∧ k = n - i ∧ t.getD 6 .undef = .int .i64 (i : Int) ∧ t.getD 0 .undef = .int .u32 ((steps i c).toNat : Int)) n ?_ ?_
  · simp only [R1, R2, R3, R4, R5, R6, R7, R8, AV.flat, fillIn_nil, fillIn_cons, splice, AV.cells, AV.one, eqsOf, idx, SO.calls, List.reduceReplicate, Nat.reduceBEq, Nat.reduceLT, Nat.reduceAdd, Nat.reduceMul, Nat.reduceSub, Nat.reduceLeDiff, Nat.reduceEqDiff, ↓reduceIte, Int.reduceLT, Int.reduceEq, Int.reduceBNe, Int.reduceBEq, aeq, Int.reduceLE, Int.reduceNeg, Int.reduceMul, Int.reduceAdd, Int.reduceSub, Int.reduceToNat, Int.reducePow]
    exact ⟨0, by omega, by omega, rfl, rfl⟩
  · rintro k t H' ⟨g1, rfl, g2, i, hi, rfl, g3, g4⟩
    rw [← tm_nil t]
    by_cases hc : i < n
    · have e6 : ((i : Int) < (n : Int)) = True := eq_true (by omega)
      have e7 := wrap_i64 (x := (i : Int) + 1) (by omega) (by omega)
      have e8 := and32 (steps i c) 1#32
      have e9 := neg32 (steps i c &&& 1#32)
      have e10 := and32 3988292384#32 (-(steps i c &&& 1#32))
      have e11 := shr32 (steps i c) 1
      have e12 := xor32 (steps i c >>> 1) (3988292384#32 &&& -(steps i c &&& 1#32))
      have e13 := step_and (steps i c)
      rw [← steps_succ] at e13
      unfold poly at e13
      rw [e13] at e12
      simp only [show ((1#32 : W).toNat : Int) = 1 from rfl, show ((3988292384#32 : W).toNat : Int) = 3988292384 from rfl, show ((2 : Int) ^ 1) = 2 from rfl] at e8 e10 e11
      simp only [R1, R2, R3, R4, R5, R6, R7, R8, AV.flat, fillIn_nil, fillIn_cons, splice, AV.cells, AV.one, eqsOf, idx, SO.calls, List.reduceReplicate, Nat.reduceBEq, Nat.reduceLT, Nat.reduceAdd, Nat.reduceMul, Nat.reduceSub, Nat.reduceLeDiff, Nat.reduceEqDiff, ↓reduceIte, Int.reduceLT, Int.reduceEq, Int.reduceBNe, Int.reduceBEq, aeq, Int.reduceLE, Int.reduceNeg, Int.reduceMul, Int.reduceAdd, Int.reduceSub, Int.reduceToNat, Int.reducePow, g1, g2, g3, g4, e6, e7, e8, e9, e10, e11, e12]
      refine ⟨n - (i + 1), by omega, i + 1, by omega, rfl, by simp, rfl⟩
    · have e6 : ((i : Int) < (n : Int)) = False := eq_false (by omega)
      have : i = n := by omega
      subst this
      simp only [R1, R2, R3, R4, R5, R6, R7, R8, AV.flat, fillIn_nil, fillIn_cons, splice, AV.cells, AV.one, eqsOf, idx, SO.calls, List.reduceReplicate, Nat.reduceBEq, Nat.reduceLT, Nat.reduceAdd, Nat.reduceMul, Nat.reduceSub, Nat.reduceLeDiff, Nat.reduceEqDiff, ↓reduceIte, Int.reduceLT, Int.reduceEq, Int.reduceBNe, Int.reduceBEq, aeq, Int.reduceLE, Int.reduceNeg, Int.reduceMul, Int.reduceAdd, Int.reduceSub, Int.reduceToNat, Int.reducePow, g1, g2, g3, g4, e6, tidy_int]
/-- sum.table's row, when so many of it are made. -/
def tabRow (i : Nat) : List AV := (List.range i).map (fun j => AV.int .u32 ((steps 8 (BitVec.ofNat 32 j)).toNat : Int)) ++ List.replicate (256 - i) (AV.int .u32 0)
theorem tabRow_len {i : Nat} (h : i ≤ 256) : (tabRow i).length = 256 := by simp [tabRow]; omega
theorem tabRow_one (i : Nat) : (tabRow i).all AV.one = true := by
  simp only [tabRow, List.all_append, List.all_map, List.all_replicate, Bool.and_eq_true]
  refine ⟨by simp [AV.one], by split <;> simp [AV.one]⟩
theorem tabRow_succ {i : Nat} (h : i < 256) : (tabRow i).take i ++ AV.int .u32 ((steps 8 (BitVec.ofNat 32 i)).toNat : Int) :: (tabRow i).drop (i + 1) = tabRow (i + 1) := by
  unfold tabRow
  rw [List.take_append_of_le_length (by simp), List.take_of_length_le (by simp), List.drop_append]
  simp only [List.length_map, List.length_range, List.range_succ, List.map_append, List.map_cons, List.map_nil, List.append_assoc, List.cons_append, List.nil_append, List.drop_replicate]
  rw [List.drop_of_length_le (by simp), List.nil_append, show 256 - i - (i + 1 - i) = 256 - (i + 1) by omega]
theorem c85 (H : Heap) : call envB 85 [] H = some (.agg (tabRow 256), H) := by
  refine call_ends (fn := s85) rfl rfl (by simp [s85]) ?_
  have r0 : ∀ n : Nat, (List.replicate n (AV.int .u32 0)).all AV.one = true := by intro n; rw [List.all_replicate]; split <;> rfl
  simp only [s85, R1, R2, R3, R4, R5, R6, R7, R8, AV.flat, fillIn_nil, fillIn_cons, splice, AV.cells, AV.one, eqsOf, idx, SO.calls, List.reduceReplicate, Nat.reduceBEq, Nat.reduceLT, Nat.reduceAdd, Nat.reduceMul, Nat.reduceSub, Nat.reduceLeDiff, Nat.reduceEqDiff, ↓reduceIte, Int.reduceLT, Int.reduceEq, Int.reduceBNe, Int.reduceBEq, aeq, Int.reduceLE, Int.reduceNeg, Int.reduceMul, Int.reduceAdd, Int.reduceSub, Int.reduceToNat, Int.reducePow, r0]
  refine ends_loop (fun k t H' => t.length = 13 ∧ ∃ i : Nat, i ≤ 256 ∧ k = 256 - i ∧ t.getD 0 .undef = .ptr H.length 0 ∧ t.getD 1 .undef = .ptr (H.length + 1) 0 ∧ t.getD 3 .undef = .int .i64 (i : Int) ∧
    H' = H ++ [.cells (List.replicate 256 (.int .u32 0)) 150 true, .cells (tabRow i) 150 true]) 256 ?_ ?_
  · simp only [R1, R2, R3, R4, R5, R6, R7, R8, AV.flat, fillIn_nil, fillIn_cons, splice, AV.cells, AV.one, eqsOf, idx, SO.calls, List.reduceReplicate, Nat.reduceBEq, Nat.reduceLT, Nat.reduceAdd, Nat.reduceMul, Nat.reduceSub, Nat.reduceLeDiff, Nat.reduceEqDiff, ↓reduceIte, Int.reduceLT, Int.reduceEq, Int.reduceBNe, Int.reduceBEq, aeq, Int.reduceLE, Int.reduceNeg, Int.reduceMul, Int.reduceAdd, Int.reduceSub, Int.reduceToNat, Int.reducePow]
    exact ⟨0, by omega, by omega, rfl, rfl⟩
  · rintro k t H' ⟨g1, i, hi, rfl, g2, g3, g4, rfl⟩
    rw [← tm_nil t]
    by_cases hc : i < 256
    · have e6 : ((i : Int) < 256) = True := eq_true (by omega)
      have e7 := wrap_i64 (x := (i : Int) + 1) (by omega) (by omega)
      have e8 : IntKind.u32.wrap (i : Int) = ((BitVec.ofNat 32 i).toNat : Int) := by rw [wrap_u32 (by omega) (by omega)]; simp; omega
      have e9 := fun H => c101 (BitVec.ofNat 32 i) 8 H (by omega)
      simp only [Int.cast_ofNat_Int] at e9
      have e10 := tabRow_len hi
      have e11 := tabRow_succ hc
      have e12 : (i + 1 ≤ 256) = True := eq_true (by omega)
      simp only [R1, R2, R3, R4, R5, R6, R7, R8, AV.flat, fillIn_nil, fillIn_cons, splice, AV.cells, AV.one, eqsOf, idx, SO.calls, List.reduceReplicate, Nat.reduceBEq, Nat.reduceLT, Nat.reduceAdd, Nat.reduceMul, Nat.reduceSub, Nat.reduceLeDiff, Nat.reduceEqDiff, ↓reduceIte, Int.reduceLT, Int.reduceEq, Int.reduceBNe, Int.reduceBEq, aeq, Int.reduceLE, Int.reduceNeg, Int.reduceMul, Int.reduceAdd, Int.reduceSub, Int.reduceToNat, Int.reducePow, g1, g2, g3, g4, e6, e7, e8, e9, e10, e11, e12]
      refine ⟨256 - (i + 1), by omega, i + 1, by omega, rfl, by simp, rfl⟩
    · have e6 : ((i : Int) < 256) = False := eq_false (by omega)
      have : i = 256 := by omega
      subst this
      have e10 := tabRow_len (i := 256) (by omega)
      have e13 := tabRow_one 256
      have e14 : List.take 256 (tabRow 256) = tabRow 256 := List.take_of_length_le (by omega)
      have e15 : List.drop 256 (List.replicate 256 (AV.int .u32 0)) = [] := by rw [List.drop_of_length_le (by simp)]
      simp only [R1, R2, R3, R4, R5, R6, R7, R8, AV.flat, fillIn_nil, fillIn_cons, splice, AV.cells, AV.one, eqsOf, idx, SO.calls, List.reduceReplicate, Nat.reduceBEq, Nat.reduceLT, Nat.reduceAdd, Nat.reduceMul, Nat.reduceSub, Nat.reduceLeDiff, Nat.reduceEqDiff, ↓reduceIte, Int.reduceLT, Int.reduceEq, Int.reduceBNe, Int.reduceBEq, aeq, Int.reduceLE, Int.reduceNeg, Int.reduceMul, Int.reduceAdd, Int.reduceSub, Int.reduceToNat, Int.reducePow, g1, g2, g3, g4, e6, e10, e13, e14, e15, List.length_replicate]
      rw [tidy_agg (by simp only [tabRow, List.all_append, List.all_map, List.all_replicate, Bool.and_eq_true]; exact ⟨by simp [AV.flat], by simp⟩)]
theorem tab_at {i : Nat} (h : i < 256) : ((tabRow 256).drop i).take 1 = [AV.int .u32 ((steps 8 (BitVec.ofNat 32 i)).toNat : Int)] := by
  rw [List.drop_eq_getElem_cons (by rw [tabRow_len (by omega)]; exact h)]
  simp [tabRow]
theorem bytes_len (s : ByteArray) : s.data.toList.length = s.size := rfl
/-- so far. -/
def crcTo (l : List UInt8) (i : Nat) : W := (l.take i).foldl (fun c b => steps 8 (c ^^^ byte b)) 4294967295#32
theorem crcTo_succ {l : List UInt8} {i : Nat} (h : i < l.length) : crcTo l (i + 1) = steps 8 (crcTo l i ^^^ byte l[i]) := by
  unfold crcTo
  rw [List.take_succ_eq_append_getElem h, List.foldl_append]; rfl
theorem crcTo_all (l : List UInt8) : crcTo l l.length = crc l := by unfold crcTo crc; rw [List.take_length]
/-- sum.Crc. -/
theorem c55 (s : ByteArray) (H : Heap) (hn : s.size ≤ 1000000) : call envB 55 [.str s] H = some (.int .u32 ((crc s.data.toList ^^^ 4294967295#32).toNat : Int), H) := by
  refine call_ends (fn := s55) rfl rfl (by simp [s55]) ?_
  have r0 : ∀ n : Nat, (List.replicate n (AV.int .u32 0)).all AV.one = true := by intro n; rw [List.all_replicate]; split <;> rfl
  have e10 := tabRow_len (i := 256) (by omega)
  have e13 := tabRow_one 256
  have e15 : List.drop 256 (List.replicate 256 (AV.int .u32 0)) = [] := by rw [List.drop_of_length_le (by simp)]
  simp only [s55, R1, R2, R3, R4, R5, R6, R7, R8, AV.flat, fillIn_nil, fillIn_cons, splice, AV.cells, AV.one, eqsOf, idx, SO.calls, List.reduceReplicate, Nat.reduceBEq, Nat.reduceLT, Nat.reduceAdd, Nat.reduceMul, Nat.reduceSub, Nat.reduceLeDiff, Nat.reduceEqDiff, ↓reduceIte, Int.reduceLT, Int.reduceEq, Int.reduceBNe, Int.reduceBEq, aeq, Int.reduceLE, Int.reduceNeg, Int.reduceMul, Int.reduceAdd, Int.reduceSub, Int.reduceToNat, Int.reducePow, r0, c85, e10, e13, e15, List.length_replicate]
  refine ends_loop (fun k t H' => t.length = 26 ∧ H' = H ++ [.cells (tabRow 256) 150 true] ∧ t.getD 0 .undef = .str s ∧ t.getD 3 .undef = .ptr H.length 0 ∧ t.getD 8 .undef = .int .i64 (s.size : Int) ∧ ∃ i : Nat, i ≤ s.size ∧ k = s.size - i ∧
    t.getD 9 .undef = .int .i64 (i : Int) ∧ t.getD 4 .undef = .int .u32 ((crcTo s.data.toList i).toNat : Int)) s.size ?_ ?_
  · simp only [R1, R2, R3, R4, R5, R6, R7, R8, AV.flat, fillIn_nil, fillIn_cons, splice, AV.cells, AV.one, eqsOf, idx, SO.calls, List.reduceReplicate, Nat.reduceBEq, Nat.reduceLT, Nat.reduceAdd, Nat.reduceMul, Nat.reduceSub, Nat.reduceLeDiff, Nat.reduceEqDiff, ↓reduceIte, Int.reduceLT, Int.reduceEq, Int.reduceBNe, Int.reduceBEq, aeq, Int.reduceLE, Int.reduceNeg, Int.reduceMul, Int.reduceAdd, Int.reduceSub, Int.reduceToNat, Int.reducePow]
    exact ⟨0, by omega, by omega, rfl, rfl⟩
  · rintro k t H' ⟨g1, rfl, g2, g3, g4, i, hi, rfl, g5, g6⟩
    rw [← tm_nil t]
    by_cases hc : i < s.size
    · have hc' : i < s.data.toList.length := hc
      have e6 : ((i : Int) < (s.size : Int)) = True := eq_true (by omega)
      have e7 := wrap_i64 (x := (i : Int) + 1) (by omega) (by omega)
      have e16 : s.data.toList[i]? = some s.data.toList[i] := List.getElem?_eq_getElem hc'
      generalize hb : s.data.toList[i] = b at e16
      have e17 : IntKind.u8.wrap ((crcTo s.data.toList i).toNat : Int) = (((crcTo s.data.toList i).setWidth 8).toNat : Int) := by
        rw [wrap_u8_mod, BitVec.toNat_setWidth]; push_cast; rfl
      have e18 : abits .xor .u8 (((crcTo s.data.toList i).setWidth 8).toNat : Int) (b.toNat : Int) = ((((crcTo s.data.toList i).setWidth 8) ^^^ b.toBitVec).toNat : Int) := xor8 _ b.toBitVec
      have hj := (((crcTo s.data.toList i).setWidth 8) ^^^ b.toBitVec).isLt
      have e19 := shr32 (crcTo s.data.toList i) 8
      have e20 := xor32 (crcTo s.data.toList i >>> 8) (steps 8 (low (crcTo s.data.toList i ^^^ byte b)))
      have e21 := by_table (crcTo s.data.toList i) b
      have e22 := crcTo_succ hc'
      rw [hb] at e22
      rw [e21, ← e22] at e20
      have e23 := tab_at hj
      rw [place] at e23
      generalize (((crcTo s.data.toList i).setWidth 8) ^^^ b.toBitVec).toNat = j at e18 hj e23
      have e24 : ((j : Int) < 256) = True := eq_true (by omega)
      have e25 : (j + 1 ≤ 256) = True := eq_true (by omega)
      simp only [show ((2 : Int) ^ 8) = 256 from rfl] at e19
      simp only [R1, R2, R3, R4, R5, R6, R7, R8, AV.flat, fillIn_nil, fillIn_cons, splice, AV.cells, AV.one, eqsOf, idx, SO.calls, List.reduceReplicate, Nat.reduceBEq, Nat.reduceLT, Nat.reduceAdd, Nat.reduceMul, Nat.reduceSub, Nat.reduceLeDiff, Nat.reduceEqDiff, ↓reduceIte, Int.reduceLT, Int.reduceEq, Int.reduceBNe, Int.reduceBEq, aeq, Int.reduceLE, Int.reduceNeg, Int.reduceMul, Int.reduceAdd, Int.reduceSub, Int.reduceToNat, Int.reducePow, g1, g2, g3, g4, g5, g6, e6, e7, e10, e16, e17, e18, e19, e20, e23, e24, e25]
      refine ⟨s.size - (i + 1), by omega, i + 1, by omega, rfl, by simp, rfl⟩
    · have e6 : ((i : Int) < (s.size : Int)) = False := eq_false (by omega)
      have : i = s.size := by omega
      subst this
      have ee : crcTo s.data.toList s.size = crc s.data.toList := crcTo_all _
      rw [ee] at g6
      simp only [R1, R2, R3, R4, R5, R6, R7, R8, AV.flat, fillIn_nil, fillIn_cons, splice, AV.cells, AV.one, eqsOf, idx, SO.calls, List.reduceReplicate, Nat.reduceBEq, Nat.reduceLT, Nat.reduceAdd, Nat.reduceMul, Nat.reduceSub, Nat.reduceLeDiff, Nat.reduceEqDiff, ↓reduceIte, Int.reduceLT, Int.reduceEq, Int.reduceBNe, Int.reduceBEq, aeq, Int.reduceLE, Int.reduceNeg, Int.reduceMul, Int.reduceAdd, Int.reduceSub, Int.reduceToNat, Int.reducePow, g1, g2, g3, g4, g5, g6, e6, com32, tidy_int']
      rfl
/-- sum.Crc, told. -/
def tells : CL := fun _ args H =>
  match args with
  | [.str s] => if s.size ≤ 1000000 then some (.int .u32 ((crc s.data.toList ^^^ 4294967295#32).toNat : Int), H) else none
  | _ => none
theorem tells_ok (args : List AV) (H : Heap) (r : AV × Heap) (h : tells 55 args H = some r) : call envB 55 args H = some r := by
  unfold tells at h
  split at h <;> (try (cases h; done))
  split at h <;> (try (cases h; done))
  rename_i s hs
  rw [← h]
  exact c55 s H hs
end Go.Proofs.Ytppkggodpihfiaa.Pre
