/- Chapter 11: few, ints, readers. -/
import Derived.Test.YthfpndelfbeknaaC10a
import Derived.Test.YthfpndelfbeknaaOctR
set_option linter.unusedVariables false
set_option linter.unusedSimpArgs false
set_option maxRecDepth 100000
set_option maxHeartbeats 1000000
namespace Go.Proofs.Ythfpndelfbeknaa
open Go Go.Den
def IntC (n : Int) : List AV := [.int .i64 n]
theorem int_cel : Cel 1 IntC := ⟨fun _ => rfl, fun _ => rfl, fun _ => rfl, by decide⟩
def fewP (h : Hd) : Bool := decide (h.glyphs ≤ 100 ∨ h.glyphs > 1024)
theorem c35 (h : Hd) (H : Heap) : call env 35 [.agg h.cs] H = some (.bool (fewP h), H) := by
  obtain ⟨em, long, glyphs, metrics, up, down, gap⟩ := h
  simp only [Hd.cs]
  refine call_ends (fn := s35) rfl rfl (by simp [s35]) ?_
  have hh : True := trivial
  have hk : True := trivial
  have hj : True := trivial
  simp only [s35]
  repeat' (first
    | simp only [R1, R2, R3, R4, R5, R6, R7, R8, AV.flat, fillIn_nil, fillIn_cons, splice, AV.cells, AV.one, eqsOf, idx, SO.calls, List.reduceReplicate, Nat.reduceBEq, Nat.reduceLT, Nat.reduceAdd, Nat.reduceMul, Nat.reduceSub, Nat.reduceLeDiff, Nat.reduceEqDiff, ↓reduceIte, Int.reduceLT, Int.reduceEq, Int.reduceBNe, Int.reduceBEq, aeq, Int.reduceLE, Int.reduceNeg, Int.reduceMul, Int.reduceAdd, Int.reduceSub, Int.reduceToNat, Int.reducePow, hh, hk, hj, tidy_bool']
    | simp (disch := omega) only [wrap_i64]
    | (simp only [gets_guard, gets_guardd, endsIf_any]; split <;> rename_i hk <;> (try simp only [Bool.not_eq_true] at hk) <;> (have hh := hk) <;> (have hj := hk) <;> (try simp only [Bool.not_eq_true', Bool.not_eq_false'] at hj) <;> (try simp only [decide_eq_true_eq, Bool.not_eq_true, decide_eq_false_iff_not, Bool.not_eq_true', Bool.not_eq_false', Bool.and_eq_true, Bool.or_eq_true, beq_iff_eq, bne_iff_ne, ne_eq] at hh)))
  all_goals grind [fewP]
/-- The same numbers. -/
theorem c40 {H : Heap} {v w : AV} {l : List Int} (h1 : SlOf H 1 IntC v l) (h2 : SlOf H 1 IntC w l) (hn : l.length ≤ 1000000) : call env 40 [v, w] H = some (.bool true, H) := by
  have e1 := h1.lenOf
  have e2 := h2.lenOf
  have b0 : ((l.length : Int) != (l.length : Int)) = false := bne_self_eq_false _
  refine call_ends (fn := s40) rfl rfl (by simp [s40]) ?_
  simp only [s40, R1, R2, R3, R4, R5, R6, R7, R8, AV.flat, fillIn_nil, fillIn_cons, splice, AV.cells, AV.one, eqsOf, idx, SO.calls, List.reduceReplicate, Nat.reduceBEq, Nat.reduceLT, Nat.reduceAdd, Nat.reduceMul, Nat.reduceSub, Nat.reduceLeDiff, Nat.reduceEqDiff, ↓reduceIte, Int.reduceLT, Int.reduceEq, Int.reduceBNe, Int.reduceBEq, aeq, Int.reduceLE, Int.reduceNeg, Int.reduceMul, Int.reduceAdd, Int.reduceSub, Int.reduceToNat, Int.reducePow, e1, e2, b0]
  refine ends_loop (fun k t H' => t.length = 26 ∧ H' = H ∧ t.getD 0 .undef = v ∧ t.getD 1 .undef = w ∧ t.getD 12 .undef = .int .i64 (l.length : Int) ∧ ∃ i : Nat, i ≤ l.length ∧ k = l.length - i ∧ t.getD 13 .undef = .int .i64 (i : Int)) l.length ?_ ?_
  · simp only [R1, R2, R3, R4, R5, R6, R7, R8, AV.flat, fillIn_nil, fillIn_cons, splice, AV.cells, AV.one, eqsOf, idx, SO.calls, List.reduceReplicate, Nat.reduceBEq, Nat.reduceLT, Nat.reduceAdd, Nat.reduceMul, Nat.reduceSub, Nat.reduceLeDiff, Nat.reduceEqDiff, ↓reduceIte, Int.reduceLT, Int.reduceEq, Int.reduceBNe, Int.reduceBEq, aeq, Int.reduceLE, Int.reduceNeg, Int.reduceMul, Int.reduceAdd, Int.reduceSub, Int.reduceToNat, Int.reducePow]
    exact ⟨0, by omega, by omega, rfl⟩
  · rintro k t H' ⟨g1, rfl, g2, g3, g4, i, hi, rfl, g5⟩
    rw [← tm_nil t]
    by_cases hc : i < l.length
    · have a1 : ((i : Int) < (l.length : Int)) = True := eq_true (by omega)
      have w1 := wrap_i64 (x := (i : Int) + 1) (by omega) (by omega)
      have E1 := fun H' => h1.addr hc .i64 H'
      have E2 := fun H' => h2.addr hc .i64 H'
      have E3 := h1.load0 hc
      have E4 := h2.load0 hc
      simp only [IntC, Nat.mul_one] at E1 E2 E3 E4
      simp only [R1, R2, R3, R4, R5, R6, R7, R8, AV.flat, fillIn_nil, fillIn_cons, splice, AV.cells, AV.one, eqsOf, idx, SO.calls, List.reduceReplicate, Nat.reduceBEq, Nat.reduceLT, Nat.reduceAdd, Nat.reduceMul, Nat.reduceSub, Nat.reduceLeDiff, Nat.reduceEqDiff, ↓reduceIte, Int.reduceLT, Int.reduceEq, Int.reduceBNe, Int.reduceBEq, aeq, Int.reduceLE, Int.reduceNeg, Int.reduceMul, Int.reduceAdd, Int.reduceSub, Int.reduceToNat, Int.reducePow, g1, g2, g3, g4, g5, a1, w1, E1, E2, E3, E4, bne_self_eq_false]
      exact ⟨l.length - (i + 1), by omega, i + 1, by omega, rfl, by simp⟩
    · have a1 : ((i : Int) < (l.length : Int)) = False := eq_false (by omega)
      simp only [R1, R2, R3, R4, R5, R6, R7, R8, AV.flat, fillIn_nil, fillIn_cons, splice, AV.cells, AV.one, eqsOf, idx, SO.calls, List.reduceReplicate, Nat.reduceBEq, Nat.reduceLT, Nat.reduceAdd, Nat.reduceMul, Nat.reduceSub, Nat.reduceLeDiff, Nat.reduceEqDiff, ↓reduceIte, Int.reduceLT, Int.reduceEq, Int.reduceBNe, Int.reduceBEq, aeq, Int.reduceLE, Int.reduceNeg, Int.reduceMul, Int.reduceAdd, Int.reduceSub, Int.reduceToNat, Int.reducePow, g1, g2, g3, g4, g5, a1, tidy_bool]
theorem num_byte {l : List UInt8} (h : l.length ≤ 2) : num l < 65536 := by
  match l, h with
  | [], _ => decide
  | [a], _ => have := a.toNat_lt; simp [num]; omega
  | [a, b], _ => have := a.toNat_lt; have := b.toNat_lt; simp [num]; omega
theorem took_in {l : List UInt8} {a k : Nat} (h : a + k ≤ l.length) : took l a false (k : Int) = (l.drop a).take k ∧ tookA l a false (k : Int) = a + k ∧ tookB l a false (k : Int) = false := by
  have : cut l a (k : Int) = some ((l.drop a).take k) := by unfold cut; rw [if_neg (by omega)]; simp
  simp [took, tookA, tookB, this, cutS]
/-- Two bytes are there. -/
theorem c81 {H : Heap} {o : Nat} {e : TypeId} {l : List UInt8} {a : Nat} (h : H[o]? = some (.cells (RD l a false) e true)) (ha : a + 2 ≤ l.length) (hl : l.length ≤ 1000000) :
    call env 81 [.ptr o 0] H = some (.int .u16 (num ((l.drop a).take 2) : Nat), H.set o (.cells (RD l (a + 2) false) e true)) := by
  have e1 := c114 2 h (by omega) hl
  obtain ⟨q1, q2, q3⟩ := took_in (k := 2) ha
  rw [show (2 : Int) = ((2 : Nat) : Int) from rfl, q1, q2, q3] at e1
  have e2 := c113 ((l.drop a).take 2) (H.set o (.cells (RD l (a + 2) false) e true)) (by simp; omega)
  have hb : num ((l.drop a).take 2) < 65536 := num_byte (by simp; omega)
  have w1 : IntKind.u16.wrap (num ((l.drop a).take 2) : Nat) = (num ((l.drop a).take 2) : Nat) := by rw [wrap_u16_mod, Int.emod_eq_of_lt (by omega) (by omega)]
  refine call_ends (fn := s81) rfl rfl (by simp [s81]) ?_
  simp only [Int.cast_ofNat_Int] at e1
  simp only [s81, R1, R2, R3, R4, R5, R6, R7, R8, AV.flat, fillIn_nil, fillIn_cons, splice, AV.cells, AV.one, eqsOf, idx, SO.calls, List.reduceReplicate, Nat.reduceBEq, Nat.reduceLT, Nat.reduceAdd, Nat.reduceMul, Nat.reduceSub, Nat.reduceLeDiff, Nat.reduceEqDiff, ↓reduceIte, Int.reduceLT, Int.reduceEq, Int.reduceBNe, Int.reduceBEq, aeq, Int.reduceLE, Int.reduceNeg, Int.reduceMul, Int.reduceAdd, Int.reduceSub, Int.reduceToNat, Int.reducePow, e1, e2, w1]
  rw [tidy_set rfl rfl]
/-- Four bytes are there. -/
theorem c117 {H : Heap} {o : Nat} {e : TypeId} {l : List UInt8} {a : Nat} (h : H[o]? = some (.cells (RD l a false) e true)) (ha : a + 4 ≤ l.length) (hl : l.length ≤ 1000000) :
    call env 117 [.ptr o 0] H = some (.int .u32 (num ((l.drop a).take 4) : Nat), H.set o (.cells (RD l (a + 4) false) e true)) := by
  have e1 := c114 4 h (by omega) hl
  obtain ⟨q1, q2, q3⟩ := took_in (k := 4) ha
  rw [show (4 : Int) = ((4 : Nat) : Int) from rfl, q1, q2, q3] at e1
  have e2 := c113 ((l.drop a).take 4) (H.set o (.cells (RD l (a + 4) false) e true)) (by simp; omega)
  refine call_ends (fn := s117) rfl rfl (by simp [s117]) ?_
  simp only [Int.cast_ofNat_Int] at e1
  simp only [s117, R1, R2, R3, R4, R5, R6, R7, R8, AV.flat, fillIn_nil, fillIn_cons, splice, AV.cells, AV.one, eqsOf, idx, SO.calls, List.reduceReplicate, Nat.reduceBEq, Nat.reduceLT, Nat.reduceAdd, Nat.reduceMul, Nat.reduceSub, Nat.reduceLeDiff, Nat.reduceEqDiff, ↓reduceIte, Int.reduceLT, Int.reduceEq, Int.reduceBNe, Int.reduceBEq, aeq, Int.reduceLE, Int.reduceNeg, Int.reduceMul, Int.reduceAdd, Int.reduceSub, Int.reduceToNat, Int.reducePow, e1, e2]
  rw [tidy_set rfl rfl]
theorem c82 {H : Heap} {o : Nat} {e : TypeId} {l : List UInt8} {a : Nat} (h : H[o]? = some (.cells (RD l a false) e true)) (ha : a + 2 ≤ l.length) (hl : l.length ≤ 1000000) :
    call env 82 [.ptr o 0, .int .i64 2] H = some (.tup [], H.set o (.cells (RD l (a + 2) false) e true)) := by
  have e1 := c114 2 h (by omega) hl
  obtain ⟨q1, q2, q3⟩ := took_in (k := 2) ha
  rw [show (2 : Int) = ((2 : Nat) : Int) from rfl, q1, q2, q3] at e1
  refine call_ends (fn := s82) rfl rfl (by simp [s82]) ?_
  simp only [Int.cast_ofNat_Int] at e1
  simp only [s82, R1, R2, R3, R4, R5, R6, R7, R8, AV.flat, fillIn_nil, fillIn_cons, splice, AV.cells, AV.one, eqsOf, idx, SO.calls, List.reduceReplicate, Nat.reduceBEq, Nat.reduceLT, Nat.reduceAdd, Nat.reduceMul, Nat.reduceSub, Nat.reduceLeDiff, Nat.reduceEqDiff, ↓reduceIte, Int.reduceLT, Int.reduceEq, Int.reduceBNe, Int.reduceBEq, aeq, Int.reduceLE, Int.reduceNeg, Int.reduceMul, Int.reduceAdd, Int.reduceSub, Int.reduceToNat, Int.reducePow, e1]
  rw [tidy_setU rfl]
theorem c80 (l : List UInt8) (H : Heap) : call env 80 [.str (mkS l)] H = some (.ptr H.length 0, H ++ [.cells (RD l 0 false) 155 true]) := by
  refine call_ends (fn := s80) rfl rfl (by simp [s80]) ?_
  simp only [s80, R1, R2, R3, R4, R5, R6, R7, R8, AV.flat, fillIn_nil, fillIn_cons, splice, AV.cells, AV.one, eqsOf, idx, SO.calls, List.reduceReplicate, Nat.reduceBEq, Nat.reduceLT, Nat.reduceAdd, Nat.reduceMul, Nat.reduceSub, Nat.reduceLeDiff, Nat.reduceEqDiff, ↓reduceIte, Int.reduceLT, Int.reduceEq, Int.reduceBNe, Int.reduceBEq, aeq, Int.reduceLE, Int.reduceNeg, Int.reduceMul, Int.reduceAdd, Int.reduceSub, Int.reduceToNat, Int.reducePow]
  rw [tidy_ptr0 rfl]
  rfl
end Go.Proofs.Ythfpndelfbeknaa
