/- What the functions of chapter 07 come to. -/
import Derived.Test.YtppkggodpihfiaaEnv
import Derived.Test.YtppkggodpihfiaaDen38
set_option linter.unusedVariables false
set_option linter.unusedSimpArgs false
set_option maxRecDepth 100000
set_option maxHeartbeats 1000000
namespace Go.Proofs.Ytppkggodpihfiaa
open Go Go.Den
/-- A number's bytes, the highest first. -/
def num (l : List UInt8) : Nat := l.foldl (fun n b => (n * 256 + b.toNat) % 4294967296) 0
theorem num_lt (l : List UInt8) : num l < 4294967296 := by
  unfold num
  have gen : ∀ (l : List UInt8) (n : Nat), n < 4294967296 → l.foldl (fun n b => (n * 256 + b.toNat) % 4294967296) n < 4294967296 := by
    intro l
    induction l with
    | nil => intro n h; exact h
    | cons b l ih => intro n h; exact ih _ (Nat.mod_lt _ (by decide))
  exact gen l 0 (by decide)
theorem num_take {l : List UInt8} {i : Nat} (h : i < l.length) : num (l.take (i + 1)) = (num (l.take i) * 256 + l[i].toNat) % 4294967296 := by
  unfold num
  rw [List.take_succ_eq_append_getElem h, List.foldl_append]; rfl
theorem or_low (n : Nat) (b : UInt8) : (BitVec.ofNat 32 n <<< 8 ||| BitVec.ofNat 32 b.toNat).toNat = (n * 256 + b.toNat) % 4294967296 := by
  have hb := b.toNat_lt
  have e : BitVec.ofNat 32 n <<< 8 ||| BitVec.ofNat 32 b.toNat = BitVec.ofNat 32 n <<< 8 + BitVec.ofNat 32 b.toNat := by
    rw [BitVec.add_eq_or_of_and_eq_zero]
    apply BitVec.eq_of_getLsbD_eq
    intro i hi
    simp only [BitVec.getLsbD_and, BitVec.getLsbD_shiftLeft, BitVec.getLsbD_ofNat, BitVec.getLsbD_zero]
    by_cases h8 : i < 8
    · simp [h8]
    · have : b.toNat < 2 ^ i := Nat.lt_of_lt_of_le (show b.toNat < 2 ^ 8 from hb) (Nat.pow_le_pow_right (by omega) (by omega))
      simp [Nat.testBit_lt_two_pow this]
  rw [e]
  simp only [BitVec.toNat_add, BitVec.toNat_shiftLeft, BitVec.toNat_ofNat, Nat.shiftLeft_eq]
  omega
/-- octet.number. -/
theorem c82 (l : List UInt8) (H : Heap) (hn : l.length ≤ 1000000) : call env 82 [.str (mkS l)] H = some (.int .u32 (num l : Nat), H) := by
  refine call_ends (fn := s82) rfl rfl (by simp [s82]) ?_
  simp only [s82, R1, R2, R3, R4, R5, R6, R7, R8, AV.flat, fillIn_nil, fillIn_cons, splice, AV.cells, AV.one, eqsOf, idx, SO.calls, List.reduceReplicate, Nat.reduceBEq, Nat.reduceLT, Nat.reduceAdd, Nat.reduceMul, Nat.reduceSub, Nat.reduceLeDiff, Nat.reduceEqDiff, ↓reduceIte, Int.reduceLT, Int.reduceEq, Int.reduceBNe, Int.reduceBEq, aeq, Int.reduceLE, Int.reduceNeg, Int.reduceMul, Int.reduceAdd, Int.reduceSub, Int.reduceToNat, Int.reducePow]
  refine ends_loop (fun k t H' => t.length = 19 ∧ H' = H ∧ t.getD 0 .undef = .str (mkS l) ∧ t.getD 6 .undef = .int .i64 (l.length : Int) ∧ ∃ i : Nat, i ≤ l.length ∧ k = l.length - i ∧
    t.getD 7 .undef = .int .i64 (i : Int) ∧ t.getD 3 .undef = .int .u32 (num (l.take i) : Nat)) l.length ?_ ?_
  · simp only [R1, R2, R3, R4, R5, R6, R7, R8, AV.flat, fillIn_nil, fillIn_cons, splice, AV.cells, AV.one, eqsOf, idx, SO.calls, List.reduceReplicate, Nat.reduceBEq, Nat.reduceLT, Nat.reduceAdd, Nat.reduceMul, Nat.reduceSub, Nat.reduceLeDiff, Nat.reduceEqDiff, ↓reduceIte, Int.reduceLT, Int.reduceEq, Int.reduceBNe, Int.reduceBEq, aeq, Int.reduceLE, Int.reduceNeg, Int.reduceMul, Int.reduceAdd, Int.reduceSub, Int.reduceToNat, Int.reducePow]
    exact ⟨0, by omega, by omega, rfl, rfl⟩
  · rintro k t H' ⟨g1, rfl, g2, g3, i, hi, rfl, g5, g6⟩
    rw [← tm_nil t]
    by_cases hc : i < l.length
    · have e6 : ((i : Int) < (l.length : Int)) = True := eq_true (by omega)
      have e7 := wrap_i64 (x := (i : Int) + 1) (by omega) (by omega)
      have e16 : l[i]? = some l[i] := List.getElem?_eq_getElem hc
      have e8 := num_take hc
      have e9 := or_low (num (l.take i)) l[i]
      have hl := num_lt (l.take i)
      have hb := l[i].toNat_lt
      rw [← e8] at e9
      have e10 : IntKind.u32.wrap (l[i].toNat : Int) = ((BitVec.ofNat 32 l[i].toNat).toNat : Int) := by
        rw [wrap_u32 (by omega) (by omega)]; simp
      have e11 : IntKind.u32.wrap ((num (l.take i) : Nat) * 256 : Int) = ((BitVec.ofNat 32 (num (l.take i)) <<< 8).toNat : Int) := by
        rw [wrap_u32_mod]; simp only [BitVec.toNat_shiftLeft, BitVec.toNat_ofNat, Nat.shiftLeft_eq]; omega
      have e12 := or32 (BitVec.ofNat 32 (num (l.take i)) <<< 8) (BitVec.ofNat 32 l[i].toNat)
      rw [e9] at e12
      simp only [R1, R2, R3, R4, R5, R6, R7, R8, AV.flat, fillIn_nil, fillIn_cons, splice, AV.cells, AV.one, eqsOf, idx, SO.calls, List.reduceReplicate, Nat.reduceBEq, Nat.reduceLT, Nat.reduceAdd, Nat.reduceMul, Nat.reduceSub, Nat.reduceLeDiff, Nat.reduceEqDiff, ↓reduceIte, Int.reduceLT, Int.reduceEq, Int.reduceBNe, Int.reduceBEq, aeq, Int.reduceLE, Int.reduceNeg, Int.reduceMul, Int.reduceAdd, Int.reduceSub, Int.reduceToNat, Int.reducePow, g1, g2, g3, g5, g6, e6, e7, e16, e10, e11, e12]
      refine ⟨l.length - (i + 1), by omega, i + 1, by omega, rfl, by simp, rfl⟩
    · have e6 : ((i : Int) < (l.length : Int)) = False := eq_false (by omega)
      have : i = l.length := by omega
      subst this
      rw [List.take_length] at g6
      simp only [R1, R2, R3, R4, R5, R6, R7, R8, AV.flat, fillIn_nil, fillIn_cons, splice, AV.cells, AV.one, eqsOf, idx, SO.calls, List.reduceReplicate, Nat.reduceBEq, Nat.reduceLT, Nat.reduceAdd, Nat.reduceMul, Nat.reduceSub, Nat.reduceLeDiff, Nat.reduceEqDiff, ↓reduceIte, Int.reduceLT, Int.reduceEq, Int.reduceBNe, Int.reduceBEq, aeq, Int.reduceLE, Int.reduceNeg, Int.reduceMul, Int.reduceAdd, Int.reduceSub, Int.reduceToNat, Int.reducePow, g1, g2, g3, g5, g6, e6, tidy_int]
/-- The reference's number. -/
theorem c95 (l : List UInt8) (H : Heap) (hn : l.length ≤ 1000000) : call env 95 [.str (mkS l)] H = some (.int .u32 (num l : Nat), H) := by
  refine call_ends (fn := s95) rfl rfl (by simp [s95]) ?_
  simp only [s95, R1, R2, R3, R4, R5, R6, R7, R8, AV.flat, fillIn_nil, fillIn_cons, splice, AV.cells, AV.one, eqsOf, idx, SO.calls, List.reduceReplicate, Nat.reduceBEq, Nat.reduceLT, Nat.reduceAdd, Nat.reduceMul, Nat.reduceSub, Nat.reduceLeDiff, Nat.reduceEqDiff, ↓reduceIte, Int.reduceLT, Int.reduceEq, Int.reduceBNe, Int.reduceBEq, aeq, Int.reduceLE, Int.reduceNeg, Int.reduceMul, Int.reduceAdd, Int.reduceSub, Int.reduceToNat, Int.reducePow]
  refine ends_loop (fun k t H' => t.length = 19 ∧ H' = H ∧ t.getD 0 .undef = .str (mkS l) ∧ ∃ i : Nat, i ≤ l.length ∧ k = l.length - i ∧
    t.getD 4 .undef = .int .i64 (i : Int) ∧ t.getD 3 .undef = .int .u32 (num (l.take i) : Nat)) l.length ?_ ?_
  · simp only [R1, R2, R3, R4, R5, R6, R7, R8, AV.flat, fillIn_nil, fillIn_cons, splice, AV.cells, AV.one, eqsOf, idx, SO.calls, List.reduceReplicate, Nat.reduceBEq, Nat.reduceLT, Nat.reduceAdd, Nat.reduceMul, Nat.reduceSub, Nat.reduceLeDiff, Nat.reduceEqDiff, ↓reduceIte, Int.reduceLT, Int.reduceEq, Int.reduceBNe, Int.reduceBEq, aeq, Int.reduceLE, Int.reduceNeg, Int.reduceMul, Int.reduceAdd, Int.reduceSub, Int.reduceToNat, Int.reducePow]
    exact ⟨0, by omega, by omega, rfl, rfl⟩
  · rintro k t H' ⟨g1, rfl, g2, i, hi, rfl, g5, g6⟩
    rw [← tm_nil t]
    by_cases hc : i < l.length
    · have e6 : ((i : Int) < (l.length : Int)) = True := eq_true (by omega)
      have e7 := wrap_i64 (x := (i : Int) + 1) (by omega) (by omega)
      have e16 : l[i]? = some l[i] := List.getElem?_eq_getElem hc
      have e8 := num_take hc
      have hl := num_lt (l.take i)
      have hb := l[i].toNat_lt
      have e10 : IntKind.u32.wrap (l[i].toNat : Int) = (l[i].toNat : Int) := wrap_u32 (by omega) (by omega)
      have e12 : IntKind.u32.wrap (IntKind.u32.wrap ((num (l.take i) : Nat) * 256 : Int) + (l[i].toNat : Int)) = (num (l.take (i + 1)) : Nat) := by
        rw [e8, wrap_u32_mod, wrap_u32_mod]; omega
      simp only [R1, R2, R3, R4, R5, R6, R7, R8, AV.flat, fillIn_nil, fillIn_cons, splice, AV.cells, AV.one, eqsOf, idx, SO.calls, List.reduceReplicate, Nat.reduceBEq, Nat.reduceLT, Nat.reduceAdd, Nat.reduceMul, Nat.reduceSub, Nat.reduceLeDiff, Nat.reduceEqDiff, ↓reduceIte, Int.reduceLT, Int.reduceEq, Int.reduceBNe, Int.reduceBEq, aeq, Int.reduceLE, Int.reduceNeg, Int.reduceMul, Int.reduceAdd, Int.reduceSub, Int.reduceToNat, Int.reducePow, g1, g2, g5, g6, e6, e7, e16, e10, e12]
      refine ⟨l.length - (i + 1), by omega, i + 1, by omega, rfl, by simp, rfl⟩
    · have e6 : ((i : Int) < (l.length : Int)) = False := eq_false (by omega)
      have : i = l.length := by omega
      subst this
      rw [List.take_length] at g6
      simp only [R1, R2, R3, R4, R5, R6, R7, R8, AV.flat, fillIn_nil, fillIn_cons, splice, AV.cells, AV.one, eqsOf, idx, SO.calls, List.reduceReplicate, Nat.reduceBEq, Nat.reduceLT, Nat.reduceAdd, Nat.reduceMul, Nat.reduceSub, Nat.reduceLeDiff, Nat.reduceEqDiff, ↓reduceIte, Int.reduceLT, Int.reduceEq, Int.reduceBNe, Int.reduceBEq, aeq, Int.reduceLE, Int.reduceNeg, Int.reduceMul, Int.reduceAdd, Int.reduceSub, Int.reduceToNat, Int.reducePow, g1, g2, g5, g6, e6, tidy_int]
/-- octet.Cut, and the reference's. -/
def cut (l : List UInt8) (at_ n : Int) : Option (List UInt8) := if at_ < 0 ∨ n < 0 ∨ at_ > l.length ∨ n > l.length - at_ then none else some ((l.drop at_.toNat).take n.toNat)
def cutS (o : Option (List UInt8)) : List UInt8 := o.getD []
def cutE (o : Option (List UInt8)) : Int := if o.isSome then 0 else 3
theorem c81 (l : List UInt8) (at_ n : Int) (H : Heap) (hn : l.length ≤ 1000000) : call env 81 [.str (mkS l), .int .i64 at_, .int .i64 n] H = some (.tup [.str (mkS (cutS (cut l at_ n))), .int .i64 (cutE (cut l at_ n))], H) := by
  refine call_ends (fn := s81) rfl rfl (by simp [s81]) ?_
  by_cases h1 : at_ < 0
  · have e0 : cut l at_ n = none := by unfold cut; rw [if_pos (.inl h1)]
    simp only [s81, R1, R2, R3, R4, R5, R6, R7, R8, AV.flat, fillIn_nil, fillIn_cons, splice, AV.cells, AV.one, eqsOf, idx, SO.calls, List.reduceReplicate, Nat.reduceBEq, Nat.reduceLT, Nat.reduceAdd, Nat.reduceMul, Nat.reduceSub, Nat.reduceLeDiff, Nat.reduceEqDiff, ↓reduceIte, Int.reduceLT, Int.reduceEq, Int.reduceBNe, Int.reduceBEq, aeq, Int.reduceLE, Int.reduceNeg, Int.reduceMul, Int.reduceAdd, Int.reduceSub, Int.reduceToNat, Int.reducePow, eq_true h1, e0, cutS, cutE, Option.isSome]
  · by_cases h2 : n < 0
    · have e0 : cut l at_ n = none := by unfold cut; rw [if_pos (.inr (.inl h2))]
      simp only [s81, R1, R2, R3, R4, R5, R6, R7, R8, AV.flat, fillIn_nil, fillIn_cons, splice, AV.cells, AV.one, eqsOf, idx, SO.calls, List.reduceReplicate, Nat.reduceBEq, Nat.reduceLT, Nat.reduceAdd, Nat.reduceMul, Nat.reduceSub, Nat.reduceLeDiff, Nat.reduceEqDiff, ↓reduceIte, Int.reduceLT, Int.reduceEq, Int.reduceBNe, Int.reduceBEq, aeq, Int.reduceLE, Int.reduceNeg, Int.reduceMul, Int.reduceAdd, Int.reduceSub, Int.reduceToNat, Int.reducePow, eq_false h1, eq_true h2, e0, cutS, cutE, Option.isSome]
    · by_cases h3 : at_ > (l.length : Int)
      · have e0 : cut l at_ n = none := by unfold cut; rw [if_pos (.inr (.inr (.inl h3)))]
        simp only [s81, R1, R2, R3, R4, R5, R6, R7, R8, AV.flat, fillIn_nil, fillIn_cons, splice, AV.cells, AV.one, eqsOf, idx, SO.calls, List.reduceReplicate, Nat.reduceBEq, Nat.reduceLT, Nat.reduceAdd, Nat.reduceMul, Nat.reduceSub, Nat.reduceLeDiff, Nat.reduceEqDiff, ↓reduceIte, Int.reduceLT, Int.reduceEq, Int.reduceBNe, Int.reduceBEq, aeq, Int.reduceLE, Int.reduceNeg, Int.reduceMul, Int.reduceAdd, Int.reduceSub, Int.reduceToNat, Int.reducePow, eq_false h1, eq_false h2, eq_true h3, e0, cutS, cutE, Option.isSome]
      · have w := wrap_i64 (x := (l.length : Int) - at_) (by omega) (by omega)
        by_cases h4 : n > (l.length : Int) - at_
        · have e0 : cut l at_ n = none := by unfold cut; rw [if_pos (.inr (.inr (.inr h4)))]
          simp only [s81, R1, R2, R3, R4, R5, R6, R7, R8, AV.flat, fillIn_nil, fillIn_cons, splice, AV.cells, AV.one, eqsOf, idx, SO.calls, List.reduceReplicate, Nat.reduceBEq, Nat.reduceLT, Nat.reduceAdd, Nat.reduceMul, Nat.reduceSub, Nat.reduceLeDiff, Nat.reduceEqDiff, ↓reduceIte, Int.reduceLT, Int.reduceEq, Int.reduceBNe, Int.reduceBEq, aeq, Int.reduceLE, Int.reduceNeg, Int.reduceMul, Int.reduceAdd, Int.reduceSub, Int.reduceToNat, Int.reducePow, eq_false h1, eq_false h2, eq_false h3, w, eq_true h4, e0, cutS, cutE, Option.isSome]
        · have e0 : cut l at_ n = some ((l.drop at_.toNat).take n.toNat) := by unfold cut; rw [if_neg (by omega)]
          obtain ⟨a, rfl⟩ : ∃ a : Nat, at_ = a := ⟨at_.toNat, by omega⟩
          obtain ⟨m, rfl⟩ : ∃ m : Nat, n = m := ⟨n.toNat, by omega⟩
          have w2 : IntKind.i64.wrap ((a : Int) + (m : Int)) = ((a + m : Nat) : Int) := by rw [wrap_i64 (by omega) (by omega)]; push_cast; rfl
          have e1 := slstr_both (H := H) (l := l) (a := a) (b := a + m) (by omega)
          rw [Nat.add_sub_cancel_left] at e1
          simp only [Int.toNat_natCast] at e0
          simp only [s81, R1, R2, R3, R4, R5, R6, R7, R8, AV.flat, fillIn_nil, fillIn_cons, splice, AV.cells, AV.one, eqsOf, idx, SO.calls, List.reduceReplicate, Nat.reduceBEq, Nat.reduceLT, Nat.reduceAdd, Nat.reduceMul, Nat.reduceSub, Nat.reduceLeDiff, Nat.reduceEqDiff, ↓reduceIte, Int.reduceLT, Int.reduceEq, Int.reduceBNe, Int.reduceBEq, aeq, Int.reduceLE, Int.reduceNeg, Int.reduceMul, Int.reduceAdd, Int.reduceSub, Int.reduceToNat, Int.reducePow, eq_false h1, eq_false h2, eq_false h3, w, eq_false h4, e0, cutS, cutE, Option.isSome, w2, e1]
theorem c96 (l : List UInt8) (at_ n : Int) (H : Heap) (hn : l.length ≤ 1000000) : call env 96 [.str (mkS l), .int .i64 at_, .int .i64 n] H = some (.tup [.str (mkS (cutS (cut l at_ n))), .int .i64 (cutE (cut l at_ n))], H) := by
  refine call_ends (fn := s96) rfl rfl (by simp [s96]) ?_
  by_cases h1 : at_ < 0
  · have e0 : cut l at_ n = none := by unfold cut; rw [if_pos (.inl h1)]
    simp only [s96, R1, R2, R3, R4, R5, R6, R7, R8, AV.flat, fillIn_nil, fillIn_cons, splice, AV.cells, AV.one, eqsOf, idx, SO.calls, List.reduceReplicate, Nat.reduceBEq, Nat.reduceLT, Nat.reduceAdd, Nat.reduceMul, Nat.reduceSub, Nat.reduceLeDiff, Nat.reduceEqDiff, ↓reduceIte, Int.reduceLT, Int.reduceEq, Int.reduceBNe, Int.reduceBEq, aeq, Int.reduceLE, Int.reduceNeg, Int.reduceMul, Int.reduceAdd, Int.reduceSub, Int.reduceToNat, Int.reducePow, eq_true h1, e0, cutS, cutE, Option.isSome]
  · by_cases h2 : n < 0
    · have e0 : cut l at_ n = none := by unfold cut; rw [if_pos (.inr (.inl h2))]
      simp only [s96, R1, R2, R3, R4, R5, R6, R7, R8, AV.flat, fillIn_nil, fillIn_cons, splice, AV.cells, AV.one, eqsOf, idx, SO.calls, List.reduceReplicate, Nat.reduceBEq, Nat.reduceLT, Nat.reduceAdd, Nat.reduceMul, Nat.reduceSub, Nat.reduceLeDiff, Nat.reduceEqDiff, ↓reduceIte, Int.reduceLT, Int.reduceEq, Int.reduceBNe, Int.reduceBEq, aeq, Int.reduceLE, Int.reduceNeg, Int.reduceMul, Int.reduceAdd, Int.reduceSub, Int.reduceToNat, Int.reducePow, eq_false h1, eq_true h2, e0, cutS, cutE, Option.isSome]
    · by_cases h3 : at_ > (l.length : Int)
      · have e0 : cut l at_ n = none := by unfold cut; rw [if_pos (.inr (.inr (.inl h3)))]
        simp only [s96, R1, R2, R3, R4, R5, R6, R7, R8, AV.flat, fillIn_nil, fillIn_cons, splice, AV.cells, AV.one, eqsOf, idx, SO.calls, List.reduceReplicate, Nat.reduceBEq, Nat.reduceLT, Nat.reduceAdd, Nat.reduceMul, Nat.reduceSub, Nat.reduceLeDiff, Nat.reduceEqDiff, ↓reduceIte, Int.reduceLT, Int.reduceEq, Int.reduceBNe, Int.reduceBEq, aeq, Int.reduceLE, Int.reduceNeg, Int.reduceMul, Int.reduceAdd, Int.reduceSub, Int.reduceToNat, Int.reducePow, eq_false h1, eq_false h2, eq_true h3, e0, cutS, cutE, Option.isSome]
      · have w := wrap_i64 (x := (l.length : Int) - at_) (by omega) (by omega)
        by_cases h4 : n > (l.length : Int) - at_
        · have e0 : cut l at_ n = none := by unfold cut; rw [if_pos (.inr (.inr (.inr h4)))]
          simp only [s96, R1, R2, R3, R4, R5, R6, R7, R8, AV.flat, fillIn_nil, fillIn_cons, splice, AV.cells, AV.one, eqsOf, idx, SO.calls, List.reduceReplicate, Nat.reduceBEq, Nat.reduceLT, Nat.reduceAdd, Nat.reduceMul, Nat.reduceSub, Nat.reduceLeDiff, Nat.reduceEqDiff, ↓reduceIte, Int.reduceLT, Int.reduceEq, Int.reduceBNe, Int.reduceBEq, aeq, Int.reduceLE, Int.reduceNeg, Int.reduceMul, Int.reduceAdd, Int.reduceSub, Int.reduceToNat, Int.reducePow, eq_false h1, eq_false h2, eq_false h3, w, eq_true h4, e0, cutS, cutE, Option.isSome]
        · have e0 : cut l at_ n = some ((l.drop at_.toNat).take n.toNat) := by unfold cut; rw [if_neg (by omega)]
          obtain ⟨a, rfl⟩ : ∃ a : Nat, at_ = a := ⟨at_.toNat, by omega⟩
          obtain ⟨m, rfl⟩ : ∃ m : Nat, n = m := ⟨n.toNat, by omega⟩
          have w2 : IntKind.i64.wrap ((a : Int) + (m : Int)) = ((a + m : Nat) : Int) := by rw [wrap_i64 (by omega) (by omega)]; push_cast; rfl
          have e1 := slstr_both (H := H) (l := l) (a := a) (b := a + m) (by omega)
          rw [Nat.add_sub_cancel_left] at e1
          simp only [Int.toNat_natCast] at e0
          simp only [s96, R1, R2, R3, R4, R5, R6, R7, R8, AV.flat, fillIn_nil, fillIn_cons, splice, AV.cells, AV.one, eqsOf, idx, SO.calls, List.reduceReplicate, Nat.reduceBEq, Nat.reduceLT, Nat.reduceAdd, Nat.reduceMul, Nat.reduceSub, Nat.reduceLeDiff, Nat.reduceEqDiff, ↓reduceIte, Int.reduceLT, Int.reduceEq, Int.reduceBNe, Int.reduceBEq, aeq, Int.reduceLE, Int.reduceNeg, Int.reduceMul, Int.reduceAdd, Int.reduceSub, Int.reduceToNat, Int.reducePow, eq_false h1, eq_false h2, eq_false h3, w, eq_false h4, e0, cutS, cutE, Option.isSome, w2, e1]
theorem cut_len (l : List UInt8) (at_ n : Int) : (cutS (cut l at_ n)).length ≤ l.length := by
  unfold cut; split
  · simp [cutS]
  · simp only [cutS, Option.getD_some, List.length_take, List.length_drop]; omega
theorem c84 (l : List UInt8) (at_ : Int) (H : Heap) (hn : l.length ≤ 1000000) : call env 84 [.str (mkS l), .int .i64 at_] H = some (.tup [.int .u16 ((num (cutS (cut l at_ 2)) % 65536 : Nat) : Int), .int .i64 (cutE (cut l at_ 2))], H) := by
  have h1 := c96 l at_ 2 H hn
  have hl := cut_len l at_ 2
  have h2 := c95 (cutS (cut l at_ 2)) H (by omega)
  have h3 : IntKind.u16.wrap (num (cutS (cut l at_ 2)) : Nat) = ((num (cutS (cut l at_ 2)) % 65536 : Nat) : Int) := by rw [wrap_u16_mod]; exact (Int.natCast_emod _ 65536).symm
  refine call_ends (fn := s84) rfl rfl (by simp [s84]) ?_
  simp only [s84, R1, R2, R3, R4, R5, R6, R7, R8, AV.flat, fillIn_nil, fillIn_cons, splice, AV.cells, AV.one, eqsOf, idx, SO.calls, List.reduceReplicate, Nat.reduceBEq, Nat.reduceLT, Nat.reduceAdd, Nat.reduceMul, Nat.reduceSub, Nat.reduceLeDiff, Nat.reduceEqDiff, ↓reduceIte, Int.reduceLT, Int.reduceEq, Int.reduceBNe, Int.reduceBEq, aeq, Int.reduceLE, Int.reduceNeg, Int.reduceMul, Int.reduceAdd, Int.reduceSub, Int.reduceToNat, Int.reducePow, h1, h2, h3]
theorem c73 (l : List UInt8) (at_ : Int) (H : Heap) (hn : l.length ≤ 1000000) : call env 73 [.str (mkS l), .int .i64 at_] H = some (.tup [.int .u32 (num (cutS (cut l at_ 4)) : Nat), .int .i64 (cutE (cut l at_ 4))], H) := by
  have h1 := c96 l at_ 4 H hn
  have hl := cut_len l at_ 4
  have h2 := c95 (cutS (cut l at_ 4)) H (by omega)
  refine call_ends (fn := s73) rfl rfl (by simp [s73]) ?_
  simp only [s73, R1, R2, R3, R4, R5, R6, R7, R8, AV.flat, fillIn_nil, fillIn_cons, splice, AV.cells, AV.one, eqsOf, idx, SO.calls, List.reduceReplicate, Nat.reduceBEq, Nat.reduceLT, Nat.reduceAdd, Nat.reduceMul, Nat.reduceSub, Nat.reduceLeDiff, Nat.reduceEqDiff, ↓reduceIte, Int.reduceLT, Int.reduceEq, Int.reduceBNe, Int.reduceBEq, aeq, Int.reduceLE, Int.reduceNeg, Int.reduceMul, Int.reduceAdd, Int.reduceSub, Int.reduceToNat, Int.reducePow, h1, h2]
theorem str_one {H : Heap} {a : UInt8} {e : TypeId} {w : Bool} {c : Option Nat} : strOf (.sl H.length 0 1 1 c) (H ++ [.cells [.int .u8 (a.toNat : Int)] e w]) = some (.str (mkS [a]), H ++ [.cells [.int .u8 (a.toNat : Int)] e w]) :=
  str_of (l := [a]) (by simp only [acells, aload_end0, aload_zero]; rfl) rfl
theorem str_two {H : Heap} {a b : UInt8} {e : TypeId} {w : Bool} {c : Option Nat} : strOf (.sl H.length 0 2 1 c) (H ++ [.cells [.int .u8 (a.toNat : Int), .int .u8 (b.toNat : Int)] e w]) = some (.str (mkS [a, b]), H ++ [.cells [.int .u8 (a.toNat : Int), .int .u8 (b.toNat : Int)] e w]) :=
  str_of (l := [a, b]) (by simp only [acells, aload_end0, aload_zero]; rfl) rfl
theorem tidy_str {H X : Heap} {s : ByteArray} : tidy H (.str s) (H ++ X) = (.str s, H) := tidy_flat rfl
theorem tidy_str0 {H : Heap} {s : ByteArray} : tidy H (.str s) H = (.str s, H) := tidy_flat0 rfl
/-- The bytes of a number, the highest first. -/
def putB (n : Nat) : Nat → List UInt8
  | 0 => []
  | k + 1 => UInt8.ofNat (n / 256 ^ k % 256) :: putB n k
theorem wrap_byte (n : Nat) : IntKind.u8.wrap (n : Int) = ((UInt8.ofNat n).toNat : Int) := by
  rw [wrap_u8_mod]; simp
theorem ofNat_mod (n : Nat) : UInt8.ofNat (n % 256) = UInt8.ofNat n := by
  apply UInt8.toNat_inj.1; simp
theorem fdiv_pow (n d : Nat) : (n : Int).fdiv (d : Int) = ((n / d : Nat) : Int) := (Int.fdiv_eq_ediv_of_nonneg _ (Int.natCast_nonneg _)).trans (by norm_cast)
theorem c79 (n : Nat) (H : Heap) : call env 79 [.int .u16 (n : Int)] H = some (.str (mkS (putB n 2)), H) := by
  have h1 : (n : Int).fdiv 256 = ((n / 256 : Nat) : Int) := fdiv_pow n 256
  have h2 := wrap_byte (n / 256)
  have h3 := wrap_byte n
  have h4 := @str_two H (UInt8.ofNat (n / 256)) (UInt8.ofNat n) 5 true (some 2)
  have h5 : putB n 2 = [UInt8.ofNat (n / 256), UInt8.ofNat n] := by simp [putB, ofNat_mod]
  refine call_ends (fn := s79) rfl rfl (by simp [s79]) ?_
  simp only [s79, R1, R2, R3, R4, R5, R6, R7, R8, AV.flat, fillIn_nil, fillIn_cons, splice, AV.cells, AV.one, eqsOf, idx, SO.calls, List.reduceReplicate, Nat.reduceBEq, Nat.reduceLT, Nat.reduceAdd, Nat.reduceMul, Nat.reduceSub, Nat.reduceLeDiff, Nat.reduceEqDiff, ↓reduceIte, Int.reduceLT, Int.reduceEq, Int.reduceBNe, Int.reduceBEq, aeq, Int.reduceLE, Int.reduceNeg, Int.reduceMul, Int.reduceAdd, Int.reduceSub, Int.reduceToNat, Int.reducePow, h1, h2, h3, h4, h5, tidy_str]
theorem c54 (n : Nat) (H : Heap) (hn : n < 4294967296) : call env 54 [.int .u32 (n : Int)] H = some (.str (mkS (putB n 4)), H) := by
  have h1 : (n : Int).fdiv 65536 = ((n / 65536 : Nat) : Int) := fdiv_pow n 65536
  have h2 : IntKind.u16.wrap ((n / 65536 : Nat) : Int) = ((n / 65536 % 65536 : Nat) : Int) := by rw [wrap_u16_mod]; exact (Int.natCast_emod _ 65536).symm
  have h3 : IntKind.u16.wrap (n : Int) = ((n % 65536 : Nat) : Int) := by rw [wrap_u16_mod]; exact (Int.natCast_emod _ 65536).symm
  have h4 := c79 (n / 65536 % 65536) H
  have h5 := c79 (n % 65536) H
  have h6 := @bin_adds H (putB (n / 65536 % 65536) 2) (putB (n % 65536) 2) (by simp [putB])
  have h7 : putB (n / 65536 % 65536) 2 ++ putB (n % 65536) 2 = putB n 4 := by
    simp only [putB, List.cons_append, List.nil_append, ofNat_mod, Nat.reducePow, Nat.div_one]
    have e1 : UInt8.ofNat (n / 65536 % 65536 / 256) = UInt8.ofNat (n / 16777216) := by apply UInt8.toNat_inj.1; simp; omega
    have e2 : UInt8.ofNat (n / 65536 % 65536) = UInt8.ofNat (n / 65536) := by apply UInt8.toNat_inj.1; simp
    have e3 : UInt8.ofNat (n % 65536 / 256) = UInt8.ofNat (n / 256) := by apply UInt8.toNat_inj.1; simp; omega
    have e4 : UInt8.ofNat (n % 65536) = UInt8.ofNat n := by apply UInt8.toNat_inj.1; simp
    rw [e1, e2, e3, e4]
  refine call_ends (fn := s54) rfl rfl (by simp [s54]) ?_
  simp only [s54, R1, R2, R3, R4, R5, R6, R7, R8, AV.flat, fillIn_nil, fillIn_cons, splice, AV.cells, AV.one, eqsOf, idx, SO.calls, List.reduceReplicate, Nat.reduceBEq, Nat.reduceLT, Nat.reduceAdd, Nat.reduceMul, Nat.reduceSub, Nat.reduceLeDiff, Nat.reduceEqDiff, ↓reduceIte, Int.reduceLT, Int.reduceEq, Int.reduceBNe, Int.reduceBEq, aeq, Int.reduceLE, Int.reduceNeg, Int.reduceMul, Int.reduceAdd, Int.reduceSub, Int.reduceToNat, Int.reducePow, h1, h2, h3, h4, h5, h6, h7, tidy_str0]
theorem c68 (n k : Nat) (H : Heap) (hn : n < 4294967296) (hk : k ≤ 1000) : call env 68 [.int .u32 (n : Int), .int .i64 (k : Int)] H = some (.str (mkS (putB n k)), H) := by
  refine call_ends (fn := s68) rfl rfl (by simp [s68]) ?_
  simp only [s68, R1, R2, R3, R4, R5, R6, R7, R8, AV.flat, fillIn_nil, fillIn_cons, splice, AV.cells, AV.one, eqsOf, idx, SO.calls, List.reduceReplicate, Nat.reduceBEq, Nat.reduceLT, Nat.reduceAdd, Nat.reduceMul, Nat.reduceSub, Nat.reduceLeDiff, Nat.reduceEqDiff, ↓reduceIte, Int.reduceLT, Int.reduceEq, Int.reduceBNe, Int.reduceBEq, aeq, Int.reduceLE, Int.reduceNeg, Int.reduceMul, Int.reduceAdd, Int.reduceSub, Int.reduceToNat, Int.reducePow]
  refine ends_loop (fun m t H' => t.length = 22 ∧ (∃ X, H' = H ++ X) ∧ t.getD 1 .undef = .int .i64 (k : Int) ∧ ∃ i : Nat, i ≤ k ∧ m = k - i ∧
    t.getD 6 .undef = .int .i64 (i : Int) ∧ t.getD 0 .undef = .int .u32 ((n / 256 ^ i : Nat) : Int) ∧ t.getD 5 .undef = .str (mkS (putB n i))) k ?_ ?_
  · simp only [R1, R2, R3, R4, R5, R6, R7, R8, AV.flat, fillIn_nil, fillIn_cons, splice, AV.cells, AV.one, eqsOf, idx, SO.calls, List.reduceReplicate, Nat.reduceBEq, Nat.reduceLT, Nat.reduceAdd, Nat.reduceMul, Nat.reduceSub, Nat.reduceLeDiff, Nat.reduceEqDiff, ↓reduceIte, Int.reduceLT, Int.reduceEq, Int.reduceBNe, Int.reduceBEq, aeq, Int.reduceLE, Int.reduceNeg, Int.reduceMul, Int.reduceAdd, Int.reduceSub, Int.reduceToNat, Int.reducePow]
    exact ⟨⟨[], by simp⟩, 0, by omega, by omega, rfl, by simp, rfl⟩
  · rintro m t H' ⟨g1, ⟨X, rfl⟩, g2, i, hi, rfl, g5, g6, g7⟩
    rw [← tm_nil t]
    by_cases hc : i < k
    · have e6 : ((i : Int) < (k : Int)) = True := eq_true (by omega)
      have e7 := wrap_i64 (x := (i : Int) + 1) (by omega) (by omega)
      have hlt : n / 256 ^ i < 4294967296 := Nat.lt_of_le_of_lt (Nat.div_le_self _ _) hn
      have e8 : ((n / 256 ^ i : Nat) : Int).tmod 256 = ((n / 256 ^ i % 256 : Nat) : Int) := by
        rw [Int.tmod_eq_emod_of_nonneg (Int.natCast_nonneg _)]; push_cast; rfl
      have e9 := wrap_byte (n / 256 ^ i % 256)
      have e10 := @str_one (H ++ X) (UInt8.ofNat (n / 256 ^ i % 256)) 5 true (some 1)
      have hlen : ∀ i, (putB n i).length = i := by intro i; induction i with | zero => rfl | succ i ih => simp [putB, ih]
      have e11 := fun H => @bin_adds H [UInt8.ofNat (n / 256 ^ i % 256)] (putB n i) (by rw [hlen]; simp; omega)
      have e12 : ((n / 256 ^ i : Nat) : Int).tdiv 256 = ((n / 256 ^ (i + 1) : Nat) : Int) := by
        rw [Int.tdiv_eq_ediv_of_nonneg (Int.natCast_nonneg _), Nat.pow_succ, ← Nat.div_div_eq_div_mul]; push_cast; rfl
      have hlt2 : n / 256 ^ (i + 1) < 4294967296 := Nat.lt_of_le_of_lt (Nat.div_le_self _ _) hn
      have e13 : IntKind.u32.wrap ((n / 256 ^ (i + 1) : Nat) : Int) = ((n / 256 ^ (i + 1) : Nat) : Int) := wrap_u32 (Int.natCast_nonneg _) (Int.ofNat_lt.2 hlt2)
      simp only [R1, R2, R3, R4, R5, R6, R7, R8, AV.flat, fillIn_nil, fillIn_cons, splice, AV.cells, AV.one, eqsOf, idx, SO.calls, List.reduceReplicate, Nat.reduceBEq, Nat.reduceLT, Nat.reduceAdd, Nat.reduceMul, Nat.reduceSub, Nat.reduceLeDiff, Nat.reduceEqDiff, ↓reduceIte, Int.reduceLT, Int.reduceEq, Int.reduceBNe, Int.reduceBEq, aeq, Int.reduceLE, Int.reduceNeg, Int.reduceMul, Int.reduceAdd, Int.reduceSub, Int.reduceToNat, Int.reducePow] at e10 e11
      generalize hq : n / 256 ^ (i + 1) = q at e12 e13
      generalize hr : n / 256 ^ i % 256 = r at e8 e9 e10 e11
      simp only [R1, R2, R3, R4, R5, R6, R7, R8, AV.flat, fillIn_nil, fillIn_cons, splice, AV.cells, AV.one, eqsOf, idx, SO.calls, List.reduceReplicate, Nat.reduceBEq, Nat.reduceLT, Nat.reduceAdd, Nat.reduceMul, Nat.reduceSub, Nat.reduceLeDiff, Nat.reduceEqDiff, ↓reduceIte, Int.reduceLT, Int.reduceEq, Int.reduceBNe, Int.reduceBEq, aeq, Int.reduceLE, Int.reduceNeg, Int.reduceMul, Int.reduceAdd, Int.reduceSub, Int.reduceToNat, Int.reducePow, g1, g2, g5, g6, g7, e6, e7, e8, e9, e10, e11, e12, e13]
      exact ⟨_, by omega, ⟨_, rfl⟩, i + 1, by omega, rfl, by simp, by rw [hq], by rw [← hr]; rfl⟩
    · have e6 : ((i : Int) < (k : Int)) = False := eq_false (by omega)
      have : i = k := by omega
      subst this
      simp only [R1, R2, R3, R4, R5, R6, R7, R8, AV.flat, fillIn_nil, fillIn_cons, splice, AV.cells, AV.one, eqsOf, idx, SO.calls, List.reduceReplicate, Nat.reduceBEq, Nat.reduceLT, Nat.reduceAdd, Nat.reduceMul, Nat.reduceSub, Nat.reduceLeDiff, Nat.reduceEqDiff, ↓reduceIte, Int.reduceLT, Int.reduceEq, Int.reduceBNe, Int.reduceBEq, aeq, Int.reduceLE, Int.reduceNeg, Int.reduceMul, Int.reduceAdd, Int.reduceSub, Int.reduceToNat, Int.reducePow, g1, g2, g5, g6, g7, e6, tidy_str]
theorem putB_len (n : Nat) : ∀ k, (putB n k).length = k
  | 0 => rfl
  | k + 1 => by simp [putB, putB_len n k]
end Go.Proofs.Ytppkggodpihfiaa
