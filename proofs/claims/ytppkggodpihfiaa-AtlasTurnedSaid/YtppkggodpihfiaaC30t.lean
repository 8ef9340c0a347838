/- Chapter 30: the writer. -/
import Derived.Test.YtppkggodpihfiaaBldW
import Derived.Test.YtppkggodpihfiaaLeftX
import Derived.Test.YtppkggodpihfiaaOctR
import Derived.Test.YtppkggodpihfiaaGrowX
set_option linter.unusedVariables false
set_option linter.unusedSimpArgs false
set_option maxRecDepth 100000
set_option maxHeartbeats 2000000
namespace Go.Proofs.Ytppkggodpihfiaa
open Go Go.Den
def IntC (n : Int) : List AV := [.int .i64 n]
theorem int_cel : Cel 1 IntC := ⟨fun _ => rfl, fun _ => rfl, fun _ => rfl, by decide⟩
/-- Numbers in a row among these. -/
def SlR (K R : Heap) (v : AV) (l : List Int) : Prop := ∃ j, v = .sl (K.length + j) 0 l.length 1 (some l.length) ∧ R[j]? = some (.cells (l.flatMap IntC) 3 true)
theorem slr_of {K R : Heap} {v : AV} {l : List Int} (h : SlR K R v l) : SlOf (K ++ R) 1 IntC v l := by
  obtain ⟨j, rfl, h2⟩ := h
  have hl : (l.flatMap IntC).length = l.length := by rw [flat_len fun a _ => int_cel.size a]; simp
  have hr : (K ++ R)[K.length + j]? = some (.cells (l.flatMap IntC) 3 true) := by rw [List.getElem?_append_right (by omega), Nat.add_sub_cancel_left]; exact h2
  refine ⟨rfl, fun _ _ => rfl, by decide, .inl ⟨_, 0, _, l.flatMap IntC, rfl, by simp [arow, hr], ?_, ?_⟩⟩
  · rw [List.drop_zero, List.take_of_length_le (by omega)]
  · omega
theorem SlR.keep {K R R' : Heap} {v : AV} {l : List Int} (h : SlR K R v l) (k : Keep 110 R R') : SlR K R' v l := by
  obtain ⟨j, h1, h2⟩ := h
  exact ⟨j, h1, k.2 j _ _ _ (by decide) (by decide) h2⟩
def u16N (n : Int) : Nat := (n % 65536).toNat
def u32N (n : Int) : Nat := (n % 4294967296).toNat
theorem u16N_wrap (n : Int) : IntKind.u16.wrap n = (u16N n : Nat) := by rw [wrap_u16_mod, u16N]; omega
theorem u32N_wrap (n : Int) : IntKind.u32.wrap n = (u32N n : Nat) := by rw [wrap_u32_mod, u32N]; omega
theorem u32N_lt (n : Int) : u32N n < 4294967296 := by unfold u32N; omega
theorem u16N_lt (n : Int) : u16N n < 65536 := by unfold u16N; omega
def shB (l : List Int) : List UInt8 := l.flatMap fun n => putB (u16N n) 2
def loB (l : List Int) : List UInt8 := l.flatMap fun n => putB (u32N n) 4
theorem shB_len (l : List Int) : (shB l).length = 2 * l.length := by
  unfold shB; induction l with
  | nil => rfl
  | cons a l ih => simp only [List.flatMap_cons, List.length_append, putB_len, ih, List.length_cons]; omega
theorem loB_len (l : List Int) : (loB l).length = 4 * l.length := by
  unfold loB; induction l with
  | nil => rfl
  | cons a l ih => simp only [List.flatMap_cons, List.length_append, putB_len, ih, List.length_cons]; omega
theorem shB_take {l : List Int} {i : Nat} (h : i < l.length) : shB (l.take (i + 1)) = shB (l.take i) ++ putB (u16N l[i]) 2 := by
  unfold shB; rw [List.take_succ_eq_append_getElem h, List.flatMap_append]; simp
theorem loB_take {l : List Int} {i : Nat} (h : i < l.length) : loB (l.take (i + 1)) = loB (l.take i) ++ putB (u32N l[i]) 4 := by
  unfold loB; rw [List.take_succ_eq_append_getElem h, List.flatMap_append]; simp
theorem put_some (n k : Nat) : putB n (k + 1) ≠ [] := fun h => by have := putB_len n (k + 1); rw [h] at this; simp at this
theorem c52 {K R : Heap} {bs : List UInt8} (h : Bl 110 K R bs) {v : AV} {l : List Int} (hv : SlR K R v l) (hb : bs.length + 2 * l.length ≤ 900000) (h0 : 0 < l.length) :
    ∃ r, call env 52 [.ptr K.length 0, v] (K ++ R) = some r ∧ ∃ R', r = (.tup [], K ++ R') ∧ Bl 110 K R' (bs ++ shB l) ∧ Keep 110 R R' := by
  refine call_endsE (fn := s52) rfl rfl (by simp [s52]) fun W hW => ?_
  have l1 := (slr_of hv).lenOf
  simp only [s52, R1, R2, R3, R4, R5, R6, R7, R8, AV.flat, fillIn_nil, fillIn_cons, splice, AV.cells, AV.one, eqsOf, idx, SO.calls, List.reduceReplicate, Nat.reduceBEq, Nat.reduceLT, Nat.reduceAdd, Nat.reduceMul, Nat.reduceSub, Nat.reduceLeDiff, Nat.reduceEqDiff, ↓reduceIte, Int.reduceLT, Int.reduceEq, Int.reduceBNe, Int.reduceBEq, aeq, Int.reduceLE, Int.reduceNeg, Int.reduceMul, Int.reduceAdd, Int.reduceSub, Int.reduceToNat, Int.reducePow, l1]
  refine ends_loop (fun k t H' => t.length = 20 ∧ (t.getD 0 .undef = .ptr K.length 0 ∧ t.getD 6 .undef = v ∧ t.getD 7 .undef = .int .i64 (l.length : Int)) ∧ ∃ (i : Nat) (Q : Heap), i ≤ l.length ∧ k = l.length - i ∧ t.getD 8 .undef = .int .i64 (i : Int) ∧ K ++ Q = H' ∧
    Bl 110 K Q (bs ++ shB (l.take i)) ∧ Keep 110 R Q ∧ (0 < i → Far 110 K R.length Q)) l.length ?_ ?_
  · simp only [R1, R2, R3, R4, R5, R6, R7, R8, AV.flat, fillIn_nil, fillIn_cons, splice, AV.cells, AV.one, eqsOf, idx, SO.calls, List.reduceReplicate, Nat.reduceBEq, Nat.reduceLT, Nat.reduceAdd, Nat.reduceMul, Nat.reduceSub, Nat.reduceLeDiff, Nat.reduceEqDiff, ↓reduceIte, Int.reduceLT, Int.reduceEq, Int.reduceBNe, Int.reduceBEq, aeq, Int.reduceLE, Int.reduceNeg, Int.reduceMul, Int.reduceAdd, Int.reduceSub, Int.reduceToNat, Int.reducePow]
    exact ⟨0, R, by omega, by omega, rfl, rfl, by simpa [shB] using h, .refl, fun h => absurd h (Nat.lt_irrefl 0)⟩
  · rintro k t _ ⟨g1, ⟨g2, g3, g4⟩, i, Q, hi, rfl, g5, rfl, hB, hk, hf⟩
    rw [← tm_nil t]
    by_cases hc : i < l.length
    · have a1 : ((i : Int) < (l.length : Int)) = True := eq_true (by omega)
      have w1 : IntKind.i64.wrap ((i : Int) + 1) = ((i + 1 : Nat) : Int) := by rw [wrap_i64 (by omega) (by omega)]; rfl
      have E := (slr_of (hv.keep hk)).elem0 hc
      have ht := shB_take hc
      have hlen : (shB (l.take i)).length = 2 * i := by rw [shB_len, List.length_take]; omega
      generalize l[i] = n at *
      have eP := fun H => c79 (u16N n) H
      obtain ⟨Q', eW, hB', hk', hf'⟩ := c34 hB (s := putB (u16N n) 2) (put_some _ _) (by rw [List.length_append, putB_len, hlen]; omega)
      rw [List.append_assoc, ← ht] at hB'
      simp only [IntC, Nat.mul_one] at E
      have q1 : (K.length + Q.length ≤ K.length + Q'.length) = True := eq_true (by have := hk'.1; omega)
      have w2 := u16N_wrap n
      simp only [R1, R2, R3, R4, R5, R6, R7, R8, AV.flat, fillIn_nil, fillIn_cons, splice, AV.cells, AV.one, eqsOf, idx, SO.calls, List.reduceReplicate, Nat.reduceBEq, Nat.reduceLT, Nat.reduceAdd, Nat.reduceMul, Nat.reduceSub, Nat.reduceLeDiff, Nat.reduceEqDiff, ↓reduceIte, Int.reduceLT, Int.reduceEq, Int.reduceBNe, Int.reduceBEq, aeq, Int.reduceLE, Int.reduceNeg, Int.reduceMul, Int.reduceAdd, Int.reduceSub, Int.reduceToNat, Int.reducePow, g1, g2, g3, g4, g5, a1, w1, w2, E, eP, eW, shun_un, veil_un, q1]
      exact ⟨_, by omega, i + 1, Q', by omega, rfl, rfl, rfl, hB', hk.trans hk', fun _ => hf'.le hk.1⟩
    · have a1 : ((i : Int) < (l.length : Int)) = False := eq_false (by omega)
      obtain rfl : i = l.length := by omega
      rw [List.take_length] at hB
      simp only [R1, R2, R3, R4, R5, R6, R7, R8, AV.flat, fillIn_nil, fillIn_cons, splice, AV.cells, AV.one, eqsOf, idx, SO.calls, List.reduceReplicate, Nat.reduceBEq, Nat.reduceLT, Nat.reduceAdd, Nat.reduceMul, Nat.reduceSub, Nat.reduceLeDiff, Nat.reduceEqDiff, ↓reduceIte, Int.reduceLT, Int.reduceEq, Int.reduceBNe, Int.reduceBEq, aeq, Int.reduceLE, Int.reduceNeg, Int.reduceMul, Int.reduceAdd, Int.reduceSub, Int.reduceToNat, Int.reducePow, g1, g2, g3, g4, g5, a1, leftE_normal, got_some]
      rw [far_tidy h (hf h0)]
      exact hW _ ⟨Q, rfl, hB, hk⟩
theorem c53 {K R : Heap} {bs : List UInt8} (h : Bl 110 K R bs) {v : AV} {l : List Int} (hv : SlR K R v l) (hb : bs.length + 4 * l.length ≤ 900000) (h0 : 0 < l.length) :
    ∃ r, call env 53 [.ptr K.length 0, v] (K ++ R) = some r ∧ ∃ R', r = (.tup [], K ++ R') ∧ Bl 110 K R' (bs ++ loB l) ∧ Keep 110 R R' := by
  refine call_endsE (fn := s53) rfl rfl (by simp [s53]) fun W hW => ?_
  have l1 := (slr_of hv).lenOf
  simp only [s53, R1, R2, R3, R4, R5, R6, R7, R8, AV.flat, fillIn_nil, fillIn_cons, splice, AV.cells, AV.one, eqsOf, idx, SO.calls, List.reduceReplicate, Nat.reduceBEq, Nat.reduceLT, Nat.reduceAdd, Nat.reduceMul, Nat.reduceSub, Nat.reduceLeDiff, Nat.reduceEqDiff, ↓reduceIte, Int.reduceLT, Int.reduceEq, Int.reduceBNe, Int.reduceBEq, aeq, Int.reduceLE, Int.reduceNeg, Int.reduceMul, Int.reduceAdd, Int.reduceSub, Int.reduceToNat, Int.reducePow, l1]
  refine ends_loop (fun k t H' => t.length = 20 ∧ (t.getD 0 .undef = .ptr K.length 0 ∧ t.getD 6 .undef = v ∧ t.getD 7 .undef = .int .i64 (l.length : Int)) ∧ ∃ (i : Nat) (Q : Heap), i ≤ l.length ∧ k = l.length - i ∧ t.getD 8 .undef = .int .i64 (i : Int) ∧ K ++ Q = H' ∧
    Bl 110 K Q (bs ++ loB (l.take i)) ∧ Keep 110 R Q ∧ (0 < i → Far 110 K R.length Q)) l.length ?_ ?_
  · simp only [R1, R2, R3, R4, R5, R6, R7, R8, AV.flat, fillIn_nil, fillIn_cons, splice, AV.cells, AV.one, eqsOf, idx, SO.calls, List.reduceReplicate, Nat.reduceBEq, Nat.reduceLT, Nat.reduceAdd, Nat.reduceMul, Nat.reduceSub, Nat.reduceLeDiff, Nat.reduceEqDiff, ↓reduceIte, Int.reduceLT, Int.reduceEq, Int.reduceBNe, Int.reduceBEq, aeq, Int.reduceLE, Int.reduceNeg, Int.reduceMul, Int.reduceAdd, Int.reduceSub, Int.reduceToNat, Int.reducePow]
    exact ⟨0, R, by omega, by omega, rfl, rfl, by simpa [loB] using h, .refl, fun h => absurd h (Nat.lt_irrefl 0)⟩
  · rintro k t _ ⟨g1, ⟨g2, g3, g4⟩, i, Q, hi, rfl, g5, rfl, hB, hk, hf⟩
    rw [← tm_nil t]
    by_cases hc : i < l.length
    · have a1 : ((i : Int) < (l.length : Int)) = True := eq_true (by omega)
      have w1 : IntKind.i64.wrap ((i : Int) + 1) = ((i + 1 : Nat) : Int) := by rw [wrap_i64 (by omega) (by omega)]; rfl
      have E := (slr_of (hv.keep hk)).elem0 hc
      have ht := loB_take hc
      have hlen : (loB (l.take i)).length = 4 * i := by rw [loB_len, List.length_take]; omega
      generalize l[i] = n at *
      have eP := fun H => c54 (u32N n) H (u32N_lt n)
      obtain ⟨Q', eW, hB', hk', hf'⟩ := c34 hB (s := putB (u32N n) 4) (put_some _ _) (by rw [List.length_append, putB_len, hlen]; omega)
      rw [List.append_assoc, ← ht] at hB'
      simp only [IntC, Nat.mul_one] at E
      have q1 : (K.length + Q.length ≤ K.length + Q'.length) = True := eq_true (by have := hk'.1; omega)
      have w2 := u32N_wrap n
      simp only [R1, R2, R3, R4, R5, R6, R7, R8, AV.flat, fillIn_nil, fillIn_cons, splice, AV.cells, AV.one, eqsOf, idx, SO.calls, List.reduceReplicate, Nat.reduceBEq, Nat.reduceLT, Nat.reduceAdd, Nat.reduceMul, Nat.reduceSub, Nat.reduceLeDiff, Nat.reduceEqDiff, ↓reduceIte, Int.reduceLT, Int.reduceEq, Int.reduceBNe, Int.reduceBEq, aeq, Int.reduceLE, Int.reduceNeg, Int.reduceMul, Int.reduceAdd, Int.reduceSub, Int.reduceToNat, Int.reducePow, g1, g2, g3, g4, g5, a1, w1, w2, E, eP, eW, shun_un, veil_un, q1]
      exact ⟨_, by omega, i + 1, Q', by omega, rfl, rfl, rfl, hB', hk.trans hk', fun _ => hf'.le hk.1⟩
    · have a1 : ((i : Int) < (l.length : Int)) = False := eq_false (by omega)
      obtain rfl : i = l.length := by omega
      rw [List.take_length] at hB
      simp only [R1, R2, R3, R4, R5, R6, R7, R8, AV.flat, fillIn_nil, fillIn_cons, splice, AV.cells, AV.one, eqsOf, idx, SO.calls, List.reduceReplicate, Nat.reduceBEq, Nat.reduceLT, Nat.reduceAdd, Nat.reduceMul, Nat.reduceSub, Nat.reduceLeDiff, Nat.reduceEqDiff, ↓reduceIte, Int.reduceLT, Int.reduceEq, Int.reduceBNe, Int.reduceBEq, aeq, Int.reduceLE, Int.reduceNeg, Int.reduceMul, Int.reduceAdd, Int.reduceSub, Int.reduceToNat, Int.reducePow, g1, g2, g3, g4, g5, a1, leftE_normal, got_some]
      rw [far_tidy h (hf h0)]
      exact hW _ ⟨Q, rfl, hB, hk⟩
end Go.Proofs.Ytppkggodpihfiaa
