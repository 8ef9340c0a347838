/- Chapter 30: readers that never fail. -/
import Derived.Test.YtppkggodpihfiaaOctR
import Derived.Test.YtppkggodpihfiaaGrowX
import Derived.Test.YtppkggodpihfiaaC30c
set_option linter.unusedVariables false
set_option linter.unusedSimpArgs false
set_option maxRecDepth 100000
set_option maxHeartbeats 2000000
namespace Go.Proofs.Ytppkggodpihfiaa
open Go Go.Den
def n2 (p : List UInt8) (a : Nat) : Nat := num ((p.drop a).take 2)
def n4 (p : List UInt8) (a : Nat) : Nat := num ((p.drop a).take 4)
theorem n4_lt (p : List UInt8) (a : Nat) : n4 p a < 4294967296 := num_lt _
theorem num_short {l : List UInt8} (h : l.length ≤ 2) : num l < 65536 := by
  match l, h with
  | [], _ => exact (by decide : num [] < 65536)
  | [a], _ => have := a.toNat_lt; simp only [num, List.foldl]; omega
  | [a, b], _ => have := a.toNat_lt; have := b.toNat_lt; simp only [num, List.foldl]; omega
theorem n2_lt (p : List UInt8) (a : Nat) : n2 p a < 65536 := num_short (by rw [List.length_take]; omega)
def sg16 (n : Nat) : Int := if n < 32768 then (n : Int) else (n : Int) - 65536
def sg32 (n : Nat) : Int := if n < 2147483648 then (n : Int) else (n : Int) - 4294967296
theorem wrap_i16_s (n : Nat) (h : n < 65536) : IntKind.i16.wrap (n : Int) = sg16 n := by
  have e : (2 ^ IntKind.i16.bits : Int) = 65536 := by decide
  have e2 : (2 ^ (IntKind.i16.bits - 1) : Int) = 32768 := by decide
  unfold IntKind.wrap sg16
  simp only [e, e2, show IntKind.i16.signed = true from rfl]
  simp only [Bool.true_and, decide_eq_true_eq]
  split <;> split <;> omega
theorem wrap_i32_s (n : Nat) (h : n < 4294967296) : IntKind.i32.wrap (n : Int) = sg32 n := by
  have e : (2 ^ IntKind.i32.bits : Int) = 4294967296 := by decide
  have e2 : (2 ^ (IntKind.i32.bits - 1) : Int) = 2147483648 := by decide
  unfold IntKind.wrap sg32
  simp only [e, e2, show IntKind.i32.signed = true from rfl]
  simp only [Bool.true_and, decide_eq_true_eq]
  split <;> split <;> omega
theorem sg16_in (n : Nat) (h : n < 65536) : -32768 ≤ sg16 n ∧ sg16 n ≤ 32767 := by unfold sg16; split <;> omega
theorem sg32_in (n : Nat) (h : n < 4294967296) : -2147483648 ≤ sg32 n ∧ sg32 n ≤ 2147483647 := by unfold sg32; split <;> omega
/-- Heaps that differ in a reader's place alone. -/
structure RdrE (e : TypeId) (B : Nat → Heap) (o : Nat) (p : List UInt8) (N : Nat) : Prop where
  get : ∀ a, (B a)[o]? = some (.cells (RD p a false) e true)
  set : ∀ a b, (B a).set o (.cells (RD p b false) e true) = B b
  len : ∀ a, (B a).length = N
section
variable {e : TypeId} {B : Nat → Heap} {o : Nat} {p : List UInt8} {N : Nat}
theorem RdrE.lt (h : RdrE e B o p N) : o < N := by
  have := (List.getElem?_eq_some_iff.1 (h.get 0)).1
  rwa [h.len] at this
theorem RdrE.app (h : RdrE e B o p N) (X : Heap) : RdrE e (fun q => B q ++ X) o p (N + X.length) := by
  have hl := h.lt
  refine ⟨fun q => ?_, fun q q' => ?_, fun q => ?_⟩
  · show (B q ++ X)[o]? = _
    rw [List.getElem?_append_left (by rw [h.len]; exact hl)]; exact h.get q
  · show (B q ++ X).set o _ = B q' ++ X
    rw [List.set_append_left _ _ (by rw [h.len]; exact hl), h.set]
  · show (B q ++ X).length = _
    rw [List.length_append, h.len]
theorem tidy_rd (h : RdrE e B o p N) {a b : Nat} {X : Heap} {l : List AV} (hl : l.all AV.still = true) : tidy (B a) (.tup l) (B b ++ X) = (.tup l, B b) := by
  rw [← h.set a b]
  have hr : (AO.cells (RD p b false) e true).under (B a).length = true := leadss_flat rfl
  simp [tidy, keepOld_set _ _ hr, AV.carry, carries_still hl]
theorem tidy_rdv (h : RdrE e B o p N) {a b : Nat} {X : Heap} {v : AV} (hv : v.flat = true) : tidy (B a) v (B b ++ X) = (v, B b) := by
  rw [← h.set a b]
  exact tidy_setX hv rfl
theorem tidy_rd0 (h : RdrE e B o p N) {a b : Nat} {v : AV} (hv : v.flat = true) : tidy (B a) v (B b) = (v, B b) := by
  have := tidy_rdv h (a := a) (b := b) (X := []) hv
  rwa [List.append_nil] at this
theorem took_all {a n : Nat} (h : a + n ≤ p.length) : took p a false (n : Int) = (p.drop a).take n ∧ tookA p a false (n : Int) = a + n ∧ tookB p a false (n : Int) = false := by
  have hc : cut p a n = some ((p.drop a).take n) := by unfold cut; rw [if_neg (by omega)]; simp
  refine ⟨by simp [took, hc, cutS], by simp [tookA, hc], by simp [tookB, hc]⟩
theorem cut_all {a n : Nat} (h : a + n ≤ p.length) : cut p (a : Int) (n : Int) = some ((p.drop a).take n) := by unfold cut; rw [if_neg (by omega)]; simp
end
section
variable {B : Nat → Heap} {o : Nat} {p : List UInt8} {N : Nat}
theorem r_take (h : RdrE 146 B o p N) (hp : p.length ≤ 1000000) {a n : Nat} (ha : a + n ≤ p.length) : call env 83 [.ptr o 0, .int .i64 (n : Int)] (B a) = some (.str (mkS ((p.drop a).take n)), B (a + n)) := by
  have := c83 (n : Int) (h.get a) (by omega) hp
  obtain ⟨t1, t2, t3⟩ := took_all ha
  rw [t1, t2, t3, h.set] at this
  exact this
theorem r_U16 (h : RdrE 146 B o p N) (hp : p.length ≤ 1000000) {a : Nat} (ha : a + 2 ≤ p.length) : call env 47 [.ptr o 0] (B a) = some (.int .u16 (n2 p a : Nat), B (a + 2)) := by
  have e1 := r_take h hp ha
  have e2 := fun H => c82 ((p.drop a).take 2) H (by rw [List.length_take]; omega)
  have ti := @tidy_rd0 _ B o p N h a (a + 2) (.int .u16 (n2 p a : Nat)) rfl
  have w := wrap_u16 (x := (n2 p a : Nat)) (by omega) (by have := n2_lt p a; omega)
  unfold n2 at w ti ⊢
  refine call_ends (fn := s47) rfl rfl (by simp [s47]) ?_
  simp only [Int.cast_ofNat_Int] at e1
  simp only [s47, R1, R2, R3, R4, R5, R6, R7, R8, AV.flat, fillIn_nil, fillIn_cons, splice, AV.cells, AV.one, eqsOf, idx, SO.calls, List.reduceReplicate, Nat.reduceBEq, Nat.reduceLT, Nat.reduceAdd, Nat.reduceMul, Nat.reduceSub, Nat.reduceLeDiff, Nat.reduceEqDiff, ↓reduceIte, Int.reduceLT, Int.reduceEq, Int.reduceBNe, Int.reduceBEq, aeq, Int.reduceLE, Int.reduceNeg, Int.reduceMul, Int.reduceAdd, Int.reduceSub, Int.reduceToNat, Int.reducePow, e1, e2, w, ti]
theorem r_I16 (h : RdrE 146 B o p N) (hp : p.length ≤ 1000000) {a : Nat} (ha : a + 2 ≤ p.length) : call env 48 [.ptr o 0] (B a) = some (.int .i16 (sg16 (n2 p a)), B (a + 2)) := by
  have e1 := r_U16 h hp ha
  have ti := @tidy_rd0 _ B o p N h a (a + 2) (.int .i16 (sg16 (n2 p a))) rfl
  have w := wrap_i16_s (n2 p a) (n2_lt p a)
  refine call_ends (fn := s48) rfl rfl (by simp [s48]) ?_
  simp only [s48, R1, R2, R3, R4, R5, R6, R7, R8, AV.flat, fillIn_nil, fillIn_cons, splice, AV.cells, AV.one, eqsOf, idx, SO.calls, List.reduceReplicate, Nat.reduceBEq, Nat.reduceLT, Nat.reduceAdd, Nat.reduceMul, Nat.reduceSub, Nat.reduceLeDiff, Nat.reduceEqDiff, ↓reduceIte, Int.reduceLT, Int.reduceEq, Int.reduceBNe, Int.reduceBEq, aeq, Int.reduceLE, Int.reduceNeg, Int.reduceMul, Int.reduceAdd, Int.reduceSub, Int.reduceToNat, Int.reducePow, e1, w, ti]
theorem r_U32 (h : RdrE 146 B o p N) (hp : p.length ≤ 1000000) {a : Nat} (ha : a + 4 ≤ p.length) : call env 91 [.ptr o 0] (B a) = some (.int .u32 (n4 p a : Nat), B (a + 4)) := by
  have e1 := r_take h hp ha
  have e2 := fun H => c82 ((p.drop a).take 4) H (by rw [List.length_take]; omega)
  have ti := @tidy_rd0 _ B o p N h a (a + 4) (.int .u32 (n4 p a : Nat)) rfl
  unfold n4 at ti ⊢
  refine call_ends (fn := s91) rfl rfl (by simp [s91]) ?_
  simp only [Int.cast_ofNat_Int] at e1
  simp only [s91, R1, R2, R3, R4, R5, R6, R7, R8, AV.flat, fillIn_nil, fillIn_cons, splice, AV.cells, AV.one, eqsOf, idx, SO.calls, List.reduceReplicate, Nat.reduceBEq, Nat.reduceLT, Nat.reduceAdd, Nat.reduceMul, Nat.reduceSub, Nat.reduceLeDiff, Nat.reduceEqDiff, ↓reduceIte, Int.reduceLT, Int.reduceEq, Int.reduceBNe, Int.reduceBEq, aeq, Int.reduceLE, Int.reduceNeg, Int.reduceMul, Int.reduceAdd, Int.reduceSub, Int.reduceToNat, Int.reducePow, e1, e2, ti]
theorem r_Skip (h : RdrE 146 B o p N) (hp : p.length ≤ 1000000) {a n : Nat} (ha : a + n ≤ p.length) : call env 46 [.ptr o 0, .int .i64 (n : Int)] (B a) = some (.tup [], B (a + n)) := by
  have e1 := r_take h hp ha
  have ti := @tidy_rd _ B o p N h a (a + n) [] [] rfl
  rw [List.append_nil] at ti
  refine call_ends (fn := s46) rfl rfl (by simp [s46]) ?_
  simp only [s46, R1, R2, R3, R4, R5, R6, R7, R8, AV.flat, fillIn_nil, fillIn_cons, splice, AV.cells, AV.one, eqsOf, idx, SO.calls, List.reduceReplicate, Nat.reduceBEq, Nat.reduceLT, Nat.reduceAdd, Nat.reduceMul, Nat.reduceSub, Nat.reduceLeDiff, Nat.reduceEqDiff, ↓reduceIte, Int.reduceLT, Int.reduceEq, Int.reduceBNe, Int.reduceBEq, aeq, Int.reduceLE, Int.reduceNeg, Int.reduceMul, Int.reduceAdd, Int.reduceSub, Int.reduceToNat, Int.reducePow, e1, ti]
theorem r_At (h : RdrE 146 B o p N) (a : Nat) : call env 93 [.ptr o 0] (B a) = some (.int .i64 (a : Int), B a) := by
  have e1 := fun n off => aload_row (n := n) (off := off) (h.get a)
  simp only [RD] at e1
  refine call_ends (fn := s93) rfl rfl (by simp [s93]) ?_
  simp only [s93, R1, R2, R3, R4, R5, R6, R7, R8, AV.flat, fillIn_nil, fillIn_cons, splice, AV.cells, AV.one, eqsOf, idx, SO.calls, List.reduceReplicate, Nat.reduceBEq, Nat.reduceLT, Nat.reduceAdd, Nat.reduceMul, Nat.reduceSub, Nat.reduceLeDiff, Nat.reduceEqDiff, ↓reduceIte, Int.reduceLT, Int.reduceEq, Int.reduceBNe, Int.reduceBEq, aeq, Int.reduceLE, Int.reduceNeg, Int.reduceMul, Int.reduceAdd, Int.reduceSub, Int.reduceToNat, Int.reducePow, e1, tidy_int]
theorem r_u16 (h : RdrE 146 B o p N) (hp : p.length ≤ 1000000) {a : Nat} (ha : a + 2 ≤ p.length) : call env 89 [.ptr o 0] (B a) = some (.int .i64 (n2 p a : Nat), B (a + 2)) := by
  have e1 := r_U16 h hp ha
  have ti := @tidy_rd0 _ B o p N h a (a + 2) (.int .i64 (n2 p a : Nat)) rfl
  have w := wrap_i64 (x := (n2 p a : Nat)) (by omega) (by have := n2_lt p a; omega)
  refine call_ends (fn := s89) rfl rfl (by simp [s89]) ?_
  simp only [s89, R1, R2, R3, R4, R5, R6, R7, R8, AV.flat, fillIn_nil, fillIn_cons, splice, AV.cells, AV.one, eqsOf, idx, SO.calls, List.reduceReplicate, Nat.reduceBEq, Nat.reduceLT, Nat.reduceAdd, Nat.reduceMul, Nat.reduceSub, Nat.reduceLeDiff, Nat.reduceEqDiff, ↓reduceIte, Int.reduceLT, Int.reduceEq, Int.reduceBNe, Int.reduceBEq, aeq, Int.reduceLE, Int.reduceNeg, Int.reduceMul, Int.reduceAdd, Int.reduceSub, Int.reduceToNat, Int.reducePow, e1, w, ti]
theorem r_i16 (h : RdrE 146 B o p N) (hp : p.length ≤ 1000000) {a : Nat} (ha : a + 2 ≤ p.length) : call env 90 [.ptr o 0] (B a) = some (.int .i64 (sg16 (n2 p a)), B (a + 2)) := by
  have e1 := r_I16 h hp ha
  have ti := @tidy_rd0 _ B o p N h a (a + 2) (.int .i64 (sg16 (n2 p a))) rfl
  have w := wrap_i64 (x := sg16 (n2 p a)) (by have := sg16_in _ (n2_lt p a); omega) (by have := sg16_in _ (n2_lt p a); omega)
  refine call_ends (fn := s90) rfl rfl (by simp [s90]) ?_
  simp only [s90, R1, R2, R3, R4, R5, R6, R7, R8, AV.flat, fillIn_nil, fillIn_cons, splice, AV.cells, AV.one, eqsOf, idx, SO.calls, List.reduceReplicate, Nat.reduceBEq, Nat.reduceLT, Nat.reduceAdd, Nat.reduceMul, Nat.reduceSub, Nat.reduceLeDiff, Nat.reduceEqDiff, ↓reduceIte, Int.reduceLT, Int.reduceEq, Int.reduceBNe, Int.reduceBEq, aeq, Int.reduceLE, Int.reduceNeg, Int.reduceMul, Int.reduceAdd, Int.reduceSub, Int.reduceToNat, Int.reducePow, e1, w, ti]
theorem r_i32 (h : RdrE 146 B o p N) (hp : p.length ≤ 1000000) {a : Nat} (ha : a + 4 ≤ p.length) : call env 92 [.ptr o 0] (B a) = some (.int .i64 (sg32 (n4 p a)), B (a + 4)) := by
  have e1 := r_U32 h hp ha
  have ti := @tidy_rd0 _ B o p N h a (a + 4) (.int .i64 (sg32 (n4 p a))) rfl
  have w := wrap_i64 (x := sg32 (n4 p a)) (by have := sg32_in _ (n4_lt p a); omega) (by have := sg32_in _ (n4_lt p a); omega)
  have w2 := wrap_i32_s (n4 p a) (n4_lt p a)
  refine call_ends (fn := s92) rfl rfl (by simp [s92]) ?_
  simp only [s92, R1, R2, R3, R4, R5, R6, R7, R8, AV.flat, fillIn_nil, fillIn_cons, splice, AV.cells, AV.one, eqsOf, idx, SO.calls, List.reduceReplicate, Nat.reduceBEq, Nat.reduceLT, Nat.reduceAdd, Nat.reduceMul, Nat.reduceSub, Nat.reduceLeDiff, Nat.reduceEqDiff, ↓reduceIte, Int.reduceLT, Int.reduceEq, Int.reduceBNe, Int.reduceBEq, aeq, Int.reduceLE, Int.reduceNeg, Int.reduceMul, Int.reduceAdd, Int.reduceSub, Int.reduceToNat, Int.reducePow, e1, w, w2, ti]
/- The reference's. -/
theorem q_Take (h : RdrE 135 B o p N) (hp : p.length ≤ 1000000) {a n : Nat} (ha : a + n ≤ p.length) : call env 75 [.ptr o 0, .int .i64 (n : Int)] (B a) = some (.str (mkS ((p.drop a).take n)), B (a + n)) := by
  have hrow := h.get a
  have e1 := fun n off => aload_row (n := n) (off := off) hrow
  have e2 := fun off c => astore_row (off := off) (c := c) hrow
  have e3 := fun H => c96 p (a : Int) (n : Int) H hp
  simp only [cut_all ha, cutS, cutE, Option.isSome] at e3
  have w : IntKind.i64.wrap ((a : Int) + (n : Int)) = ((a + n : Nat) : Int) := by rw [wrap_i64 (by omega) (by omega)]; omega
  have hset := h.set a (a + n)
  simp only [RD] at e1 e2 hset
  have ti := @tidy_rd0 _ B o p N h a (a + n) (.str (mkS ((p.drop a).take n))) rfl
  refine call_ends (fn := s75) rfl rfl (by simp [s75]) ?_
  simp only [s75, R1, R2, R3, R4, R5, R6, R7, R8, AV.flat, fillIn_nil, fillIn_cons, splice, AV.cells, AV.one, eqsOf, idx, SO.calls, List.reduceReplicate, Nat.reduceBEq, Nat.reduceLT, Nat.reduceAdd, Nat.reduceMul, Nat.reduceSub, Nat.reduceLeDiff, Nat.reduceEqDiff, ↓reduceIte, Int.reduceLT, Int.reduceEq, Int.reduceBNe, Int.reduceBEq, aeq, Int.reduceLE, Int.reduceNeg, Int.reduceMul, Int.reduceAdd, Int.reduceSub, Int.reduceToNat, Int.reducePow, e1, e2, e3, w, hset, shun_un, veil_un, ti]
theorem q_Num (h : RdrE 135 B o p N) (hp : p.length ≤ 1000000) {a n : Nat} (ha : a + n ≤ p.length) : call env 71 [.ptr o 0, .int .i64 (n : Int)] (B a) = some (.int .u32 (num ((p.drop a).take n) : Nat), B (a + n)) := by
  have e1 := q_Take h hp ha
  have e2 := fun H => c95 ((p.drop a).take n) H (by rw [List.length_take, List.length_drop]; omega)
  have ti := @tidy_rd0 _ B o p N h a (a + n) (.int .u32 (num ((p.drop a).take n) : Nat)) rfl
  refine call_ends (fn := s71) rfl rfl (by simp [s71]) ?_
  simp only [s71, R1, R2, R3, R4, R5, R6, R7, R8, AV.flat, fillIn_nil, fillIn_cons, splice, AV.cells, AV.one, eqsOf, idx, SO.calls, List.reduceReplicate, Nat.reduceBEq, Nat.reduceLT, Nat.reduceAdd, Nat.reduceMul, Nat.reduceSub, Nat.reduceLeDiff, Nat.reduceEqDiff, ↓reduceIte, Int.reduceLT, Int.reduceEq, Int.reduceBNe, Int.reduceBEq, aeq, Int.reduceLE, Int.reduceNeg, Int.reduceMul, Int.reduceAdd, Int.reduceSub, Int.reduceToNat, Int.reducePow, e1, e2, ti]
theorem q_2 (h : RdrE 135 B o p N) (hp : p.length ≤ 1000000) {a : Nat} (ha : a + 2 ≤ p.length) : call env 71 [.ptr o 0, .int .i64 2] (B a) = some (.int .u32 (n2 p a : Nat), B (a + 2)) := q_Num h hp (n := 2) ha
theorem q_4 (h : RdrE 135 B o p N) (hp : p.length ≤ 1000000) {a : Nat} (ha : a + 4 ≤ p.length) : call env 71 [.ptr o 0, .int .i64 4] (B a) = some (.int .u32 (n4 p a : Nat), B (a + 4)) := q_Num h hp (n := 4) ha
theorem q_I16 (h : RdrE 135 B o p N) (hp : p.length ≤ 1000000) {a : Nat} (ha : a + 2 ≤ p.length) : call env 72 [.ptr o 0] (B a) = some (.int .i64 (sg16 (n2 p a)), B (a + 2)) := by
  have e1 := q_2 h hp ha
  have ti := @tidy_rd0 _ B o p N h a (a + 2) (.int .i64 (sg16 (n2 p a))) rfl
  have hl := n2_lt p a
  generalize n2 p a = n at *
  have w := wrap_i64 (x := (n : Int)) (by omega) (by omega)
  have w2 := wrap_i64 (x := (n : Int) - 65536) (by omega) (by omega)
  unfold sg16 at *
  by_cases hc : n < 32768
  · have b : ((n : Int) ≥ 32768) = False := eq_false (by omega)
    rw [if_pos hc] at ti ⊢
    refine call_ends (fn := s72) rfl rfl (by simp [s72]) ?_
    simp only [s72, R1, R2, R3, R4, R5, R6, R7, R8, AV.flat, fillIn_nil, fillIn_cons, splice, AV.cells, AV.one, eqsOf, idx, SO.calls, List.reduceReplicate, Nat.reduceBEq, Nat.reduceLT, Nat.reduceAdd, Nat.reduceMul, Nat.reduceSub, Nat.reduceLeDiff, Nat.reduceEqDiff, ↓reduceIte, Int.reduceLT, Int.reduceEq, Int.reduceBNe, Int.reduceBEq, aeq, Int.reduceLE, Int.reduceNeg, Int.reduceMul, Int.reduceAdd, Int.reduceSub, Int.reduceToNat, Int.reducePow, e1, w, b, ti]
  · have b : ((n : Int) ≥ 32768) = True := eq_true (by omega)
    rw [if_neg hc] at ti ⊢
    refine call_ends (fn := s72) rfl rfl (by simp [s72]) ?_
    simp only [s72, R1, R2, R3, R4, R5, R6, R7, R8, AV.flat, fillIn_nil, fillIn_cons, splice, AV.cells, AV.one, eqsOf, idx, SO.calls, List.reduceReplicate, Nat.reduceBEq, Nat.reduceLT, Nat.reduceAdd, Nat.reduceMul, Nat.reduceSub, Nat.reduceLeDiff, Nat.reduceEqDiff, ↓reduceIte, Int.reduceLT, Int.reduceEq, Int.reduceBNe, Int.reduceBEq, aeq, Int.reduceLE, Int.reduceNeg, Int.reduceMul, Int.reduceAdd, Int.reduceSub, Int.reduceToNat, Int.reducePow, e1, w, w2, b, ti]
theorem q_whole (h : RdrE 135 B o p N) (hp : p.length ≤ 1000000) {a : Nat} (ha : a + 4 ≤ p.length) : call env 74 [.ptr o 0] (B a) = some (.int .i64 (sg32 (n4 p a)), B (a + 4)) := by
  have e1 := q_4 h hp ha
  have ti := @tidy_rd0 _ B o p N h a (a + 4) (.int .i64 (sg32 (n4 p a))) rfl
  have hl := n4_lt p a
  generalize n4 p a = n at *
  have w := wrap_i64 (x := (n : Int)) (by omega) (by omega)
  have w2 := wrap_i64 (x := (n : Int) - 4294967296) (by omega) (by omega)
  unfold sg32 at *
  by_cases hc : n < 2147483648
  · have b : ((n : Int) ≥ 2147483648) = False := eq_false (by omega)
    rw [if_pos hc] at ti ⊢
    refine call_ends (fn := s74) rfl rfl (by simp [s74]) ?_
    simp only [s74, R1, R2, R3, R4, R5, R6, R7, R8, AV.flat, fillIn_nil, fillIn_cons, splice, AV.cells, AV.one, eqsOf, idx, SO.calls, List.reduceReplicate, Nat.reduceBEq, Nat.reduceLT, Nat.reduceAdd, Nat.reduceMul, Nat.reduceSub, Nat.reduceLeDiff, Nat.reduceEqDiff, ↓reduceIte, Int.reduceLT, Int.reduceEq, Int.reduceBNe, Int.reduceBEq, aeq, Int.reduceLE, Int.reduceNeg, Int.reduceMul, Int.reduceAdd, Int.reduceSub, Int.reduceToNat, Int.reducePow, e1, w, b, ti]
  · have b : ((n : Int) ≥ 2147483648) = True := eq_true (by omega)
    rw [if_neg hc] at ti ⊢
    refine call_ends (fn := s74) rfl rfl (by simp [s74]) ?_
    simp only [s74, R1, R2, R3, R4, R5, R6, R7, R8, AV.flat, fillIn_nil, fillIn_cons, splice, AV.cells, AV.one, eqsOf, idx, SO.calls, List.reduceReplicate, Nat.reduceBEq, Nat.reduceLT, Nat.reduceAdd, Nat.reduceMul, Nat.reduceSub, Nat.reduceLeDiff, Nat.reduceEqDiff, ↓reduceIte, Int.reduceLT, Int.reduceEq, Int.reduceBNe, Int.reduceBEq, aeq, Int.reduceLE, Int.reduceNeg, Int.reduceMul, Int.reduceAdd, Int.reduceSub, Int.reduceToNat, Int.reducePow, e1, w, w2, b, ti]
end
theorem c45 (l : List UInt8) (H : Heap) : call env 45 [.str (mkS l)] H = some (.ptr H.length 0, H ++ [.cells (RD l 0 false) 146 true]) := by
  have ti := @tidy_ptr0 H [] 0 (RD l 0 false) 146 true rfl
  simp only [RD, Int.cast_ofNat_Int] at ti ⊢
  refine call_ends (fn := s45) rfl rfl (by simp [s45]) ?_
  simp only [s45, R1, R2, R3, R4, R5, R6, R7, R8, AV.flat, fillIn_nil, fillIn_cons, splice, AV.cells, AV.one, eqsOf, idx, SO.calls, List.reduceReplicate, Nat.reduceBEq, Nat.reduceLT, Nat.reduceAdd, Nat.reduceMul, Nat.reduceSub, Nat.reduceLeDiff, Nat.reduceEqDiff, ↓reduceIte, Int.reduceLT, Int.reduceEq, Int.reduceBNe, Int.reduceBEq, aeq, Int.reduceLE, Int.reduceNeg, Int.reduceMul, Int.reduceAdd, Int.reduceSub, Int.reduceToNat, Int.reducePow, ti]
/-- Behind a heap, a box, a reader. -/
def rdB (e : TypeId) (H : Heap) (x : AO) (p : List UInt8) (a : Nat) : Heap := H ++ [x, .cells (RD p a false) e true]
theorem rdB_ok (e : TypeId) (H : Heap) (x : AO) (p : List UInt8) : RdrE e (rdB e H x p) (H.length + 1) p (H.length + 2) := by
  refine ⟨fun a => ?_, fun a b => ?_, fun a => by simp [rdB]⟩
  · unfold rdB; rw [List.getElem?_append_right (by omega)]; simp
  · unfold rdB; rw [List.set_append_right _ _ (by omega)]; simp
end Go.Proofs.Ytppkggodpihfiaa
