/- Chapter 42: readers, and the next step of a patch. -/
import Derived.Test.YtkcbjeenoafbkaaC42p
import Derived.Test.YtkcbjeenoafbkaaC08g
import Derived.Test.YtkcbjeenoafbkaaGrowX
set_option linter.unusedVariables false
set_option linter.unusedSimpArgs false
set_option maxRecDepth 100000
set_option maxHeartbeats 2000000
namespace Go.Proofs.Ytkcbjeenoafbkaa
open Go Go.Den
/-- Heaps that differ in a reader's state alone. -/
structure Rdr (B : Nat × Bool → Heap) (o : Nat) (p : List UInt8) (N : Nat) : Prop where
  get : ∀ q, (B q)[o]? = some (.cells (RD p q.1 q.2) 163 true)
  set : ∀ q q', (B q).set o (.cells (RD p q'.1 q'.2) 163 true) = B q'
  len : ∀ q, (B q).length = N
theorem Rdr.lt {B : Nat × Bool → Heap} {o : Nat} {p : List UInt8} {N : Nat} (h : Rdr B o p N) : o < N := by
  have := (List.getElem?_eq_some_iff.1 (h.get (0, false))).1
  rwa [h.len] at this
theorem Rdr.app {B : Nat × Bool → Heap} {o : Nat} {p : List UInt8} {N : Nat} (h : Rdr B o p N) (X : Heap) : Rdr (fun q => B q ++ X) o p (N + X.length) := by
  have hl := h.lt
  refine ⟨fun q => ?_, fun q q' => ?_, fun q => ?_⟩
  · show (B q ++ X)[o]? = _
    rw [List.getElem?_append_left (by rw [h.len]; exact hl)]; exact h.get q
  · show (B q ++ X).set o _ = B q' ++ X
    rw [List.set_append_left _ _ (by rw [h.len]; exact hl), h.set]
  · show (B q ++ X).length = _
    rw [List.length_append, h.len]
theorem tidy_rdr {B : Nat × Bool → Heap} {o : Nat} {p : List UInt8} {N : Nat} (h : Rdr B o p N) {q q' : Nat × Bool} {X : Heap} {l : List AV} (hl : l.all AV.still = true) : tidy (B q) (.tup l) (B q' ++ X) = (.tup l, B q') := by
  rw [← h.set q q']
  have hr : (AO.cells (RD p q'.1 q'.2) 163 true).under (B q).length = true := leadss_flat rfl
  simp [tidy, keepOld_set _ _ hr, AV.carry, carries_still hl]
theorem tidy_rdrv {B : Nat × Bool → Heap} {o : Nat} {p : List UInt8} {N : Nat} (h : Rdr B o p N) {q q' : Nat × Bool} {X : Heap} {v : AV} (hv : v.flat = true) : tidy (B q) v (B q' ++ X) = (v, B q') := by
  rw [← h.set q q']
  exact tidy_setX hv rfl
theorem tidy_rdr0 {B : Nat × Bool → Heap} {o : Nat} {p : List UInt8} {N : Nat} (h : Rdr B o p N) {q q' : Nat × Bool} {v : AV} (hv : v.flat = true) : tidy (B q) v (B q') = (v, B q') := by
  have := tidy_rdrv h (q := q) (q' := q') (X := []) hv
  rwa [List.append_nil] at this
/-- Where a reader is behind n bytes. -/
def tk (p : List UInt8) (q : Nat × Bool) (n : Int) : Nat × Bool := (tookA p q.1 q.2 n, tookB p q.1 q.2 n)
theorem tk_le {p : List UInt8} {q : Nat × Bool} {n : Int} (h : q.1 ≤ p.length) : (tk p q n).1 ≤ p.length := tookA_le h
section
variable {B : Nat × Bool → Heap} {o : Nat} {p : List UInt8} {N : Nat}
theorem r_take (h : Rdr B o p N) (hp : p.length ≤ 1000000) (q : Nat × Bool) (hq : q.1 ≤ p.length) (n : Int) : call env 107 [.ptr o 0, .int .i64 n] (B q) = some (.str (mkS (took p q.1 q.2 n)), B (tk p q n)) := by
  have := c107 n (h.get q) hq hp
  rw [show (AO.cells (RD p (tookA p q.1 q.2 n) (tookB p q.1 q.2 n)) 163 true) = .cells (RD p (tk p q n).1 (tk p q n).2) 163 true from rfl, h.set] at this
  exact this
theorem r_U32 (h : Rdr B o p N) (hp : p.length ≤ 1000000) (q : Nat × Bool) (hq : q.1 ≤ p.length) : call env 84 [.ptr o 0] (B q) = some (.int .u32 (num (took p q.1 q.2 4) : Nat), B (tk p q 4)) := by
  have e1 := r_take h hp q hq 4
  have e2 := fun H => c106 (took p q.1 q.2 4) H (by have := (took_len (l := p) (a := q.1) (b := q.2) (n := 4)).2; omega)
  have ti := @tidy_rdr0 B o p N h q (tk p q 4) (.int .u32 (num (took p q.1 q.2 4) : Nat)) rfl
  refine call_ends (fn := s84) rfl rfl (by simp [s84]) ?_
  simp only [s84, R1, R2, R3, R4, R5, R6, R7, R8, AV.flat, fillIn_nil, fillIn_cons, splice, AV.cells, AV.one, eqsOf, idx, SO.calls, List.reduceReplicate, Nat.reduceBEq, Nat.reduceLT, Nat.reduceAdd, Nat.reduceMul, Nat.reduceSub, Nat.reduceLeDiff, Nat.reduceEqDiff, ↓reduceIte, Int.reduceLT, Int.reduceEq, Int.reduceBNe, Int.reduceBEq, aeq, Int.reduceLE, Int.reduceNeg, Int.reduceMul, Int.reduceAdd, Int.reduceSub, Int.reduceToNat, Int.reducePow, e1, e2, ti]
theorem num_one {l : List UInt8} (h : l.length ≤ 1) : num l = (l.getD 0 0).toNat := by
  match l, h with
  | [], _ => rfl
  | [a], _ =>
    have := a.toNat_lt
    simp [num]
    try omega
theorem r_U8 (h : Rdr B o p N) (hp : p.length ≤ 1000000) (q : Nat × Bool) (hq : q.1 ≤ p.length) : call env 108 [.ptr o 0] (B q) = some (.int .u8 (num (took p q.1 q.2 1) : Nat), B (tk p q 1)) := by
  have e1 := r_take h hp q hq 1
  have e2 := fun H => c106 (took p q.1 q.2 1) H (by have := (took_len (l := p) (a := q.1) (b := q.2) (n := 1)).2; omega)
  have ti := @tidy_rdr0 B o p N h q (tk p q 1) (.int .u8 (num (took p q.1 q.2 1) : Nat)) rfl
  have hb : num (took p q.1 q.2 1) < 256 := by
    rw [num_one (by have := (took_len (l := p) (a := q.1) (b := q.2) (n := 1)).1; simpa using this)]
    exact UInt8.toNat_lt _
  have w1 : IntKind.u8.wrap ((num (took p q.1 q.2 1) : Nat) : Int) = (num (took p q.1 q.2 1) : Nat) := by rw [wrap_u8_mod]; omega
  refine call_ends (fn := s108) rfl rfl (by simp [s108]) ?_
  simp only [s108, R1, R2, R3, R4, R5, R6, R7, R8, AV.flat, fillIn_nil, fillIn_cons, splice, AV.cells, AV.one, eqsOf, idx, SO.calls, List.reduceReplicate, Nat.reduceBEq, Nat.reduceLT, Nat.reduceAdd, Nat.reduceMul, Nat.reduceSub, Nat.reduceLeDiff, Nat.reduceEqDiff, ↓reduceIte, Int.reduceLT, Int.reduceEq, Int.reduceBNe, Int.reduceBEq, aeq, Int.reduceLE, Int.reduceNeg, Int.reduceMul, Int.reduceAdd, Int.reduceSub, Int.reduceToNat, Int.reducePow, e1, e2, w1, ti]
theorem r_Skip (h : Rdr B o p N) (hp : p.length ≤ 1000000) (q : Nat × Bool) (hq : q.1 ≤ p.length) (n : Int) : call env 111 [.ptr o 0, .int .i64 n] (B q) = some (.tup [], B (tk p q n)) := by
  have e1 := r_take h hp q hq n
  have ti := @tidy_rdr B o p N h q (tk p q n) [] [] rfl
  rw [List.append_nil] at ti
  refine call_ends (fn := s111) rfl rfl (by simp [s111]) ?_
  simp only [s111, R1, R2, R3, R4, R5, R6, R7, R8, AV.flat, fillIn_nil, fillIn_cons, splice, AV.cells, AV.one, eqsOf, idx, SO.calls, List.reduceReplicate, Nat.reduceBEq, Nat.reduceLT, Nat.reduceAdd, Nat.reduceMul, Nat.reduceSub, Nat.reduceLeDiff, Nat.reduceEqDiff, ↓reduceIte, Int.reduceLT, Int.reduceEq, Int.reduceBNe, Int.reduceBEq, aeq, Int.reduceLE, Int.reduceNeg, Int.reduceMul, Int.reduceAdd, Int.reduceSub, Int.reduceToNat, Int.reducePow, e1, ti]
theorem r_At (h : Rdr B o p N) (q : Nat × Bool) : call env 110 [.ptr o 0] (B q) = some (.int .i64 (q.1 : Int), B q) := by
  have e1 := fun n off => aload_row (n := n) (off := off) (h.get q)
  simp only [RD] at e1
  refine call_ends (fn := s110) rfl rfl (by simp [s110]) ?_
  simp only [s110, R1, R2, R3, R4, R5, R6, R7, R8, AV.flat, fillIn_nil, fillIn_cons, splice, AV.cells, AV.one, eqsOf, idx, SO.calls, List.reduceReplicate, Nat.reduceBEq, Nat.reduceLT, Nat.reduceAdd, Nat.reduceMul, Nat.reduceSub, Nat.reduceLeDiff, Nat.reduceEqDiff, ↓reduceIte, Int.reduceLT, Int.reduceEq, Int.reduceBNe, Int.reduceBEq, aeq, Int.reduceLE, Int.reduceNeg, Int.reduceMul, Int.reduceAdd, Int.reduceSub, Int.reduceToNat, Int.reducePow, e1, tidy_int]
theorem r_Err (h : Rdr B o p N) (q : Nat × Bool) : call env 109 [.ptr o 0] (B q) = some (.int .i64 (if q.2 = true then 3 else 0), B q) := by
  have e1 := fun n off => aload_row (n := n) (off := off) (h.get q)
  simp only [RD] at e1
  obtain ⟨a, b⟩ := q
  cases b
  all_goals
    refine call_ends (fn := s109) rfl rfl (by simp [s109]) ?_
    simp only [s109, R1, R2, R3, R4, R5, R6, R7, R8, AV.flat, fillIn_nil, fillIn_cons, splice, AV.cells, AV.one, eqsOf, idx, SO.calls, List.reduceReplicate, Nat.reduceBEq, Nat.reduceLT, Nat.reduceAdd, Nat.reduceMul, Nat.reduceSub, Nat.reduceLeDiff, Nat.reduceEqDiff, ↓reduceIte, Int.reduceLT, Int.reduceEq, Int.reduceBNe, Int.reduceBEq, aeq, Int.reduceLE, Int.reduceNeg, Int.reduceMul, Int.reduceAdd, Int.reduceSub, Int.reduceToNat, Int.reducePow, e1, tidy_int]
theorem r_Left (h : Rdr B o p N) (hp : p.length ≤ 1000000) (q : Nat × Bool) (hq : q.1 ≤ p.length) : call env 85 [.ptr o 0] (B q) = some (.int .i64 ((p.length - q.1 : Nat) : Int), B q) := by
  have e1 := fun n off => aload_row (n := n) (off := off) (h.get q)
  have w1 : IntKind.i64.wrap ((p.length : Int) - (q.1 : Int)) = ((p.length - q.1 : Nat) : Int) := by rw [wrap_i64 (by omega) (by omega)]; omega
  simp only [RD] at e1
  refine call_ends (fn := s85) rfl rfl (by simp [s85]) ?_
  simp only [s85, R1, R2, R3, R4, R5, R6, R7, R8, AV.flat, fillIn_nil, fillIn_cons, splice, AV.cells, AV.one, eqsOf, idx, SO.calls, List.reduceReplicate, Nat.reduceBEq, Nat.reduceLT, Nat.reduceAdd, Nat.reduceMul, Nat.reduceSub, Nat.reduceLeDiff, Nat.reduceEqDiff, ↓reduceIte, Int.reduceLT, Int.reduceEq, Int.reduceBNe, Int.reduceBEq, aeq, Int.reduceLE, Int.reduceNeg, Int.reduceMul, Int.reduceAdd, Int.reduceSub, Int.reduceToNat, Int.reducePow, e1, w1, tidy_int, shun_un, veil_un]
end
theorem c83 (l : List UInt8) (H : Heap) : call env 83 [.str (mkS l)] H = some (.ptr H.length 0, H ++ [.cells (RD l 0 false) 163 true]) := by
  have ti := @tidy_ptr0 H [] 0 (RD l 0 false) 163 true rfl
  simp only [RD, Int.cast_ofNat_Int] at ti ⊢
  refine call_ends (fn := s83) rfl rfl (by simp [s83]) ?_
  simp only [s83, R1, R2, R3, R4, R5, R6, R7, R8, AV.flat, fillIn_nil, fillIn_cons, splice, AV.cells, AV.one, eqsOf, idx, SO.calls, List.reduceReplicate, Nat.reduceBEq, Nat.reduceLT, Nat.reduceAdd, Nat.reduceMul, Nat.reduceSub, Nat.reduceLeDiff, Nat.reduceEqDiff, ↓reduceIte, Int.reduceLT, Int.reduceEq, Int.reduceBNe, Int.reduceBEq, aeq, Int.reduceLE, Int.reduceNeg, Int.reduceMul, Int.reduceAdd, Int.reduceSub, Int.reduceToNat, Int.reducePow, ti]
end Go.Proofs.Ytkcbjeenoafbkaa
