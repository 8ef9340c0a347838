/- Chapter 40: numbers of two bytes, one behind the other. -/
import Derived.Test.YtppkggodpihfiaaK40a
import Derived.Test.YtppkggodpihfiaaC30j
set_option linter.unusedVariables false
set_option linter.unusedSimpArgs false
set_option maxRecDepth 100000
set_option maxHeartbeats 4000000
namespace Go.Proofs.Ytppkggodpihfiaa
open Go Go.Den
def IntC (n : Int) : List AV := [.int .i64 n]
theorem int_cel : Cel 1 IntC := ⟨fun _ => rfl, fun _ => rfl, fun _ => rfl, by decide⟩
def u16N (n : Int) : Nat := (n % 65536).toNat
theorem u16N_wrap (n : Int) : IntKind.u16.wrap n = (u16N n : Nat) := by rw [wrap_u16_mod, u16N]; omega
theorem u16N_lt (n : Int) : u16N n < 65536 := by unfold u16N; omega
def shB (l : List Int) : List UInt8 := l.flatMap fun n => putB (u16N n) 2
theorem shB_len (l : List Int) : (shB l).length = 2 * l.length := by
  unfold shB; induction l with
  | nil => rfl
  | cons a l ih => simp only [List.flatMap_cons, List.length_append, putB_len, ih, List.length_cons]; omega
theorem shB_take {l : List Int} {i : Nat} (h : i < l.length) : shB (l.take (i + 1)) = shB (l.take i) ++ putB (u16N l[i]) 2 := by
  unfold shB; rw [List.take_succ_eq_append_getElem h, List.flatMap_append]; simp
theorem c36 {H : Heap} {v : AV} {l : List Int} (hs : SlOf H 1 IntC v l) (hn : l.length ≤ 1000000) : call env 36 [v] H = some (.str (mkS (shB l)), H) := by
  have l1 := hs.lenOf
  refine call_ends (fn := s36) rfl rfl (by simp [s36]) ?_
  simp only [s36, R1, R2, R3, R4, R5, R6, R7, R8, AV.flat, fillIn_nil, fillIn_cons, splice, AV.cells, AV.one, eqsOf, idx, SO.calls, List.reduceReplicate, Nat.reduceBEq, Nat.reduceLT, Nat.reduceAdd, Nat.reduceMul, Nat.reduceSub, Nat.reduceLeDiff, Nat.reduceEqDiff, ↓reduceIte, Int.reduceLT, Int.reduceEq, Int.reduceBNe, Int.reduceBEq, aeq, Int.reduceLE, Int.reduceNeg, Int.reduceMul, Int.reduceAdd, Int.reduceSub, Int.reduceToNat, Int.reducePow, l1]
  refine ends_loop (fun k t H' => t.length = 19 ∧ H = H' ∧ (t.getD 6 .undef = v ∧ t.getD 7 .undef = .int .i64 (l.length : Int)) ∧ ∃ i : Nat, i ≤ l.length ∧ k = l.length - i ∧ t.getD 8 .undef = .int .i64 (i : Int) ∧ t.getD 3 .undef = .str (mkS (shB (l.take i)))) l.length ?_ ?_
  · simp only [R1, R2, R3, R4, R5, R6, R7, R8, AV.flat, fillIn_nil, fillIn_cons, splice, AV.cells, AV.one, eqsOf, idx, SO.calls, List.reduceReplicate, Nat.reduceBEq, Nat.reduceLT, Nat.reduceAdd, Nat.reduceMul, Nat.reduceSub, Nat.reduceLeDiff, Nat.reduceEqDiff, ↓reduceIte, Int.reduceLT, Int.reduceEq, Int.reduceBNe, Int.reduceBEq, aeq, Int.reduceLE, Int.reduceNeg, Int.reduceMul, Int.reduceAdd, Int.reduceSub, Int.reduceToNat, Int.reducePow]
    exact ⟨0, by omega, by omega, rfl, rfl⟩
  · rintro k t _ ⟨g1, rfl, ⟨g2, g3⟩, i, hi, rfl, g4, g5⟩
    rw [← tm_nil t]
    by_cases hc : i < l.length
    · have a1 : ((i : Int) < (l.length : Int)) = True := eq_true (by omega)
      have w1 : IntKind.i64.wrap ((i : Int) + 1) = ((i + 1 : Nat) : Int) := by rw [wrap_i64 (by omega) (by omega)]; rfl
      have E := hs.elem0 hc
      have hT := shB_take hc
      have w2 := u16N_wrap l[i]
      have e1 := fun H => c79 (u16N l[i]) H
      have e2 := fun H => @bin_adds H (shB (l.take i)) (putB (u16N l[i]) 2) (by rw [shB_len, putB_len, List.length_take]; omega)
      rw [← hT] at e2
      generalize hq : l[i] = q at *
      generalize putB (u16N q) 2 = Y at *
      simp only [IntC, Nat.mul_one] at E
      simp only [R1, R2, R3, R4, R5, R6, R7, R8, AV.flat, fillIn_nil, fillIn_cons, splice, AV.cells, AV.one, eqsOf, idx, SO.calls, List.reduceReplicate, Nat.reduceBEq, Nat.reduceLT, Nat.reduceAdd, Nat.reduceMul, Nat.reduceSub, Nat.reduceLeDiff, Nat.reduceEqDiff, ↓reduceIte, Int.reduceLT, Int.reduceEq, Int.reduceBNe, Int.reduceBEq, aeq, Int.reduceLE, Int.reduceNeg, Int.reduceMul, Int.reduceAdd, Int.reduceSub, Int.reduceToNat, Int.reducePow, g1, g2, g3, g4, g5, a1, w1, w2, E, e1, e2]
      exact ⟨_, by omega, i + 1, by omega, rfl, rfl, rfl⟩
    · have a1 : ((i : Int) < (l.length : Int)) = False := eq_false (by omega)
      obtain rfl : i = l.length := by omega
      rw [List.take_length] at g5
      simp only [R1, R2, R3, R4, R5, R6, R7, R8, AV.flat, fillIn_nil, fillIn_cons, splice, AV.cells, AV.one, eqsOf, idx, SO.calls, List.reduceReplicate, Nat.reduceBEq, Nat.reduceLT, Nat.reduceAdd, Nat.reduceMul, Nat.reduceSub, Nat.reduceLeDiff, Nat.reduceEqDiff, ↓reduceIte, Int.reduceLT, Int.reduceEq, Int.reduceBNe, Int.reduceBEq, aeq, Int.reduceLE, Int.reduceNeg, Int.reduceMul, Int.reduceAdd, Int.reduceSub, Int.reduceToNat, Int.reducePow, g1, g2, g3, g4, g5, a1]
      try rw [tidy_flat0 rfl]
theorem tbl_at : ∀ m : Nat, m < 256 → ∃ b : UInt8, ([0, 1, 2, 2, 3, 3, 3, 3, 4, 4, 4, 4, 4, 4, 4, 4, 5, 5, 5, 5, 5, 5, 5, 5, 5, 5, 5, 5, 5, 5, 5, 5, 6, 6, 6, 6, 6, 6, 6, 6, 6, 6, 6, 6, 6, 6, 6, 6, 6, 6, 6, 6, 6, 6, 6, 6, 6, 6, 6, 6, 6, 6, 6, 6, 7, 7, 7, 7, 7, 7, 7, 7, 7, 7, 7, 7, 7, 7, 7, 7, 7, 7, 7, 7, 7, 7, 7, 7, 7, 7, 7, 7, 7, 7, 7, 7, 7, 7, 7, 7, 7, 7, 7, 7, 7, 7, 7, 7, 7, 7, 7, 7, 7, 7, 7, 7, 7, 7, 7, 7, 7, 7, 7, 7, 7, 7, 7, 7, 8, 8, 8, 8, 8, 8, 8, 8, 8, 8, 8, 8, 8, 8, 8, 8, 8, 8, 8, 8, 8, 8, 8, 8, 8, 8, 8, 8, 8, 8, 8, 8, 8, 8, 8, 8, 8, 8, 8, 8, 8, 8, 8, 8, 8, 8, 8, 8, 8, 8, 8, 8, 8, 8, 8, 8, 8, 8, 8, 8, 8, 8, 8, 8, 8, 8, 8, 8, 8, 8, 8, 8, 8, 8, 8, 8, 8, 8, 8, 8, 8, 8, 8, 8, 8, 8, 8, 8, 8, 8, 8, 8, 8, 8, 8, 8, 8, 8, 8, 8, 8, 8, 8, 8, 8, 8, 8, 8, 8, 8, 8, 8, 8, 8, 8, 8, 8, 8, 8, 8, 8, 8, 8, 8, 8, 8, 8, 8] : List UInt8)[m]? = some b ∧ (m ≠ 0 → 1 ≤ b.toNat ∧ 2 ^ (b.toNat - 1) ≤ m ∧ m < 2 ^ b.toNat) := by
  have : ∀ m : Fin 256, ((([0, 1, 2, 2, 3, 3, 3, 3, 4, 4, 4, 4, 4, 4, 4, 4, 5, 5, 5, 5, 5, 5, 5, 5, 5, 5, 5, 5, 5, 5, 5, 5, 6, 6, 6, 6, 6, 6, 6, 6, 6, 6, 6, 6, 6, 6, 6, 6, 6, 6, 6, 6, 6, 6, 6, 6, 6, 6, 6, 6, 6, 6, 6, 6, 7, 7, 7, 7, 7, 7, 7, 7, 7, 7, 7, 7, 7, 7, 7, 7, 7, 7, 7, 7, 7, 7, 7, 7, 7, 7, 7, 7, 7, 7, 7, 7, 7, 7, 7, 7, 7, 7, 7, 7, 7, 7, 7, 7, 7, 7, 7, 7, 7, 7, 7, 7, 7, 7, 7, 7, 7, 7, 7, 7, 7, 7, 7, 7, 8, 8, 8, 8, 8, 8, 8, 8, 8, 8, 8, 8, 8, 8, 8, 8, 8, 8, 8, 8, 8, 8, 8, 8, 8, 8, 8, 8, 8, 8, 8, 8, 8, 8, 8, 8, 8, 8, 8, 8, 8, 8, 8, 8, 8, 8, 8, 8, 8, 8, 8, 8, 8, 8, 8, 8, 8, 8, 8, 8, 8, 8, 8, 8, 8, 8, 8, 8, 8, 8, 8, 8, 8, 8, 8, 8, 8, 8, 8, 8, 8, 8, 8, 8, 8, 8, 8, 8, 8, 8, 8, 8, 8, 8, 8, 8, 8, 8, 8, 8, 8, 8, 8, 8, 8, 8, 8, 8, 8, 8, 8, 8, 8, 8, 8, 8, 8, 8, 8, 8, 8, 8, 8, 8, 8, 8, 8, 8] : List UInt8)[m.val]?).any fun b => decide (m.val ≠ 0 → 1 ≤ b.toNat ∧ 2 ^ (b.toNat - 1) ≤ m.val ∧ m.val < 2 ^ b.toNat)) = true := by decide +kernel
  intro m hm
  have h := this ⟨m, hm⟩
  simp only at h
  rcases hb : ([0, 1, 2, 2, 3, 3, 3, 3, 4, 4, 4, 4, 4, 4, 4, 4, 5, 5, 5, 5, 5, 5, 5, 5, 5, 5, 5, 5, 5, 5, 5, 5, 6, 6, 6, 6, 6, 6, 6, 6, 6, 6, 6, 6, 6, 6, 6, 6, 6, 6, 6, 6, 6, 6, 6, 6, 6, 6, 6, 6, 6, 6, 6, 6, 7, 7, 7, 7, 7, 7, 7, 7, 7, 7, 7, 7, 7, 7, 7, 7, 7, 7, 7, 7, 7, 7, 7, 7, 7, 7, 7, 7, 7, 7, 7, 7, 7, 7, 7, 7, 7, 7, 7, 7, 7, 7, 7, 7, 7, 7, 7, 7, 7, 7, 7, 7, 7, 7, 7, 7, 7, 7, 7, 7, 7, 7, 7, 7, 8, 8, 8, 8, 8, 8, 8, 8, 8, 8, 8, 8, 8, 8, 8, 8, 8, 8, 8, 8, 8, 8, 8, 8, 8, 8, 8, 8, 8, 8, 8, 8, 8, 8, 8, 8, 8, 8, 8, 8, 8, 8, 8, 8, 8, 8, 8, 8, 8, 8, 8, 8, 8, 8, 8, 8, 8, 8, 8, 8, 8, 8, 8, 8, 8, 8, 8, 8, 8, 8, 8, 8, 8, 8, 8, 8, 8, 8, 8, 8, 8, 8, 8, 8, 8, 8, 8, 8, 8, 8, 8, 8, 8, 8, 8, 8, 8, 8, 8, 8, 8, 8, 8, 8, 8, 8, 8, 8, 8, 8, 8, 8, 8, 8, 8, 8, 8, 8, 8, 8, 8, 8, 8, 8, 8, 8, 8, 8] : List UInt8)[m]? with _ | b
  · rw [hb] at h; simp at h
  · rw [hb] at h; exact ⟨b, rfl, fun h0 => Or.resolve_left (a := m = 0) (by simpa using h) h0⟩
theorem c104 {n : Nat} (h0 : 0 < n) (h : n ≤ 60000) (H : Heap) : call env 104 [.int .u64 (n : Int)] H = some (.int .i64 ((n.log2 + 1 : Nat) : Int), H) := by
  have c1 : ((n : Int) ≥ 4294967296) = False := eq_false (by omega)
  have c2 : ((n : Int) ≥ 65536) = False := eq_false (by omega)
  refine call_ends (fn := s104) rfl rfl (by simp [s104]) ?_
  by_cases h2 : n < 256
  · have c3 : ((n : Int) ≥ 256) = False := eq_false (by omega)
    obtain ⟨b, hb, hb2⟩ := tbl_at n h2
    obtain ⟨b1, b2, b3⟩ := hb2 (by omega)
    have hl : n.log2 + 1 = b.toNat := by
      have : n.log2 = b.toNat - 1 := (Nat.log2_eq_iff (by omega)).2 ⟨b2, by rw [Nat.sub_add_cancel b1]; exact b3⟩
      omega
    have w1 : IntKind.u8.wrap (n : Int) = n := by rw [wrap_u8_mod]; omega
    have w2 : IntKind.i64.wrap (0 + (b.toNat : Int)) = b.toNat := by have := b.toNat_lt; rw [wrap_i64 (by omega) (by omega)]; omega
    have w3 : IntKind.i64.wrap (b.toNat : Int) = b.toNat := by have := b.toNat_lt; rw [wrap_i64 (by omega) (by omega)]
    rw [hl]
    simp only [s104, R1, R2, R3, R4, R5, R6, R7, R8, AV.flat, fillIn_nil, fillIn_cons, splice, AV.cells, AV.one, eqsOf, idx, SO.calls, List.reduceReplicate, Nat.reduceBEq, Nat.reduceLT, Nat.reduceAdd, Nat.reduceMul, Nat.reduceSub, Nat.reduceLeDiff, Nat.reduceEqDiff, ↓reduceIte, Int.reduceLT, Int.reduceEq, Int.reduceBNe, Int.reduceBEq, aeq, Int.reduceLE, Int.reduceNeg, Int.reduceMul, Int.reduceAdd, Int.reduceSub, Int.reduceToNat, Int.reducePow, c1, c2, c3, w1, w2, w3, hb]
    try rw [tidy_int]
  · have c3 : ((n : Int) ≥ 256) = True := eq_true (by omega)
    obtain ⟨b, hb, hb2⟩ := tbl_at (n / 256) (by omega)
    obtain ⟨b1, b2, b3⟩ := hb2 (by omega)
    have hl : n.log2 + 1 = 8 + b.toNat := by
      have : n.log2 = b.toNat - 1 + 8 := by
        refine (Nat.log2_eq_iff (by omega)).2 ⟨?_, ?_⟩
        · rw [Nat.pow_add]; have := Nat.mul_le_mul_right (2 ^ 8) b2; omega
        · rw [show b.toNat - 1 + 8 + 1 = b.toNat + 8 by omega, Nat.pow_add]; have : n / 256 + 1 ≤ 2 ^ b.toNat := b3; have := Nat.mul_le_mul_right (2 ^ 8) this; omega
      omega
    have d1 : (n : Int).fdiv 256 = ((n / 256 : Nat) : Int) := by rw [Int.fdiv_eq_ediv_of_nonneg _ (by omega)]; omega
    have w1 : IntKind.u8.wrap ((n / 256 : Nat) : Int) = ((n / 256 : Nat) : Int) := by rw [wrap_u8_mod]; omega
    have w2 : IntKind.i64.wrap (8 + (b.toNat : Int)) = 8 + (b.toNat : Int) := by have := b.toNat_lt; rw [wrap_i64 (by omega) (by omega)]
    have w3 : IntKind.i64.wrap (b.toNat : Int) = b.toNat := by have := b.toNat_lt; rw [wrap_i64 (by omega) (by omega)]
    have w4 : ((8 + b.toNat : Nat) : Int) = 8 + (b.toNat : Int) := by omega
    rw [hl]
    generalize n / 256 = m at *
    simp only [s104, R1, R2, R3, R4, R5, R6, R7, R8, AV.flat, fillIn_nil, fillIn_cons, splice, AV.cells, AV.one, eqsOf, idx, SO.calls, List.reduceReplicate, Nat.reduceBEq, Nat.reduceLT, Nat.reduceAdd, Nat.reduceMul, Nat.reduceSub, Nat.reduceLeDiff, Nat.reduceEqDiff, ↓reduceIte, Int.reduceLT, Int.reduceEq, Int.reduceBNe, Int.reduceBEq, aeq, Int.reduceLE, Int.reduceNeg, Int.reduceMul, Int.reduceAdd, Int.reduceSub, Int.reduceToNat, Int.reducePow, c1, c2, c3, d1, w1, w2, w3, w4, hb]
    try rw [tidy_int]
theorem c98 {n : Nat} (h0 : 0 < n) (h : n ≤ 60000) (H : Heap) : call env 98 [.int .u64 (n : Int)] H = some (.int .i64 ((n.log2 + 1 : Nat) : Int), H) := by
  have e1 := c104 h0 h
  refine call_ends (fn := s98) rfl rfl (by simp [s98]) ?_
  simp only [s98, R1, R2, R3, R4, R5, R6, R7, R8, AV.flat, fillIn_nil, fillIn_cons, splice, AV.cells, AV.one, eqsOf, idx, SO.calls, List.reduceReplicate, Nat.reduceBEq, Nat.reduceLT, Nat.reduceAdd, Nat.reduceMul, Nat.reduceSub, Nat.reduceLeDiff, Nat.reduceEqDiff, ↓reduceIte, Int.reduceLT, Int.reduceEq, Int.reduceBNe, Int.reduceBEq, aeq, Int.reduceLE, Int.reduceNeg, Int.reduceMul, Int.reduceAdd, Int.reduceSub, Int.reduceToNat, Int.reducePow, e1]
  try rw [tidy_int]
end Go.Proofs.Ytppkggodpihfiaa
