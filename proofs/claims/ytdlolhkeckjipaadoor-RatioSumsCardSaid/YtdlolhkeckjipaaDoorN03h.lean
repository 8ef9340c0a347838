/- Chapter 03, the document's: without a sign; as a number of 64 bits. -/
import Derived.Test.YtdlolhkeckjipaaDoorN03g
import Derived.Test.YtdlolhkeckjipaaDoorN03f
set_option linter.unusedVariables false
set_option linter.unusedSimpArgs false
set_option maxRecDepth 100000
set_option maxHeartbeats 8000000
namespace Go.Proofs.YtdlolhkeckjipaaDoor
open Go Go.Den
theorem c60 {H : Heap} {a : AV} {x : Int} (h : NumOf H a x) : ∃ r, NumOf H r ((x.natAbs : Nat) : Int) ∧ ∀ X, call env 60 [a] (H ++ X) = some (r, H ++ X) := by
  obtain ⟨w, rfl, h1⟩ := h
  obtain ⟨z1, z2, _⟩ := t_cell h1
  simp only [AV.cells, AV.one] at z1 z2
  refine ⟨.agg [.bool false, w], ⟨w, by rw [decide_eq_false (by omega)], by rw [Int.natAbs_natCast]; exact h1⟩, fun X => ?_⟩
  refine call_ends (fn := s60) rfl rfl (by simp [s60]) ?_
  have t1 := fun Y => old_tidy (Cx.agg [.bool false] [] rfl rfl Cx.here) (h1.app X) Y
  simp only [List.append_assoc, List.cons_append, List.nil_append] at t1
  generalize decide (x < 0) = b1 at *
  simp only [s60, R1, R2, R3, R4, R5, R6, R7, R8, AV.flat, fillIn_nil, fillIn_cons, splice, AV.cells, AV.one, eqsOf, idx, SO.calls, List.reduceReplicate, Nat.reduceBEq, Nat.reduceLT, Nat.reduceAdd, Nat.reduceMul, Nat.reduceSub, Nat.reduceLeDiff, Nat.reduceEqDiff, ↓reduceIte, Int.reduceLT, Int.reduceEq, Int.reduceBNe, Int.reduceBEq, aeq, Int.reduceLE, Int.reduceNeg, Int.reduceMul, Int.reduceAdd, Int.reduceSub, Int.reduceToNat, Int.reducePow, z1, z2, t1]
theorem fit_big {b : Bool} {w : Nat} (h : 18446744073709551616 ≤ w) : fitI b w = none := fit_out (by simp; omega)
theorem c62 {H : Heap} {a : AV} {x : Int} (h : NumOf H a x) (hn : nd x ≤ 1000) : ∃ v : Int, (∀ z, fitI (decide (x < 0)) x.natAbs = some z → v = z) ∧ ∀ X, call env 62 [a] (H ++ X) = some (.tup [.int .i64 v, .bool (fitI (decide (x < 0)) x.natAbs).isSome], H ++ X) := by
  obtain ⟨w, rfl, h1⟩ := h
  obtain ⟨z1, z2, _⟩ := t_cell h1
  simp only [AV.cells, AV.one] at z1 z2
  have l1 := h1.of.lenOf
  unfold nd at hn
  have hlen := digs_len x.natAbs
  by_cases h4 : (digs x.natAbs).length > 4
  · have a1 : (((digs x.natAbs).length : Int) > 4) = True := eq_true (by omega)
    have hb : 18446744073709551616 ≤ x.natAbs := by
      refine Decidable.byContradiction fun hb => ?_
      have := digs_small (n := x.natAbs) (k := 4) (by omega)
      omega
    rw [fit_big hb]
    refine ⟨0, (fun z hz => by cases hz), fun X => ?_⟩
    refine call_ends (fn := s62) rfl rfl (by simp [s62]) ?_
    simp only [s62, R1, R2, R3, R4, R5, R6, R7, R8, AV.flat, fillIn_nil, fillIn_cons, splice, AV.cells, AV.one, eqsOf, idx, SO.calls, List.reduceReplicate, Nat.reduceBEq, Nat.reduceLT, Nat.reduceAdd, Nat.reduceMul, Nat.reduceSub, Nat.reduceLeDiff, Nat.reduceEqDiff, ↓reduceIte, Int.reduceLT, Int.reduceEq, Int.reduceBNe, Int.reduceBEq, aeq, Int.reduceLE, Int.reduceNeg, Int.reduceMul, Int.reduceAdd, Int.reduceSub, Int.reduceToNat, Int.reducePow, z1, z2, l1, a1, Option.isSome_none]
    rw [← List.append_assoc, tidy_tup' rfl]
  have a1 : (((digs x.natAbs).length : Int) > 4) = False := eq_false (by omega)
  have hx : x.natAbs < 18446744073709551616 := by
    have : 65536 ^ (digs x.natAbs).length ≤ 65536 ^ 4 := Nat.pow_le_pow_right (by omega) (by omega)
    omega
  obtain ⟨v, hv, e1⟩ := c30 (decide (x < 0)) hx
  refine ⟨v, hv, fun X => ?_⟩
  generalize fitI (decide (x < 0)) x.natAbs = fit at *
  obtain ⟨n, hnn⟩ : ∃ n, n = (digs x.natAbs).length := ⟨_, rfl⟩
  have w1 : IntKind.i64.wrap ((n : Int) - 1) = (n : Int) - 1 := wrap_i64 (by omega) (by omega)
  have dat := digs_at x.natAbs
  rw [← hnn] at l1 a1 h4 hlen
  refine call_ends (fn := s62) rfl rfl (by simp [s62]) ?_
  generalize decide (x < 0) = b at *
  simp only [s62, R1, R2, R3, R4, R5, R6, R7, R8, AV.flat, fillIn_nil, fillIn_cons, splice, AV.cells, AV.one, eqsOf, idx, SO.calls, List.reduceReplicate, Nat.reduceBEq, Nat.reduceLT, Nat.reduceAdd, Nat.reduceMul, Nat.reduceSub, Nat.reduceLeDiff, Nat.reduceEqDiff, ↓reduceIte, Int.reduceLT, Int.reduceEq, Int.reduceBNe, Int.reduceBEq, aeq, Int.reduceLE, Int.reduceNeg, Int.reduceMul, Int.reduceAdd, Int.reduceSub, Int.reduceToNat, Int.reducePow, z1, z2, l1, a1, w1]
  refine ends_loop (fun k t H' => t.length = 32 ∧ H ++ (X ++ [BX (.bool b) w]) = H' ∧ t.getD 1 .undef = .ptr (H.length + X.length) 0 ∧ k ≤ n ∧ t.getD 4 .undef = .int .u64 ((x.natAbs / 65536 ^ k : Nat) : Int) ∧ t.getD 5 .undef = .int .i64 ((k : Int) - 1)) n ?_ ?_
  · simp only [R1, R2, R3, R4, R5, R6, R7, R8, AV.flat, fillIn_nil, fillIn_cons, splice, AV.cells, AV.one, eqsOf, idx, SO.calls, List.reduceReplicate, Nat.reduceBEq, Nat.reduceLT, Nat.reduceAdd, Nat.reduceMul, Nat.reduceSub, Nat.reduceLeDiff, Nat.reduceEqDiff, ↓reduceIte, Int.reduceLT, Int.reduceEq, Int.reduceBNe, Int.reduceBEq, aeq, Int.reduceLE, Int.reduceNeg, Int.reduceMul, Int.reduceAdd, Int.reduceSub, Int.reduceToNat, Int.reducePow]
    rw [Nat.div_eq_of_lt hlen]
    try exact rfl
  rintro k t _ ⟨k0, rfl, k1, hk, k2, k3⟩
  rw [← tm_nil t]
  by_cases h0 : k = 0
  · have a2 : ((k : Int) - 1 ≥ 0) = False := eq_false (by omega)
    have e : x.natAbs / 65536 ^ k = x.natAbs := by rw [h0, Nat.pow_zero, Nat.div_one]
    rw [e] at k2
    have e2 := e1 (H ++ (X ++ [BX (.bool b) w]))
    have tt := fun l hl => tidy_tup' (H := H ++ X) (X := [BX (.bool b) w]) (l := l) hl
    simp only [List.append_assoc] at tt
    simp only [R1, R2, R3, R4, R5, R6, R7, R8, AV.flat, fillIn_nil, fillIn_cons, splice, AV.cells, AV.one, eqsOf, idx, SO.calls, List.reduceReplicate, Nat.reduceBEq, Nat.reduceLT, Nat.reduceAdd, Nat.reduceMul, Nat.reduceSub, Nat.reduceLeDiff, Nat.reduceEqDiff, ↓reduceIte, Int.reduceLT, Int.reduceEq, Int.reduceBNe, Int.reduceBEq, aeq, Int.reduceLE, Int.reduceNeg, Int.reduceMul, Int.reduceAdd, Int.reduceSub, Int.reduceToNat, Int.reducePow, k0, k1, k2, k3, a2, e2]
    rw [tt _ rfl]
  obtain ⟨i, rfl⟩ : ∃ i, k = i + 1 := ⟨k - 1, by omega⟩
  have ei : ((i + 1 : Nat) : Int) - 1 = (i : Int) := by omega
  rw [ei] at k3
  have a2 : ((i : Int) ≥ 0) = True := eq_true (by omega)
  have w2 : IntKind.i64.wrap ((i : Int) - 1) = (i : Int) - 1 := wrap_i64 (by omega) (by omega)
  have gA := w64_addr h1 (i := i) (by omega)
  have gL := w64_load h1 (i := i) (by omega)
  rw [dat] at gL
  have hd : x.natAbs / 65536 ^ i = x.natAbs / 65536 ^ (i + 1) * 65536 + x.natAbs / 65536 ^ i % 65536 := by
    rw [Nat.pow_succ, ← Nat.div_div_eq_div_mul]
    omega
  have hle := Nat.div_le_self x.natAbs (65536 ^ i)
  rw [hd] at hle
  generalize x.natAbs / 65536 ^ (i + 1) = p at *
  generalize x.natAbs / 65536 ^ i % 65536 = d at *
  have w3 : IntKind.u64.wrap ((p : Int) * 65536) = ((p * 65536 : Nat) : Int) := by rw [wrap_u64_mod]; omega
  have w4 : IntKind.u64.wrap (((p * 65536 : Nat) : Int) + (d : Int)) = ((p * 65536 + d : Nat) : Int) := by rw [wrap_u64_mod]; omega
  simp only [R1, R2, R3, R4, R5, R6, R7, R8, AV.flat, fillIn_nil, fillIn_cons, splice, AV.cells, AV.one, eqsOf, idx, SO.calls, List.reduceReplicate, Nat.reduceBEq, Nat.reduceLT, Nat.reduceAdd, Nat.reduceMul, Nat.reduceSub, Nat.reduceLeDiff, Nat.reduceEqDiff, ↓reduceIte, Int.reduceLT, Int.reduceEq, Int.reduceBNe, Int.reduceBEq, aeq, Int.reduceLE, Int.reduceNeg, Int.reduceMul, Int.reduceAdd, Int.reduceSub, Int.reduceToNat, Int.reducePow, k0, k1, k2, k3, a2, w2, w3, w4, gA, gL]
  refine ⟨i, by omega, by omega, ?_, rfl⟩
  rw [hd]
end Go.Proofs.YtdlolhkeckjipaaDoor
