/- Chapter 02, the document's numbers: differences of digits; Of, Neg, Add, Sub, Sign, Cmp. -/
import Derived.Test.YtdlolhkeckjipaaDoorN02b
set_option linter.unusedVariables false
set_option linter.unusedSimpArgs false
set_option maxRecDepth 100000
set_option maxHeartbeats 8000000
namespace Go.Proofs.YtdlolhkeckjipaaDoor
open Go Go.Den
theorem c58 {H : Heap} {v w : AV} {l m : List Nat} (h1 : DOf H v l) (h2 : DOf H w m) (d1 : Dig l) (d2 : Dig m) (n1 : l.length ≤ 50000) (n2 : m.length ≤ l.length) (hle : val m ≤ val l) :
    Comes (call env 58 [v, w] H) fun r H1 => ∃ X O, H1 = H ++ X ∧ DOf H1 r O ∧ Dig O ∧ val O = val l - val m ∧ O.length = l.length := by
  have l1 := h1.of.lenOf
  have l2 := h2.of.lenOf
  refine comes_call (fn := s58) rfl rfl (by simp [s58]) ?_
  simp only [s58, R1, R2, R3, R4, R5, R6, R7, R8, AV.flat, fillIn_nil, fillIn_cons, splice, AV.cells, AV.one, eqsOf, idx, SO.calls, List.reduceReplicate, Nat.reduceBEq, Nat.reduceLT, Nat.reduceAdd, Nat.reduceMul, Nat.reduceSub, Nat.reduceLeDiff, Nat.reduceEqDiff, ↓reduceIte, Int.reduceLT, Int.reduceEq, Int.reduceBNe, Int.reduceBEq, aeq, Int.reduceLE, Int.reduceNeg, Int.reduceMul, Int.reduceAdd, Int.reduceSub, Int.reduceToNat, Int.reducePow, l1, l2]
  refine ends_loop (fun k t H' => t.length = 35 ∧ t.getD 0 .undef = v ∧ t.getD 1 .undef = w ∧ ∃ X r O i c, H ++ X = H' ∧ Acc H (H ++ X) 45 1 W64 r O ∧ Dig O ∧ O.length = i ∧ i ≤ l.length ∧ c ≤ 1 ∧ k = l.length - i ∧
    t.getD 5 .undef = r ∧ t.getD 6 .undef = .int .u64 ((c : Nat) : Int) ∧ t.getD 7 .undef = .int .i64 ((i : Nat) : Int) ∧ val O + val (m.take i) = val (l.take i) + 65536 ^ i * c) l.length ?_ ?_
  · simp only [R1, R2, R3, R4, R5, R6, R7, R8, AV.flat, fillIn_nil, fillIn_cons, splice, AV.cells, AV.one, eqsOf, idx, SO.calls, List.reduceReplicate, Nat.reduceBEq, Nat.reduceLT, Nat.reduceAdd, Nat.reduceMul, Nat.reduceSub, Nat.reduceLeDiff, Nat.reduceEqDiff, ↓reduceIte, Int.reduceLT, Int.reduceEq, Int.reduceBNe, Int.reduceBEq, aeq, Int.reduceLE, Int.reduceNeg, Int.reduceMul, Int.reduceAdd, Int.reduceSub, Int.reduceToNat, Int.reducePow]
    exact ⟨[], .nils, [], 0, 0, by simp, by simpa using Acc.start, Dig.nil, rfl, by omega, by omega, by omega, rfl, rfl, by simp [val]⟩
  rintro k t _ ⟨k1, k2, k3, X, r, O, i, c, rfl, ha, hO, hOl, hi, hc, hk, k4, k5, k6, hv⟩
  rw [← tm_nil t]
  by_cases hin : i < l.length
  · have a1 : ((i : Int) < (l.length : Int)) = True := eq_true (by omega)
    have e2 := fun Y => c72 (h2.app Y) i
    have g1 := w64_addr h1 hin
    have g2 := w64_load h1 hin
    have b1 := d1.at i
    have b2 := d2.at i
    have hs1 := val_suc l i
    have hs2 := val_suc m i
    have hst := minus_step (x := 65536 + l.getD i 0 - m.getD i 0 - c) hv (l.getD i 0) (m.getD i 0) b1 b2 hc rfl
    generalize l.getD i 0 = a at *
    generalize m.getD i 0 = b at *
    have w0 : IntKind.u64.wrap (65536 + (a : Int)) = ((65536 + a : Nat) : Int) := by rw [wrap_u64_mod]; omega
    have w1 : IntKind.u64.wrap (((65536 + a : Nat) : Int) - (b : Int)) = ((65536 + a - b : Nat) : Int) := by rw [wrap_u64_mod]; omega
    have w2 : IntKind.u64.wrap (((65536 + a - b : Nat) : Int) - (c : Int)) = ((65536 + a - b - c : Nat) : Int) := by rw [wrap_u64_mod]; omega
    have w3 : ((65536 + a - b - c : Nat) : Int).tmod 65536 = (((65536 + a - b - c) % 65536 : Nat) : Int) := by rw [Int.tmod_eq_emod_of_nonneg (by omega)]; omega
    have w4 : IntKind.u64.wrap (((65536 + a - b - c : Nat) : Int).tdiv 65536) = (((65536 + a - b - c) / 65536 : Nat) : Int) := by rw [Int.tdiv_eq_ediv_of_nonneg (by omega), wrap_u64_mod]; omega
    have w6 : IntKind.u64.wrap (1 - (((65536 + a - b - c) / 65536 : Nat) : Int)) = ((1 - (65536 + a - b - c) / 65536 : Nat) : Int) := by rw [wrap_u64_mod]; omega
    have w5 : IntKind.i64.wrap ((i : Int) + 1) = ((i + 1 : Nat) : Int) := by rw [wrap_i64 (by omega) (by omega)]; rfl
    obtain ⟨r', Y, p1, p2⟩ := push1 w64_cel ha (by omega) ((65536 + a - b - c) % 65536)
    simp only [W64] at p1
    simp only [R1, R2, R3, R4, R5, R6, R7, R8, AV.flat, fillIn_nil, fillIn_cons, splice, AV.cells, AV.one, eqsOf, idx, SO.calls, List.reduceReplicate, Nat.reduceBEq, Nat.reduceLT, Nat.reduceAdd, Nat.reduceMul, Nat.reduceSub, Nat.reduceLeDiff, Nat.reduceEqDiff, ↓reduceIte, Int.reduceLT, Int.reduceEq, Int.reduceBNe, Int.reduceBEq, aeq, Int.reduceLE, Int.reduceNeg, Int.reduceMul, Int.reduceAdd, Int.reduceSub, Int.reduceToNat, Int.reducePow, k1, k2, k3, k4, k5, k6, l1, l2, a1, e2, g1, g2, w0, w1, w2, w3, w4, w5, w6, p1, veil_un, shun_un]
    refine ⟨l.length - (i + 1), by omega, Y, r', O ++ [(65536 + a - b - c) % 65536], i + 1, 1 - (65536 + a - b - c) / 65536, rfl, p2, hO.app (Dig.one (by omega)), by simp [hOl], by omega, by omega, rfl, rfl, rfl, rfl, ?_⟩
    rw [val_snoc, hs1, hs2, hOl, hst, Nat.pow_succ]
  · have a1 : ((i : Int) < (l.length : Int)) = False := eq_false (by omega)
    have hi2 : i = l.length := by omega
    rw [val_all (by omega), val_all (by omega)] at hv
    obtain ⟨r', X', t1, t2⟩ := t_tidy Cx.here (acc_t ha w64_cel)
    simp only [R1, R2, R3, R4, R5, R6, R7, R8, AV.flat, fillIn_nil, fillIn_cons, splice, AV.cells, AV.one, eqsOf, idx, SO.calls, List.reduceReplicate, Nat.reduceBEq, Nat.reduceLT, Nat.reduceAdd, Nat.reduceMul, Nat.reduceSub, Nat.reduceLeDiff, Nat.reduceEqDiff, ↓reduceIte, Int.reduceLT, Int.reduceEq, Int.reduceBNe, Int.reduceBEq, aeq, Int.reduceLE, Int.reduceNeg, Int.reduceMul, Int.reduceAdd, Int.reduceSub, Int.reduceToNat, Int.reducePow, k1, k2, k3, k4, k5, k6, l1, l2, a1, leftE_ret, got_some, t1]
    have hlt := val_lt hO
    rw [hOl] at hlt
    have hlt2 := val_lt d1
    refine ⟨X', O, rfl, t2, hO, ?_, by omega⟩
    by_cases c0 : c = 0
    · rw [c0, Nat.mul_zero] at hv; omega
    · obtain rfl : c = 1 := by omega
      rw [Nat.mul_one] at hv
      omega
/-- A number: its sign, its digits. -/
def NumOf (H : Heap) (a : AV) (x : Int) : Prop := ∃ w, a = .agg [.bool (decide (x < 0)), w] ∧ DOf H w (digs x.natAbs)
theorem NumOf.kept {H K : Heap} {a : AV} {x : Int} (h : NumOf H a x) (k : Kept 45 H K) : NumOf K a x := by
  obtain ⟨w, h1, h2⟩ := h
  exact ⟨w, h1, h2.kept k⟩
/-- What a call comes to that makes a number. -/
def Makes (H : Heap) (x : Int) (a : AV) (H1 : Heap) : Prop := ∃ X, H1 = H ++ X ∧ NumOf H1 a x
/-- how many digits a number has. -/
def nd (x : Int) : Nat := (digs x.natAbs).length
theorem c39 {n : Int} (h1 : -9223372036854775808 ≤ n) (h2 : n < 9223372036854775808) (H : Heap) : Comes (call env 39 [.int .i64 n] H) (Makes H n) := by
  refine comes_call (fn := s39) rfl rfl (by simp [s39]) ?_
  obtain ⟨u, hu⟩ : ∃ u, u = n.natAbs := ⟨_, rfl⟩
  have w1 : IntKind.u64.wrap n = if n < 0 then 18446744073709551616 - (u : Int) else (u : Int) := by rw [wrap_u64_mod]; split <;> omega
  have w2 : n < 0 → IntKind.u64.wrap (0 - (18446744073709551616 - (u : Int))) = (u : Int) := fun h => by rw [wrap_u64_mod]; omega
  have r1 : (u : Int).tmod 65536 = ((u % 65536 : Nat) : Int) := by rw [Int.tmod_eq_emod_of_nonneg (by omega)]; omega
  have q1 : IntKind.u64.wrap ((u : Int).tdiv 65536) = ((u / 65536 : Nat) : Int) := by rw [Int.tdiv_eq_ediv_of_nonneg (by omega), wrap_u64_mod]; omega
  have r2 : ((u / 65536 : Nat) : Int).tmod 65536 = ((u / 65536 % 65536 : Nat) : Int) := by rw [Int.tmod_eq_emod_of_nonneg (by omega)]; omega
  have q2 : IntKind.u64.wrap ((u : Int).tdiv 4294967296) = ((u / 4294967296 : Nat) : Int) := by rw [Int.tdiv_eq_ediv_of_nonneg (by omega), wrap_u64_mod]; omega
  have r3 : ((u / 4294967296 : Nat) : Int).tmod 65536 = ((u / 4294967296 % 65536 : Nat) : Int) := by rw [Int.tmod_eq_emod_of_nonneg (by omega)]; omega
  have q3 : IntKind.u64.wrap ((u : Int).tdiv 281474976710656) = ((u / 281474976710656 : Nat) : Int) := by rw [Int.tdiv_eq_ediv_of_nonneg (by omega), wrap_u64_mod]; omega
  have hD : Dig [u % 65536, u / 65536 % 65536, u / 4294967296 % 65536, u / 281474976710656] := fun d hd => by
    simp only [List.mem_cons, List.not_mem_nil, or_false] at hd
    rcases hd with rfl | rfl | rfl | rfl <;> omega
  have hV : val [u % 65536, u / 65536 % 65536, u / 4294967296 % 65536, u / 281474976710656] = u := by
    simp only [val]; omega
  have hrow := TOf.new (H := H ++ [.cells [.bool false, .nils] 61 true]) (e := 45) (g := W64) (sz := 1) (w := true) (cap := some 4) (l := [u % 65536, u / 65536 % 65536, u / 4294967296 % 65536, u / 281474976710656]) (fun a _ => rfl) (by decide)
  generalize u % 65536 = a0 at *
  generalize u / 65536 % 65536 = a1 at *
  generalize u / 4294967296 % 65536 = a2 at *
  generalize u / 281474976710656 = a3 at *
  simp only [List.flatMap_cons, List.flatMap_nil, W64, List.length_append, List.length_cons, List.length_nil, List.append_assoc, List.cons_append, List.nil_append, Nat.zero_add, Nat.reduceAdd] at hrow
  have fin : ∀ b : Bool, b = decide (n < 0) → ∃ w, DOf (H ++ [.cells [.bool false, .nils] 61 true, .cells [.int .u64 (a0 : Int), .int .u64 (a1 : Int), .int .u64 (a2 : Int), .int .u64 (a3 : Int)] 45 true]) w (digs u) ∧ call env 55 [.bool b, .sl (H.length + 1) 0 4 1 (some 4)] (H ++ [.cells [.bool false, .nils] 61 true, .cells [.int .u64 (a0 : Int), .int .u64 (a1 : Int), .int .u64 (a2 : Int), .int .u64 (a3 : Int)] 45 true]) = some (.agg [.bool (decide (n < 0)), w], H ++ [.cells [.bool false, .nils] 61 true, .cells [.int .u64 (a0 : Int), .int .u64 (a1 : Int), .int .u64 (a2 : Int), .int .u64 (a3 : Int)] 45 true]) := fun b hb => by
    obtain ⟨w, h3, h4⟩ := c55 hrow hD (by simp) b
    rw [hV] at h3 h4
    have := h4 []
    rw [List.append_nil] at this
    have hb2 : (b && decide (u ≠ 0)) = decide (n < 0) := by
      rw [hb]
      by_cases hn : n < 0
      · rw [decide_eq_true hn, decide_eq_true (show u ≠ 0 by omega)]; rfl
      · rw [decide_eq_false hn]; rfl
    rw [hb2] at this
    exact ⟨w, h3, this⟩
  obtain ⟨w, h3, h4⟩ := fin _ rfl
  obtain ⟨z1, z2, _⟩ := t_cell h3
  simp only [AV.cells, AV.one] at z1 z2
  have hbox : DOf (H ++ [.cells [.bool (decide (n < 0)), w] 61 true, .cells [.int .u64 (a0 : Int), .int .u64 (a1 : Int), .int .u64 (a2 : Int), .int .u64 (a3 : Int)] 45 true]) w (digs u) := h3.kept (.on (.box (by decide) (.refl _)))
  obtain ⟨w', X', t1, t2⟩ := t_tidy (Cx.agg [.bool (decide (n < 0))] [] rfl rfl Cx.here) hbox
  have res : Makes H n (.agg [.bool (decide (n < 0)), w']) (H ++ X') := ⟨X', rfl, w', rfl, by rw [← hu]; exact t2⟩
  simp only [List.cons_append, List.nil_append] at t1
  by_cases hn : n < 0
  · rw [if_pos hn] at w1
    have w2 := w2 hn
    rw [decide_eq_true hn] at h4 t1 res
    simp only [s39, R1, R2, R3, R4, R5, R6, R7, R8, AV.flat, fillIn_nil, fillIn_cons, splice, AV.cells, AV.one, eqsOf, idx, SO.calls, List.reduceReplicate, Nat.reduceBEq, Nat.reduceLT, Nat.reduceAdd, Nat.reduceMul, Nat.reduceSub, Nat.reduceLeDiff, Nat.reduceEqDiff, ↓reduceIte, Int.reduceLT, Int.reduceEq, Int.reduceBNe, Int.reduceBEq, aeq, Int.reduceLE, Int.reduceNeg, Int.reduceMul, Int.reduceAdd, Int.reduceSub, Int.reduceToNat, Int.reducePow, eq_true hn, w1, w2, r1, r2, r3, q1, q2, q3, h4, z1, z2, leftE_ret, got_some, t1]
    exact res
  · rw [if_neg hn] at w1
    rw [decide_eq_false hn] at h4 t1 res
    simp only [s39, R1, R2, R3, R4, R5, R6, R7, R8, AV.flat, fillIn_nil, fillIn_cons, splice, AV.cells, AV.one, eqsOf, idx, SO.calls, List.reduceReplicate, Nat.reduceBEq, Nat.reduceLT, Nat.reduceAdd, Nat.reduceMul, Nat.reduceSub, Nat.reduceLeDiff, Nat.reduceEqDiff, ↓reduceIte, Int.reduceLT, Int.reduceEq, Int.reduceBNe, Int.reduceBEq, aeq, Int.reduceLE, Int.reduceNeg, Int.reduceMul, Int.reduceAdd, Int.reduceSub, Int.reduceToNat, Int.reducePow, eq_false hn, w1, r1, r2, r3, q1, q2, q3, h4, z1, z2, leftE_ret, got_some, t1]
    exact res
end Go.Proofs.YtdlolhkeckjipaaDoor
