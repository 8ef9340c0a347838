/- Chapter 02, the document's numbers: products. -/
import Derived.Test.YtdlolhkeckjipaaDoorN02d
set_option linter.unusedVariables false
set_option linter.unusedSimpArgs false
set_option maxRecDepth 100000
set_option maxHeartbeats 8000000
namespace Go.Proofs.YtdlolhkeckjipaaDoor
open Go Go.Den
theorem w64_zeros (n : Nat) : (List.replicate n [AV.int .u64 0]).flatten = (List.replicate n 0).flatMap W64 := by
  induction n with
  | zero => rfl
  | succ n ih => rw [List.replicate_succ, List.replicate_succ, List.flatten_cons, List.flatMap_cons, ih]; rfl
theorem w64_len (l : List Nat) : (l.flatMap W64).length = l.length := by rw [flat_len fun a _ => w64_cel.size a, Nat.mul_one]
theorem w64_set {l : List Nat} : ∀ {j x : Nat}, j < l.length → splice (l.flatMap W64) j [.int .u64 (x : Int)] = (l.set j x).flatMap W64 := by
  induction l with
  | nil => intro j x h; simp at h
  | cons a l ih =>
    intro j x h
    cases j with
    | zero => simp [splice, W64]
    | succ j =>
      have := ih (j := j) (x := x) (by simpa using h)
      simp only [splice, List.length_cons, List.length_nil] at this
      simp only [splice, List.flatMap_cons, List.set_cons_succ, W64, List.cons_append, List.nil_append, List.take_succ_cons, List.length_cons, List.length_nil]
      rw [show j + 1 + (0 + 1) = (j + (0 + 1)) + 1 by omega, List.drop_succ_cons, ← this]
theorem w64_get {l : List Nat} {j : Nat} (h : j < l.length) : ((l.flatMap W64).drop j).take 1 = [.int .u64 ((l.getD j 0 : Nat) : Int)] := by
  have := flat_at (sz := 1) (g := W64) (l := l) (i := j) (fun a _ => rfl) h
  rw [Nat.mul_one] at this
  rw [this]
  simp [W64, List.getD, h]
theorem mul_bound {A b : List Nat} {O c i k : Nat} (hA : Dig A) (hb : Dig b) (hk : b.length ≤ k) (hc : 0 < c) (h : O + 65536 ^ (i + k) * c = val (A.take (i + 1)) * val b) : k ≤ b.length := by
  have h1 := val_take_lt hA (i + 1)
  have h2 := val_lt hb
  have h3 : val (A.take (i + 1)) * val b < 65536 ^ (i + 1) * 65536 ^ b.length := Nat.mul_lt_mul'' h1 h2
  rw [← Nat.pow_add] at h3
  have h4 : 65536 ^ (i + k) * 1 ≤ 65536 ^ (i + k) * c := Nat.mul_le_mul_left _ hc
  have h5 : i + k < i + 1 + b.length := by
    refine Decidable.byContradiction fun hn => ?_
    have : 65536 ^ (i + 1 + b.length) ≤ 65536 ^ (i + k) := Nat.pow_le_pow_right (by omega) (by omega)
    omega
  omega
theorem mul_step {O O' S a b c x o p : Nat} (h : O + p * c = S) (hx : x = o + a * b + c) (hO : O' + p * o = O + p * (x % 65536)) : O' + p * 65536 * (x / 65536) = S + p * (a * b) := by
  have e : p * (x % 65536) + p * 65536 * (x / 65536) = p * x := by
    rw [Nat.mul_assoc, ← Nat.mul_add]
    congr 1
    omega
  rw [hx] at e
  rw [hx] at hO ⊢
  rw [Nat.mul_add, Nat.mul_add] at e
  omega
theorem mul_at {A b : List Nat} {i k : Nat} : val (A.take i) * val b + 65536 ^ i * A.getD i 0 * val (b.take (k + 1)) = val (A.take i) * val b + 65536 ^ i * A.getD i 0 * val (b.take k) + 65536 ^ (i + k) * (A.getD i 0 * b.getD k 0) := by
  rw [val_suc b k, Nat.mul_add (65536 ^ i * A.getD i 0), Nat.pow_add]
  have : 65536 ^ i * A.getD i 0 * (65536 ^ k * b.getD k 0) = 65536 ^ i * 65536 ^ k * (A.getD i 0 * b.getD k 0) := by
    rw [Nat.mul_mul_mul_comm]
  omega
theorem c53 {H : Heap} {a b : AV} {x y : Int} (h1 : NumOf H a x) (h2 : NumOf H b y) (hn1 : nd x ≤ 20000) (hn2 : nd y ≤ 20000) : Comes (call env 53 [a, b] H) (Makes H (x * y)) := by
  obtain ⟨v, rfl, h1⟩ := h1
  obtain ⟨w, rfl, h2⟩ := h2
  unfold nd at hn1 hn2
  obtain ⟨z1, z2, _⟩ := t_cell h1
  obtain ⟨z3, z4, _⟩ := t_cell h2
  simp only [AV.cells, AV.one] at z1 z2 z3 z4
  have l1 := h1.of.lenOf
  have l2 := h2.of.lenOf
  have dA := dig_digs x.natAbs
  have dB := dig_digs y.natAbs
  have vA := val_digs x.natAbs
  have vB := val_digs y.natAbs
  have hsg : x.natAbs * y.natAbs = (x * y).natAbs := (Int.natAbs_mul x y).symm
  have hb : (x * y).natAbs ≠ 0 → (decide (x < 0) != decide (y < 0)) = decide (x * y < 0) := fun h => by
    have hx0 : x ≠ 0 := fun h0 => h (by rw [h0, Int.zero_mul]; rfl)
    have hy0 : y ≠ 0 := fun h0 => h (by rw [h0, Int.mul_zero]; rfl)
    by_cases hx : x < 0
    · by_cases hy : y < 0
      · have := Int.mul_pos_of_neg_of_neg hx hy
        rw [decide_eq_true hx, decide_eq_true hy, decide_eq_false (by omega)]; rfl
      · have := Int.mul_neg_of_neg_of_pos hx (show 0 < y by omega)
        rw [decide_eq_true hx, decide_eq_false hy, decide_eq_true this]; rfl
    · by_cases hy : y < 0
      · have := Int.mul_neg_of_pos_of_neg (show 0 < x by omega) hy
        rw [decide_eq_false hx, decide_eq_true hy, decide_eq_true this]; rfl
      · have := Int.mul_pos (show 0 < x by omega) (show 0 < y by omega)
        rw [decide_eq_false hx, decide_eq_false hy, decide_eq_false (by omega)]; rfl
  refine comes_call (fn := s53) rfl rfl (by simp [s53]) ?_
  generalize digs x.natAbs = A at *
  generalize digs y.natAbs = D at *
  generalize decide (x < 0) = b1 at *
  generalize decide (y < 0) = b2 at *
  have w1 : IntKind.i64.wrap ((A.length : Int) + (D.length : Int)) = ((A.length + D.length : Nat) : Int) := by rw [wrap_i64 (by omega) (by omega)]; omega
  have w2 : IntKind.i64.wrap (((A.length + D.length : Nat) : Int) + 1) = ((A.length + D.length + 1 : Nat) : Int) := by rw [wrap_i64 (by omega) (by omega)]; omega
  obtain ⟨N, hN⟩ : ∃ N, N = A.length + D.length + 1 := ⟨_, rfl⟩
  rw [← hN] at w2
  have mk : ∀ H : Heap, mkslOf 45 [.int .u64 0] (.int .i64 (N : Int)) (.int .i64 (N : Int)) H = some (.sl H.length 0 N 1 (some N), H ++ [.cells ((List.replicate N 0).flatMap W64) 45 true]) := fun H => by
    have hr : roomy N = true := by simp [roomy]; omega
    simp [mkslOf, hr, ← w64_zeros]
  simp only [s53, R1, R2, R3, R4, R5, R6, R7, R8, AV.flat, fillIn_nil, fillIn_cons, splice, AV.cells, AV.one, eqsOf, idx, SO.calls, List.reduceReplicate, Nat.reduceBEq, Nat.reduceLT, Nat.reduceAdd, Nat.reduceMul, Nat.reduceSub, Nat.reduceLeDiff, Nat.reduceEqDiff, ↓reduceIte, Int.reduceLT, Int.reduceEq, Int.reduceBNe, Int.reduceBEq, aeq, Int.reduceLE, Int.reduceNeg, Int.reduceMul, Int.reduceAdd, Int.reduceSub, Int.reduceToNat, Int.reducePow, z1, z2, z3, z4, l1, l2, w1, w2, mk]
  refine ends_loop (fun k t H' => t.length = 72 ∧ t.getD 2 .undef = .ptr H.length 0 ∧ t.getD 3 .undef = .ptr (H.length + 1) 0 ∧ t.getD 4 .undef = .ptr (H.length + 2) 0 ∧ t.getD 5 .undef = .sl (H.length + 3) 0 N 1 (some N) ∧ ∃ O i, H ++ [BX (.bool b1) v, BX (.bool b2) w, BX (.bool false) .nils, .cells (O.flatMap W64) 45 true] = H' ∧ Dig O ∧ O.length = N ∧ i ≤ A.length ∧ k = A.length - i ∧ t.getD 6 .undef = .int .i64 ((i : Nat) : Int) ∧ val O = val (A.take i) * val D) A.length ?_ ?_
  · simp only [R1, R2, R3, R4, R5, R6, R7, R8, AV.flat, fillIn_nil, fillIn_cons, splice, AV.cells, AV.one, eqsOf, idx, SO.calls, List.reduceReplicate, Nat.reduceBEq, Nat.reduceLT, Nat.reduceAdd, Nat.reduceMul, Nat.reduceSub, Nat.reduceLeDiff, Nat.reduceEqDiff, ↓reduceIte, Int.reduceLT, Int.reduceEq, Int.reduceBNe, Int.reduceBEq, aeq, Int.reduceLE, Int.reduceNeg, Int.reduceMul, Int.reduceAdd, Int.reduceSub, Int.reduceToNat, Int.reducePow]
    exact ⟨List.replicate N 0, 0, rfl, fun d hd => by have := (List.mem_replicate.1 hd).2; omega, by simp, by omega, by omega, rfl, by rw [val_zeros]; simp [val]⟩
  rintro k t _ ⟨k1, k2, k3, k4, k5, O, i, rfl, hO, hOl, hi, hk, k6, hv⟩
  rw [← tm_nil t]
  by_cases hin : i < A.length
  · have a1 : ((i : Int) < (A.length : Int)) = True := eq_true (by omega)
    simp only [R1, R2, R3, R4, R5, R6, R7, R8, AV.flat, fillIn_nil, fillIn_cons, splice, AV.cells, AV.one, eqsOf, idx, SO.calls, List.reduceReplicate, Nat.reduceBEq, Nat.reduceLT, Nat.reduceAdd, Nat.reduceMul, Nat.reduceSub, Nat.reduceLeDiff, Nat.reduceEqDiff, ↓reduceIte, Int.reduceLT, Int.reduceEq, Int.reduceBNe, Int.reduceBEq, aeq, Int.reduceLE, Int.reduceNeg, Int.reduceMul, Int.reduceAdd, Int.reduceSub, Int.reduceToNat, Int.reducePow, k1, k2, k3, k4, k5, k6, l1, a1]
    refine ends_loop (fun k' t H' => t.length = 72 ∧ t.getD 2 .undef = .ptr H.length 0 ∧ t.getD 3 .undef = .ptr (H.length + 1) 0 ∧ t.getD 4 .undef = .ptr (H.length + 2) 0 ∧ t.getD 5 .undef = .sl (H.length + 3) 0 N 1 (some N) ∧ t.getD 6 .undef = .int .i64 ((i : Nat) : Int) ∧ ∃ O j c, H ++ [BX (.bool b1) v, BX (.bool b2) w, BX (.bool false) .nils, .cells (O.flatMap W64) 45 true] = H' ∧ Dig O ∧ O.length = N ∧ j ≤ D.length + 1 ∧ k' = D.length + 1 - j ∧ c < 65536 ∧ t.getD 8 .undef = .int .i64 ((j : Nat) : Int) ∧ t.getD 7 .undef = .int .u64 ((c : Nat) : Int) ∧ val O + 65536 ^ (i + j) * c = val (A.take i) * val D + 65536 ^ i * A.getD i 0 * val (D.take j)) (D.length + 1) ?_ ?_
    · simp only [R1, R2, R3, R4, R5, R6, R7, R8, AV.flat, fillIn_nil, fillIn_cons, splice, AV.cells, AV.one, eqsOf, idx, SO.calls, List.reduceReplicate, Nat.reduceBEq, Nat.reduceLT, Nat.reduceAdd, Nat.reduceMul, Nat.reduceSub, Nat.reduceLeDiff, Nat.reduceEqDiff, ↓reduceIte, Int.reduceLT, Int.reduceEq, Int.reduceBNe, Int.reduceBEq, aeq, Int.reduceLE, Int.reduceNeg, Int.reduceMul, Int.reduceAdd, Int.reduceSub, Int.reduceToNat, Int.reducePow, k1, k2, k3, k4, k5, k6]
      exact ⟨O, 0, 0, rfl, hO, hOl, by omega, by omega, by omega, rfl, rfl, by simp [val, hv]⟩
    clear k1 k2 k3 k4 k5 k6 hv hO hOl
    clear O t
    rintro k' t _ ⟨k1, k2, k3, k4, k5, k6, O, j, c, rfl, hO, hOl, hj, hk', hc, k7, k8, hv⟩
    rw [← tm_nil t]
    by_cases hgo : j < D.length ∨ 0 < c
    · have hj2 : j ≤ D.length := by
        by_cases h : j < D.length
        · omega
        · refine mul_bound dA dB (by omega) (show 0 < c by omega) (i := i) (O := val O) ?_
          rw [hv, val_all (l := D) (by omega), val_suc A i, Nat.add_mul]
      have e1 := fun X => c72 (h2.app X) j
      have g1 := w64_addr h1 hin
      have g2 := w64_load h1 hin
      have b1' := dA.at i
      have b2' := dB.at j
      have b3' := hO.at (i + j)
      have hst := fun x hx => mul_step (x := x) (a := A.getD i 0) (b := D.getD j 0) (o := O.getD (i + j) 0) (O' := val (O.set (i + j) (x % 65536))) hv hx (val_set (by omega))
      rw [← mul_at] at hst
      have hg := w64_get (l := O) (j := i + j) (by omega)
      have hsp := fun x => w64_set (l := O) (j := i + j) (x := x) (by omega)
      have hOL := w64_len O
      have pb := Nat.mul_le_mul (show A.getD i 0 ≤ 65535 by omega) (show D.getD j 0 ≤ 65535 by omega)
      generalize hp : A.getD i 0 = p at *
      generalize hq : D.getD j 0 = q at *
      generalize ho : O.getD (i + j) 0 = o at *
      have pm : IntKind.u64.wrap ((p : Int) * (q : Int)) = ((p * q : Nat) : Int) := by rw [← Int.natCast_mul, wrap_u64_mod]; omega
      have hst := hst (o + p * q + c) rfl
      generalize p * q = pq at *
      have w3 : IntKind.i64.wrap ((i : Int) + (j : Int)) = ((i + j : Nat) : Int) := by rw [wrap_i64 (by omega) (by omega)]; omega
      have w4 : IntKind.u64.wrap ((o : Int) + (pq : Int)) = ((o + pq : Nat) : Int) := by rw [wrap_u64_mod]; omega
      have w5 : IntKind.u64.wrap (((o + pq : Nat) : Int) + (c : Int)) = ((o + pq + c : Nat) : Int) := by rw [wrap_u64_mod]; omega
      have w6 : ((o + pq + c : Nat) : Int).tmod 65536 = (((o + pq + c) % 65536 : Nat) : Int) := by rw [Int.tmod_eq_emod_of_nonneg (by omega)]; omega
      have w7 : IntKind.u64.wrap (((o + pq + c : Nat) : Int).tdiv 65536) = (((o + pq + c) / 65536 : Nat) : Int) := by rw [Int.tdiv_eq_ediv_of_nonneg (by omega), wrap_u64_mod]; omega
      have w8 : IntKind.i64.wrap ((j : Int) + 1) = ((j + 1 : Nat) : Int) := by rw [wrap_i64 (by omega) (by omega)]; rfl
      have r1 : (((i + j : Nat) : Int) < (N : Int)) = True := eq_true (by omega)
      have r2 : (i + j + 1 ≤ N) = True := eq_true (by omega)
      have hsp := hsp ((o + pq + c) % 65536)
      have hOl2 : (O.set (i + j) ((o + pq + c) % 65536)).length = N := by simp [hOl]
      have hO2 := hO.set (i := i + j) (x := (o + pq + c) % 65536) (by omega)
      generalize O.set (i + j) ((o + pq + c) % 65536) = O2 at *
      generalize List.flatMap W64 O = row at *
      rw [hOl] at hOL
      simp only [splice, List.length_cons, List.length_nil] at hsp
      have hlast : val O2 + 65536 ^ (i + (j + 1)) * ((o + pq + c) / 65536) = val (A.take i) * val D + 65536 ^ i * p * val (D.take (j + 1)) := by
        rw [← Nat.add_assoc, Nat.pow_succ]
        exact hst
      by_cases hj3 : j < D.length
      · have a2 : ((j : Int) < (D.length : Int)) = True := eq_true (by omega)
        simp only [R1, R2, R3, R4, R5, R6, R7, R8, AV.flat, fillIn_nil, fillIn_cons, splice, AV.cells, AV.one, eqsOf, idx, SO.calls, List.reduceReplicate, Nat.reduceBEq, Nat.reduceLT, Nat.reduceAdd, Nat.reduceMul, Nat.reduceSub, Nat.reduceLeDiff, Nat.reduceEqDiff, ↓reduceIte, Int.reduceLT, Int.reduceEq, Int.reduceBNe, Int.reduceBEq, aeq, Int.reduceLE, Int.reduceNeg, Int.reduceMul, Int.reduceAdd, Int.reduceSub, Int.reduceToNat, Int.reducePow, k1, k2, k3, k4, k5, k6, k7, k8, l1, l2, a2, e1, g1, g2, hg, hsp, hOL, r1, r2, pm, w3, w4, w5, w6, w7, w8, veil_un, shun_un]
        exact ⟨D.length + 1 - (j + 1), by omega, O2, j + 1, (o + pq + c) / 65536, rfl, hO2, hOl2, by omega, rfl, by omega, rfl, rfl, hlast⟩
      · have a2 : ((j : Int) < (D.length : Int)) = False := eq_false (by omega)
        have a3 : ((c : Int) > 0) = True := eq_true (by omega)
        simp only [R1, R2, R3, R4, R5, R6, R7, R8, AV.flat, fillIn_nil, fillIn_cons, splice, AV.cells, AV.one, eqsOf, idx, SO.calls, List.reduceReplicate, Nat.reduceBEq, Nat.reduceLT, Nat.reduceAdd, Nat.reduceMul, Nat.reduceSub, Nat.reduceLeDiff, Nat.reduceEqDiff, ↓reduceIte, Int.reduceLT, Int.reduceEq, Int.reduceBNe, Int.reduceBEq, aeq, Int.reduceLE, Int.reduceNeg, Int.reduceMul, Int.reduceAdd, Int.reduceSub, Int.reduceToNat, Int.reducePow, k1, k2, k3, k4, k5, k6, k7, k8, l1, l2, a2, a3, e1, g1, g2, hg, hsp, hOL, r1, r2, pm, w3, w4, w5, w6, w7, w8, veil_un, shun_un]
        exact ⟨D.length + 1 - (j + 1), by omega, O2, j + 1, (o + pq + c) / 65536, rfl, hO2, hOl2, by omega, rfl, by omega, rfl, rfl, hlast⟩
    · have a2 : ((j : Int) < (D.length : Int)) = False := eq_false (by omega)
      have a3 : ((c : Int) > 0) = False := eq_false (by omega)
      have w3 : IntKind.i64.wrap ((i : Int) + 1) = ((i + 1 : Nat) : Int) := by rw [wrap_i64 (by omega) (by omega)]; rfl
      simp only [R1, R2, R3, R4, R5, R6, R7, R8, AV.flat, fillIn_nil, fillIn_cons, splice, AV.cells, AV.one, eqsOf, idx, SO.calls, List.reduceReplicate, Nat.reduceBEq, Nat.reduceLT, Nat.reduceAdd, Nat.reduceMul, Nat.reduceSub, Nat.reduceLeDiff, Nat.reduceEqDiff, ↓reduceIte, Int.reduceLT, Int.reduceEq, Int.reduceBNe, Int.reduceBEq, aeq, Int.reduceLE, Int.reduceNeg, Int.reduceMul, Int.reduceAdd, Int.reduceSub, Int.reduceToNat, Int.reducePow, k1, k2, k3, k4, k5, k6, k7, k8, l1, l2, a2, a3, w3]
      refine ⟨A.length - (i + 1), by omega, O, i + 1, rfl, hO, hOl, by omega, rfl, rfl, ?_⟩
      obtain rfl : c = 0 := by omega
      rw [val_all (l := D) (by omega), Nat.mul_zero, Nat.add_zero] at hv
      rw [hv, val_suc A i, Nat.add_mul]
  · have a1 : ((i : Int) < (A.length : Int)) = False := eq_false (by omega)
    have q1 := TOf.new (H := H ++ [BX (.bool b1) v, BX (.bool b2) w, BX (.bool false) .nils]) (e := 45) (g := W64) (sz := 1) (w := true) (cap := some N) (l := O) (fun a _ => rfl) (by decide)
    simp only [List.length_append, List.length_cons, List.length_nil, List.append_assoc, List.cons_append, List.nil_append, Nat.zero_add, Nat.reduceAdd, hOl] at q1
    rw [val_all (l := A) (by omega), vA, vB, hsg] at hv
    obtain ⟨u, u1, u2, u3, u4⟩ := add_end (b := b1 != b2) (z := x * y) q1 hO (by omega) hv hb
    simp only [AV.cells, AV.one] at u1 u2
    generalize decide (x * y < 0) = b3 at *
    have hbb : (!(b1 == b2)) = (b1 != b2) := rfl
    simp only [R1, R2, R3, R4, R5, R6, R7, R8, AV.flat, fillIn_nil, fillIn_cons, splice, AV.cells, AV.one, eqsOf, idx, SO.calls, List.reduceReplicate, Nat.reduceBEq, Nat.reduceLT, Nat.reduceAdd, Nat.reduceMul, Nat.reduceSub, Nat.reduceLeDiff, Nat.reduceEqDiff, ↓reduceIte, Int.reduceLT, Int.reduceEq, Int.reduceBNe, Int.reduceBEq, aeq, Int.reduceLE, Int.reduceNeg, Int.reduceMul, Int.reduceAdd, Int.reduceSub, Int.reduceToNat, Int.reducePow, k1, k2, k3, k4, k5, k6, l1, l2, a1, hbb, u1, u2, u3, leftE_ret, got_some]
    exact u4
end Go.Proofs.YtdlolhkeckjipaaDoor
