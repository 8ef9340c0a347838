/- Division of 128 bits by 64. -/
import Derived.Test.YtdlolhkeckjipaaDoorPureDiv
import Derived.Test.YtdlolhkeckjipaaDoorC03c
set_option linter.unusedVariables false
set_option linter.unusedSimpArgs false
set_option maxRecDepth 100000
set_option maxHeartbeats 8000000
namespace Go.Proofs.YtdlolhkeckjipaaDoor
open Go Go.Den
theorem ends_loop_to {cl : CL} {a : SC} {id : Nat} {t : List AV} {H : Heap} {Q : AX → List AV → Heap → Prop} (M : List AV → Heap → Prop) (h : Den.Ends cl (.loop a) t H (fun x t H => x = .exit id ∧ M t H)) (k : ∀ t H, M t H → Q .normal t H) : Den.Ends cl (.loop a) t H (Den.blocked id Q) := by
  refine h.mono fun x t H hx => ?_
  obtain ⟨rfl, hm⟩ := hx
  rw [blocked_exit, if_pos rfl]
  exact k t H hm
theorem c85 {n : Nat} (h : n < 18446744073709551616) (H : Heap) : call env 85 [.int .u64 (n : Int)] H = some (.int .i64 ((64 - blen n : Nat) : Int), H) := by
  have e1 := fun H => c80 h H
  have hb := blen_small (n := n) (k := 64) h
  have w1 : IntKind.i64.wrap (64 - (blen n : Int)) = ((64 - blen n : Nat) : Int) := by rw [wrap_i64 (by omega) (by omega)]; omega
  refine call_ends (fn := s85) rfl rfl (by simp [s85]) ?_
  simp only [s85, R1, R2, R3, R4, R5, R6, R7, R8, AV.flat, fillIn_nil, fillIn_cons, splice, AV.cells, AV.one, eqsOf, idx, SO.calls, List.reduceReplicate, Nat.reduceBEq, Nat.reduceLT, Nat.reduceAdd, Nat.reduceMul, Nat.reduceSub, Nat.reduceLeDiff, Nat.reduceEqDiff, ↓reduceIte, Int.reduceLT, Int.reduceEq, Int.reduceBNe, Int.reduceBEq, aeq, Int.reduceLE, Int.reduceNeg, Int.reduceMul, Int.reduceAdd, Int.reduceSub, Int.reduceToNat, Int.reducePow, e1, w1]
  rw [tidy_int]
theorem wide_parts (N : Nat) : N = N / 18446744073709551616 * 18446744073709551616 + (N % 18446744073709551616 / 4294967296 * 4294967296 + N % 18446744073709551616 % 4294967296) := by omega
theorem div_parts {N U L u1 u0 M1 : Nat} (h : N = U * 18446744073709551616 + (L / 4294967296 * 4294967296 + L % 4294967296)) (h1 : u1 = L / 4294967296) (h0 : u0 = L % 4294967296) (hM : M1 = U * 4294967296 + u1) : N = M1 * 4294967296 + u0 := by
  rw [← h1, ← h0] at h
  rw [h, hM, Nat.add_mul, Nat.mul_assoc, Nat.add_assoc]
/-- One of its two loops: how it goes on. -/
theorem div_step {U u y n1 n0 q r : Nat} (hy : y = n1 * 4294967296 + n0) (h0 : n0 < 4294967296) (hU : U < y) (hu : u < 4294967296) (hq : q * n1 + r = U) (hc : q ≥ 4294967296 ∨ q * n0 > 4294967296 * r + u) : (U * 4294967296 + u) / y ≤ q - 1 ∧ 0 < q ∧ (q - 1) * n1 + (r + n1) = U := by
  have hlt : (U * 4294967296 + u) / y < q := by
    rcases hc with h | h
    · exact Nat.lt_of_lt_of_le (div_top hU hu) h
    · exact div_more hy h0 hq h
  obtain ⟨Q, hQ⟩ : ∃ Q, Q = (U * 4294967296 + u) / y := ⟨_, rfl⟩
  rw [← hQ] at hlt ⊢
  clear hQ
  refine ⟨by omega, by omega, ?_⟩
  obtain ⟨p, rfl⟩ : ∃ p, q = p + 1 := ⟨q - 1, by omega⟩
  rw [Nat.succ_mul] at hq
  rw [Nat.add_sub_cancel]
  omega
theorem c79 {h l y : Nat} (hh : h < y) (hl : l < 18446744073709551616) (hy : y < 18446744073709551616) (H : Heap) : call env 79 [.int .u64 (h : Int), .int .u64 (l : Int), .int .u64 (y : Int)] H = some (.tup [.int .u64 (((h * 18446744073709551616 + l) / y : Nat) : Int), .int .u64 (((h * 18446744073709551616 + l) % y : Nat) : Int)], H) := by
  by_cases hz : h = 0
  · subst hz
    rw [Nat.zero_mul, Nat.zero_add]
    exact c79_0 hl (by omega) hy H
  have b0 := blen_le (n := y) (by omega)
  have b1 := blen_lt y
  have b2 := blen_small (n := y) (k := 64) hy
  have lz := fun H => c85 hy H
  obtain ⟨s, hs⟩ : ∃ s, s = 64 - blen y := ⟨_, rfl⟩
  rw [← hs] at lz
  have hsb : s ≤ 63 := by omega
  have p63 : 2 ^ (blen y - 1) * 2 ^ s = 2 ^ 63 := by rw [← Nat.pow_add]; congr 1; omega
  have p64 : 2 ^ blen y * 2 ^ s = 2 ^ 64 := by rw [← Nat.pow_add]; congr 1; omega
  have ps := Nat.two_pow_pos s
  have y1 : 9223372036854775808 ≤ y * 2 ^ s := by
    have := Nat.mul_le_mul_right (2 ^ s) b0.2
    omega
  have y2 : y * 2 ^ s < 18446744073709551616 := by
    have := Nat.mul_lt_mul_of_pos_right b1 ps
    omega
  obtain ⟨x, hx⟩ : ∃ x, x = h * 18446744073709551616 + l := ⟨_, rfl⟩
  have hxd : x / 18446744073709551616 = h := by omega
  have hxm : x % 18446744073709551616 = l := by omega
  have hN : x * 2 ^ s < y * 2 ^ s * 18446744073709551616 := by
    have h3 : x < y * 18446744073709551616 := by omega
    have := Nat.mul_lt_mul_of_pos_right h3 ps
    rwa [Nat.mul_right_comm] at this
  have hN2 : x * 2 ^ s < 2 ^ 128 := by omega
  have o1 := left_hi x s (by omega) hN2
  have o2 := left_lo x s
  have hhs : h * 2 ^ s < 18446744073709551616 := by
    have : h * 2 ^ s ≤ y * 2 ^ s := Nat.mul_le_mul_right _ (by omega)
    omega
  rw [show (2 : Nat) ^ 64 = 18446744073709551616 from rfl, hxd, hxm] at o1
  rw [show (2 : Nat) ^ 64 = 18446744073709551616 from rfl, hxm] at o2
  have dv : x * 2 ^ s / (y * 2 ^ s) = x / y := Nat.mul_div_mul_right _ _ ps
  have dm : x * 2 ^ s % (y * 2 ^ s) = x % y * 2 ^ s := Nat.mul_mod_mul_right _ _ _
  have sm : (s : Int) = ((64 - blen y : Nat) : Int) := by rw [hs]
  have v1 : IntKind.u64.wrap (s : Int) = (s : Int) := by rw [wrap_u64_mod]; omega
  have n1 : ((s : Int) < 0) = False := eq_false (by omega)
  have n2 : (s ≤ 64) = True := eq_true (by omega)
  have n3 : (((64 - s : Nat) : Int) < 0) = False := eq_false (by omega)
  have n4 : (64 - s ≤ 64) = True := eq_true (by omega)
  have w1 : IntKind.u64.wrap (64 - (s : Int)) = ((64 - s : Nat) : Int) := by rw [wrap_u64_mod]; omega
  have d1 : IntKind.u64.wrap ((y : Int) * 2 ^ s) = ((y * 2 ^ s : Nat) : Int) := by rw [wrap_u64_mod, mul_cast, Nat.mod_eq_of_lt y2]
  have d2 : IntKind.u64.wrap ((h : Int) * 2 ^ s) = ((h * 2 ^ s % 18446744073709551616 : Nat) : Int) := by rw [wrap_u64_mod, mul_cast]
  have d3 : IntKind.u64.wrap ((l : Int) * 2 ^ s) = ((x * 2 ^ s % 18446744073709551616 : Nat) : Int) := by rw [wrap_u64_mod, mul_cast, o2]
  have d4 := fdiv_nat l (64 - s)
  have a1 : abits .or .u64 ((h * 2 ^ s % 18446744073709551616 : Nat) : Int) ((l / 2 ^ (64 - s) : Nat) : Int) = ((x * 2 ^ s / 18446744073709551616 : Nat) : Int) := by
    rw [or_nat (by omega) (Nat.lt_of_le_of_lt (Nat.div_le_self _ _) (by omega)), o1]
  have hU : x * 2 ^ s / 18446744073709551616 < y * 2 ^ s := by rw [Nat.div_lt_iff_lt_mul (by decide)]; exact hN
  have hNs := wide_parts (x * 2 ^ s)
  have hl32 : x * 2 ^ s % 18446744073709551616 < 18446744073709551616 := by omega
  have dS := fun z => fdiv_nat z s
  have rS : (x % y * 2 ^ s) / 2 ^ s = x % y := Nat.mul_div_cancel _ ps
  have qx : (((h * 18446744073709551616 + l) / y : Nat) : Int) = ((x * 2 ^ s / (y * 2 ^ s) : Nat) : Int) := by rw [dv, hx]
  have rx : (((h * 18446744073709551616 + l) % y : Nat) : Int) = ((x * 2 ^ s % (y * 2 ^ s) / 2 ^ s : Nat) : Int) := by rw [dm, rS, hx]
  rw [qx, rx]
  have c1 : ((y : Int) == 0) = false := by rw [beq_eq_false_iff_ne]; omega
  have c2 : ((y : Int) ≤ (h : Int)) = False := eq_false (by omega)
  have c3 : ((h : Int) == 0) = false := by rw [beq_eq_false_iff_ne]; omega
  clear o1 o2 dv dm qx rx hx hxd hxm sm
  generalize x * 2 ^ s = N at *
  generalize hY : y * 2 ^ s = Y at *
  obtain ⟨U, hUe⟩ : ∃ U, U = N / 18446744073709551616 := ⟨_, rfl⟩
  obtain ⟨L, hLe⟩ : ∃ L, L = N % 18446744073709551616 := ⟨_, rfl⟩
  rw [← hUe] at a1 hU hNs
  rw [← hLe] at d3 hNs hl32
  have m1 := and_mask (x := Y) y2
  have m2 := and_mask hl32
  have e1 : (Y : Int).fdiv 4294967296 = ((Y / 4294967296 : Nat) : Int) := fdiv_k _ 32 _ (by decide)
  have e2 : (L : Int).fdiv 4294967296 = ((L / 4294967296 : Nat) : Int) := fdiv_k _ 32 _ (by decide)
  obtain ⟨n1', hn1e⟩ : ∃ n, n = Y / 4294967296 := ⟨_, rfl⟩
  obtain ⟨n0', hn0e⟩ : ∃ n, n = Y % 4294967296 := ⟨_, rfl⟩
  obtain ⟨u1, hu1e⟩ : ∃ n, n = L / 4294967296 := ⟨_, rfl⟩
  obtain ⟨u0, hu0e⟩ : ∃ n, n = L % 4294967296 := ⟨_, rfl⟩
  obtain ⟨M1, hM1⟩ : ∃ M, M = U * 4294967296 + u1 := ⟨_, rfl⟩
  obtain ⟨Rm, hR1⟩ : ∃ R, R = M1 % Y := ⟨_, rfl⟩
  obtain ⟨K, hK⟩ : ∃ K, K = Rm * 4294967296 + u0 := ⟨_, rfl⟩
  rw [← hn1e] at e1
  rw [← hn0e] at m1
  rw [← hu1e] at e2
  rw [← hu0e] at m2
  have hNM := div_parts hNs hu1e hu0e hM1
  obtain ⟨dB1, dB2⟩ := div_both (y := Y) (K := K) hNM (by subst hR1; exact hK) (by omega)
  have hy : Y = n1' * 4294967296 + n0' := by omega
  have hn0 : n0' < 4294967296 := by omega
  have hn1 : 2147483648 ≤ n1' := by omega
  have hn1' : n1' < 4294967296 := by omega
  have hu1 : u1 < 4294967296 := by omega
  have hu0 : u0 < 4294967296 := by omega
  rw [dB1, dB2]
  clear hn1e hn0e hu1e hu0e dB1 dB2 hNM hNs hLe hUe
  have hR1l : Rm < Y := by rw [hR1]; exact Nat.mod_lt _ (by omega)
  have hR1s := Nat.div_add_mod M1 Y
  rw [← hR1] at hR1s
  have hK1s := Nat.div_add_mod K Y
  have hK1l := Nat.mod_lt K (show Y > 0 by omega)
  have top1 := div_top hU hu1
  have top0 := div_top hR1l hu0
  rw [← hM1] at top1
  rw [← hK] at top0
  have c4 : ((n1' : Int) = 0) = False := eq_false (by omega)
  -- the first digit that is tried
  have first : ∀ W w : Nat, W < Y → w < 4294967296 → IntKind.u64.wrap ((W : Int).tdiv (n1' : Int)) = ((W / n1' : Nat) : Int) ∧ IntKind.u64.wrap (((W / n1' : Nat) : Int) * (n1' : Int)) = ((n1' * (W / n1') : Nat) : Int) ∧ IntKind.u64.wrap ((W : Int) - ((n1' * (W / n1') : Nat) : Int)) = ((W % n1' : Nat) : Int) ∧ W / n1' * n1' + W % n1' = W ∧ W % n1' < 4294967296 := fun W w hW hw => by
    have hdm := Nat.div_add_mod W n1'
    have hml := Nat.mod_lt W (show n1' > 0 by omega)
    have hle := Nat.div_le_self W n1'
    have hcm : W / n1' * n1' = n1' * (W / n1') := Nat.mul_comm _ _
    have t1 : (W : Int).tdiv (n1' : Int) = ((W / n1' : Nat) : Int) := by rw [Int.tdiv_eq_ediv_of_nonneg (by omega), ← Int.natCast_ediv]
    rw [t1, ← Int.natCast_mul, hcm]
    generalize W / n1' = q at *
    generalize W % n1' = r at *
    generalize n1' * q = z at *
    refine ⟨by rw [wrap_u64_mod]; omega, by rw [wrap_u64_mod]; omega, by rw [wrap_u64_mod]; omega, by omega, by omega⟩
  obtain ⟨t1, t2, t3, t4, t5⟩ := first U u1 hU hu1
  obtain ⟨s1, s2, s3, s4, s5⟩ := first Rm u0 hR1l hu0
  obtain ⟨f1, f2⟩ := div_first hy hn0 hn1 hU u1 hu1
  obtain ⟨f3, f4⟩ := div_first hy hn0 hn1 hR1l u0 hu0
  rw [← hM1] at f1
  rw [← hK] at f3
  -- one round
  have prod : ∀ q : Nat, q < 4294967296 → IntKind.u64.wrap ((q : Int) * (n0' : Int)) = ((q * n0' : Nat) : Int) := fun q h => by
    have := Nat.mul_le_mul (show q ≤ 4294967295 by omega) (show n0' ≤ 4294967295 by omega)
    rw [← Int.natCast_mul]
    generalize q * n0' = z at *
    rw [wrap_u64_mod]
    omega
  have sums : ∀ r u : Nat, r < 4294967296 → u < 4294967296 → IntKind.u64.wrap (4294967296 * (r : Int)) = ((4294967296 * r : Nat) : Int) ∧ IntKind.u64.wrap (((4294967296 * r : Nat) : Int) + (u : Int)) = ((4294967296 * r + u : Nat) : Int) ∧ IntKind.u64.wrap ((r : Int) + (n1' : Int)) = ((r + n1' : Nat) : Int) := fun r u h1 h2 => by
    refine ⟨by rw [wrap_u64_mod]; omega, by rw [wrap_u64_mod]; omega, by rw [wrap_u64_mod]; omega⟩
  refine call_ends (fn := s79) rfl rfl (by simp [s79]) ?_
  simp only [s79, R1, R2, R3, R4, R5, R6, R7, R8, AV.flat, fillIn_nil, fillIn_cons, splice, AV.cells, AV.one, eqsOf, idx, SO.calls, List.reduceReplicate, Nat.reduceBEq, Nat.reduceLT, Nat.reduceAdd, Nat.reduceMul, Nat.reduceSub, Nat.reduceLeDiff, Nat.reduceEqDiff, ↓reduceIte, Int.reduceLT, Int.reduceEq, Int.reduceBNe, Int.reduceBEq, aeq, Int.reduceLE, Int.reduceNeg, Int.reduceMul, Int.reduceAdd, Int.reduceSub, Int.reduceToNat, Int.reducePow, c1, c2, c3, c4, lz, v1, n1, n2, n3, n4, w1, d1, d2, d3, d4, a1, m1, m2, e1, e2, t1, t2, t3]
  refine ends_loop_to (fun t H' => t.length = 135 ∧ H = H' ∧ t.getD 2 .undef = .int .u64 (Y : Int) ∧ t.getD 8 .undef = .int .u64 (s : Int) ∧ t.getD 9 .undef = .int .u64 (n1' : Int) ∧ t.getD 10 .undef = .int .u64 (n0' : Int) ∧ t.getD 11 .undef = .int .u64 (U : Int) ∧ t.getD 13 .undef = .int .u64 (u1 : Int) ∧ t.getD 14 .undef = .int .u64 (u0 : Int) ∧ t.getD 15 .undef = .int .u64 ((M1 / Y : Nat) : Int)) ?_ ?_
  · refine ends_loop (fun k t H' => t.length = 135 ∧ H = H' ∧ t.getD 2 .undef = .int .u64 (Y : Int) ∧ t.getD 8 .undef = .int .u64 (s : Int) ∧ t.getD 9 .undef = .int .u64 (n1' : Int) ∧ t.getD 10 .undef = .int .u64 (n0' : Int) ∧ t.getD 11 .undef = .int .u64 (U : Int) ∧ t.getD 13 .undef = .int .u64 (u1 : Int) ∧ t.getD 14 .undef = .int .u64 (u0 : Int) ∧
      ∃ r : Nat, t.getD 15 .undef = .int .u64 (k : Int) ∧ t.getD 16 .undef = .int .u64 (r : Int) ∧ k * n1' + r = U ∧ M1 / Y ≤ k ∧ k ≤ 4294967297 ∧ r < 4294967296) (U / n1') ?_ ?_
    · simp only [R1, R2, R3, R4, R5, R6, R7, R8, AV.flat, fillIn_nil, fillIn_cons, splice, AV.cells, AV.one, eqsOf, idx, SO.calls, List.reduceReplicate, Nat.reduceBEq, Nat.reduceLT, Nat.reduceAdd, Nat.reduceMul, Nat.reduceSub, Nat.reduceLeDiff, Nat.reduceEqDiff, ↓reduceIte, Int.reduceLT, Int.reduceEq, Int.reduceBNe, Int.reduceBEq, aeq, Int.reduceLE, Int.reduceNeg, Int.reduceMul, Int.reduceAdd, Int.reduceSub, Int.reduceToNat, Int.reducePow]
      exact ⟨U % n1', rfl, t4, f1, f2, t5⟩
    rintro q t _ ⟨k0, rfl, k1, k2, k3, k4, k5, k6, k7, r, k8, k9, g1, g2, g3, g4⟩
    rw [← tm_nil t]
    obtain ⟨x2, x3, x4⟩ := sums r u1 g4 hu1
    have x5 : 0 < q → IntKind.u64.wrap ((q : Int) - 1) = ((q - 1 : Nat) : Int) := fun h => by rw [wrap_u64_mod]; omega
    have dst := div_step hy hn0 hU hu1 g1
    rw [← hM1] at dst
    have dl3 : ∀ q r, q * n1' + r = U → q * n0' ≤ 4294967296 * r + u1 → q ≤ M1 / Y := fun q r h1 h2 => by
      have := div_less (u := u1) hy (by omega) h1 h2
      rwa [← hM1] at this
    clear hR1s top1 f1
    generalize M1 / Y = Q1 at *
    by_cases hc : q ≥ 4294967296
    · obtain ⟨y1, y2, y3⟩ := dst (.inl hc)
      have z1 : ((q : Int) ≥ 4294967296) = True := eq_true (by omega)
      by_cases hr : r + n1' ≥ 4294967296
      · have z2 : (((r + n1' : Nat) : Int) ≥ 4294967296) = True := eq_true (by omega)
        have dl := dl3 _ _ y3 (div_break (by omega) hn0 hr)
        simp only [R1, R2, R3, R4, R5, R6, R7, R8, AV.flat, fillIn_nil, fillIn_cons, splice, AV.cells, AV.one, eqsOf, idx, SO.calls, List.reduceReplicate, Nat.reduceBEq, Nat.reduceLT, Nat.reduceAdd, Nat.reduceMul, Nat.reduceSub, Nat.reduceLeDiff, Nat.reduceEqDiff, ↓reduceIte, Int.reduceLT, Int.reduceEq, Int.reduceBNe, Int.reduceBEq, aeq, Int.reduceLE, Int.reduceNeg, Int.reduceMul, Int.reduceAdd, Int.reduceSub, Int.reduceToNat, Int.reducePow, k0, k1, k2, k3, k4, k5, k6, k7, k8, k9, z1, z2, x4, x5 y2]
        rw [show q - 1 = Q1 by omega]
      · have z2 : (((r + n1' : Nat) : Int) ≥ 4294967296) = False := eq_false (by omega)
        simp only [R1, R2, R3, R4, R5, R6, R7, R8, AV.flat, fillIn_nil, fillIn_cons, splice, AV.cells, AV.one, eqsOf, idx, SO.calls, List.reduceReplicate, Nat.reduceBEq, Nat.reduceLT, Nat.reduceAdd, Nat.reduceMul, Nat.reduceSub, Nat.reduceLeDiff, Nat.reduceEqDiff, ↓reduceIte, Int.reduceLT, Int.reduceEq, Int.reduceBNe, Int.reduceBEq, aeq, Int.reduceLE, Int.reduceNeg, Int.reduceMul, Int.reduceAdd, Int.reduceSub, Int.reduceToNat, Int.reducePow, k0, k1, k2, k3, k4, k5, k6, k7, k8, k9, z1, z2, x4, x5 y2]
        exact ⟨q - 1, by omega, r + n1', rfl, rfl, y3, y1, by omega, by omega⟩
    · have z1 : ((q : Int) ≥ 4294967296) = False := eq_false (by omega)
      have x1 := prod q (by omega)
      by_cases hp : q * n0' > 4294967296 * r + u1
      · obtain ⟨y1, y2, y3⟩ := dst (.inr hp)
        have z3 : (((q * n0' : Nat) : Int) > ((4294967296 * r + u1 : Nat) : Int)) = True := eq_true (by omega)
        by_cases hr : r + n1' ≥ 4294967296
        · have z2 : (((r + n1' : Nat) : Int) ≥ 4294967296) = True := eq_true (by omega)
          have dl := dl3 _ _ y3 (div_break (by omega) hn0 hr)
          simp only [R1, R2, R3, R4, R5, R6, R7, R8, AV.flat, fillIn_nil, fillIn_cons, splice, AV.cells, AV.one, eqsOf, idx, SO.calls, List.reduceReplicate, Nat.reduceBEq, Nat.reduceLT, Nat.reduceAdd, Nat.reduceMul, Nat.reduceSub, Nat.reduceLeDiff, Nat.reduceEqDiff, ↓reduceIte, Int.reduceLT, Int.reduceEq, Int.reduceBNe, Int.reduceBEq, aeq, Int.reduceLE, Int.reduceNeg, Int.reduceMul, Int.reduceAdd, Int.reduceSub, Int.reduceToNat, Int.reducePow, k0, k1, k2, k3, k4, k5, k6, k7, k8, k9, x1, x2, x3, z1, z2, z3, x4, x5 y2]
          rw [show q - 1 = Q1 by omega]
        · have z2 : (((r + n1' : Nat) : Int) ≥ 4294967296) = False := eq_false (by omega)
          simp only [R1, R2, R3, R4, R5, R6, R7, R8, AV.flat, fillIn_nil, fillIn_cons, splice, AV.cells, AV.one, eqsOf, idx, SO.calls, List.reduceReplicate, Nat.reduceBEq, Nat.reduceLT, Nat.reduceAdd, Nat.reduceMul, Nat.reduceSub, Nat.reduceLeDiff, Nat.reduceEqDiff, ↓reduceIte, Int.reduceLT, Int.reduceEq, Int.reduceBNe, Int.reduceBEq, aeq, Int.reduceLE, Int.reduceNeg, Int.reduceMul, Int.reduceAdd, Int.reduceSub, Int.reduceToNat, Int.reducePow, k0, k1, k2, k3, k4, k5, k6, k7, k8, k9, x1, x2, x3, z1, z2, z3, x4, x5 y2]
          exact ⟨q - 1, by omega, r + n1', rfl, rfl, y3, y1, by omega, by omega⟩
      · have z3 : (((q * n0' : Nat) : Int) > ((4294967296 * r + u1 : Nat) : Int)) = False := eq_false (by omega)
        have dl := dl3 _ _ g1 (by omega)
        simp only [R1, R2, R3, R4, R5, R6, R7, R8, AV.flat, fillIn_nil, fillIn_cons, splice, AV.cells, AV.one, eqsOf, idx, SO.calls, List.reduceReplicate, Nat.reduceBEq, Nat.reduceLT, Nat.reduceAdd, Nat.reduceMul, Nat.reduceSub, Nat.reduceLeDiff, Nat.reduceEqDiff, ↓reduceIte, Int.reduceLT, Int.reduceEq, Int.reduceBNe, Int.reduceBEq, aeq, Int.reduceLE, Int.reduceNeg, Int.reduceMul, Int.reduceAdd, Int.reduceSub, Int.reduceToNat, Int.reducePow, k0, k1, k2, k3, k4, k5, k6, k7, k8, k9, x1, x2, x3, z1, z3]
        rw [show q = Q1 by omega]
  · rintro t _ ⟨k0, rfl, k1, k2, k3, k4, k5, k6, k7, k8⟩
    rw [← tm_nil t]
    have hM1l : M1 / Y * Y + Rm = M1 := by rw [Nat.mul_comm]; exact hR1s
    have hK1l' : K / Y * Y + K % Y = K := by rw [Nat.mul_comm]; exact hK1s
    have v1 : IntKind.u64.wrap ((U : Int) * 4294967296) = ((U * 4294967296 % 18446744073709551616 : Nat) : Int) := by rw [wrap_u64_mod]; omega
    have v2 : IntKind.u64.wrap (((U * 4294967296 % 18446744073709551616 : Nat) : Int) + (u1 : Int)) = ((M1 % 18446744073709551616 : Nat) : Int) := by rw [wrap_u64_mod]; omega
    have v3 : IntKind.u64.wrap (((M1 / Y : Nat) : Int) * (Y : Int)) = ((M1 / Y * Y % 18446744073709551616 : Nat) : Int) := by rw [← Int.natCast_mul, wrap_u64_mod, Int.natCast_emod]; rfl
    have v4 : IntKind.u64.wrap (((M1 % 18446744073709551616 : Nat) : Int) - ((M1 / Y * Y % 18446744073709551616 : Nat) : Int)) = (Rm : Int) := by
      generalize M1 / Y * Y = z at *
      rw [wrap_u64_mod]
      omega
    simp only [R1, R2, R3, R4, R5, R6, R7, R8, AV.flat, fillIn_nil, fillIn_cons, splice, AV.cells, AV.one, eqsOf, idx, SO.calls, List.reduceReplicate, Nat.reduceBEq, Nat.reduceLT, Nat.reduceAdd, Nat.reduceMul, Nat.reduceSub, Nat.reduceLeDiff, Nat.reduceEqDiff, ↓reduceIte, Int.reduceLT, Int.reduceEq, Int.reduceBNe, Int.reduceBEq, aeq, Int.reduceLE, Int.reduceNeg, Int.reduceMul, Int.reduceAdd, Int.reduceSub, Int.reduceToNat, Int.reducePow, k0, k1, k2, k3, k4, k5, k6, k7, k8, c4, v1, v2, v3, v4, s1, s2, s3]
    refine ends_loop_to (fun t H' => t.length = 135 ∧ H = H' ∧ t.getD 2 .undef = .int .u64 (Y : Int) ∧ t.getD 8 .undef = .int .u64 (s : Int) ∧ t.getD 14 .undef = .int .u64 (u0 : Int) ∧ t.getD 15 .undef = .int .u64 ((M1 / Y : Nat) : Int) ∧ t.getD 17 .undef = .int .u64 (Rm : Int) ∧ t.getD 18 .undef = .int .u64 ((K / Y : Nat) : Int)) ?_ ?_
    · refine ends_loop (fun k t H' => t.length = 135 ∧ H = H' ∧ t.getD 2 .undef = .int .u64 (Y : Int) ∧ t.getD 8 .undef = .int .u64 (s : Int) ∧ t.getD 9 .undef = .int .u64 (n1' : Int) ∧ t.getD 10 .undef = .int .u64 (n0' : Int) ∧ t.getD 14 .undef = .int .u64 (u0 : Int) ∧ t.getD 15 .undef = .int .u64 ((M1 / Y : Nat) : Int) ∧ t.getD 17 .undef = .int .u64 (Rm : Int) ∧
        ∃ r : Nat, t.getD 18 .undef = .int .u64 (k : Int) ∧ t.getD 16 .undef = .int .u64 (r : Int) ∧ k * n1' + r = Rm ∧ K / Y ≤ k ∧ k ≤ 4294967297 ∧ r < 4294967296) (Rm / n1') ?_ ?_
      · simp only [R1, R2, R3, R4, R5, R6, R7, R8, AV.flat, fillIn_nil, fillIn_cons, splice, AV.cells, AV.one, eqsOf, idx, SO.calls, List.reduceReplicate, Nat.reduceBEq, Nat.reduceLT, Nat.reduceAdd, Nat.reduceMul, Nat.reduceSub, Nat.reduceLeDiff, Nat.reduceEqDiff, ↓reduceIte, Int.reduceLT, Int.reduceEq, Int.reduceBNe, Int.reduceBEq, aeq, Int.reduceLE, Int.reduceNeg, Int.reduceMul, Int.reduceAdd, Int.reduceSub, Int.reduceToNat, Int.reducePow, k0, k1, k2, k3, k4, k5, k6, k7, k8]
        exact ⟨Rm % n1', rfl, s4, f3, f4, s5⟩
      clear k0 k1 k2 k3 k4 k5 k6 k7 k8
      clear t
      rintro q t _ ⟨k0, rfl, k1, k2, k3, k4, k5, k6, k7, r, k8, k9, g1, g2, g3, g4⟩
      rw [← tm_nil t]
      obtain ⟨x2, x3, x4⟩ := sums r u0 g4 hu0
      have x5 : 0 < q → IntKind.u64.wrap ((q : Int) - 1) = ((q - 1 : Nat) : Int) := fun h => by rw [wrap_u64_mod]; omega
      have dst := div_step hy hn0 hR1l hu0 g1
      rw [← hK] at dst
      have dl3 : ∀ q r, q * n1' + r = Rm → q * n0' ≤ 4294967296 * r + u0 → q ≤ K / Y := fun q r h1 h2 => by
        have := div_less (u := u0) hy (by omega) h1 h2
        rwa [← hK] at this
      clear hK1l' hK1s top0 f3
      generalize K / Y = Q1 at *
      by_cases hc : q ≥ 4294967296
      · obtain ⟨y1, y2, y3⟩ := dst (.inl hc)
        have z1 : ((q : Int) ≥ 4294967296) = True := eq_true (by omega)
        by_cases hr : r + n1' ≥ 4294967296
        · have z2 : (((r + n1' : Nat) : Int) ≥ 4294967296) = True := eq_true (by omega)
          have dl := dl3 _ _ y3 (div_break (by omega) hn0 hr)
          simp only [R1, R2, R3, R4, R5, R6, R7, R8, AV.flat, fillIn_nil, fillIn_cons, splice, AV.cells, AV.one, eqsOf, idx, SO.calls, List.reduceReplicate, Nat.reduceBEq, Nat.reduceLT, Nat.reduceAdd, Nat.reduceMul, Nat.reduceSub, Nat.reduceLeDiff, Nat.reduceEqDiff, ↓reduceIte, Int.reduceLT, Int.reduceEq, Int.reduceBNe, Int.reduceBEq, aeq, Int.reduceLE, Int.reduceNeg, Int.reduceMul, Int.reduceAdd, Int.reduceSub, Int.reduceToNat, Int.reducePow, k0, k1, k2, k3, k4, k5, k6, k7, k8, k9, z1, z2, x4, x5 y2]
          rw [show q - 1 = Q1 by omega]
        · have z2 : (((r + n1' : Nat) : Int) ≥ 4294967296) = False := eq_false (by omega)
          simp only [R1, R2, R3, R4, R5, R6, R7, R8, AV.flat, fillIn_nil, fillIn_cons, splice, AV.cells, AV.one, eqsOf, idx, SO.calls, List.reduceReplicate, Nat.reduceBEq, Nat.reduceLT, Nat.reduceAdd, Nat.reduceMul, Nat.reduceSub, Nat.reduceLeDiff, Nat.reduceEqDiff, ↓reduceIte, Int.reduceLT, Int.reduceEq, Int.reduceBNe, Int.reduceBEq, aeq, Int.reduceLE, Int.reduceNeg, Int.reduceMul, Int.reduceAdd, Int.reduceSub, Int.reduceToNat, Int.reducePow, k0, k1, k2, k3, k4, k5, k6, k7, k8, k9, z1, z2, x4, x5 y2]
          exact ⟨q - 1, by omega, r + n1', rfl, rfl, y3, y1, by omega, by omega⟩
      · have z1 : ((q : Int) ≥ 4294967296) = False := eq_false (by omega)
        have x1 := prod q (by omega)
        by_cases hp : q * n0' > 4294967296 * r + u0
        · obtain ⟨y1, y2, y3⟩ := dst (.inr hp)
          have z3 : (((q * n0' : Nat) : Int) > ((4294967296 * r + u0 : Nat) : Int)) = True := eq_true (by omega)
          by_cases hr : r + n1' ≥ 4294967296
          · have z2 : (((r + n1' : Nat) : Int) ≥ 4294967296) = True := eq_true (by omega)
            have dl := dl3 _ _ y3 (div_break (by omega) hn0 hr)
            simp only [R1, R2, R3, R4, R5, R6, R7, R8, AV.flat, fillIn_nil, fillIn_cons, splice, AV.cells, AV.one, eqsOf, idx, SO.calls, List.reduceReplicate, Nat.reduceBEq, Nat.reduceLT, Nat.reduceAdd, Nat.reduceMul, Nat.reduceSub, Nat.reduceLeDiff, Nat.reduceEqDiff, ↓reduceIte, Int.reduceLT, Int.reduceEq, Int.reduceBNe, Int.reduceBEq, aeq, Int.reduceLE, Int.reduceNeg, Int.reduceMul, Int.reduceAdd, Int.reduceSub, Int.reduceToNat, Int.reducePow, k0, k1, k2, k3, k4, k5, k6, k7, k8, k9, x1, x2, x3, z1, z2, z3, x4, x5 y2]
            rw [show q - 1 = Q1 by omega]
          · have z2 : (((r + n1' : Nat) : Int) ≥ 4294967296) = False := eq_false (by omega)
            simp only [R1, R2, R3, R4, R5, R6, R7, R8, AV.flat, fillIn_nil, fillIn_cons, splice, AV.cells, AV.one, eqsOf, idx, SO.calls, List.reduceReplicate, Nat.reduceBEq, Nat.reduceLT, Nat.reduceAdd, Nat.reduceMul, Nat.reduceSub, Nat.reduceLeDiff, Nat.reduceEqDiff, ↓reduceIte, Int.reduceLT, Int.reduceEq, Int.reduceBNe, Int.reduceBEq, aeq, Int.reduceLE, Int.reduceNeg, Int.reduceMul, Int.reduceAdd, Int.reduceSub, Int.reduceToNat, Int.reducePow, k0, k1, k2, k3, k4, k5, k6, k7, k8, k9, x1, x2, x3, z1, z2, z3, x4, x5 y2]
            exact ⟨q - 1, by omega, r + n1', rfl, rfl, y3, y1, by omega, by omega⟩
        · have z3 : (((q * n0' : Nat) : Int) > ((4294967296 * r + u0 : Nat) : Int)) = False := eq_false (by omega)
          have dl := dl3 _ _ g1 (by omega)
          simp only [R1, R2, R3, R4, R5, R6, R7, R8, AV.flat, fillIn_nil, fillIn_cons, splice, AV.cells, AV.one, eqsOf, idx, SO.calls, List.reduceReplicate, Nat.reduceBEq, Nat.reduceLT, Nat.reduceAdd, Nat.reduceMul, Nat.reduceSub, Nat.reduceLeDiff, Nat.reduceEqDiff, ↓reduceIte, Int.reduceLT, Int.reduceEq, Int.reduceBNe, Int.reduceBEq, aeq, Int.reduceLE, Int.reduceNeg, Int.reduceMul, Int.reduceAdd, Int.reduceSub, Int.reduceToNat, Int.reducePow, k0, k1, k2, k3, k4, k5, k6, k7, k8, k9, x1, x2, x3, z1, z3]
          rw [show q = Q1 by omega]
    · clear k0 k1 k2 k3 k4 k5 k6 k7 k8
      clear t
      rintro t _ ⟨k0, rfl, k1, k2, k3, k4, k5, k6⟩
      rw [← tm_nil t]
      have v1 : IntKind.u64.wrap (((M1 / Y : Nat) : Int) * 4294967296) = ((M1 / Y * 4294967296 : Nat) : Int) := by rw [wrap_u64_mod]; omega
      have v2 : IntKind.u64.wrap (((M1 / Y * 4294967296 : Nat) : Int) + ((K / Y : Nat) : Int)) = ((M1 / Y * 4294967296 + K / Y : Nat) : Int) := by
        generalize M1 / Y = z1 at *
        generalize K / Y = z2 at *
        rw [wrap_u64_mod]; omega
      have v3 : IntKind.u64.wrap ((Rm : Int) * 4294967296) = ((Rm * 4294967296 % 18446744073709551616 : Nat) : Int) := by rw [wrap_u64_mod]; omega
      have v4 : IntKind.u64.wrap (((Rm * 4294967296 % 18446744073709551616 : Nat) : Int) + (u0 : Int)) = ((K % 18446744073709551616 : Nat) : Int) := by rw [wrap_u64_mod]; omega
      have v5 : IntKind.u64.wrap (((K / Y : Nat) : Int) * (Y : Int)) = ((K / Y * Y % 18446744073709551616 : Nat) : Int) := by rw [← Int.natCast_mul, wrap_u64_mod, Int.natCast_emod]; rfl
      have v6 : IntKind.u64.wrap (((K % 18446744073709551616 : Nat) : Int) - ((K / Y * Y % 18446744073709551616 : Nat) : Int)) = ((K % Y : Nat) : Int) := by
        generalize K / Y * Y = z at *
        generalize K % Y = z2 at *
        rw [wrap_u64_mod]
        omega
      have dS := dS (K % Y)
      simp only [R1, R2, R3, R4, R5, R6, R7, R8, AV.flat, fillIn_nil, fillIn_cons, splice, AV.cells, AV.one, eqsOf, idx, SO.calls, List.reduceReplicate, Nat.reduceBEq, Nat.reduceLT, Nat.reduceAdd, Nat.reduceMul, Nat.reduceSub, Nat.reduceLeDiff, Nat.reduceEqDiff, ↓reduceIte, Int.reduceLT, Int.reduceEq, Int.reduceBNe, Int.reduceBEq, aeq, Int.reduceLE, Int.reduceNeg, Int.reduceMul, Int.reduceAdd, Int.reduceSub, Int.reduceToNat, Int.reducePow, k0, k1, k2, k3, k4, k5, k6, n1, n2, v1, v2, v3, v4, v5, v6, dS]
end Go.Proofs.YtdlolhkeckjipaaDoor
