/- Chapter 42: a patch makes the new text: PatchDiffs, in the machine. -/
import Derived.Test.YtkcbjeenoafbkaaC42i
import Derived.Test.YtkcbjeenoafbkaaC42j
set_option linter.unusedVariables false
set_option linter.unusedSimpArgs false
set_option maxRecDepth 100000
set_option maxHeartbeats 2000000
namespace Go.Proofs.Ytkcbjeenoafbkaa
open Go Go.Den
theorem diff_assoc (a b : List UInt8) : DiffP a b = beginP a b ++ (copiedP 0 (preL a b) ++ (givenP (midP a b) ++ copiedP (a.length - sufL a b) (sufL a b))) := by
  simp [DiffP]
theorem diff_head {a b : List UInt8} (ha : a.length ≤ 65536) (hb : b.length ≤ 65536) (R : List UInt8) : n4 (beginP a b ++ R) 0 = a.length ∧ n4 (beginP a b ++ R) 4 = crcN a ∧ n4 (beginP a b ++ R) 8 = b.length ∧ n4 (beginP a b ++ R) 12 = crcN b := by
  have h0 := n4_at (A := []) (x := a.length) (R := putB (crcN a) 4 ++ (putB b.length 4 ++ (putB (crcN b) 4 ++ R))) (by omega)
  have h1 := n4_at (A := putB a.length 4) (x := crcN a) (R := putB b.length 4 ++ (putB (crcN b) 4 ++ R)) (crcN_lt a)
  have h2 := n4_at (A := putB a.length 4 ++ putB (crcN a) 4) (x := b.length) (R := putB (crcN b) 4 ++ R) (by omega)
  have h3 := n4_at (A := putB a.length 4 ++ putB (crcN a) 4 ++ putB b.length 4) (x := crcN b) (R := R) (crcN_lt b)
  simp only [List.length_append, putB_len, List.length_nil, Nat.reduceAdd] at h0 h1 h2 h3
  unfold beginP
  refine ⟨?_, ?_, ?_, ?_⟩
  · simpa using h0
  · simpa using h1
  · simpa using h2
  · simpa using h3
theorem made_cp {old acc : List UInt8} {most f n : Nat} {r : List Stp} (h1 : f + n ≤ old.length) (h2 : acc.length + n ≤ most) : madeP old most acc (cpS f n ++ r) = madeP old most (acc ++ (old.drop f).take n) r := by
  unfold cpS
  by_cases h0 : n = 0
  · subst h0; simp
  · rw [if_neg h0, List.singleton_append, madeP]
    have hp : partP old ⟨true, f, n, []⟩ = some ((old.drop f).take n) := cut_ok h1
    have hl : ((old.drop f).take n).length = n := by rw [List.length_take, List.length_drop]; omega
    rw [hp]
    simp only
    rw [if_neg (by omega)]
theorem made_gv {old acc s : List UInt8} {most : Nat} {r : List Stp} (h2 : acc.length + s.length ≤ most) : madeP old most acc (gvS s ++ r) = madeP old most (acc ++ s) r := by
  unfold gvS
  by_cases h0 : s = []
  · subst h0; simp
  · rw [if_neg h0, List.singleton_append, madeP]
    have hp : partP old ⟨false, 0, s.length, s⟩ = some s := rfl
    rw [hp]
    simp only
    rw [if_neg (by omega)]
theorem made_diff {a b : List UInt8} {most : Nat} (hm : b.length ≤ most) : madeP a most [] (cpS 0 (preL a b) ++ (gvS (midP a b) ++ cpS (a.length - sufL a b) (sufL a b))) = (b, 0) := by
  have hpl := preL_le a b
  have hsl := sufL_le a b
  have hj := mid_join (a := a) (b := b)
  have hlen := congrArg List.length hj
  simp only [List.length_append, List.length_take, List.length_drop] at hlen
  rw [made_cp (by omega) (by simp only [List.length_nil]; omega), List.nil_append, List.drop_zero,
    made_gv (by rw [List.length_take]; omega)]
  have h3 := made_cp (old := a) (acc := a.take (preL a b) ++ midP a b) (most := most) (f := a.length - sufL a b) (n := sufL a b) (r := []) (by omega) (by rw [List.length_append, List.length_take]; omega)
  rw [List.append_nil] at h3
  rw [h3, madeP, List.append_assoc, hj]
theorem diff_len (a b : List UInt8) : (DiffP a b).length ≤ 39 + (midP a b).length ∧ 16 ≤ (DiffP a b).length := by
  rw [diff_assoc]
  have h1 := copied_len 0 (preL a b)
  have h2 := given_len (midP a b)
  have h3 := copied_len (a.length - sufL a b) (sufL a b)
  simp only [List.length_append, begin_len]
  omega
theorem diff_p {a b : List UInt8} (ha : a.length ≤ 65536) (hb : b.length ≤ 65536) : stepsP (DiffP a b) 16 = (cpS 0 (preL a b) ++ (gvS (midP a b) ++ cpS (a.length - sufL a b) (sufL a b)), 0) := by
  rw [diff_assoc]; exact diff_steps (beginP a b) (begin_len a b) ha hb
theorem diff_apply {a b : List UInt8} (ha : a.length ≤ 65536) (hb : b.length ≤ 65536) : ApplyP a (DiffP a b) = (b, 0) := by
  have hs := diff_p ha hb
  have hl := (diff_len a b).2
  have hh := diff_head ha hb (copiedP 0 (preL a b) ++ (givenP (midP a b) ++ copiedP (a.length - sufL a b) (sufL a b)))
  rw [← diff_assoc] at hh
  obtain ⟨h0, h4, h8, h12⟩ := hh
  unfold ApplyP
  rw [if_neg (by omega), if_neg (by omega), if_neg (by omega), if_neg (by rintro (h | h); exact h h0; exact h h4), hs]
  unfold restP
  simp only
  rw [made_diff (by omega)]
  simp only
  rw [if_neg (by simp), if_neg (by simp), if_neg (by rintro (h | h); exact h h8; exact h h12)]
theorem diff_count {a b : List UInt8} (ha : a.length ≤ 65536) (hb : b.length ≤ 65536) : (StepsN (DiffP a b)).2 = 0 := by
  have hs := diff_p ha hb
  have hl := (diff_len a b).2
  have hh := diff_head ha hb (copiedP 0 (preL a b) ++ (givenP (midP a b) ++ copiedP (a.length - sufL a b) (sufL a b)))
  rw [← diff_assoc] at hh
  unfold StepsN
  rw [if_neg (by omega), if_neg (by omega), hs]
  rfl
theorem c31 {a b : List UInt8} (ha : a.length ≤ 1000000) (hb : b.length ≤ 1000000) (H : Heap) : call env 31 [.str (mkS a), .str (mkS b)] H = some (.int .i64 ((midP a b).length : Int), H) := by
  have hpl := preL_le a b
  have hsl := sufL_le a b
  have hml : (midP a b).length = b.length - preL a b - sufL a b := by unfold midP; rw [List.length_take, List.length_drop]; omega
  rw [hml]
  refine call_ends (fn := s31) rfl rfl (by simp [s31]) ?_
  simp only [s31, R1, R2, R3, R4, R5, R6, R7, R8, AV.flat, fillIn_nil, fillIn_cons, splice, AV.cells, AV.one, eqsOf, idx, SO.calls, List.reduceReplicate, Nat.reduceBEq, Nat.reduceLT, Nat.reduceAdd, Nat.reduceMul, Nat.reduceSub, Nat.reduceLeDiff, Nat.reduceEqDiff, ↓reduceIte, Int.reduceLT, Int.reduceEq, Int.reduceBNe, Int.reduceBEq, aeq, Int.reduceLE, Int.reduceNeg, Int.reduceMul, Int.reduceAdd, Int.reduceSub, Int.reduceToNat, Int.reducePow]
  refine ends_loop (fun k t H' => t.length = 67 ∧ H = H' ∧ t.getD 0 .undef = .str (mkS a) ∧ t.getD 1 .undef = .str (mkS b) ∧ ∃ i : Nat, i ≤ min a.length b.length ∧ k = min a.length b.length - i ∧ t.getD 5 .undef = .int .i64 (i : Int) ∧ preL a b = scan (preQ a b) (min a.length b.length - i) i) (min a.length b.length) ?_ ?_
  · simp only [R1, R2, R3, R4, R5, R6, R7, R8, AV.flat, fillIn_nil, fillIn_cons, splice, AV.cells, AV.one, eqsOf, idx, SO.calls, List.reduceReplicate, Nat.reduceBEq, Nat.reduceLT, Nat.reduceAdd, Nat.reduceMul, Nat.reduceSub, Nat.reduceLeDiff, Nat.reduceEqDiff, ↓reduceIte, Int.reduceLT, Int.reduceEq, Int.reduceBNe, Int.reduceBEq, aeq, Int.reduceLE, Int.reduceNeg, Int.reduceMul, Int.reduceAdd, Int.reduceSub, Int.reduceToNat, Int.reducePow]
    exact ⟨0, by omega, by omega, rfl, rfl⟩
  · rintro k t _ ⟨g1, rfl, g2, g3, i, hi, rfl, g4, g5⟩
    rw [← tm_nil t]
    have hdone : (¬ i < min a.length b.length ∨ preQ a b i = false) → preL a b = i := fun h => by
      rw [g5]
      rcases h with h | h
      · rw [show min a.length b.length - i = 0 by omega, scan]
      · cases hr : min a.length b.length - i with
        | zero => rfl
        | succ r => rw [scan, if_neg (by simp [h])]
    by_cases hc : i < min a.length b.length ∧ preQ a b i = true
    · obtain ⟨hc, hP⟩ := hc
      have a1 : ((i : Int) < (a.length : Int)) = True := eq_true (by omega)
      have a2 : ((i : Int) < (b.length : Int)) = True := eq_true (by omega)
      have w1 : IntKind.i64.wrap ((i : Int) + 1) = ((i + 1 : Nat) : Int) := by rw [wrap_i64 (by omega) (by omega)]; rfl
      have x1 := get_at (l := a) (i := i) (by omega)
      have x2 := get_at (l := b) (i := i) (by omega)
      have x3 : (((a.getD i 0).toNat : Int) == ((b.getD i 0).toNat : Int)) = true := by rw [byte_beq]; exact hP
      have hnext : preL a b = scan (preQ a b) (min a.length b.length - (i + 1)) (i + 1) := by
        rw [g5, show min a.length b.length - i = (min a.length b.length - (i + 1)) + 1 by omega, scan, if_pos hP]
      generalize a.getD i 0 = y1 at *
      generalize b.getD i 0 = y2 at *
      simp only [R1, R2, R3, R4, R5, R6, R7, R8, AV.flat, fillIn_nil, fillIn_cons, splice, AV.cells, AV.one, eqsOf, idx, SO.calls, List.reduceReplicate, Nat.reduceBEq, Nat.reduceLT, Nat.reduceAdd, Nat.reduceMul, Nat.reduceSub, Nat.reduceLeDiff, Nat.reduceEqDiff, ↓reduceIte, Int.reduceLT, Int.reduceEq, Int.reduceBNe, Int.reduceBEq, aeq, Int.reduceLE, Int.reduceNeg, Int.reduceMul, Int.reduceAdd, Int.reduceSub, Int.reduceToNat, Int.reducePow, g1, g2, g3, g4, a1, a2, w1, ixs_mkS, x1, x2, x3, shun_un, veil_un]
      exact ⟨_, by omega, i + 1, by omega, rfl, rfl, hnext⟩
    · have hpe : preL a b = i := hdone (by
        by_cases h : i < min a.length b.length
        · exact .inr (by simpa using fun h2 => hc ⟨h, h2⟩)
        · exact .inl h)
      have hse : sufL a b = scan (sufQ a b) (min a.length b.length - i) 0 := by unfold sufL; rw [hpe]
      have w9 : IntKind.i64.wrap ((a.length : Int) - (i : Int)) = ((a.length - i : Nat) : Int) := by rw [wrap_i64 (by omega) (by omega)]; omega
      have w8 : IntKind.i64.wrap ((b.length : Int) - (i : Int)) = ((b.length - i : Nat) : Int) := by rw [wrap_i64 (by omega) (by omega)]; omega
      rw [hpe] at hsl ⊢
      by_cases hci : i < min a.length b.length
      · have hP : preQ a b i = false := by simpa using fun h2 => hc ⟨hci, h2⟩
        have a1 : ((i : Int) < (a.length : Int)) = True := eq_true (by omega)
        have a2 : ((i : Int) < (b.length : Int)) = True := eq_true (by omega)
        have x1 := get_at (l := a) (i := i) (by omega)
        have x2 := get_at (l := b) (i := i) (by omega)
        have x3 : (((a.getD i 0).toNat : Int) == ((b.getD i 0).toNat : Int)) = false := by rw [byte_beq]; exact hP
        generalize a.getD i 0 = y1 at *
        generalize b.getD i 0 = y2 at *
        simp only [R1, R2, R3, R4, R5, R6, R7, R8, AV.flat, fillIn_nil, fillIn_cons, splice, AV.cells, AV.one, eqsOf, idx, SO.calls, List.reduceReplicate, Nat.reduceBEq, Nat.reduceLT, Nat.reduceAdd, Nat.reduceMul, Nat.reduceSub, Nat.reduceLeDiff, Nat.reduceEqDiff, ↓reduceIte, Int.reduceLT, Int.reduceEq, Int.reduceBNe, Int.reduceBEq, aeq, Int.reduceLE, Int.reduceNeg, Int.reduceMul, Int.reduceAdd, Int.reduceSub, Int.reduceToNat, Int.reducePow, g1, g2, g3, g4, a1, a2, ixs_mkS, x1, x2, x3, shun_un, veil_un]
        refine ends_loop (fun k t H' => t.length = 67 ∧ H = H' ∧ t.getD 0 .undef = .str (mkS a) ∧ t.getD 1 .undef = .str (mkS b) ∧ t.getD 5 .undef = .int .i64 (i : Int) ∧ ∃ j : Nat, j ≤ min a.length b.length - i ∧ k = min a.length b.length - i - j ∧ t.getD 6 .undef = .int .i64 (j : Int) ∧ sufL a b = scan (sufQ a b) (min a.length b.length - i - j) j) (min a.length b.length - i) ?_ ?_
        · simp only [R1, R2, R3, R4, R5, R6, R7, R8, AV.flat, fillIn_nil, fillIn_cons, splice, AV.cells, AV.one, eqsOf, idx, SO.calls, List.reduceReplicate, Nat.reduceBEq, Nat.reduceLT, Nat.reduceAdd, Nat.reduceMul, Nat.reduceSub, Nat.reduceLeDiff, Nat.reduceEqDiff, ↓reduceIte, Int.reduceLT, Int.reduceEq, Int.reduceBNe, Int.reduceBEq, aeq, Int.reduceLE, Int.reduceNeg, Int.reduceMul, Int.reduceAdd, Int.reduceSub, Int.reduceToNat, Int.reducePow, g1, g2, g3, g4]
          exact ⟨0, by omega, by omega, rfl, hse⟩
        · rintro k t _ ⟨g1, rfl, g2, g3, g4, j, hj, rfl, g6, g7⟩
          rw [← tm_nil t]
          have v6 : IntKind.i64.wrap (((b.length - i : Nat) : Int) - (j : Int)) = ((b.length - i - j : Nat) : Int) := by rw [wrap_i64 (by omega) (by omega)]; omega
          by_cases hcj : j < min a.length b.length - i
          · have d1 : ((j : Int) < ((a.length - i : Nat) : Int)) = True := eq_true (by omega)
            have d2 : ((j : Int) < ((b.length - i : Nat) : Int)) = True := eq_true (by omega)
            have v1 : IntKind.i64.wrap ((a.length : Int) - 1) = ((a.length - 1 : Nat) : Int) := by rw [wrap_i64 (by omega) (by omega)]; omega
            have v2 : IntKind.i64.wrap ((b.length : Int) - 1) = ((b.length - 1 : Nat) : Int) := by rw [wrap_i64 (by omega) (by omega)]; omega
            have v3 : IntKind.i64.wrap (((a.length - 1 : Nat) : Int) - (j : Int)) = ((a.length - 1 - j : Nat) : Int) := by rw [wrap_i64 (by omega) (by omega)]; omega
            have v4 : IntKind.i64.wrap (((b.length - 1 : Nat) : Int) - (j : Int)) = ((b.length - 1 - j : Nat) : Int) := by rw [wrap_i64 (by omega) (by omega)]; omega
            have v5 : IntKind.i64.wrap ((j : Int) + 1) = ((j + 1 : Nat) : Int) := by rw [wrap_i64 (by omega) (by omega)]; rfl
            have x1 := get_at (l := a) (i := a.length - 1 - j) (by omega)
            have x2 := get_at (l := b) (i := b.length - 1 - j) (by omega)
            have x3 := byte_beq (a.getD (a.length - 1 - j) 0) (b.getD (b.length - 1 - j) 0)
            rw [show decide (a.getD (a.length - 1 - j) 0 = b.getD (b.length - 1 - j) 0) = sufQ a b j from rfl] at x3
            have hstep : sufL a b = if sufQ a b j = true then scan (sufQ a b) (min a.length b.length - i - (j + 1)) (j + 1) else j := by
              rw [g7, show min a.length b.length - i - j = (min a.length b.length - i - (j + 1)) + 1 by omega, scan]
            generalize a.getD (a.length - 1 - j) 0 = y1 at *
            generalize b.getD (b.length - 1 - j) 0 = y2 at *
            cases hQ : sufQ a b j
            · rw [hQ] at x3
              rw [hQ, if_neg (by simp)] at hstep
              rw [hstep]
              simp only [R1, R2, R3, R4, R5, R6, R7, R8, AV.flat, fillIn_nil, fillIn_cons, splice, AV.cells, AV.one, eqsOf, idx, SO.calls, List.reduceReplicate, Nat.reduceBEq, Nat.reduceLT, Nat.reduceAdd, Nat.reduceMul, Nat.reduceSub, Nat.reduceLeDiff, Nat.reduceEqDiff, ↓reduceIte, Int.reduceLT, Int.reduceEq, Int.reduceBNe, Int.reduceBEq, aeq, Int.reduceLE, Int.reduceNeg, Int.reduceMul, Int.reduceAdd, Int.reduceSub, Int.reduceToNat, Int.reducePow, g1, g2, g3, g4, g6, w9, w8, d1, d2, v1, v2, v3, v4, v6, ixs_mkS, x1, x2, x3, shun_un, veil_un, tidy_int]
            · rw [hQ] at x3
              rw [hQ, if_pos rfl] at hstep
              simp only [R1, R2, R3, R4, R5, R6, R7, R8, AV.flat, fillIn_nil, fillIn_cons, splice, AV.cells, AV.one, eqsOf, idx, SO.calls, List.reduceReplicate, Nat.reduceBEq, Nat.reduceLT, Nat.reduceAdd, Nat.reduceMul, Nat.reduceSub, Nat.reduceLeDiff, Nat.reduceEqDiff, ↓reduceIte, Int.reduceLT, Int.reduceEq, Int.reduceBNe, Int.reduceBEq, aeq, Int.reduceLE, Int.reduceNeg, Int.reduceMul, Int.reduceAdd, Int.reduceSub, Int.reduceToNat, Int.reducePow, g1, g2, g3, g4, g6, w9, w8, d1, d2, v1, v2, v3, v4, v5, ixs_mkS, x1, x2, x3, shun_un, veil_un]
              exact ⟨_, by omega, j + 1, by omega, rfl, rfl, hstep⟩
          · rw [show min a.length b.length - i - j = 0 by omega, scan] at g7
            rw [g7]
            by_cases hja : j < a.length - i
            · have d1 : ((j : Int) < ((a.length - i : Nat) : Int)) = True := eq_true (by omega)
              have d2 : ((j : Int) < ((b.length - i : Nat) : Int)) = False := eq_false (by omega)
              simp only [R1, R2, R3, R4, R5, R6, R7, R8, AV.flat, fillIn_nil, fillIn_cons, splice, AV.cells, AV.one, eqsOf, idx, SO.calls, List.reduceReplicate, Nat.reduceBEq, Nat.reduceLT, Nat.reduceAdd, Nat.reduceMul, Nat.reduceSub, Nat.reduceLeDiff, Nat.reduceEqDiff, ↓reduceIte, Int.reduceLT, Int.reduceEq, Int.reduceBNe, Int.reduceBEq, aeq, Int.reduceLE, Int.reduceNeg, Int.reduceMul, Int.reduceAdd, Int.reduceSub, Int.reduceToNat, Int.reducePow, g1, g2, g3, g4, g6, w9, w8, d1, d2, v6, shun_un, veil_un, tidy_int]
            · have d1 : ((j : Int) < ((a.length - i : Nat) : Int)) = False := eq_false (by omega)
              simp only [R1, R2, R3, R4, R5, R6, R7, R8, AV.flat, fillIn_nil, fillIn_cons, splice, AV.cells, AV.one, eqsOf, idx, SO.calls, List.reduceReplicate, Nat.reduceBEq, Nat.reduceLT, Nat.reduceAdd, Nat.reduceMul, Nat.reduceSub, Nat.reduceLeDiff, Nat.reduceEqDiff, ↓reduceIte, Int.reduceLT, Int.reduceEq, Int.reduceBNe, Int.reduceBEq, aeq, Int.reduceLE, Int.reduceNeg, Int.reduceMul, Int.reduceAdd, Int.reduceSub, Int.reduceToNat, Int.reducePow, g1, g2, g3, g4, g6, w9, w8, d1, v6, shun_un, veil_un, tidy_int]
      · by_cases hia : i < a.length
        · have a1 : ((i : Int) < (a.length : Int)) = True := eq_true (by omega)
          have a2 : ((i : Int) < (b.length : Int)) = False := eq_false (by omega)
          simp only [R1, R2, R3, R4, R5, R6, R7, R8, AV.flat, fillIn_nil, fillIn_cons, splice, AV.cells, AV.one, eqsOf, idx, SO.calls, List.reduceReplicate, Nat.reduceBEq, Nat.reduceLT, Nat.reduceAdd, Nat.reduceMul, Nat.reduceSub, Nat.reduceLeDiff, Nat.reduceEqDiff, ↓reduceIte, Int.reduceLT, Int.reduceEq, Int.reduceBNe, Int.reduceBEq, aeq, Int.reduceLE, Int.reduceNeg, Int.reduceMul, Int.reduceAdd, Int.reduceSub, Int.reduceToNat, Int.reducePow, g1, g2, g3, g4, a1, a2, shun_un, veil_un]
          refine ends_loop (fun k t H' => t.length = 67 ∧ H = H' ∧ t.getD 0 .undef = .str (mkS a) ∧ t.getD 1 .undef = .str (mkS b) ∧ t.getD 5 .undef = .int .i64 (i : Int) ∧ ∃ j : Nat, j ≤ min a.length b.length - i ∧ k = min a.length b.length - i - j ∧ t.getD 6 .undef = .int .i64 (j : Int) ∧ sufL a b = scan (sufQ a b) (min a.length b.length - i - j) j) (min a.length b.length - i) ?_ ?_
          · simp only [R1, R2, R3, R4, R5, R6, R7, R8, AV.flat, fillIn_nil, fillIn_cons, splice, AV.cells, AV.one, eqsOf, idx, SO.calls, List.reduceReplicate, Nat.reduceBEq, Nat.reduceLT, Nat.reduceAdd, Nat.reduceMul, Nat.reduceSub, Nat.reduceLeDiff, Nat.reduceEqDiff, ↓reduceIte, Int.reduceLT, Int.reduceEq, Int.reduceBNe, Int.reduceBEq, aeq, Int.reduceLE, Int.reduceNeg, Int.reduceMul, Int.reduceAdd, Int.reduceSub, Int.reduceToNat, Int.reducePow, g1, g2, g3, g4]
            exact ⟨0, by omega, by omega, rfl, hse⟩
          · rintro k t _ ⟨g1, rfl, g2, g3, g4, j, hj, rfl, g6, g7⟩
            rw [← tm_nil t]
            have v6 : IntKind.i64.wrap (((b.length - i : Nat) : Int) - (j : Int)) = ((b.length - i - j : Nat) : Int) := by rw [wrap_i64 (by omega) (by omega)]; omega
            by_cases hcj : j < min a.length b.length - i
            · have d1 : ((j : Int) < ((a.length - i : Nat) : Int)) = True := eq_true (by omega)
              have d2 : ((j : Int) < ((b.length - i : Nat) : Int)) = True := eq_true (by omega)
              have v1 : IntKind.i64.wrap ((a.length : Int) - 1) = ((a.length - 1 : Nat) : Int) := by rw [wrap_i64 (by omega) (by omega)]; omega
              have v2 : IntKind.i64.wrap ((b.length : Int) - 1) = ((b.length - 1 : Nat) : Int) := by rw [wrap_i64 (by omega) (by omega)]; omega
              have v3 : IntKind.i64.wrap (((a.length - 1 : Nat) : Int) - (j : Int)) = ((a.length - 1 - j : Nat) : Int) := by rw [wrap_i64 (by omega) (by omega)]; omega
              have v4 : IntKind.i64.wrap (((b.length - 1 : Nat) : Int) - (j : Int)) = ((b.length - 1 - j : Nat) : Int) := by rw [wrap_i64 (by omega) (by omega)]; omega
              have v5 : IntKind.i64.wrap ((j : Int) + 1) = ((j + 1 : Nat) : Int) := by rw [wrap_i64 (by omega) (by omega)]; rfl
              have x1 := get_at (l := a) (i := a.length - 1 - j) (by omega)
              have x2 := get_at (l := b) (i := b.length - 1 - j) (by omega)
              have x3 := byte_beq (a.getD (a.length - 1 - j) 0) (b.getD (b.length - 1 - j) 0)
              rw [show decide (a.getD (a.length - 1 - j) 0 = b.getD (b.length - 1 - j) 0) = sufQ a b j from rfl] at x3
              have hstep : sufL a b = if sufQ a b j = true then scan (sufQ a b) (min a.length b.length - i - (j + 1)) (j + 1) else j := by
                rw [g7, show min a.length b.length - i - j = (min a.length b.length - i - (j + 1)) + 1 by omega, scan]
              generalize a.getD (a.length - 1 - j) 0 = y1 at *
              generalize b.getD (b.length - 1 - j) 0 = y2 at *
              cases hQ : sufQ a b j
              · rw [hQ] at x3
                rw [hQ, if_neg (by simp)] at hstep
                rw [hstep]
                simp only [R1, R2, R3, R4, R5, R6, R7, R8, AV.flat, fillIn_nil, fillIn_cons, splice, AV.cells, AV.one, eqsOf, idx, SO.calls, List.reduceReplicate, Nat.reduceBEq, Nat.reduceLT, Nat.reduceAdd, Nat.reduceMul, Nat.reduceSub, Nat.reduceLeDiff, Nat.reduceEqDiff, ↓reduceIte, Int.reduceLT, Int.reduceEq, Int.reduceBNe, Int.reduceBEq, aeq, Int.reduceLE, Int.reduceNeg, Int.reduceMul, Int.reduceAdd, Int.reduceSub, Int.reduceToNat, Int.reducePow, g1, g2, g3, g4, g6, w9, w8, d1, d2, v1, v2, v3, v4, v6, ixs_mkS, x1, x2, x3, shun_un, veil_un, tidy_int]
              · rw [hQ] at x3
                rw [hQ, if_pos rfl] at hstep
                simp only [R1, R2, R3, R4, R5, R6, R7, R8, AV.flat, fillIn_nil, fillIn_cons, splice, AV.cells, AV.one, eqsOf, idx, SO.calls, List.reduceReplicate, Nat.reduceBEq, Nat.reduceLT, Nat.reduceAdd, Nat.reduceMul, Nat.reduceSub, Nat.reduceLeDiff, Nat.reduceEqDiff, ↓reduceIte, Int.reduceLT, Int.reduceEq, Int.reduceBNe, Int.reduceBEq, aeq, Int.reduceLE, Int.reduceNeg, Int.reduceMul, Int.reduceAdd, Int.reduceSub, Int.reduceToNat, Int.reducePow, g1, g2, g3, g4, g6, w9, w8, d1, d2, v1, v2, v3, v4, v5, ixs_mkS, x1, x2, x3, shun_un, veil_un]
                exact ⟨_, by omega, j + 1, by omega, rfl, rfl, hstep⟩
            · rw [show min a.length b.length - i - j = 0 by omega, scan] at g7
              rw [g7]
              by_cases hja : j < a.length - i
              · have d1 : ((j : Int) < ((a.length - i : Nat) : Int)) = True := eq_true (by omega)
                have d2 : ((j : Int) < ((b.length - i : Nat) : Int)) = False := eq_false (by omega)
                simp only [R1, R2, R3, R4, R5, R6, R7, R8, AV.flat, fillIn_nil, fillIn_cons, splice, AV.cells, AV.one, eqsOf, idx, SO.calls, List.reduceReplicate, Nat.reduceBEq, Nat.reduceLT, Nat.reduceAdd, Nat.reduceMul, Nat.reduceSub, Nat.reduceLeDiff, Nat.reduceEqDiff, ↓reduceIte, Int.reduceLT, Int.reduceEq, Int.reduceBNe, Int.reduceBEq, aeq, Int.reduceLE, Int.reduceNeg, Int.reduceMul, Int.reduceAdd, Int.reduceSub, Int.reduceToNat, Int.reducePow, g1, g2, g3, g4, g6, w9, w8, d1, d2, v6, shun_un, veil_un, tidy_int]
              · have d1 : ((j : Int) < ((a.length - i : Nat) : Int)) = False := eq_false (by omega)
                simp only [R1, R2, R3, R4, R5, R6, R7, R8, AV.flat, fillIn_nil, fillIn_cons, splice, AV.cells, AV.one, eqsOf, idx, SO.calls, List.reduceReplicate, Nat.reduceBEq, Nat.reduceLT, Nat.reduceAdd, Nat.reduceMul, Nat.reduceSub, Nat.reduceLeDiff, Nat.reduceEqDiff, ↓reduceIte, Int.reduceLT, Int.reduceEq, Int.reduceBNe, Int.reduceBEq, aeq, Int.reduceLE, Int.reduceNeg, Int.reduceMul, Int.reduceAdd, Int.reduceSub, Int.reduceToNat, Int.reducePow, g1, g2, g3, g4, g6, w9, w8, d1, v6, shun_un, veil_un, tidy_int]
        · have a1 : ((i : Int) < (a.length : Int)) = False := eq_false (by omega)
          simp only [R1, R2, R3, R4, R5, R6, R7, R8, AV.flat, fillIn_nil, fillIn_cons, splice, AV.cells, AV.one, eqsOf, idx, SO.calls, List.reduceReplicate, Nat.reduceBEq, Nat.reduceLT, Nat.reduceAdd, Nat.reduceMul, Nat.reduceSub, Nat.reduceLeDiff, Nat.reduceEqDiff, ↓reduceIte, Int.reduceLT, Int.reduceEq, Int.reduceBNe, Int.reduceBEq, aeq, Int.reduceLE, Int.reduceNeg, Int.reduceMul, Int.reduceAdd, Int.reduceSub, Int.reduceToNat, Int.reducePow, g1, g2, g3, g4, a1, shun_un, veil_un]
          refine ends_loop (fun k t H' => t.length = 67 ∧ H = H' ∧ t.getD 0 .undef = .str (mkS a) ∧ t.getD 1 .undef = .str (mkS b) ∧ t.getD 5 .undef = .int .i64 (i : Int) ∧ ∃ j : Nat, j ≤ min a.length b.length - i ∧ k = min a.length b.length - i - j ∧ t.getD 6 .undef = .int .i64 (j : Int) ∧ sufL a b = scan (sufQ a b) (min a.length b.length - i - j) j) (min a.length b.length - i) ?_ ?_
          · simp only [R1, R2, R3, R4, R5, R6, R7, R8, AV.flat, fillIn_nil, fillIn_cons, splice, AV.cells, AV.one, eqsOf, idx, SO.calls, List.reduceReplicate, Nat.reduceBEq, Nat.reduceLT, Nat.reduceAdd, Nat.reduceMul, Nat.reduceSub, Nat.reduceLeDiff, Nat.reduceEqDiff, ↓reduceIte, Int.reduceLT, Int.reduceEq, Int.reduceBNe, Int.reduceBEq, aeq, Int.reduceLE, Int.reduceNeg, Int.reduceMul, Int.reduceAdd, Int.reduceSub, Int.reduceToNat, Int.reducePow, g1, g2, g3, g4]
            exact ⟨0, by omega, by omega, rfl, hse⟩
          · rintro k t _ ⟨g1, rfl, g2, g3, g4, j, hj, rfl, g6, g7⟩
            rw [← tm_nil t]
            have v6 : IntKind.i64.wrap (((b.length - i : Nat) : Int) - (j : Int)) = ((b.length - i - j : Nat) : Int) := by rw [wrap_i64 (by omega) (by omega)]; omega
            by_cases hcj : j < min a.length b.length - i
            · have d1 : ((j : Int) < ((a.length - i : Nat) : Int)) = True := eq_true (by omega)
              have d2 : ((j : Int) < ((b.length - i : Nat) : Int)) = True := eq_true (by omega)
              have v1 : IntKind.i64.wrap ((a.length : Int) - 1) = ((a.length - 1 : Nat) : Int) := by rw [wrap_i64 (by omega) (by omega)]; omega
              have v2 : IntKind.i64.wrap ((b.length : Int) - 1) = ((b.length - 1 : Nat) : Int) := by rw [wrap_i64 (by omega) (by omega)]; omega
              have v3 : IntKind.i64.wrap (((a.length - 1 : Nat) : Int) - (j : Int)) = ((a.length - 1 - j : Nat) : Int) := by rw [wrap_i64 (by omega) (by omega)]; omega
              have v4 : IntKind.i64.wrap (((b.length - 1 : Nat) : Int) - (j : Int)) = ((b.length - 1 - j : Nat) : Int) := by rw [wrap_i64 (by omega) (by omega)]; omega
              have v5 : IntKind.i64.wrap ((j : Int) + 1) = ((j + 1 : Nat) : Int) := by rw [wrap_i64 (by omega) (by omega)]; rfl
              have x1 := get_at (l := a) (i := a.length - 1 - j) (by omega)
              have x2 := get_at (l := b) (i := b.length - 1 - j) (by omega)
              have x3 := byte_beq (a.getD (a.length - 1 - j) 0) (b.getD (b.length - 1 - j) 0)
              rw [show decide (a.getD (a.length - 1 - j) 0 = b.getD (b.length - 1 - j) 0) = sufQ a b j from rfl] at x3
              have hstep : sufL a b = if sufQ a b j = true then scan (sufQ a b) (min a.length b.length - i - (j + 1)) (j + 1) else j := by
                rw [g7, show min a.length b.length - i - j = (min a.length b.length - i - (j + 1)) + 1 by omega, scan]
              generalize a.getD (a.length - 1 - j) 0 = y1 at *
              generalize b.getD (b.length - 1 - j) 0 = y2 at *
              cases hQ : sufQ a b j
              · rw [hQ] at x3
                rw [hQ, if_neg (by simp)] at hstep
                rw [hstep]
                simp only [R1, R2, R3, R4, R5, R6, R7, R8, AV.flat, fillIn_nil, fillIn_cons, splice, AV.cells, AV.one, eqsOf, idx, SO.calls, List.reduceReplicate, Nat.reduceBEq, Nat.reduceLT, Nat.reduceAdd, Nat.reduceMul, Nat.reduceSub, Nat.reduceLeDiff, Nat.reduceEqDiff, ↓reduceIte, Int.reduceLT, Int.reduceEq, Int.reduceBNe, Int.reduceBEq, aeq, Int.reduceLE, Int.reduceNeg, Int.reduceMul, Int.reduceAdd, Int.reduceSub, Int.reduceToNat, Int.reducePow, g1, g2, g3, g4, g6, w9, w8, d1, d2, v1, v2, v3, v4, v6, ixs_mkS, x1, x2, x3, shun_un, veil_un, tidy_int]
              · rw [hQ] at x3
                rw [hQ, if_pos rfl] at hstep
                simp only [R1, R2, R3, R4, R5, R6, R7, R8, AV.flat, fillIn_nil, fillIn_cons, splice, AV.cells, AV.one, eqsOf, idx, SO.calls, List.reduceReplicate, Nat.reduceBEq, Nat.reduceLT, Nat.reduceAdd, Nat.reduceMul, Nat.reduceSub, Nat.reduceLeDiff, Nat.reduceEqDiff, ↓reduceIte, Int.reduceLT, Int.reduceEq, Int.reduceBNe, Int.reduceBEq, aeq, Int.reduceLE, Int.reduceNeg, Int.reduceMul, Int.reduceAdd, Int.reduceSub, Int.reduceToNat, Int.reducePow, g1, g2, g3, g4, g6, w9, w8, d1, d2, v1, v2, v3, v4, v5, ixs_mkS, x1, x2, x3, shun_un, veil_un]
                exact ⟨_, by omega, j + 1, by omega, rfl, rfl, hstep⟩
            · rw [show min a.length b.length - i - j = 0 by omega, scan] at g7
              rw [g7]
              by_cases hja : j < a.length - i
              · have d1 : ((j : Int) < ((a.length - i : Nat) : Int)) = True := eq_true (by omega)
                have d2 : ((j : Int) < ((b.length - i : Nat) : Int)) = False := eq_false (by omega)
                simp only [R1, R2, R3, R4, R5, R6, R7, R8, AV.flat, fillIn_nil, fillIn_cons, splice, AV.cells, AV.one, eqsOf, idx, SO.calls, List.reduceReplicate, Nat.reduceBEq, Nat.reduceLT, Nat.reduceAdd, Nat.reduceMul, Nat.reduceSub, Nat.reduceLeDiff, Nat.reduceEqDiff, ↓reduceIte, Int.reduceLT, Int.reduceEq, Int.reduceBNe, Int.reduceBEq, aeq, Int.reduceLE, Int.reduceNeg, Int.reduceMul, Int.reduceAdd, Int.reduceSub, Int.reduceToNat, Int.reducePow, g1, g2, g3, g4, g6, w9, w8, d1, d2, v6, shun_un, veil_un, tidy_int]
              · have d1 : ((j : Int) < ((a.length - i : Nat) : Int)) = False := eq_false (by omega)
                simp only [R1, R2, R3, R4, R5, R6, R7, R8, AV.flat, fillIn_nil, fillIn_cons, splice, AV.cells, AV.one, eqsOf, idx, SO.calls, List.reduceReplicate, Nat.reduceBEq, Nat.reduceLT, Nat.reduceAdd, Nat.reduceMul, Nat.reduceSub, Nat.reduceLeDiff, Nat.reduceEqDiff, ↓reduceIte, Int.reduceLT, Int.reduceEq, Int.reduceBNe, Int.reduceBEq, aeq, Int.reduceLE, Int.reduceNeg, Int.reduceMul, Int.reduceAdd, Int.reduceSub, Int.reduceToNat, Int.reducePow, g1, g2, g3, g4, g6, w9, w8, d1, v6, shun_un, veil_un, tidy_int]
end Go.Proofs.Ytkcbjeenoafbkaa
