/- Chapter 42: Diff. -/
import Derived.Test.YtkcbjeenoafbkaaC42g
set_option linter.unusedVariables false
set_option linter.unusedSimpArgs false
set_option maxRecDepth 100000
set_option maxHeartbeats 2000000
namespace Go.Proofs.Ytkcbjeenoafbkaa
open Go Go.Den
/-- How long a property holds, from k on, r numbers at most. -/
def scan (P : Nat → Bool) : Nat → Nat → Nat
  | 0, k => k
  | r + 1, k => if P k = true then scan P r (k + 1) else k
theorem scan_le (P : Nat → Bool) : ∀ r k, scan P r k ≤ k + r ∧ k ≤ scan P r k
  | 0, k => by simp [scan]
  | r + 1, k => by
    have := scan_le P r (k + 1)
    rw [scan]; split <;> omega
theorem scan_all (P : Nat → Bool) : ∀ r k j, k ≤ j → j < scan P r k → P j = true
  | 0, k, j, h1, h2 => by simp only [scan] at h2; omega
  | r + 1, k, j, h1, h2 => by
    rw [scan] at h2
    split at h2
    · rename_i hk
      rcases Nat.lt_or_ge k j with h | h
      · exact scan_all P r (k + 1) j h h2
      · obtain rfl : j = k := by omega
        exact hk
    · omega
def preQ (a b : List UInt8) (j : Nat) : Bool := decide (a.getD j 0 = b.getD j 0)
def sufQ (a b : List UInt8) (j : Nat) : Bool := decide (a.getD (a.length - 1 - j) 0 = b.getD (b.length - 1 - j) 0)
def preL (a b : List UInt8) : Nat := scan (preQ a b) (min a.length b.length) 0
def sufL (a b : List UInt8) : Nat := scan (sufQ a b) (min a.length b.length - preL a b) 0
theorem preL_le (a b : List UInt8) : preL a b ≤ min a.length b.length := by have := (scan_le (preQ a b) (min a.length b.length) 0).1; unfold preL; omega
theorem sufL_le (a b : List UInt8) : sufL a b ≤ min a.length b.length - preL a b := by have := (scan_le (sufQ a b) (min a.length b.length - preL a b) 0).1; unfold sufL; omega
theorem byte_beq (x y : UInt8) : (((x.toNat : Int)) == ((y.toNat : Int))) = decide (x = y) := by
  rw [Bool.eq_iff_iff]
  simp only [beq_iff_eq, decide_eq_true_eq]
  constructor
  · intro h; exact UInt8.toNat_inj.1 (by omega)
  · intro h; rw [h]
theorem get_at {l : List UInt8} {i : Nat} (h : i < l.length) : l[i]? = some (l.getD i 0) := by simp [List.getD_eq_getElem?_getD, h]
theorem c49 {a b : List UInt8} (ha : a.length ≤ 1000000) (hb : b.length ≤ 1000000) (H : Heap) : call env 49 [.str (mkS a), .str (mkS b)] H = some (.tup [.int .i64 (preL a b : Nat), .int .i64 (sufL a b : Nat)], H) := by
  have hmin : min (a.length : Int) (b.length : Int) = ((min a.length b.length : Nat) : Int) := by omega
  refine call_ends (fn := s49) rfl rfl (by simp [s49]) ?_
  simp only [s49, R1, R2, R3, R4, R5, R6, R7, R8, AV.flat, fillIn_nil, fillIn_cons, splice, AV.cells, AV.one, eqsOf, idx, SO.calls, List.reduceReplicate, Nat.reduceBEq, Nat.reduceLT, Nat.reduceAdd, Nat.reduceMul, Nat.reduceSub, Nat.reduceLeDiff, Nat.reduceEqDiff, ↓reduceIte, Int.reduceLT, Int.reduceEq, Int.reduceBNe, Int.reduceBEq, aeq, Int.reduceLE, Int.reduceNeg, Int.reduceMul, Int.reduceAdd, Int.reduceSub, Int.reduceToNat, Int.reducePow]
  refine ends_loop (fun k t H' => t.length = 56 ∧ H = H' ∧ t.getD 0 .undef = .str (mkS a) ∧ t.getD 1 .undef = .str (mkS b) ∧ ∃ i : Nat, i ≤ min a.length b.length ∧ k = min a.length b.length - i ∧ t.getD 6 .undef = .int .i64 (i : Int) ∧ preL a b = scan (preQ a b) (min a.length b.length - i) i) (min a.length b.length) ?_ ?_
  · simp only [R1, R2, R3, R4, R5, R6, R7, R8, AV.flat, fillIn_nil, fillIn_cons, splice, AV.cells, AV.one, eqsOf, idx, SO.calls, List.reduceReplicate, Nat.reduceBEq, Nat.reduceLT, Nat.reduceAdd, Nat.reduceMul, Nat.reduceSub, Nat.reduceLeDiff, Nat.reduceEqDiff, ↓reduceIte, Int.reduceLT, Int.reduceEq, Int.reduceBNe, Int.reduceBEq, aeq, Int.reduceLE, Int.reduceNeg, Int.reduceMul, Int.reduceAdd, Int.reduceSub, Int.reduceToNat, Int.reducePow]
    exact ⟨0, by omega, by omega, rfl, rfl⟩
  · rintro k t _ ⟨g1, rfl, g2, g3, i, hi, rfl, g4, g5⟩
    rw [← tm_nil t]
    have hdone : (¬ i < min a.length b.length ∨ preQ a b i = false) → preL a b = i := fun h => by
      rw [g5]
      rcases h with h | h
      · rw [show min a.length b.length - i = 0 by omega, scan]
      · cases hr : min a.length b.length - i with
        | zero => rfl
        | succ r => rw [scan, if_neg (by simp [h])]
    by_cases hc : i < min a.length b.length ∧ preQ a b i = true
    · obtain ⟨hc, hP⟩ := hc
      have a1 : ((i : Int) < ((min a.length b.length : Nat) : Int)) = True := eq_true (by omega)
      have w1 : IntKind.i64.wrap ((i : Int) + 1) = ((i + 1 : Nat) : Int) := by rw [wrap_i64 (by omega) (by omega)]; rfl
      have x1 := get_at (l := a) (i := i) (by omega)
      have x2 := get_at (l := b) (i := i) (by omega)
      have x3 : (((a.getD i 0).toNat : Int) == ((b.getD i 0).toNat : Int)) = true := by rw [byte_beq]; exact hP
      have hnext : preL a b = scan (preQ a b) (min a.length b.length - (i + 1)) (i + 1) := by
        rw [g5, show min a.length b.length - i = (min a.length b.length - (i + 1)) + 1 by omega, scan, if_pos hP]
      generalize a.getD i 0 = y1 at *
      generalize b.getD i 0 = y2 at *
      simp only [R1, R2, R3, R4, R5, R6, R7, R8, AV.flat, fillIn_nil, fillIn_cons, splice, AV.cells, AV.one, eqsOf, idx, SO.calls, List.reduceReplicate, Nat.reduceBEq, Nat.reduceLT, Nat.reduceAdd, Nat.reduceMul, Nat.reduceSub, Nat.reduceLeDiff, Nat.reduceEqDiff, ↓reduceIte, Int.reduceLT, Int.reduceEq, Int.reduceBNe, Int.reduceBEq, aeq, Int.reduceLE, Int.reduceNeg, Int.reduceMul, Int.reduceAdd, Int.reduceSub, Int.reduceToNat, Int.reducePow, g1, g2, g3, g4, hmin, a1, w1, ixs_mkS, x1, x2, x3, shun_un, veil_un]
      exact ⟨_, by omega, i + 1, by omega, rfl, rfl, hnext⟩
    · have hpe : preL a b = i := hdone (by
        by_cases h : i < min a.length b.length
        · exact .inr (by simpa using fun h2 => hc ⟨h, h2⟩)
        · exact .inl h)
      have hse : sufL a b = scan (sufQ a b) (min a.length b.length - i) 0 := by unfold sufL; rw [hpe]
      have w9 : IntKind.i64.wrap (((min a.length b.length : Nat) : Int) - (i : Int)) = ((min a.length b.length - i : Nat) : Int) := by rw [wrap_i64 (by omega) (by omega)]; omega
      rw [hpe]
      by_cases hci : i < min a.length b.length
      · have hP : preQ a b i = false := by simpa using fun h2 => hc ⟨hci, h2⟩
        have a1 : ((i : Int) < ((min a.length b.length : Nat) : Int)) = True := eq_true (by omega)
        have x1 := get_at (l := a) (i := i) (by omega)
        have x2 := get_at (l := b) (i := i) (by omega)
        have x3 : (((a.getD i 0).toNat : Int) == ((b.getD i 0).toNat : Int)) = false := by rw [byte_beq]; exact hP
        generalize a.getD i 0 = y1 at *
        generalize b.getD i 0 = y2 at *
        simp only [R1, R2, R3, R4, R5, R6, R7, R8, AV.flat, fillIn_nil, fillIn_cons, splice, AV.cells, AV.one, eqsOf, idx, SO.calls, List.reduceReplicate, Nat.reduceBEq, Nat.reduceLT, Nat.reduceAdd, Nat.reduceMul, Nat.reduceSub, Nat.reduceLeDiff, Nat.reduceEqDiff, ↓reduceIte, Int.reduceLT, Int.reduceEq, Int.reduceBNe, Int.reduceBEq, aeq, Int.reduceLE, Int.reduceNeg, Int.reduceMul, Int.reduceAdd, Int.reduceSub, Int.reduceToNat, Int.reducePow, g1, g2, g3, g4, hmin, a1, ixs_mkS, x1, x2, x3, shun_un, veil_un]
        refine ends_loop (fun k t H' => t.length = 56 ∧ H = H' ∧ t.getD 0 .undef = .str (mkS a) ∧ t.getD 1 .undef = .str (mkS b) ∧ t.getD 6 .undef = .int .i64 (i : Int) ∧ ∃ j : Nat, j ≤ min a.length b.length - i ∧ k = min a.length b.length - i - j ∧ t.getD 7 .undef = .int .i64 (j : Int) ∧ sufL a b = scan (sufQ a b) (min a.length b.length - i - j) j) (min a.length b.length - i) ?_ ?_
        · simp only [R1, R2, R3, R4, R5, R6, R7, R8, AV.flat, fillIn_nil, fillIn_cons, splice, AV.cells, AV.one, eqsOf, idx, SO.calls, List.reduceReplicate, Nat.reduceBEq, Nat.reduceLT, Nat.reduceAdd, Nat.reduceMul, Nat.reduceSub, Nat.reduceLeDiff, Nat.reduceEqDiff, ↓reduceIte, Int.reduceLT, Int.reduceEq, Int.reduceBNe, Int.reduceBEq, aeq, Int.reduceLE, Int.reduceNeg, Int.reduceMul, Int.reduceAdd, Int.reduceSub, Int.reduceToNat, Int.reducePow, g1, g2, g3, g4]
          exact ⟨0, by omega, by omega, rfl, hse⟩
        · rintro k t _ ⟨g1, rfl, g2, g3, g4, j, hj, rfl, g6, g7⟩
          rw [← tm_nil t]
          by_cases hcj : j < min a.length b.length - i
          · have d1 : ((j : Int) < ((min a.length b.length - i : Nat) : Int)) = True := eq_true (by omega)
            have v1 : IntKind.i64.wrap ((a.length : Int) - 1) = ((a.length - 1 : Nat) : Int) := by rw [wrap_i64 (by omega) (by omega)]; omega
            have v2 : IntKind.i64.wrap ((b.length : Int) - 1) = ((b.length - 1 : Nat) : Int) := by rw [wrap_i64 (by omega) (by omega)]; omega
            have v3 : IntKind.i64.wrap (((a.length - 1 : Nat) : Int) - (j : Int)) = ((a.length - 1 - j : Nat) : Int) := by rw [wrap_i64 (by omega) (by omega)]; omega
            have v4 : IntKind.i64.wrap (((b.length - 1 : Nat) : Int) - (j : Int)) = ((b.length - 1 - j : Nat) : Int) := by rw [wrap_i64 (by omega) (by omega)]; omega
            have v5 : IntKind.i64.wrap ((j : Int) + 1) = ((j + 1 : Nat) : Int) := by rw [wrap_i64 (by omega) (by omega)]; rfl
            have x1 := get_at (l := a) (i := a.length - 1 - j) (by omega)
            have x2 := get_at (l := b) (i := b.length - 1 - j) (by omega)
            have x3 := byte_beq (a.getD (a.length - 1 - j) 0) (b.getD (b.length - 1 - j) 0)
            rw [show decide (a.getD (a.length - 1 - j) 0 = b.getD (b.length - 1 - j) 0) = sufQ a b j from rfl] at x3
            have hstep : sufL a b = if sufQ a b j = true then scan (sufQ a b) (min a.length b.length - i - (j + 1)) (j + 1) else j := by
              rw [g7, show min a.length b.length - i - j = (min a.length b.length - i - (j + 1)) + 1 by omega, scan]
            generalize a.getD (a.length - 1 - j) 0 = y1 at *
            generalize b.getD (b.length - 1 - j) 0 = y2 at *
            cases hQ : sufQ a b j
            · rw [hQ] at x3
              rw [hQ, if_neg (by simp)] at hstep
              rw [hstep]
              simp only [R1, R2, R3, R4, R5, R6, R7, R8, AV.flat, fillIn_nil, fillIn_cons, splice, AV.cells, AV.one, eqsOf, idx, SO.calls, List.reduceReplicate, Nat.reduceBEq, Nat.reduceLT, Nat.reduceAdd, Nat.reduceMul, Nat.reduceSub, Nat.reduceLeDiff, Nat.reduceEqDiff, ↓reduceIte, Int.reduceLT, Int.reduceEq, Int.reduceBNe, Int.reduceBEq, aeq, Int.reduceLE, Int.reduceNeg, Int.reduceMul, Int.reduceAdd, Int.reduceSub, Int.reduceToNat, Int.reducePow, g1, g2, g3, g4, g6, hmin, w9, d1, v1, v2, v3, v4, ixs_mkS, x1, x2, x3, shun_un, veil_un]
            · rw [hQ] at x3
              rw [hQ, if_pos rfl] at hstep
              simp only [R1, R2, R3, R4, R5, R6, R7, R8, AV.flat, fillIn_nil, fillIn_cons, splice, AV.cells, AV.one, eqsOf, idx, SO.calls, List.reduceReplicate, Nat.reduceBEq, Nat.reduceLT, Nat.reduceAdd, Nat.reduceMul, Nat.reduceSub, Nat.reduceLeDiff, Nat.reduceEqDiff, ↓reduceIte, Int.reduceLT, Int.reduceEq, Int.reduceBNe, Int.reduceBEq, aeq, Int.reduceLE, Int.reduceNeg, Int.reduceMul, Int.reduceAdd, Int.reduceSub, Int.reduceToNat, Int.reducePow, g1, g2, g3, g4, g6, hmin, w9, d1, v1, v2, v3, v4, v5, ixs_mkS, x1, x2, x3, shun_un, veil_un]
              exact ⟨_, by omega, j + 1, by omega, rfl, rfl, hstep⟩
          · have d1 : ((j : Int) < ((min a.length b.length - i : Nat) : Int)) = False := eq_false (by omega)
            rw [show min a.length b.length - i - j = 0 by omega, scan] at g7
            rw [g7]
            simp only [R1, R2, R3, R4, R5, R6, R7, R8, AV.flat, fillIn_nil, fillIn_cons, splice, AV.cells, AV.one, eqsOf, idx, SO.calls, List.reduceReplicate, Nat.reduceBEq, Nat.reduceLT, Nat.reduceAdd, Nat.reduceMul, Nat.reduceSub, Nat.reduceLeDiff, Nat.reduceEqDiff, ↓reduceIte, Int.reduceLT, Int.reduceEq, Int.reduceBNe, Int.reduceBEq, aeq, Int.reduceLE, Int.reduceNeg, Int.reduceMul, Int.reduceAdd, Int.reduceSub, Int.reduceToNat, Int.reducePow, g1, g2, g3, g4, g6, hmin, w9, d1, shun_un, veil_un]
      · have a1 : ((i : Int) < ((min a.length b.length : Nat) : Int)) = False := eq_false (by omega)
        simp only [R1, R2, R3, R4, R5, R6, R7, R8, AV.flat, fillIn_nil, fillIn_cons, splice, AV.cells, AV.one, eqsOf, idx, SO.calls, List.reduceReplicate, Nat.reduceBEq, Nat.reduceLT, Nat.reduceAdd, Nat.reduceMul, Nat.reduceSub, Nat.reduceLeDiff, Nat.reduceEqDiff, ↓reduceIte, Int.reduceLT, Int.reduceEq, Int.reduceBNe, Int.reduceBEq, aeq, Int.reduceLE, Int.reduceNeg, Int.reduceMul, Int.reduceAdd, Int.reduceSub, Int.reduceToNat, Int.reducePow, g1, g2, g3, g4, hmin, a1, shun_un, veil_un]
        refine ends_loop (fun k t H' => t.length = 56 ∧ H = H' ∧ t.getD 0 .undef = .str (mkS a) ∧ t.getD 1 .undef = .str (mkS b) ∧ t.getD 6 .undef = .int .i64 (i : Int) ∧ ∃ j : Nat, j ≤ min a.length b.length - i ∧ k = min a.length b.length - i - j ∧ t.getD 7 .undef = .int .i64 (j : Int) ∧ sufL a b = scan (sufQ a b) (min a.length b.length - i - j) j) (min a.length b.length - i) ?_ ?_
        · simp only [R1, R2, R3, R4, R5, R6, R7, R8, AV.flat, fillIn_nil, fillIn_cons, splice, AV.cells, AV.one, eqsOf, idx, SO.calls, List.reduceReplicate, Nat.reduceBEq, Nat.reduceLT, Nat.reduceAdd, Nat.reduceMul, Nat.reduceSub, Nat.reduceLeDiff, Nat.reduceEqDiff, ↓reduceIte, Int.reduceLT, Int.reduceEq, Int.reduceBNe, Int.reduceBEq, aeq, Int.reduceLE, Int.reduceNeg, Int.reduceMul, Int.reduceAdd, Int.reduceSub, Int.reduceToNat, Int.reducePow, g1, g2, g3, g4]
          exact ⟨0, by omega, by omega, rfl, hse⟩
        · rintro k t _ ⟨g1, rfl, g2, g3, g4, j, hj, rfl, g6, g7⟩
          rw [← tm_nil t]
          by_cases hcj : j < min a.length b.length - i
          · have d1 : ((j : Int) < ((min a.length b.length - i : Nat) : Int)) = True := eq_true (by omega)
            have v1 : IntKind.i64.wrap ((a.length : Int) - 1) = ((a.length - 1 : Nat) : Int) := by rw [wrap_i64 (by omega) (by omega)]; omega
            have v2 : IntKind.i64.wrap ((b.length : Int) - 1) = ((b.length - 1 : Nat) : Int) := by rw [wrap_i64 (by omega) (by omega)]; omega
            have v3 : IntKind.i64.wrap (((a.length - 1 : Nat) : Int) - (j : Int)) = ((a.length - 1 - j : Nat) : Int) := by rw [wrap_i64 (by omega) (by omega)]; omega
            have v4 : IntKind.i64.wrap (((b.length - 1 : Nat) : Int) - (j : Int)) = ((b.length - 1 - j : Nat) : Int) := by rw [wrap_i64 (by omega) (by omega)]; omega
            have v5 : IntKind.i64.wrap ((j : Int) + 1) = ((j + 1 : Nat) : Int) := by rw [wrap_i64 (by omega) (by omega)]; rfl
            have x1 := get_at (l := a) (i := a.length - 1 - j) (by omega)
            have x2 := get_at (l := b) (i := b.length - 1 - j) (by omega)
            have x3 := byte_beq (a.getD (a.length - 1 - j) 0) (b.getD (b.length - 1 - j) 0)
            rw [show decide (a.getD (a.length - 1 - j) 0 = b.getD (b.length - 1 - j) 0) = sufQ a b j from rfl] at x3
            have hstep : sufL a b = if sufQ a b j = true then scan (sufQ a b) (min a.length b.length - i - (j + 1)) (j + 1) else j := by
              rw [g7, show min a.length b.length - i - j = (min a.length b.length - i - (j + 1)) + 1 by omega, scan]
            generalize a.getD (a.length - 1 - j) 0 = y1 at *
            generalize b.getD (b.length - 1 - j) 0 = y2 at *
            cases hQ : sufQ a b j
            · rw [hQ] at x3
              rw [hQ, if_neg (by simp)] at hstep
              rw [hstep]
              simp only [R1, R2, R3, R4, R5, R6, R7, R8, AV.flat, fillIn_nil, fillIn_cons, splice, AV.cells, AV.one, eqsOf, idx, SO.calls, List.reduceReplicate, Nat.reduceBEq, Nat.reduceLT, Nat.reduceAdd, Nat.reduceMul, Nat.reduceSub, Nat.reduceLeDiff, Nat.reduceEqDiff, ↓reduceIte, Int.reduceLT, Int.reduceEq, Int.reduceBNe, Int.reduceBEq, aeq, Int.reduceLE, Int.reduceNeg, Int.reduceMul, Int.reduceAdd, Int.reduceSub, Int.reduceToNat, Int.reducePow, g1, g2, g3, g4, g6, hmin, w9, d1, v1, v2, v3, v4, ixs_mkS, x1, x2, x3, shun_un, veil_un]
            · rw [hQ] at x3
              rw [hQ, if_pos rfl] at hstep
              simp only [R1, R2, R3, R4, R5, R6, R7, R8, AV.flat, fillIn_nil, fillIn_cons, splice, AV.cells, AV.one, eqsOf, idx, SO.calls, List.reduceReplicate, Nat.reduceBEq, Nat.reduceLT, Nat.reduceAdd, Nat.reduceMul, Nat.reduceSub, Nat.reduceLeDiff, Nat.reduceEqDiff, ↓reduceIte, Int.reduceLT, Int.reduceEq, Int.reduceBNe, Int.reduceBEq, aeq, Int.reduceLE, Int.reduceNeg, Int.reduceMul, Int.reduceAdd, Int.reduceSub, Int.reduceToNat, Int.reducePow, g1, g2, g3, g4, g6, hmin, w9, d1, v1, v2, v3, v4, v5, ixs_mkS, x1, x2, x3, shun_un, veil_un]
              exact ⟨_, by omega, j + 1, by omega, rfl, rfl, hstep⟩
          · have d1 : ((j : Int) < ((min a.length b.length - i : Nat) : Int)) = False := eq_false (by omega)
            rw [show min a.length b.length - i - j = 0 by omega, scan] at g7
            rw [g7]
            simp only [R1, R2, R3, R4, R5, R6, R7, R8, AV.flat, fillIn_nil, fillIn_cons, splice, AV.cells, AV.one, eqsOf, idx, SO.calls, List.reduceReplicate, Nat.reduceBEq, Nat.reduceLT, Nat.reduceAdd, Nat.reduceMul, Nat.reduceSub, Nat.reduceLeDiff, Nat.reduceEqDiff, ↓reduceIte, Int.reduceLT, Int.reduceEq, Int.reduceBNe, Int.reduceBEq, aeq, Int.reduceLE, Int.reduceNeg, Int.reduceMul, Int.reduceAdd, Int.reduceSub, Int.reduceToNat, Int.reducePow, g1, g2, g3, g4, g6, hmin, w9, d1, shun_un, veil_un]
theorem c50 (n : Nat) (hn : n < 4294967296) (H : Heap) : call env 50 [.int .i64 (n : Int)] H = some (.str (mkS (putB n 4)), H) := by
  have e1 := fun H => c51 n H hn
  have w1 : IntKind.u32.wrap (n : Int) = n := wrap_u32 (by omega) (by omega)
  refine call_ends (fn := s50) rfl rfl (by simp [s50]) ?_
  simp only [s50, R1, R2, R3, R4, R5, R6, R7, R8, AV.flat, fillIn_nil, fillIn_cons, splice, AV.cells, AV.one, eqsOf, idx, SO.calls, List.reduceReplicate, Nat.reduceBEq, Nat.reduceLT, Nat.reduceAdd, Nat.reduceMul, Nat.reduceSub, Nat.reduceLeDiff, Nat.reduceEqDiff, ↓reduceIte, Int.reduceLT, Int.reduceEq, Int.reduceBNe, Int.reduceBEq, aeq, Int.reduceLE, Int.reduceNeg, Int.reduceMul, Int.reduceAdd, Int.reduceSub, Int.reduceToNat, Int.reducePow, w1, e1, tidy_str0]
def copiedP (f n : Nat) : List UInt8 := if n = 0 then [] else [0] ++ putB f 4 ++ putB n 4
def givenP (s : List UInt8) : List UInt8 := if s = [] then [] else [1] ++ putB s.length 4 ++ s
theorem copied_len (f n : Nat) : (copiedP f n).length ≤ 9 := by unfold copiedP; split <;> simp [putB_len]
theorem given_len (s : List UInt8) : (givenP s).length ≤ 5 + s.length := by unfold givenP; split <;> simp [putB_len]; omega
theorem c53 (f n : Nat) (hf : f < 4294967296) (hn : n < 4294967296) (H : Heap) : call env 53 [.int .i64 (f : Int), .int .i64 (n : Int)] H = some (.str (mkS (copiedP f n)), H) := by
  unfold copiedP
  by_cases h : n = 0
  · have b1 : ((n : Int) == 0) = true := by simp [h]
    rw [if_pos h]
    refine call_ends (fn := s53) rfl rfl (by simp [s53]) ?_
    simp only [s53, R1, R2, R3, R4, R5, R6, R7, R8, AV.flat, fillIn_nil, fillIn_cons, splice, AV.cells, AV.one, eqsOf, idx, SO.calls, List.reduceReplicate, Nat.reduceBEq, Nat.reduceLT, Nat.reduceAdd, Nat.reduceMul, Nat.reduceSub, Nat.reduceLeDiff, Nat.reduceEqDiff, ↓reduceIte, Int.reduceLT, Int.reduceEq, Int.reduceBNe, Int.reduceBEq, aeq, Int.reduceLE, Int.reduceNeg, Int.reduceMul, Int.reduceAdd, Int.reduceSub, Int.reduceToNat, Int.reducePow, b1, tidy_str0]
  · have b1 : ((n : Int) == 0) = false := by simp [h]
    rw [if_neg h]
    have e1 := fun H => c50 f hf H
    have e2 := fun H => c50 n hn H
    have e3 : strOf (.sl H.length 0 1 1 (some 1)) (H ++ [.cells [.int .u8 0] 5 true]) = some (.str (mkS [0]), H ++ [.cells [.int .u8 0] 5 true]) := @str_one H 0 5 true (some 1)
    have a1 := fun H => @bin_adds H [0] (putB f 4) (by simp [putB_len])
    have a2 := fun H => @bin_adds H ([0] ++ putB f 4) (putB n 4) (by simp [putB_len])
    generalize [0] ++ putB f 4 ++ putB n 4 = r2 at *
    generalize [0] ++ putB f 4 = r1 at *
    generalize putB f 4 = r3 at *
    generalize putB n 4 = r4 at *
    refine call_ends (fn := s53) rfl rfl (by simp [s53]) ?_
    simp only [s53, R1, R2, R3, R4, R5, R6, R7, R8, AV.flat, fillIn_nil, fillIn_cons, splice, AV.cells, AV.one, eqsOf, idx, SO.calls, List.reduceReplicate, Nat.reduceBEq, Nat.reduceLT, Nat.reduceAdd, Nat.reduceMul, Nat.reduceSub, Nat.reduceLeDiff, Nat.reduceEqDiff, ↓reduceIte, Int.reduceLT, Int.reduceEq, Int.reduceBNe, Int.reduceBEq, aeq, Int.reduceLE, Int.reduceNeg, Int.reduceMul, Int.reduceAdd, Int.reduceSub, Int.reduceToNat, Int.reducePow, b1, e1, e2, e3, a1, a2, shun_un, veil_un]
    rw [tidy_str]
theorem c54 (l : List UInt8) (hl : l.length ≤ 1000000) (H : Heap) : call env 54 [.str (mkS l)] H = some (.str (mkS (givenP l)), H) := by
  unfold givenP
  by_cases h : l = []
  · have b1 : (l == []) = true := by simp [h]
    rw [if_pos h]
    refine call_ends (fn := s54) rfl rfl (by simp [s54]) ?_
    simp only [s54, R1, R2, R3, R4, R5, R6, R7, R8, AV.flat, fillIn_nil, fillIn_cons, splice, AV.cells, AV.one, eqsOf, idx, SO.calls, List.reduceReplicate, Nat.reduceBEq, Nat.reduceLT, Nat.reduceAdd, Nat.reduceMul, Nat.reduceSub, Nat.reduceLeDiff, Nat.reduceEqDiff, ↓reduceIte, Int.reduceLT, Int.reduceEq, Int.reduceBNe, Int.reduceBEq, aeq, Int.reduceLE, Int.reduceNeg, Int.reduceMul, Int.reduceAdd, Int.reduceSub, Int.reduceToNat, Int.reducePow, b1, tidy_str0]
  · have b1 : (l == []) = false := by simp [h]
    rw [if_neg h]
    have e1 := fun H => c50 l.length (by omega) H
    have e3 : strOf (.sl H.length 0 1 1 (some 1)) (H ++ [.cells [.int .u8 1] 5 true]) = some (.str (mkS [1]), H ++ [.cells [.int .u8 1] 5 true]) := @str_one H 1 5 true (some 1)
    have a1 := fun H => @bin_adds H [1] (putB l.length 4) (by simp [putB_len])
    have a2 := fun H => @bin_adds H ([1] ++ putB l.length 4) l (by simp [putB_len]; omega)
    generalize [1] ++ putB l.length 4 ++ l = r2 at *
    generalize [1] ++ putB l.length 4 = r1 at *
    generalize putB l.length 4 = r3 at *
    refine call_ends (fn := s54) rfl rfl (by simp [s54]) ?_
    simp only [s54, R1, R2, R3, R4, R5, R6, R7, R8, AV.flat, fillIn_nil, fillIn_cons, splice, AV.cells, AV.one, eqsOf, idx, SO.calls, List.reduceReplicate, Nat.reduceBEq, Nat.reduceLT, Nat.reduceAdd, Nat.reduceMul, Nat.reduceSub, Nat.reduceLeDiff, Nat.reduceEqDiff, ↓reduceIte, Int.reduceLT, Int.reduceEq, Int.reduceBNe, Int.reduceBEq, aeq, Int.reduceLE, Int.reduceNeg, Int.reduceMul, Int.reduceAdd, Int.reduceSub, Int.reduceToNat, Int.reducePow, b1, e1, e3, a1, a2, shun_un, veil_un]
    rw [tidy_str]
def midP (a b : List UInt8) : List UInt8 := (b.drop (preL a b)).take (b.length - sufL a b - preL a b)
def beginP (a b : List UInt8) : List UInt8 := putB a.length 4 ++ putB (crcN a) 4 ++ putB b.length 4 ++ putB (crcN b) 4
def DiffP (a b : List UInt8) : List UInt8 := beginP a b ++ copiedP 0 (preL a b) ++ givenP (midP a b) ++ copiedP (a.length - sufL a b) (sufL a b)
theorem long_diff {a b : List UInt8} (h : a.length > 65536 ∨ b.length > 65536) (H : Heap) : call env 26 [.str (mkS a), .str (mkS b)] H = some (.tup [.str (mkS []), .int .i64 6], H) := by
  have b1 : (max (a.length : Int) (b.length : Int) > 65536) = True := eq_true (by omega)
  refine call_ends (fn := s26) rfl rfl (by simp [s26]) ?_
  simp only [s26, R1, R2, R3, R4, R5, R6, R7, R8, AV.flat, fillIn_nil, fillIn_cons, splice, AV.cells, AV.one, eqsOf, idx, SO.calls, List.reduceReplicate, Nat.reduceBEq, Nat.reduceLT, Nat.reduceAdd, Nat.reduceMul, Nat.reduceSub, Nat.reduceLeDiff, Nat.reduceEqDiff, ↓reduceIte, Int.reduceLT, Int.reduceEq, Int.reduceBNe, Int.reduceBEq, aeq, Int.reduceLE, Int.reduceNeg, Int.reduceMul, Int.reduceAdd, Int.reduceSub, Int.reduceToNat, Int.reducePow, b1]
theorem is_diff {a b : List UInt8} (ha : a.length ≤ 65536) (hb : b.length ≤ 65536) (H : Heap) : call env 26 [.str (mkS a), .str (mkS b)] H = some (.tup [.str (mkS (DiffP a b)), .int .i64 0], H) := by
  have b1 : (max (a.length : Int) (b.length : Int) > 65536) = False := eq_false (by omega)
  have e1 := fun H => c49 (a := a) (b := b) (by omega) (by omega) H
  have hpl := preL_le a b
  have hsl := sufL_le a b
  have p1 := fun H => c50 a.length (by omega) H
  have p2 := fun H => c50 b.length (by omega) H
  have c1 := fun H => crc_of a (by omega) H
  have c2 := fun H => crc_of b (by omega) H
  have p3 := fun H => c51 (crcN a) H (crcN_lt a)
  have p4 := fun H => c51 (crcN b) H (crcN_lt b)
  have k1 := fun H => c53 0 (preL a b) (by omega) (by omega) H
  have k2 := fun H => c54 (midP a b) (by unfold midP; rw [List.length_take, List.length_drop]; omega) H
  have k3 := fun H => c53 (a.length - sufL a b) (sufL a b) (by omega) (by omega) H
  have w1 : IntKind.i64.wrap ((b.length : Int) - ((sufL a b : Nat) : Int)) = ((b.length - sufL a b : Nat) : Int) := by rw [wrap_i64 (by omega) (by omega)]; omega
  have w2 : IntKind.i64.wrap ((a.length : Int) - ((sufL a b : Nat) : Int)) = ((a.length - sufL a b : Nat) : Int) := by rw [wrap_i64 (by omega) (by omega)]; omega
  have lc1 := copied_len 0 (preL a b)
  have lg := given_len (midP a b)
  have lc2 := copied_len (a.length - sufL a b) (sufL a b)
  have lm : (midP a b).length ≤ 65536 := by unfold midP; rw [List.length_take, List.length_drop]; omega
  have a1 := fun H => @bin_adds H (putB a.length 4) (putB (crcN a) 4) (by simp [putB_len])
  have a2 := fun H => @bin_adds H (putB a.length 4 ++ putB (crcN a) 4) (putB b.length 4) (by simp [putB_len])
  have a3 := fun H => @bin_adds H (putB a.length 4 ++ putB (crcN a) 4 ++ putB b.length 4) (putB (crcN b) 4) (by simp [putB_len])
  have a4 := fun H => @bin_adds H (beginP a b) (copiedP 0 (preL a b)) (by simp [beginP, putB_len]; omega)
  have a5 := fun H => @bin_adds H (beginP a b ++ copiedP 0 (preL a b)) (givenP (midP a b)) (by simp [beginP, putB_len]; omega)
  have a6 := fun H => @bin_adds H (beginP a b ++ copiedP 0 (preL a b) ++ givenP (midP a b)) (copiedP (a.length - sufL a b) (sufL a b)) (by simp [beginP, putB_len]; omega)
  have hsub : ∀ H : Heap, slstrOf (.str (mkS b)) (some (some (preL a b))) (some (some (b.length - sufL a b))) H = some (.str (mkS (midP a b)), H) := fun H => by
    have h1 : preL a b ≤ b.length - sufL a b := by omega
    simp [slstrOf, mkS_size, h1, mkS_extract, midP]
  rw [show putB a.length 4 ++ putB (crcN a) 4 ++ putB b.length 4 ++ putB (crcN b) 4 = beginP a b from rfl] at a3
  rw [show beginP a b ++ copiedP 0 (preL a b) ++ givenP (midP a b) ++ copiedP (a.length - sufL a b) (sufL a b) = DiffP a b from rfl] at a6
  simp only [Int.cast_ofNat_Int] at k1
  generalize DiffP a b = r6 at *
  generalize beginP a b ++ copiedP 0 (preL a b) ++ givenP (midP a b) = r5 at *
  generalize beginP a b ++ copiedP 0 (preL a b) = r4 at *
  generalize beginP a b = r3 at *
  generalize putB a.length 4 ++ putB (crcN a) 4 ++ putB b.length 4 = r2 at *
  generalize putB a.length 4 ++ putB (crcN a) 4 = r1 at *
  refine call_ends (fn := s26) rfl rfl (by simp [s26]) ?_
  simp only [s26, R1, R2, R3, R4, R5, R6, R7, R8, AV.flat, fillIn_nil, fillIn_cons, splice, AV.cells, AV.one, eqsOf, idx, SO.calls, List.reduceReplicate, Nat.reduceBEq, Nat.reduceLT, Nat.reduceAdd, Nat.reduceMul, Nat.reduceSub, Nat.reduceLeDiff, Nat.reduceEqDiff, ↓reduceIte, Int.reduceLT, Int.reduceEq, Int.reduceBNe, Int.reduceBEq, aeq, Int.reduceLE, Int.reduceNeg, Int.reduceMul, Int.reduceAdd, Int.reduceSub, Int.reduceToNat, Int.reducePow, b1, e1, p1, p2, p3, p4, c1, c2, k1, k2, k3, w1, w2, a1, a2, a3, a4, a5, a6, hsub, shun_un, veil_un]
end Go.Proofs.Ytkcbjeenoafbkaa
