/- Chapter 34: which pixels lie inside. -/
import Derived.Test.YtbnnfmncipdlpaaDoorC34e
import Derived.Test.YtbnnfmncipdlpaaDoorLeftX
set_option linter.unusedVariables false
set_option linter.unusedSimpArgs false
set_option maxRecDepth 100000
set_option maxHeartbeats 8000000
namespace Go.Proofs.YtbnnfmncipdlpaaDoor
open Go Go.Den
theorem at_mono {x : Ax} (hx : AxSm x) {i j : Int} (h : i ≤ j) : x.at i ≤ x.at j := by
  unfold Ax.at
  have h1 := hx.s
  have h2 := hx.b
  have : x.s * i ≤ x.s * j := Int.mul_le_mul_of_nonneg_left h (by omega)
  exact Int.ediv_le_ediv (by omega) (by omega)
def InsideP (x : Ax) (n : Nat) (most : Int) (lo hi : Nat) : Prop := lo ≤ hi ∧ hi ≤ n ∧ ∀ i : Nat, i < n → ((lo ≤ i ∧ i < hi) ↔ (0 ≤ x.at i ∧ x.at i ≤ most))
theorem c80 {x : Ax} (hx : AxSm x) {n : Nat} (hn : n ≤ 1024) (most : Int) (H : Heap) : ∃ lo hi : Nat, InsideP x n most lo hi ∧ call env 80 [.agg x.cs, .int .i64 (n : Int), .int .i64 most] H = some (.tup [.int .i64 (lo : Int), .int .i64 (hi : Int)], H) := by
  suffices h : ∃ r, call env 80 [.agg x.cs, .int .i64 (n : Int), .int .i64 most] H = some r ∧ ∃ lo hi : Nat, InsideP x n most lo hi ∧ r = (.tup [.int .i64 (lo : Int), .int .i64 (hi : Int)], H) by
    obtain ⟨_, h1, lo, hi, h2, rfl⟩ := h
    exact ⟨lo, hi, h2, h1⟩
  refine call_endsE (fn := s80) rfl rfl (by simp [s80]) fun W hW => ?_
  have fin : ∀ (lo hi : Nat) (X : Heap), InsideP x n most lo hi → W (tidy H (.tup [.int .i64 (lo : Int), .int .i64 (hi : Int)]) (H ++ X)) := fun lo hi X h => hW _ ⟨lo, hi, h, by rw [tidy_still rfl]⟩
  have hat := fun (i : Nat) (h : i ≤ 1024) (H : Heap) => c61 hx (i := (i : Int)) (by omega) H
  have mono := fun (i j : Nat) (h : i ≤ j) => at_mono hx (i := (i : Int)) (j := (j : Int)) (by omega)
  have e12 : x.cs = [.int .i64 x.s, .int .i64 x.f, .int .i64 x.b] := rfl
  simp only [e12] at hat ⊢
  simp only [s80, R1, R2, R3, R4, R5, R6, R7, R8, AV.flat, fillIn_nil, fillIn_cons, splice, AV.cells, AV.one, eqsOf, idx, SO.calls, List.reduceReplicate, Nat.reduceBEq, Nat.reduceLT, Nat.reduceAdd, Nat.reduceMul, Nat.reduceSub, Nat.reduceLeDiff, Nat.reduceEqDiff, ↓reduceIte, Int.reduceLT, Int.reduceEq, Int.reduceBNe, Int.reduceBEq, aeq, Int.reduceLE, Int.reduceNeg, Int.reduceMul, Int.reduceAdd, Int.reduceSub, Int.reduceToNat, Int.reducePow]
  refine ends_loop (fun k t H' => t.length = 44 ∧ H ++ [.cells [.int .i64 x.s, .int .i64 x.f, .int .i64 x.b] 116 true] = H' ∧ (t.getD 1 .undef = .int .i64 (n : Int) ∧ t.getD 2 .undef = .int .i64 most ∧ t.getD 3 .undef = .ptr H.length 0) ∧ ∃ lo hi : Nat, lo ≤ hi ∧ hi ≤ n ∧ k = hi - lo ∧ t.getD 9 .undef = .int .i64 (lo : Int) ∧ t.getD 10 .undef = .int .i64 (hi : Int) ∧ (∀ i : Nat, i < lo → x.at i < 0) ∧ (∀ i : Nat, hi ≤ i → i < n → 0 ≤ x.at i)) n ?_ ?_
  · simp only [R1, R2, R3, R4, R5, R6, R7, R8, AV.flat, fillIn_nil, fillIn_cons, splice, AV.cells, AV.one, eqsOf, idx, SO.calls, List.reduceReplicate, Nat.reduceBEq, Nat.reduceLT, Nat.reduceAdd, Nat.reduceMul, Nat.reduceSub, Nat.reduceLeDiff, Nat.reduceEqDiff, ↓reduceIte, Int.reduceLT, Int.reduceEq, Int.reduceBNe, Int.reduceBEq, aeq, Int.reduceLE, Int.reduceNeg, Int.reduceMul, Int.reduceAdd, Int.reduceSub, Int.reduceToNat, Int.reducePow]
    exact ⟨0, n, by omega, by omega, by omega, rfl, rfl, fun i h => absurd h (by omega), fun i h1 h2 => absurd h1 (by omega)⟩
  rintro k t _ ⟨g1, rfl, ⟨g2, g3, g4⟩, lo, hi, h1, h2, rfl, g5, g6, h3, h4⟩
  rw [← tm_nil t]
  by_cases hc : hi ≤ lo
  · obtain rfl : lo = hi := by omega
    have a1 : ((lo : Int) ≥ (lo : Int)) = True := eq_true (by omega)
    simp only [R1, R2, R3, R4, R5, R6, R7, R8, AV.flat, fillIn_nil, fillIn_cons, splice, AV.cells, AV.one, eqsOf, idx, SO.calls, List.reduceReplicate, Nat.reduceBEq, Nat.reduceLT, Nat.reduceAdd, Nat.reduceMul, Nat.reduceSub, Nat.reduceLeDiff, Nat.reduceEqDiff, ↓reduceIte, Int.reduceLT, Int.reduceEq, Int.reduceBNe, Int.reduceBEq, aeq, Int.reduceLE, Int.reduceNeg, Int.reduceMul, Int.reduceAdd, Int.reduceSub, Int.reduceToNat, Int.reducePow, g1, g2, g3, g4, g5, g6, a1]
    refine ends_loop (fun k t H' => t.length = 44 ∧ H ++ [.cells [.int .i64 x.s, .int .i64 x.f, .int .i64 x.b] 116 true] = H' ∧ (t.getD 1 .undef = .int .i64 (n : Int) ∧ t.getD 2 .undef = .int .i64 most ∧ t.getD 3 .undef = .ptr H.length 0 ∧ t.getD 8 .undef = .int .i64 (lo : Int)) ∧ ∃ to : Nat, lo ≤ to ∧ to ≤ n ∧ k = n - to ∧ t.getD 12 .undef = .int .i64 (to : Int) ∧ ∀ i : Nat, lo ≤ i → i < to → x.at i ≤ most) (n - lo) ?_ ?_
    · simp only [R1, R2, R3, R4, R5, R6, R7, R8, AV.flat, fillIn_nil, fillIn_cons, splice, AV.cells, AV.one, eqsOf, idx, SO.calls, List.reduceReplicate, Nat.reduceBEq, Nat.reduceLT, Nat.reduceAdd, Nat.reduceMul, Nat.reduceSub, Nat.reduceLeDiff, Nat.reduceEqDiff, ↓reduceIte, Int.reduceLT, Int.reduceEq, Int.reduceBNe, Int.reduceBEq, aeq, Int.reduceLE, Int.reduceNeg, Int.reduceMul, Int.reduceAdd, Int.reduceSub, Int.reduceToNat, Int.reducePow, g1, g2, g3, g4]
      exact ⟨lo, by omega, by omega, rfl, rfl, fun i h1 h2 => absurd h1 (by omega)⟩
    rintro k u _ ⟨k1, rfl, ⟨k2, k3, k4, k5⟩, to, y1, y2, rfl, k6, y3⟩
    rw [← tm_nil u]
    by_cases hd : to < n
    · have b1 : ((to : Int) < (n : Int)) = True := eq_true (by omega)
      have ea := hat to (by omega)
      by_cases he : x.at to ≤ most
      · have w1 : IntKind.i64.wrap ((to : Int) + 1) = ((to + 1 : Nat) : Int) := by rw [wrap_i64 (by omega) (by omega)]; rfl
        simp only [R1, R2, R3, R4, R5, R6, R7, R8, AV.flat, fillIn_nil, fillIn_cons, splice, AV.cells, AV.one, eqsOf, idx, SO.calls, List.reduceReplicate, Nat.reduceBEq, Nat.reduceLT, Nat.reduceAdd, Nat.reduceMul, Nat.reduceSub, Nat.reduceLeDiff, Nat.reduceEqDiff, ↓reduceIte, Int.reduceLT, Int.reduceEq, Int.reduceBNe, Int.reduceBEq, aeq, Int.reduceLE, Int.reduceNeg, Int.reduceMul, Int.reduceAdd, Int.reduceSub, Int.reduceToNat, Int.reducePow, k1, k2, k3, k4, k5, k6, b1, ea, eq_true he, w1]
        exact ⟨_, by omega, to + 1, by omega, by omega, rfl, rfl, fun i h1 h2 => by
          by_cases h5 : i = to
          · rw [h5]; exact he
          · exact y3 i h1 (by omega)⟩
      · simp only [R1, R2, R3, R4, R5, R6, R7, R8, AV.flat, fillIn_nil, fillIn_cons, splice, AV.cells, AV.one, eqsOf, idx, SO.calls, List.reduceReplicate, Nat.reduceBEq, Nat.reduceLT, Nat.reduceAdd, Nat.reduceMul, Nat.reduceSub, Nat.reduceLeDiff, Nat.reduceEqDiff, ↓reduceIte, Int.reduceLT, Int.reduceEq, Int.reduceBNe, Int.reduceBEq, aeq, Int.reduceLE, Int.reduceNeg, Int.reduceMul, Int.reduceAdd, Int.reduceSub, Int.reduceToNat, Int.reducePow, k1, k2, k3, k4, k5, k6, b1, ea, eq_false he, leftE_ret, got_some]
        refine fin lo to _ ⟨y1, y2, fun i hi => ⟨fun h => ⟨h4 i h.1 hi, y3 i h.1 h.2⟩, fun h => ⟨?_, ?_⟩⟩⟩
        · refine Decidable.byContradiction fun hq => ?_
          have := h3 i (by omega)
          omega
        · refine Decidable.byContradiction fun hq => ?_
          have := mono to i (by omega)
          omega
    · have b1 : ((to : Int) < (n : Int)) = False := eq_false (by omega)
      simp only [R1, R2, R3, R4, R5, R6, R7, R8, AV.flat, fillIn_nil, fillIn_cons, splice, AV.cells, AV.one, eqsOf, idx, SO.calls, List.reduceReplicate, Nat.reduceBEq, Nat.reduceLT, Nat.reduceAdd, Nat.reduceMul, Nat.reduceSub, Nat.reduceLeDiff, Nat.reduceEqDiff, ↓reduceIte, Int.reduceLT, Int.reduceEq, Int.reduceBNe, Int.reduceBEq, aeq, Int.reduceLE, Int.reduceNeg, Int.reduceMul, Int.reduceAdd, Int.reduceSub, Int.reduceToNat, Int.reducePow, k1, k2, k3, k4, k5, k6, b1, leftE_ret, got_some]
      refine fin lo to _ ⟨y1, y2, fun i hi => ⟨fun h => ⟨h4 i h.1 hi, y3 i h.1 h.2⟩, fun h => ⟨?_, by omega⟩⟩⟩
      refine Decidable.byContradiction fun hq => ?_
      have := h3 i (by omega)
      omega
  · have a1 : ((lo : Int) ≥ (hi : Int)) = False := eq_false (by omega)
    have w1 : IntKind.i64.wrap ((lo : Int) + (hi : Int)) = ((lo + hi : Nat) : Int) := by rw [wrap_i64 (by omega) (by omega)]; rfl
    have w2 : IntKind.i64.wrap (((lo + hi : Nat) : Int).tdiv 2) = (((lo + hi) / 2 : Nat) : Int) := by
      rw [Int.tdiv_eq_ediv_of_nonneg (by omega), wrap_i64 (by omega) (by omega)]
      omega
    have hm1 : lo ≤ (lo + hi) / 2 := by omega
    have hm2 : (lo + hi) / 2 < hi := by omega
    generalize (lo + hi) / 2 = m at *
    have ea := hat m (by omega)
    by_cases he : x.at m ≥ 0
    · simp only [R1, R2, R3, R4, R5, R6, R7, R8, AV.flat, fillIn_nil, fillIn_cons, splice, AV.cells, AV.one, eqsOf, idx, SO.calls, List.reduceReplicate, Nat.reduceBEq, Nat.reduceLT, Nat.reduceAdd, Nat.reduceMul, Nat.reduceSub, Nat.reduceLeDiff, Nat.reduceEqDiff, ↓reduceIte, Int.reduceLT, Int.reduceEq, Int.reduceBNe, Int.reduceBEq, aeq, Int.reduceLE, Int.reduceNeg, Int.reduceMul, Int.reduceAdd, Int.reduceSub, Int.reduceToNat, Int.reducePow, g1, g2, g3, g4, g5, g6, a1, w1, w2, ea, eq_true he]
      exact ⟨_, by omega, lo, m, by omega, by omega, rfl, rfl, rfl, h3, fun i h1 h2 => by
        have := mono m i h1
        omega⟩
    · have w3 : IntKind.i64.wrap ((m : Int) + 1) = ((m + 1 : Nat) : Int) := by rw [wrap_i64 (by omega) (by omega)]; rfl
      simp only [R1, R2, R3, R4, R5, R6, R7, R8, AV.flat, fillIn_nil, fillIn_cons, splice, AV.cells, AV.one, eqsOf, idx, SO.calls, List.reduceReplicate, Nat.reduceBEq, Nat.reduceLT, Nat.reduceAdd, Nat.reduceMul, Nat.reduceSub, Nat.reduceLeDiff, Nat.reduceEqDiff, ↓reduceIte, Int.reduceLT, Int.reduceEq, Int.reduceBNe, Int.reduceBEq, aeq, Int.reduceLE, Int.reduceNeg, Int.reduceMul, Int.reduceAdd, Int.reduceSub, Int.reduceToNat, Int.reducePow, g1, g2, g3, g4, g5, g6, a1, w1, w2, w3, ea, eq_false he]
      exact ⟨_, by omega, m + 1, hi, by omega, by omega, rfl, rfl, rfl, fun i h1 => by
        have := mono i m (by omega)
        omega, h4⟩
end Go.Proofs.YtbnnfmncipdlpaaDoor
