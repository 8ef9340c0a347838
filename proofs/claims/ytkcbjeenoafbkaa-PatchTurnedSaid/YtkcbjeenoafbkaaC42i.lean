/- Chapter 42: awake; PatchApplies, in the machine. -/
import Derived.Test.YtkcbjeenoafbkaaC42h
set_option linter.unusedVariables false
set_option linter.unusedSimpArgs false
set_option maxRecDepth 100000
set_option maxHeartbeats 2000000
namespace Go.Proofs.Ytkcbjeenoafbkaa
open Go Go.Den
theorem w25 : call env 25 [] [] = some (.bool true, []) := by
  have hD : (DiffP [97, 98, 99, 100, 101, 102, 103, 104] [97, 98, 99, 100, 88, 101, 102, 103, 104]).length = 40 := by decide +kernel
  have h1 : ApplyP [97, 98, 99, 100, 101, 102, 103, 104] (DiffP [97, 98, 99, 100, 101, 102, 103, 104] [97, 98, 99, 100, 88, 101, 102, 103, 104]) = ([97, 98, 99, 100, 88, 101, 102, 103, 104], 0) := by decide +kernel
  have h2 : ApplyP [97, 98, 99, 100, 101, 102, 103, 120] (DiffP [97, 98, 99, 100, 101, 102, 103, 104] [97, 98, 99, 100, 88, 101, 102, 103, 104]) = ([], 5) := by decide +kernel
  have h3 : StepsN (DiffP [97, 98, 99, 100, 101, 102, 103, 104] [97, 98, 99, 100, 88, 101, 102, 103, 104]) = (3, 0) := by decide +kernel
  have e1 := fun H => @is_diff [97, 98, 99, 100, 101, 102, 103, 104] [97, 98, 99, 100, 88, 101, 102, 103, 104] (by decide) (by decide) H
  generalize DiffP [97, 98, 99, 100, 101, 102, 103, 104] [97, 98, 99, 100, 88, 101, 102, 103, 104] = D at *
  have e2 := fun H => @c27 [97, 98, 99, 100, 101, 102, 103, 104] D (by decide) (by omega) H
  have e3 := fun H => @c27 [97, 98, 99, 100, 101, 102, 103, 120] D (by decide) (by omega) H
  have e4 := fun H => @c29 D (by omega) H
  rw [h1] at e2
  rw [h2] at e3
  rw [h3] at e4
  have b1 : ((D.length : Int) ≤ 40) = True := eq_true (by omega)
  have b2 : ((3 : Int) > 0) = True := eq_true (by decide)
  refine call_ends (fn := s25) rfl rfl (by simp [s25]) ?_
  simp only [s25, R1, R2, R3, R4, R5, R6, R7, R8, AV.flat, fillIn_nil, fillIn_cons, splice, AV.cells, AV.one, eqsOf, idx, SO.calls, List.reduceReplicate, Nat.reduceBEq, Nat.reduceLT, Nat.reduceAdd, Nat.reduceMul, Nat.reduceSub, Nat.reduceLeDiff, Nat.reduceEqDiff, ↓reduceIte, Int.reduceLT, Int.reduceEq, Int.reduceBNe, Int.reduceBEq, aeq, Int.reduceLE, Int.reduceNeg, Int.reduceMul, Int.reduceAdd, Int.reduceSub, Int.reduceToNat, Int.reducePow, e1, e2, e3, e4, b1, b2]
def zs (n : Nat) : List UInt8 := List.replicate n 0
theorem zs_row (n : Nat) : (List.replicate n [AV.int .u8 0]).flatten = u8s (zs n) := by
  unfold zs u8s
  induction n with
  | zero => rfl
  | succ n ih => simp only [List.replicate_succ, List.flatten_cons, ih, List.map_cons]; rfl
theorem mk_zs (n : Nat) (hn : n ≤ 100000) (H : Heap) : mkslOf 5 [.int .u8 0] (.int .i64 (n : Int)) (.int .i64 (n : Int)) H = some (.sl H.length 0 n 1 (some n), H ++ [.cells (u8s (zs n)) 5 true]) := by
  have hr : roomy n = true := by simp [roomy]; omega
  simp [mkslOf, hr, ← zs_row n]
theorem str_row {l : List UInt8} {H : Heap} {e : TypeId} {w : Bool} {c : Option Nat} {o : Nat} (h : H[o]? = some (.cells (u8s l) e w)) : strOf (.sl o 0 l.length 1 c) H = some (.str (mkS l), H) :=
  str_of (l := l) (by
    have : aload H (l.length * 1) (.ptr o 0) = some (u8s l) := by rw [aload_row h, if_pos (by rw [u8s_len]; omega), List.drop_zero, List.take_of_length_le (by rw [u8s_len]; omega)]
    simpa only [acells] using this) rfl
theorem c7 (old p : List UInt8) (long : Bool) : ∃ H', call env 7 [.str (mkS old), .str (mkS p), .bool long] [] = some (.bool true, H') := by
  refine ⟨[], ?_⟩
  have e0 := w25
  by_cases ho : old.length ≤ 300
  case neg =>
    have b1 : ((old.length : Int) > 300) = True := eq_true (by omega)
    refine call_ends (fn := s7) rfl rfl (by simp [s7]) ?_
    simp only [s7, R1, R2, R3, R4, R5, R6, R7, R8, AV.flat, fillIn_nil, fillIn_cons, splice, AV.cells, AV.one, eqsOf, idx, SO.calls, List.reduceReplicate, Nat.reduceBEq, Nat.reduceLT, Nat.reduceAdd, Nat.reduceMul, Nat.reduceSub, Nat.reduceLeDiff, Nat.reduceEqDiff, ↓reduceIte, Int.reduceLT, Int.reduceEq, Int.reduceBNe, Int.reduceBEq, aeq, Int.reduceLE, Int.reduceNeg, Int.reduceMul, Int.reduceAdd, Int.reduceSub, Int.reduceToNat, Int.reducePow, e0, b1]
  have b1 : ((old.length : Int) > 300) = False := eq_false (by omega)
  by_cases hp : p.length ≤ 300
  case neg =>
    have b2 : ((p.length : Int) > 300) = True := eq_true (by omega)
    refine call_ends (fn := s7) rfl rfl (by simp [s7]) ?_
    simp only [s7, R1, R2, R3, R4, R5, R6, R7, R8, AV.flat, fillIn_nil, fillIn_cons, splice, AV.cells, AV.one, eqsOf, idx, SO.calls, List.reduceReplicate, Nat.reduceBEq, Nat.reduceLT, Nat.reduceAdd, Nat.reduceMul, Nat.reduceSub, Nat.reduceLeDiff, Nat.reduceEqDiff, ↓reduceIte, Int.reduceLT, Int.reduceEq, Int.reduceBNe, Int.reduceBEq, aeq, Int.reduceLE, Int.reduceNeg, Int.reduceMul, Int.reduceAdd, Int.reduceSub, Int.reduceToNat, Int.reducePow, e0, b1, b2]
  have b2 : ((p.length : Int) > 300) = False := eq_false (by omega)
  have e1 := fun H => @c27 old p (by omega) (by omega) H
  have e2 := fun H => @c28 old p (by omega) (by omega) H
  have e3 := fun H => @c29 p (by omega) H
  have e4 := fun H => @c30 p (by omega) H
  generalize ApplyP old p = A at *
  obtain ⟨a1, a2⟩ := A
  generalize StepsN p = B at *
  obtain ⟨c1, c2⟩ := B
  simp only at e1 e2 e3 e4
  cases long
  · refine call_ends (fn := s7) rfl rfl (by simp [s7]) ?_
    simp only [s7, R1, R2, R3, R4, R5, R6, R7, R8, AV.flat, fillIn_nil, fillIn_cons, splice, AV.cells, AV.one, eqsOf, idx, SO.calls, List.reduceReplicate, Nat.reduceBEq, Nat.reduceLT, Nat.reduceAdd, Nat.reduceMul, Nat.reduceSub, Nat.reduceLeDiff, Nat.reduceEqDiff, ↓reduceIte, Int.reduceLT, Int.reduceEq, Int.reduceBNe, Int.reduceBEq, aeq, Int.reduceLE, Int.reduceNeg, Int.reduceMul, Int.reduceAdd, Int.reduceSub, Int.reduceToNat, Int.reducePow, e0, b1, b2, e1, e2, e3, e4, bne_self_eq_false]
  · have w1 : IntKind.i64.wrap (65537 - (old.length : Int)) = ((65537 - old.length : Nat) : Int) := by rw [wrap_i64 (by omega) (by omega)]; omega
    have m1 := mk_zs (65537 - old.length) (by omega) []
    have s1 := @str_row (zs (65537 - old.length)) [.cells (u8s (zs (65537 - old.length))) 5 true] 5 true (some (65537 - old.length)) 0 rfl
    have hz : (zs (65537 - old.length)).length = 65537 - old.length := by simp [zs]
    rw [hz] at s1
    have ad := fun H => @bin_adds H old (zs (65537 - old.length)) (by omega)
    have hg : (old ++ zs (65537 - old.length)).length = 65537 := by rw [List.length_append, hz]; omega
    generalize old ++ zs (65537 - old.length) = great at *
    have f1 := fun H => @c27 great p (by omega) (by omega) H
    have hA : ApplyP great p = ([], 6) := by unfold ApplyP; rw [if_pos (by omega)]
    rw [hA] at f1
    have f2 := fun H => @long_diff great old (.inl (by omega)) H
    have f3 := fun H => @long_diff old great (.inr (by omega)) H
    generalize zs (65537 - old.length) = zz at *
    generalize 65537 - old.length = nz at *
    simp only [List.length_nil, List.nil_append] at m1
    refine call_ends (fn := s7) rfl rfl (by simp [s7]) ?_
    simp only [s7, R1, R2, R3, R4, R5, R6, R7, R8, AV.flat, fillIn_nil, fillIn_cons, splice, AV.cells, AV.one, eqsOf, idx, SO.calls, List.reduceReplicate, Nat.reduceBEq, Nat.reduceLT, Nat.reduceAdd, Nat.reduceMul, Nat.reduceSub, Nat.reduceLeDiff, Nat.reduceEqDiff, ↓reduceIte, Int.reduceLT, Int.reduceEq, Int.reduceBNe, Int.reduceBEq, aeq, Int.reduceLE, Int.reduceNeg, Int.reduceMul, Int.reduceAdd, Int.reduceSub, Int.reduceToNat, Int.reducePow, e0, b1, b2, e1, e2, e3, e4, bne_self_eq_false, w1, m1, s1, ad, f1, f2, f3]
theorem str_arg {v : AV} (h : ArgIs .str v) : ∃ s : List UInt8, v = .str (mkS s) := by
  obtain ⟨s, h1, _⟩ := has_str (show Has .str [v] from h)
  injection h1 with h1
  exact ⟨_, by rw [h1, ← mkS_self s]⟩
theorem bool_arg {v : AV} (h : ArgIs .bool v) : ∃ b, v = .bool b := by
  obtain ⟨n, h1⟩ := has_bool (show Has .bool [v] from h)
  injection h1 with h1
  exact ⟨n, h1⟩
end Go.Proofs.Ytkcbjeenoafbkaa
