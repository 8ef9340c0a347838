/- Chapter 40: Make. -/
import Derived.Test.YtppkggodpihfiaaK40o
import Derived.Test.YtppkggodpihfiaaBldW
set_option linter.unusedVariables false
set_option linter.unusedSimpArgs false
set_option maxRecDepth 100000
set_option maxHeartbeats 4000000
namespace Go.Proofs.Ytppkggodpihfiaa
open Go Go.Den
def row3 (k : Kn) : List Int := [k.l, k.r, k.b]
def numsK (l : List Kn) (i : Nat) : List Int := headL l.length ++ (l.take i).flatMap row3
theorem row3_len (l : List Kn) : (l.flatMap row3).length = 3 * l.length := by
  induction l with
  | nil => rfl
  | cons a l ih => rw [List.flatMap_cons, List.length_append, ih, List.length_cons, show (row3 a).length = 3 from rfl]; omega
theorem numsK_len (l : List Kn) (i : Nat) : (numsK l i).length ≤ 9 + 3 * l.length := by
  unfold numsK; rw [List.length_append, headL_len, row3_len, List.length_take]; omega
theorem numsK_succ {l : List Kn} {i : Nat} (h : i < l.length) : numsK l (i + 1) = numsK l i ++ row3 l[i] := by
  unfold numsK; rw [List.take_succ_eq_append_getElem h, List.flatMap_append, List.append_assoc]; simp
theorem shB_app (a b : List Int) : shB (a ++ b) = shB a ++ shB b := by unfold shB; rw [List.flatMap_append]
theorem shB_one (n : Int) : shB [n] = putB (u16N n) 2 := by unfold shB; simp
theorem shB_ne {l : List Int} (h : l ≠ []) : shB l ≠ [] := fun e => by
  have := shB_len l
  rw [e] at this
  have h2 : l.length ≠ 0 := by simpa using h
  simp at this; omega
theorem add_sh (A : List Int) (x : Int) (h : A.length ≤ 1000000) (H : Heap) : binOf .add (.str (mkS (shB A))) (.str (mkS (putB (u16N x) 2))) H = some (.str (mkS (shB (A ++ [x]))), H) := by
  rw [bin_adds (by rw [shB_len, putB_len]; omega), shB_app, shB_one]
open Classical in
noncomputable def makK (l : List Kn) : List UInt8 × Int := if mayK l 1024 then (shB (numsK l l.length), 0) else ([], 1)
theorem c11 {H : Heap} {v : AV} {l : List Kn} (hs : SlOf H 3 Kn.cs v l) (hn : l.length ≤ 9223372036854775807) : call env 11 [v] H = some (.tup [.str (mkS (makK l).1), .int .i64 (makK l).2], H) := by
  have l1 := hs.lenOf
  have e1 := c13 hs hn 1024
  suffices h : ∃ r, call env 11 [v] H = some r ∧ r = (.tup [.str (mkS (makK l).1), .int .i64 (makK l).2], H) by
    obtain ⟨r, h1, rfl⟩ := h; exact h1
  refine call_endsE (fn := s11) rfl rfl (by simp [s11]) fun W hW => ?_
  have hW := hW _ rfl
  unfold makK at hW
  by_cases hm : mayK l 1024
  · rw [if_pos hm] at hW
    rw [decide_eq_true hm] at e1
    have hlen := hm.1.2.2
    obtain ⟨R0, e2, hB0, _, _⟩ := c34 (Bl.fresh (e := 75) H (by decide)) (s := shB (headL l.length)) (shB_ne (by intro h; have := headL_len l.length; rw [h] at this; simp at this)) (by rw [shB_len, headL_len]; simp)
    have e3 := fun H => c35 (n := l.length) (by omega) H
    rw [List.nil_append] at hB0
    simp only [s11, R1, R2, R3, R4, R5, R6, R7, R8, AV.flat, fillIn_nil, fillIn_cons, splice, AV.cells, AV.one, eqsOf, idx, SO.calls, List.reduceReplicate, Nat.reduceBEq, Nat.reduceLT, Nat.reduceAdd, Nat.reduceMul, Nat.reduceSub, Nat.reduceLeDiff, Nat.reduceEqDiff, ↓reduceIte, Int.reduceLT, Int.reduceEq, Int.reduceBNe, Int.reduceBEq, aeq, Int.reduceLE, Int.reduceNeg, Int.reduceMul, Int.reduceAdd, Int.reduceSub, Int.reduceToNat, Int.reducePow, e1, l1, e3, e2]
    refine ends_loop (fun k t H' => t.length = 31 ∧ (t.getD 4 .undef = .ptr H.length 0 ∧ t.getD 14 .undef = v ∧ t.getD 15 .undef = .int .i64 (l.length : Int)) ∧
      ∃ (i : Nat) (R : Heap), i ≤ l.length ∧ k = l.length - i ∧ t.getD 16 .undef = .int .i64 (i : Int) ∧ H' = H ++ R ∧ Bl 75 H R (shB (numsK l i))) l.length ?_ ?_
    · simp only [R1, R2, R3, R4, R5, R6, R7, R8, AV.flat, fillIn_nil, fillIn_cons, splice, AV.cells, AV.one, eqsOf, idx, SO.calls, List.reduceReplicate, Nat.reduceBEq, Nat.reduceLT, Nat.reduceAdd, Nat.reduceMul, Nat.reduceSub, Nat.reduceLeDiff, Nat.reduceEqDiff, ↓reduceIte, Int.reduceLT, Int.reduceEq, Int.reduceBNe, Int.reduceBEq, aeq, Int.reduceLE, Int.reduceNeg, Int.reduceMul, Int.reduceAdd, Int.reduceSub, Int.reduceToNat, Int.reducePow]
      exact ⟨0, _, by omega, by omega, rfl, rfl, by simpa [numsK] using hB0⟩
    · rintro k t _ ⟨g1, ⟨g2, g3, g4⟩, i, R, hi, rfl, g5, rfl, hB⟩
      rw [← tm_nil t]
      have hnl := numsK_len l i
      by_cases hc : i < l.length
      · have a1 : ((i : Int) < (l.length : Int)) = True := eq_true (by omega)
        have w1 : IntKind.i64.wrap ((i : Int) + 1) = ((i + 1 : Nat) : Int) := by rw [wrap_i64 (by omega) (by omega)]; rfl
        have E := hs.elem hc
        have hT := numsK_succ hc
        have hT2 : shB (numsK l (i + 1)) = shB (numsK l i) ++ shB (row3 l[i]) := by rw [hT, shB_app]
        obtain ⟨R', e4, hB', _, _⟩ := c34 (hB.app [.cells (l[i]).cs 41 true, .cells (l[i]).cs 3 true]) (s := shB (row3 l[i])) (shB_ne (by simp [row3])) (by rw [shB_len, shB_len, show (row3 l[i]).length = 3 from rfl]; omega)
        have e5 := c36 (@slrow (H ++ (R ++ [.cells (l[i]).cs 41 true])) (row3 l[i]) (some 3)) (by simp [row3])
        rw [← hT2] at hB'
        generalize hB2 : shB (numsK l (i + 1)) = B2 at *
        generalize shB (numsK l i) = B1 at *
        generalize l[i] = q at *
        obtain ⟨x, y, z⟩ := q
        generalize shB (row3 ⟨x, y, z⟩) = B3 at *
        simp only [Kn.cs, row3, List.flatMap_cons, List.flatMap_nil, IntC, List.cons_append, List.nil_append, List.length_cons, List.length_nil, Nat.zero_add, Nat.reduceAdd, List.length_append, List.append_assoc] at E e4 e5
        simp only [R1, R2, R3, R4, R5, R6, R7, R8, AV.flat, fillIn_nil, fillIn_cons, splice, AV.cells, AV.one, eqsOf, idx, SO.calls, List.reduceReplicate, Nat.reduceBEq, Nat.reduceLT, Nat.reduceAdd, Nat.reduceMul, Nat.reduceSub, Nat.reduceLeDiff, Nat.reduceEqDiff, ↓reduceIte, Int.reduceLT, Int.reduceEq, Int.reduceBNe, Int.reduceBEq, aeq, Int.reduceLE, Int.reduceNeg, Int.reduceMul, Int.reduceAdd, Int.reduceSub, Int.reduceToNat, Int.reducePow, g1, g2, g3, g4, g5, a1, w1, E, e4, e5]
        exact ⟨_, by omega, i + 1, _, by omega, rfl, rfl, rfl, by rw [hB2]; exact hB'⟩
      · have a1 : ((i : Int) < (l.length : Int)) = False := eq_false (by omega)
        obtain rfl : i = l.length := by omega
        obtain ⟨R', e4, _, _⟩ := c37 hB (by rw [shB_len]; omega)
        generalize shB (numsK l l.length) = B1 at *
        simp only [R1, R2, R3, R4, R5, R6, R7, R8, AV.flat, fillIn_nil, fillIn_cons, splice, AV.cells, AV.one, eqsOf, idx, SO.calls, List.reduceReplicate, Nat.reduceBEq, Nat.reduceLT, Nat.reduceAdd, Nat.reduceMul, Nat.reduceSub, Nat.reduceLeDiff, Nat.reduceEqDiff, ↓reduceIte, Int.reduceLT, Int.reduceEq, Int.reduceBNe, Int.reduceBEq, aeq, Int.reduceLE, Int.reduceNeg, Int.reduceMul, Int.reduceAdd, Int.reduceSub, Int.reduceToNat, Int.reducePow, g1, g2, g3, g4, g5, a1, e4, leftE_ret, got_some]
        first | exact hW | (rw [tidy_tup' (l := [.str (mkS B1), .int .i64 0]) rfl]; exact hW)
  · rw [if_neg hm] at hW
    rw [decide_eq_false hm] at e1
    simp only [s11, R1, R2, R3, R4, R5, R6, R7, R8, AV.flat, fillIn_nil, fillIn_cons, splice, AV.cells, AV.one, eqsOf, idx, SO.calls, List.reduceReplicate, Nat.reduceBEq, Nat.reduceLT, Nat.reduceAdd, Nat.reduceMul, Nat.reduceSub, Nat.reduceLeDiff, Nat.reduceEqDiff, ↓reduceIte, Int.reduceLT, Int.reduceEq, Int.reduceBNe, Int.reduceBEq, aeq, Int.reduceLE, Int.reduceNeg, Int.reduceMul, Int.reduceAdd, Int.reduceSub, Int.reduceToNat, Int.reducePow, e1, leftE_ret, got_some]
    first | exact hW | (rw [tidy_tup0 (l := [.str (mkS []), .int .i64 1]) rfl]; exact hW)
theorem c12 {H : Heap} {v : AV} {l : List Kn} (hs : SlOf H 3 Kn.cs v l) (hn : l.length ≤ 9223372036854775807) : call env 12 [v] H = some (.tup [.str (mkS (makK l).1), .int .i64 (makK l).2], H) := by
  have l1 := hs.lenOf
  have e1 := c14 hs hn 1024
  suffices h : ∃ r, call env 12 [v] H = some r ∧ r = (.tup [.str (mkS (makK l).1), .int .i64 (makK l).2], H) by
    obtain ⟨r, h1, rfl⟩ := h; exact h1
  refine call_endsE (fn := s12) rfl rfl (by simp [s12]) fun W hW => ?_
  have hW := hW _ rfl
  unfold makK at hW
  by_cases hm : mayK l 1024
  · rw [if_pos hm] at hW
    rw [decide_eq_true hm] at e1
    have hlen := hm.1.2.2
    have e2 := c38 (n := l.length) (by omega) H
    have h3 := threeP_len l.length
    have hL : headL l.length = [0, 1, 0, 14 + 6 * (l.length : Int), 1, (l.length : Int)] ++ threeP l.length := rfl
    obtain ⟨y0, y1, y2, hy⟩ : ∃ y0 y1 y2, threeP l.length = [y0, y1, y2] := by
      match h : threeP l.length, h3 with
      | [a, b, c], _ => exact ⟨a, b, c, rfl⟩
    rw [hy] at hL e2
    simp only [List.flatMap_cons, List.flatMap_nil, IntC, List.cons_append, List.nil_append] at e2 hL
    have w2 : IntKind.i64.wrap (6 * (l.length : Int)) = 6 * (l.length : Int) := wrap_i64 (by omega) (by omega)
    have w3 : IntKind.i64.wrap (14 + 6 * (l.length : Int)) = 14 + 6 * (l.length : Int) := wrap_i64 (by omega) (by omega)
    have p0 := fun H => c39 0 H
    have p1 := fun H => c39 1 H
    have p2 := fun H => c39 (14 + 6 * (l.length : Int)) H
    have p3 := fun H => c39 (l.length : Int) H
    have p4 := fun H => c39 y0 H
    have p5 := fun H => c39 y1 H
    have p6 := fun H => c39 y2 H
    have s1 := fun H => add_sh [0] 1 (by simp) H
    have s2 := fun H => add_sh [0, 1] 0 (by simp) H
    have s3 := fun H => add_sh [0, 1, 0] (14 + 6 * (l.length : Int)) (by simp) H
    have s4 := fun H => add_sh [0, 1, 0, 14 + 6 * (l.length : Int)] 1 (by simp) H
    have s5 := fun H => add_sh [0, 1, 0, 14 + 6 * (l.length : Int), 1] (l.length : Int) (by simp) H
    have s6 := fun H => add_sh [0, 1, 0, 14 + 6 * (l.length : Int), 1, (l.length : Int)] y0 (by simp) H
    have s7 := fun H => add_sh [0, 1, 0, 14 + 6 * (l.length : Int), 1, (l.length : Int), y0] y1 (by simp) H
    have s8 := fun H => add_sh [0, 1, 0, 14 + 6 * (l.length : Int), 1, (l.length : Int), y0, y1] y2 (by simp) H
    rw [shB_one] at s1
    simp only [List.cons_append, List.nil_append] at s1 s2 s3 s4 s5 s6 s7 s8
    rw [← hL] at s8
    simp only [s12, R1, R2, R3, R4, R5, R6, R7, R8, AV.flat, fillIn_nil, fillIn_cons, splice, AV.cells, AV.one, eqsOf, idx, SO.calls, List.reduceReplicate, Nat.reduceBEq, Nat.reduceLT, Nat.reduceAdd, Nat.reduceMul, Nat.reduceSub, Nat.reduceLeDiff, Nat.reduceEqDiff, ↓reduceIte, Int.reduceLT, Int.reduceEq, Int.reduceBNe, Int.reduceBEq, aeq, Int.reduceLE, Int.reduceNeg, Int.reduceMul, Int.reduceAdd, Int.reduceSub, Int.reduceToNat, Int.reducePow, e1, l1, e2, w2, w3, p0, p1, p2, p3, p4, p5, p6, s1, s2, s3, s4, s5, s6, s7, s8]
    clear s1 s2 s3 s4 s5 s6 s7 s8 p0 p1 p2 p3 p4 p5 p6
    refine ends_loop (fun k t H' => t.length = 73 ∧ (∃ X, H' = H ++ X) ∧ (t.getD 0 .undef = v ∧ t.getD 4 .undef = .int .i64 (l.length : Int)) ∧
      ∃ i : Nat, i ≤ l.length ∧ k = l.length - i ∧ t.getD 7 .undef = .int .i64 (i : Int) ∧ t.getD 6 .undef = .str (mkS (shB (numsK l i)))) l.length ?_ ?_
    · simp only [R1, R2, R3, R4, R5, R6, R7, R8, AV.flat, fillIn_nil, fillIn_cons, splice, AV.cells, AV.one, eqsOf, idx, SO.calls, List.reduceReplicate, Nat.reduceBEq, Nat.reduceLT, Nat.reduceAdd, Nat.reduceMul, Nat.reduceSub, Nat.reduceLeDiff, Nat.reduceEqDiff, ↓reduceIte, Int.reduceLT, Int.reduceEq, Int.reduceBNe, Int.reduceBEq, aeq, Int.reduceLE, Int.reduceNeg, Int.reduceMul, Int.reduceAdd, Int.reduceSub, Int.reduceToNat, Int.reducePow]
      exact ⟨⟨_, rfl⟩, 0, by omega, by omega, rfl, by simp [numsK]⟩
    · rintro k t _ ⟨g1, ⟨X, rfl⟩, ⟨g2, g3⟩, i, hi, rfl, g5, g6⟩
      rw [← tm_nil t]
      have hnl := numsK_len l i
      by_cases hc : i < l.length
      · have a1 : ((i : Int) < (l.length : Int)) = True := eq_true (by omega)
        have w1 : IntKind.i64.wrap ((i : Int) + 1) = ((i + 1 : Nat) : Int) := by rw [wrap_i64 (by omega) (by omega)]; rfl
        have E := hs.elem hc
        have hT := numsK_succ hc
        have p4 := fun H => c39 l[i].l H
        have p5 := fun H => c39 l[i].r H
        have p6 := fun H => c39 l[i].b H
        have s1 := fun H => add_sh (numsK l i) l[i].l (by omega) H
        have s2 := fun H => add_sh (numsK l i ++ [l[i].l]) l[i].r (by simp; omega) H
        have s3 := fun H => add_sh (numsK l i ++ [l[i].l] ++ [l[i].r]) l[i].b (by simp; omega) H
        rw [show numsK l i ++ [l[i].l] ++ [l[i].r] ++ [l[i].b] = numsK l (i + 1) by rw [hT]; simp [row3]] at s3
        generalize hq : l[i] = q at *
        obtain ⟨x, y, z⟩ := q
        simp only at p4 p5 p6 s1 s2 s3
        generalize numsK l i ++ [x] ++ [y] = A2 at *
        generalize numsK l i ++ [x] = A1 at *
        generalize hA3 : numsK l (i + 1) = A3 at *
        simp only [Kn.cs] at E
        simp only [R1, R2, R3, R4, R5, R6, R7, R8, AV.flat, fillIn_nil, fillIn_cons, splice, AV.cells, AV.one, eqsOf, idx, SO.calls, List.reduceReplicate, Nat.reduceBEq, Nat.reduceLT, Nat.reduceAdd, Nat.reduceMul, Nat.reduceSub, Nat.reduceLeDiff, Nat.reduceEqDiff, ↓reduceIte, Int.reduceLT, Int.reduceEq, Int.reduceBNe, Int.reduceBEq, aeq, Int.reduceLE, Int.reduceNeg, Int.reduceMul, Int.reduceAdd, Int.reduceSub, Int.reduceToNat, Int.reducePow, g1, g2, g3, g5, g6, a1, w1, E, p4, p5, p6, s1, s2, s3]
        exact ⟨_, by omega, ⟨_, rfl⟩, i + 1, by omega, rfl, rfl, by rw [hA3]⟩
      · have a1 : ((i : Int) < (l.length : Int)) = False := eq_false (by omega)
        obtain rfl : i = l.length := by omega
        generalize shB (numsK l l.length) = B1 at *
        simp only [R1, R2, R3, R4, R5, R6, R7, R8, AV.flat, fillIn_nil, fillIn_cons, splice, AV.cells, AV.one, eqsOf, idx, SO.calls, List.reduceReplicate, Nat.reduceBEq, Nat.reduceLT, Nat.reduceAdd, Nat.reduceMul, Nat.reduceSub, Nat.reduceLeDiff, Nat.reduceEqDiff, ↓reduceIte, Int.reduceLT, Int.reduceEq, Int.reduceBNe, Int.reduceBEq, aeq, Int.reduceLE, Int.reduceNeg, Int.reduceMul, Int.reduceAdd, Int.reduceSub, Int.reduceToNat, Int.reducePow, g1, g2, g3, g5, g6, a1, leftE_ret, got_some]
        first | exact hW | (rw [tidy_tup' (l := [.str (mkS B1), .int .i64 0]) rfl]; exact hW)
  · rw [if_neg hm] at hW
    rw [decide_eq_false hm] at e1
    simp only [s12, R1, R2, R3, R4, R5, R6, R7, R8, AV.flat, fillIn_nil, fillIn_cons, splice, AV.cells, AV.one, eqsOf, idx, SO.calls, List.reduceReplicate, Nat.reduceBEq, Nat.reduceLT, Nat.reduceAdd, Nat.reduceMul, Nat.reduceSub, Nat.reduceLeDiff, Nat.reduceEqDiff, ↓reduceIte, Int.reduceLT, Int.reduceEq, Int.reduceBNe, Int.reduceBEq, aeq, Int.reduceLE, Int.reduceNeg, Int.reduceMul, Int.reduceAdd, Int.reduceSub, Int.reduceToNat, Int.reducePow, e1, leftE_ret, got_some]
    first | exact hW | (rw [tidy_tup0 (l := [.str (mkS []), .int .i64 1]) rfl]; exact hW)
end Go.Proofs.Ytppkggodpihfiaa
