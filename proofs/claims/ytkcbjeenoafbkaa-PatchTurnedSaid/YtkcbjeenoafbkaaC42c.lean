/- Chapter 42: read. -/
import Derived.Test.YtkcbjeenoafbkaaC42b
import Derived.Test.YtkcbjeenoafbkaaGrowY
set_option linter.unusedVariables false
set_option linter.unusedSimpArgs false
set_option maxRecDepth 100000
set_option maxHeartbeats 2000000
namespace Go.Proofs.Ytkcbjeenoafbkaa
open Go Go.Den
def Hd4 (a b c d : Nat) : List AV := [.int .u32 (a : Int), .int .u32 (b : Int), .int .u32 (c : Int), .int .u32 (d : Int)]
def headR (p : List UInt8) : List AV := if p.length < 16 then Hd4 0 0 0 0 else if n4 p 8 > 65536 then Hd4 0 0 0 0 else Hd4 (n4 p 0) (n4 p 4) (n4 p 8) (n4 p 12)
def readS (p : List UInt8) : List Stp := if p.length < 16 then [] else if n4 p 8 > 65536 then [] else (stepsP p 16).1
def readE (p : List UInt8) : Int := if p.length < 16 then 3 else if n4 p 8 > 65536 then 6 else 0
def readW (p : List UInt8) : Int := if p.length < 16 then 0 else if n4 p 8 > 65536 then 0 else (stepsP p 16).2
theorem rdr_of {H X : Heap} {a : AO} {p : List UInt8} : Rdr (fun q => H ++ (a :: .cells (RD p q.1 q.2) 163 true :: X)) (H.length + 1) p (H.length + (X.length + 2)) := by
  refine ⟨fun q => ?_, fun q q' => ?_, fun q => by simp⟩
  · show (H ++ (a :: .cells (RD p q.1 q.2) 163 true :: X))[H.length + 1]? = _
    rw [List.getElem?_append_right (by omega), Nat.add_sub_cancel_left]; rfl
  · show (H ++ (a :: .cells (RD p q.1 q.2) 163 true :: X)).set (H.length + 1) _ = _
    rw [List.set_append_right _ _ (by omega), Nat.add_sub_cancel_left]; rfl
theorem c55 {p : List UInt8} (hp : p.length ≤ 1000000) (H : Heap) :
    call env 55 [.str (mkS p)] H = some (.tup [.agg (headR p), (newSl H 140 4 Stp.cs (readS p)).1, .int .i64 (readE p), .int .i64 (readW p)], H ++ (newSl H 140 4 Stp.cs (readS p)).2) := by
  unfold headR readS readE readW
  by_cases h16 : p.length < 16
  · rw [if_pos h16, if_pos h16, if_pos h16, if_pos h16]
    have b1 : ((p.length : Int) < 16) = True := eq_true (by omega)
    simp only [newSl, if_true, Hd4, List.append_nil, Int.cast_ofNat_Int]
    refine call_ends (fn := s55) rfl rfl (by simp [s55]) ?_
    simp only [s55, R1, R2, R3, R4, R5, R6, R7, R8, AV.flat, fillIn_nil, fillIn_cons, splice, AV.cells, AV.one, eqsOf, idx, SO.calls, List.reduceReplicate, Nat.reduceBEq, Nat.reduceLT, Nat.reduceAdd, Nat.reduceMul, Nat.reduceSub, Nat.reduceLeDiff, Nat.reduceEqDiff, ↓reduceIte, Int.reduceLT, Int.reduceEq, Int.reduceBNe, Int.reduceBEq, aeq, Int.reduceLE, Int.reduceNeg, Int.reduceMul, Int.reduceAdd, Int.reduceSub, Int.reduceToNat, Int.reducePow, b1]
    rw [tidy_still rfl]
  rw [if_neg h16, if_neg h16, if_neg h16, if_neg h16]
  have b1 : ((p.length : Int) < 16) = False := eq_false (by omega)
  have e1 := fun H => c83 p H
  have u := fun (a : Nat) (ha : a + 4 ≤ p.length) => show call env 84 [.ptr (H.length + 1) 0] (H ++ [.cells (Hd4 0 0 0 0) 92 true, .cells (RD p a false) 163 true]) = some (.int .u32 (n4 p a : Nat), H ++ [.cells (Hd4 0 0 0 0) 92 true, .cells (RD p (a + 4) false) 163 true]) from by
    have := r_U32 (rdr_of (H := H) (a := .cells (Hd4 0 0 0 0) 92 true) (p := p) (X := [])) hp (a, false) (by simp only; omega)
    have t1 := took_ok (p := p) (a := a) (n := 4) ha
    simp only [Int.cast_ofNat_Int] at t1
    simp only at this
    rw [t1.1, t1.2] at this
    exact this
  have u0 := u 0 (by omega)
  have u1 := u 4 (by omega)
  have u2 := u 8 (by omega)
  have u3 := u 12 (by omega)
  clear u
  have l0 := n4_lt p 0
  have l1 := n4_lt p 4
  have l2 := n4_lt p 8
  have l3 := n4_lt p 12
  by_cases hlong : n4 p 8 > 65536
  · rw [if_pos hlong, if_pos hlong, if_pos hlong, if_pos hlong]
    have b2 : (((n4 p 8 : Nat) : Int) > 65536) = True := eq_true (by omega)
    simp only [newSl, if_true, Hd4, List.append_nil, Int.cast_ofNat_Int, RD, Nat.reduceAdd] at e1 u0 u1 u2 u3 ⊢
    refine call_ends (fn := s55) rfl rfl (by simp [s55]) ?_
    simp only [s55, R1, R2, R3, R4, R5, R6, R7, R8, AV.flat, fillIn_nil, fillIn_cons, splice, AV.cells, AV.one, eqsOf, idx, SO.calls, List.reduceReplicate, Nat.reduceBEq, Nat.reduceLT, Nat.reduceAdd, Nat.reduceMul, Nat.reduceSub, Nat.reduceLeDiff, Nat.reduceEqDiff, ↓reduceIte, Int.reduceLT, Int.reduceEq, Int.reduceBNe, Int.reduceBEq, aeq, Int.reduceLE, Int.reduceNeg, Int.reduceMul, Int.reduceAdd, Int.reduceSub, Int.reduceToNat, Int.reducePow, b1, b2, e1, u0, u1, u2, u3]
    rw [tidy_still rfl]
  rw [if_neg hlong, if_neg hlong, if_neg hlong, if_neg hlong]
  have b2 : (((n4 p 8 : Nat) : Int) > 65536) = False := eq_false (by omega)
  generalize hz : n4 p 0 = x0 at *
  generalize n4 p 4 = x1 at *
  generalize n4 p 8 = x2 at *
  generalize n4 p 12 = x3 at *
  simp only [Hd4, Int.cast_ofNat_Int, RD, Nat.reduceAdd] at e1 u0 u1 u2 u3 ⊢
  refine call_ends (fn := s55) rfl rfl (by simp [s55]) ?_
  simp only [s55, R1, R2, R3, R4, R5, R6, R7, R8, AV.flat, fillIn_nil, fillIn_cons, splice, AV.cells, AV.one, eqsOf, idx, SO.calls, List.reduceReplicate, Nat.reduceBEq, Nat.reduceLT, Nat.reduceAdd, Nat.reduceMul, Nat.reduceSub, Nat.reduceLeDiff, Nat.reduceEqDiff, ↓reduceIte, Int.reduceLT, Int.reduceEq, Int.reduceBNe, Int.reduceBEq, aeq, Int.reduceLE, Int.reduceNeg, Int.reduceMul, Int.reduceAdd, Int.reduceSub, Int.reduceToNat, Int.reducePow, b1, b2, e1, u0, u1, u2, u3]
  have hBl : ∀ q : Nat × Bool, [AO.cells (Hd4 0 0 0 0) 92 true, .cells (RD p q.1 q.2) 163 true, .cells (Hd4 x0 x1 x2 x3) 92 true].length = 3 := fun _ => rfl
  refine ends_loop (fun k t H' => t.length = 50 ∧ (t.getD 0 .undef = .str (mkS p) ∧ t.getD 2 .undef = .ptr H.length 0 ∧ t.getD 6 .undef = .ptr (H.length + 1) 0 ∧ t.getD 7 .undef = .ptr (H.length + 2) 0) ∧ ∃ (a : Nat) (w : AV) (L : List Stp) (X : Heap), a ≤ p.length ∧ k = p.length - a ∧ t.getD 8 .undef = w ∧ L.length ≤ a ∧
    stepsP p 16 = (L ++ (stepsP p a).1, (stepsP p a).2) ∧ H' = H ++ ([.cells (Hd4 0 0 0 0) 92 true, .cells (RD p a false) 163 true, .cells (Hd4 x0 x1 x2 x3) 92 true] ++ X) ∧
    Acc (H ++ [.cells (Hd4 0 0 0 0) 92 true, .cells (RD p a false) 163 true, .cells (Hd4 x0 x1 x2 x3) 92 true]) (H ++ ([.cells (Hd4 0 0 0 0) 92 true, .cells (RD p a false) 163 true, .cells (Hd4 x0 x1 x2 x3) 92 true] ++ X)) 140 4 Stp.cs w L) (p.length - 16) ?_ ?_
  · simp only [R1, R2, R3, R4, R5, R6, R7, R8, AV.flat, fillIn_nil, fillIn_cons, splice, AV.cells, AV.one, eqsOf, idx, SO.calls, List.reduceReplicate, Nat.reduceBEq, Nat.reduceLT, Nat.reduceAdd, Nat.reduceMul, Nat.reduceSub, Nat.reduceLeDiff, Nat.reduceEqDiff, ↓reduceIte, Int.reduceLT, Int.reduceEq, Int.reduceBNe, Int.reduceBEq, aeq, Int.reduceLE, Int.reduceNeg, Int.reduceMul, Int.reduceAdd, Int.reduceSub, Int.reduceToNat, Int.reducePow]
    exact ⟨16, .nils, [], [], by omega, by omega, rfl, by simp, rfl, by simp only [Hd4, RD]; rfl, by simpa using Acc.start⟩
  · rintro k t _ ⟨g1, ⟨g2, g3, g4, g5⟩, a, w, L, X, hi, rfl, g6, hLa, hst, rfl, ha⟩
    rw [← tm_nil t]
    have R := rdr_of (H := H) (a := .cells (Hd4 0 0 0 0) 92 true) (p := p) (X := .cells (Hd4 x0 x1 x2 x3) 92 true :: X)
    have eL := r_Left R hp (a, false) hi
    by_cases hc : a < p.length
    · have a1 : (((p.length - a : Nat) : Int) > 0) = True := eq_true (by omega)
      obtain ⟨s, q', eN, hok⟩ := c86 R hp hc
      simp only at eL eN
      by_cases hE : stepE p a = 0
      · have b3 : ((stepE p a) != 0) = false := by simp [hE]
        obtain ⟨rfl, rfl⟩ := hok hE
        rw [steps_ok hc hE] at hst
        have hg := stepN_gt p a
        have hle := stepN_le hE hc
        rw [hE] at eN
        generalize stepS p a = s at *
        generalize hb : stepN p a = b at *
        obtain ⟨X', hX, c1, c2⟩ := push_one (B := [.cells (Hd4 0 0 0 0) 92 true, .cells (RD p b false) 163 true, .cells (Hd4 x0 x1 x2 x3) 92 true]) stp_cel (Z := [.cells (Stp.cs s) 140 true]) (m := s) (p := H.length + (X.length + 4)) (acc_base ha rfl) (by omega) (by simp; omega)
        have hj := c2 [.cells (Hd4 0 0 0 0) 92 true, .cells (RD p b false) 163 true, .cells (Hd4 x0 x1 x2 x3) 92 true] rfl
        have hLn : (L ++ [s]).length = L.length + 1 := by simp
        have hst2 : stepsP p 16 = (L ++ [s] ++ (stepsP p b).1, (stepsP p b).2) := by rw [hst]; simp
        generalize hL2 : L ++ [s] = L2 at *
        generalize L2.flatMap Stp.cs = c2 at *
        simp only [Stp.cs, Hd4, RD, Int.cast_ofNat_Int, List.cons_append, List.nil_append, List.append_assoc] at eL eN c1 hj ⊢
        simp only [R1, R2, R3, R4, R5, R6, R7, R8, AV.flat, fillIn_nil, fillIn_cons, splice, AV.cells, AV.one, eqsOf, idx, SO.calls, List.reduceReplicate, Nat.reduceBEq, Nat.reduceLT, Nat.reduceAdd, Nat.reduceMul, Nat.reduceSub, Nat.reduceLeDiff, Nat.reduceEqDiff, ↓reduceIte, Int.reduceLT, Int.reduceEq, Int.reduceBNe, Int.reduceBEq, aeq, Int.reduceLE, Int.reduceNeg, Int.reduceMul, Int.reduceAdd, Int.reduceSub, Int.reduceToNat, Int.reducePow, g1, g2, g3, g4, g5, g6, a1, eL, eN, c1]
        exact ⟨_, by omega, b, _, L2, _, hle, rfl, rfl, by omega, hst2, rfl, hj⟩
      · have b3 : ((stepE p a) != 0) = true := by simp [hE]
        rw [steps_bad hc hE] at hst
        simp only [List.append_nil] at hst
        rw [hst]
        have hj := acc_base (B' := [.cells (Hd4 x0 x1 x2 x3) 92 true, .cells (RD p q'.1 q'.2) 163 true, .cells (Hd4 x0 x1 x2 x3) 92 true]) ha rfl
        have ti := fun (e : Int) (Y : Heap) => acc_tidy_at (hj.junk Y) stp_cel (a := .agg (Hd4 x0 x1 x2 x3)) (r := [.int .i64 0, .int .i64 e]) rfl rfl
        generalize stepE p a = e at *
        simp only [Stp.cs, Hd4, RD, Int.cast_ofNat_Int, List.cons_append, List.nil_append, List.append_assoc] at eL eN ti ⊢
        simp only [R1, R2, R3, R4, R5, R6, R7, R8, AV.flat, fillIn_nil, fillIn_cons, splice, AV.cells, AV.one, eqsOf, idx, SO.calls, List.reduceReplicate, Nat.reduceBEq, Nat.reduceLT, Nat.reduceAdd, Nat.reduceMul, Nat.reduceSub, Nat.reduceLeDiff, Nat.reduceEqDiff, ↓reduceIte, Int.reduceLT, Int.reduceEq, Int.reduceBNe, Int.reduceBEq, aeq, Int.reduceLE, Int.reduceNeg, Int.reduceMul, Int.reduceAdd, Int.reduceSub, Int.reduceToNat, Int.reducePow, g1, g2, g3, g4, g5, g6, a1, eL, eN, b3]
        rw [ti]
    · have a1 : (((p.length - a : Nat) : Int) > 0) = False := eq_false (by omega)
      rw [steps_end (p := p) (a := a) (by omega), List.append_nil] at hst
      rw [hst]
      have hj := acc_base (B' := [.cells (Hd4 x0 x1 x2 x3) 92 true, .cells (RD p a false) 163 true, .cells (Hd4 x0 x1 x2 x3) 92 true]) ha rfl
      have ti := acc_tidy_at hj stp_cel (a := .agg (Hd4 x0 x1 x2 x3)) (r := [.int .i64 0, .int .i64 0]) rfl rfl
      simp only at eL
      simp only [Stp.cs, Hd4, RD, Int.cast_ofNat_Int, List.cons_append, List.nil_append, List.append_assoc] at eL ti ⊢
      simp only [R1, R2, R3, R4, R5, R6, R7, R8, AV.flat, fillIn_nil, fillIn_cons, splice, AV.cells, AV.one, eqsOf, idx, SO.calls, List.reduceReplicate, Nat.reduceBEq, Nat.reduceLT, Nat.reduceAdd, Nat.reduceMul, Nat.reduceSub, Nat.reduceLeDiff, Nat.reduceEqDiff, ↓reduceIte, Int.reduceLT, Int.reduceEq, Int.reduceBNe, Int.reduceBEq, aeq, Int.reduceLE, Int.reduceNeg, Int.reduceMul, Int.reduceAdd, Int.reduceSub, Int.reduceToNat, Int.reducePow, g1, g2, g3, g4, g5, g6, a1, eL, ti]
end Go.Proofs.Ytkcbjeenoafbkaa
