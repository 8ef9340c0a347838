/- Chapter 30: the law AtlasAny. -/
import Derived.Test.YtppkggodpihfiaaC30r
import Derived.Test.YtppkggodpihfiaaC30s
import Derived.Test.YtppkggodpihfiaaC30v
import Derived.Test.YtppkggodpihfiaaC30w
set_option linter.unusedVariables false
set_option linter.unusedSimpArgs false
set_option maxRecDepth 100000
set_option maxHeartbeats 4000000
namespace Go.Proofs.Ytppkggodpihfiaa
open Go Go.Den
theorem decA_len (p : List UInt8) : (decA p).gl.length ≤ 65536 ∧ (decA p).pr.length ≤ 4294967296 ∧ (decA p).pgs.length ≤ 65536 := by
  unfold decA
  split
  · have h1 := n2_lt p 24
    have h2 := n4_lt p 26
    have h3 := n2_lt p 22
    simp only [fullA, entsP_len, prsP_len, pgsP_len]; omega
  · simp [zeroA]
theorem c7 (p : List UInt8) : ∃ H', call env 7 [.str (mkS p)] [] = some (.bool true, H') := by
  by_cases hl : p.length > 3000
  · have b1 : ((p.length : Int) > 3000) = True := eq_true (by omega)
    refine ⟨[], ?_⟩
    refine call_ends (fn := s7) rfl rfl (by simp [s7]) ?_
    simp only [s7, R1, R2, R3, R4, R5, R6, R7, R8, AV.flat, fillIn_nil, fillIn_cons, splice, AV.cells, AV.one, eqsOf, idx, SO.calls, List.reduceReplicate, Nat.reduceBEq, Nat.reduceLT, Nat.reduceAdd, Nat.reduceMul, Nat.reduceSub, Nat.reduceLeDiff, Nat.reduceEqDiff, ↓reduceIte, Int.reduceLT, Int.reduceEq, Int.reduceBNe, Int.reduceBEq, aeq, Int.reduceLE, Int.reduceNeg, Int.reduceMul, Int.reduceAdd, Int.reduceSub, Int.reduceToNat, Int.reducePow, w23, b1]
    try rw [tidy_law]
  have b1 : ((p.length : Int) > 3000) = False := eq_false (by omega)
  obtain ⟨r1, e1, vg, vp, vs, X, rfl, A1⟩ := c28 p [] (by omega)
  obtain ⟨L1, L2, L3⟩ := decA_len p
  have z1 := slof_cell A1.gl
  have z2 := slof_cell A1.pr
  have z3 := slof_cell A1.pgs
  simp only [AV.cells, AV.one] at z1 z2 z3
  obtain ⟨r2, e2, wg, wp, ws, Y, rfl, A2⟩ := c31 p (X ++ [.cells ((decA p).cs vg vp vs) 53 true]) (by omega)
  have y1 := slof_cell A2.gl
  have y2 := slof_cell A2.pr
  have y3 := slof_cell A2.pgs
  simp only [AV.cells, AV.one] at y1 y2 y3
  rw [List.nil_append] at A1
  have e3 := c30 (A1.app (.cells ((decA p).cs vg vp vs) 53 true :: (Y ++ [.cells ((decA p).cs wg wp ws) 53 true]))) (by simpa only [List.append_assoc, List.cons_append, List.nil_append] using A2.app [.cells ((decA p).cs wg wp ws) 53 true]) (by omega) (by omega) (by omega)
  have e4 := c25 (A1.app (.cells ((decA p).cs vg vp vs) 53 true :: (Y ++ [.cells ((decA p).cs wg wp ws) 53 true]))) (by omega) (by
    unfold decA; split
    · intro s hs
      obtain ⟨i, _, rfl⟩ := List.mem_map.1 hs
      rw [List.length_take, List.length_drop]; omega
    · intro s hs; cases hs) (fun _ => by
    unfold decA; split
    · rename_i h
      rcases decE_list p with ⟨_, hE⟩ | ⟨h1, ⟨_, hE⟩ | ⟨h2, ⟨_, hE⟩ | ⟨_, ⟨_, hE⟩ | ⟨_, hE⟩ | ⟨h5, _⟩⟩⟩⟩
      · rw [h] at hE; cases hE
      · rw [h] at hE; cases hE
      · rw [h] at hE; cases hE
      · rw [h] at hE; cases hE
      · rw [h] at hE; cases hE
      · have := pages_le h5; omega
    · simp [zeroA])
  simp only [Atl.cs, List.nil_append, List.append_assoc, List.cons_append] at e1 e2 e3 e4
  by_cases hE : decE p = 0
  · have hM : MayA (decA p) ∧ encP (decA p) = p := by
      rw [show decA p = fullA p from if_pos hE]
      rcases decE_list p with ⟨_, h⟩ | ⟨h1, ⟨_, h⟩ | ⟨h2, ⟨_, h⟩ | ⟨_, ⟨_, h⟩ | ⟨_, h⟩ | ⟨h5, ⟨_, h⟩ | ⟨h6, ⟨_, h⟩ | ⟨h7, _⟩⟩⟩⟩⟩⟩
      · rw [h] at hE; cases hE
      · rw [h] at hE; cases hE
      · rw [h] at hE; cases hE
      · rw [h] at hE; cases hE
      · rw [h] at hE; cases hE
      · rw [h] at hE; cases hE
      · rw [h] at hE; cases hE
      · exact ⟨h7, enc_dec h2 h5 h6⟩
    rw [if_pos hM.1, if_pos hM.1, hM.2] at e4
    rw [hE] at e1 e2
    have hs : (p == p) = true := by simp
    refine ⟨[], ?_⟩
    refine call_ends (fn := s7) rfl rfl (by simp [s7]) ?_
    simp only [s7, R1, R2, R3, R4, R5, R6, R7, R8, AV.flat, fillIn_nil, fillIn_cons, splice, AV.cells, AV.one, eqsOf, idx, SO.calls, List.reduceReplicate, Nat.reduceBEq, Nat.reduceLT, Nat.reduceAdd, Nat.reduceMul, Nat.reduceSub, Nat.reduceLeDiff, Nat.reduceEqDiff, ↓reduceIte, Int.reduceLT, Int.reduceEq, Int.reduceBNe, Int.reduceBEq, aeq, Int.reduceLE, Int.reduceNeg, Int.reduceMul, Int.reduceAdd, Int.reduceSub, Int.reduceToNat, Int.reducePow, w23, b1, e1, e2, e3, e4, z1, z2, z3, y1, y2, y3, ne_self, hs]
    try rw [tidy_law]
  · have b2 : (decE p != 0) = true := by rw [bne_iff_ne]; exact hE
    refine ⟨[], ?_⟩
    refine call_ends (fn := s7) rfl rfl (by simp [s7]) ?_
    simp only [s7, R1, R2, R3, R4, R5, R6, R7, R8, AV.flat, fillIn_nil, fillIn_cons, splice, AV.cells, AV.one, eqsOf, idx, SO.calls, List.reduceReplicate, Nat.reduceBEq, Nat.reduceLT, Nat.reduceAdd, Nat.reduceMul, Nat.reduceSub, Nat.reduceLeDiff, Nat.reduceEqDiff, ↓reduceIte, Int.reduceLT, Int.reduceEq, Int.reduceBNe, Int.reduceBEq, aeq, Int.reduceLE, Int.reduceNeg, Int.reduceMul, Int.reduceAdd, Int.reduceSub, Int.reduceToNat, Int.reducePow, w23, b1, b2, e1, e2, e3, z1, z2, z3, y1, y2, y3, ne_self]
    try rw [tidy_law]
end Go.Proofs.Ytppkggodpihfiaa
