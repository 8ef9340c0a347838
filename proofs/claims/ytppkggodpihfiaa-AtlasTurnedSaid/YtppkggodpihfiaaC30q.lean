/- Chapter 30: atlas.Decode. -/
import Derived.Test.YtppkggodpihfiaaC30o
set_option linter.unusedVariables false
set_option linter.unusedSimpArgs false
set_option maxRecDepth 100000
set_option maxHeartbeats 4000000
namespace Go.Proofs.Ytppkggodpihfiaa
open Go Go.Den
theorem decE_list (p : List UInt8) : p.length < 34 ∧ decE p = 3 ∨ 34 ≤ p.length ∧ (p.take 6 ≠ magicL ∧ decE p = 4 ∨ p.take 6 = magicL ∧ (Many p ∧ decE p = 6 ∨ ¬ Many p ∧ (p.length < szP p ∧ decE p = 3 ∨ p.length > szP p ∧ decE p = 6 ∨ p.length = szP p ∧
    (crcN (p.take (szP p - 4)) ≠ n4 p (szP p - 4) ∧ decE p = 5 ∨ crcN (p.take (szP p - 4)) = n4 p (szP p - 4) ∧ (¬ MayA (fullA p) ∧ decE p = 4 ∨ MayA (fullA p) ∧ decE p = 0))))) := by
  unfold decE
  by_cases h1 : p.length < 34
  · exact .inl ⟨h1, if_pos h1⟩
  refine .inr ⟨by omega, ?_⟩
  rw [if_neg h1]
  by_cases h2 : p.take 6 = magicL
  case neg => exact .inl ⟨h2, if_pos h2⟩
  refine .inr ⟨h2, ?_⟩
  rw [if_neg (by simp [h2])]
  by_cases h3 : Many p
  · exact .inl ⟨h3, if_pos h3⟩
  refine .inr ⟨h3, ?_⟩
  rw [if_neg h3]
  by_cases h4 : p.length < szP p
  · exact .inl ⟨h4, if_pos h4⟩
  rw [if_neg h4]
  by_cases h5 : p.length > szP p
  · exact .inr (.inl ⟨h5, if_pos h5⟩)
  rw [if_neg h5]
  refine .inr (.inr ⟨by omega, ?_⟩)
  by_cases h6 : crcN (p.take (szP p - 4)) = n4 p (szP p - 4)
  case neg => exact .inl ⟨h6, if_pos h6⟩
  refine .inr ⟨h6, ?_⟩
  rw [if_neg (by simp [h6])]
  by_cases h7 : MayA (fullA p)
  · exact .inr ⟨h7, if_neg (by simp [h7])⟩
  · exact .inl ⟨h7, if_pos h7⟩
/-- What a decoding comes to. -/
def Dec (H : Heap) (p : List UInt8) (r : AV × Heap) : Prop := ∃ vg vp vs X, r = (.tup [.agg ((decA p).cs vg vp vs), .int .i64 (decE p)], H ++ X) ∧ AtlOf (H ++ X) (decA p) vg vp vs
theorem dec_no {H X : Heap} {p : List UInt8} {n : Int} (h : decE p = n) (hn : n ≠ 0) : Dec H p (tidy H (.tup [.agg [.int .i64 0, .int .i64 0, .int .i64 0, .int .i64 0, .int .i64 0, .int .i64 0, .int .i64 0, .int .i64 0, .nils, .nils, .nils], .int .i64 n]) (H ++ X)) := by
  rw [tidy_still (by rfl)]
  have hz : decA p = zeroA := if_neg (by rw [h]; exact hn)
  exact ⟨.nils, .nils, .nils, [], by rw [hz, h, List.append_nil]; rfl, by rw [hz]; exact ⟨SlOf.nils (by decide), SlOf.nils (by decide), SlOf.nils (by decide)⟩⟩
/-- The heap in which a decoding reads on. -/
def decK (e : TypeId) (H : Heap) (x y : AO) (p : List UInt8) (q : Nat) (vg vp vs : AV) : Heap := H ++ [x, .cells (RD p q false) e true, .cells ((hdA p).cs vg vp vs) 53 true, y]
theorem decK_ok (e : TypeId) (H : Heap) (x y : AO) (p : List UInt8) : Grw e (decK e H x y p) (H.length + 1) (H.length + 2) (H.length + 4) p (hdA p) := by
  refine ⟨fun vg vp vs => ⟨fun a => ?_, fun a b => ?_, fun a => by simp [decK]⟩, fun q vg vp vs => ?_, fun q vg vp vs vg' vp' vs' => ?_⟩
  · unfold decK; rw [List.getElem?_append_right (by omega)]; simp
  · unfold decK; rw [List.set_append_right _ _ (by omega)]; simp
  · unfold decK; rw [List.getElem?_append_right (by omega)]; simp
  · unfold decK; rw [List.set_append_right _ _ (by omega)]; simp
theorem many_no {p : List UInt8} (h : ¬ Many p) : n2 p 22 ≤ 16 ∧ n2 p 24 ≤ 1024 ∧ n4 p 26 ≤ 4096 := by
  unfold Many at h; omega
theorem c28 (p : List UInt8) (H : Heap) (hp : p.length ≤ 1000000) : ∃ r, call env 28 [.str (mkS p)] H = some r ∧ Dec H p r := by
  refine call_endsE (fn := s28) rfl rfl (by simp [s28]) fun W hW => ?_
  rcases decE_list p with ⟨h1, hE⟩ | ⟨h1, hrest⟩
  · have b1 : ((p.length : Int) < 34) = True := eq_true (by omega)
    simp only [s28, R1, R2, R3, R4, R5, R6, R7, R8, AV.flat, fillIn_nil, fillIn_cons, splice, AV.cells, AV.one, eqsOf, idx, SO.calls, List.reduceReplicate, Nat.reduceBEq, Nat.reduceLT, Nat.reduceAdd, Nat.reduceMul, Nat.reduceSub, Nat.reduceLeDiff, Nat.reduceEqDiff, ↓reduceIte, Int.reduceLT, Int.reduceEq, Int.reduceBNe, Int.reduceBEq, aeq, Int.reduceLE, Int.reduceNeg, Int.reduceMul, Int.reduceAdd, Int.reduceSub, Int.reduceToNat, Int.reducePow, b1, leftE_ret, got_some]
    exact hW _ (dec_no hE (by decide))
  have b1 : ((p.length : Int) < 34) = False := eq_false (by omega)
  have sl := fun H => slstr_hi (H := H) (l := p) (b := 6) (by omega)
  rcases hrest with ⟨h2, hE⟩ | ⟨h2, hrest⟩
  · have b2 : (p.take 6 != [80, 79, 67, 72, 0, 1]) = true := by rw [bne_iff_ne]; exact h2
    simp only [s28, R1, R2, R3, R4, R5, R6, R7, R8, AV.flat, fillIn_nil, fillIn_cons, splice, AV.cells, AV.one, eqsOf, idx, SO.calls, List.reduceReplicate, Nat.reduceBEq, Nat.reduceLT, Nat.reduceAdd, Nat.reduceMul, Nat.reduceSub, Nat.reduceLeDiff, Nat.reduceEqDiff, ↓reduceIte, Int.reduceLT, Int.reduceEq, Int.reduceBNe, Int.reduceBEq, aeq, Int.reduceLE, Int.reduceNeg, Int.reduceMul, Int.reduceAdd, Int.reduceSub, Int.reduceToNat, Int.reducePow, b1, sl, b2, leftE_ret, got_some]
    exact hW _ (dec_no hE (by decide))
  have b2 : (p.take 6 != [80, 79, 67, 72, 0, 1]) = false := by rw [bne_eq_false_iff_eq]; exact h2
  have e1 := fun H => c45 p H
  have e2 := r_Skip (rdB_ok 146 H (.cells [.int .i64 0, .int .i64 0, .int .i64 0, .int .i64 0, .int .i64 0, .int .i64 0, .int .i64 0, .int .i64 0, .nils, .nils, .nils] 53 true) p) hp (a := 0) (n := 6) (by omega)
  have e3 := c63 (rdB_ok 146 H (.cells [.int .i64 0, .int .i64 0, .int .i64 0, .int .i64 0, .int .i64 0, .int .i64 0, .int .i64 0, .int .i64 0, .nils, .nils, .nils] 53 true) p) hp h1
  simp only [RD, rdB, hdA, Atl.cs, cntC, Nat.zero_add, Int.cast_ofNat_Int] at e1 e2 e3
  rcases hrest with ⟨h3, hE⟩ | ⟨h3, hrest⟩
  · by_cases d1 : n2 p 22 > 16
    · have c1 : (((n2 p 22 : Nat) : Int) > 16) = True := eq_true (by omega)
      simp only [s28, R1, R2, R3, R4, R5, R6, R7, R8, AV.flat, fillIn_nil, fillIn_cons, splice, AV.cells, AV.one, eqsOf, idx, SO.calls, List.reduceReplicate, Nat.reduceBEq, Nat.reduceLT, Nat.reduceAdd, Nat.reduceMul, Nat.reduceSub, Nat.reduceLeDiff, Nat.reduceEqDiff, ↓reduceIte, Int.reduceLT, Int.reduceEq, Int.reduceBNe, Int.reduceBEq, aeq, Int.reduceLE, Int.reduceNeg, Int.reduceMul, Int.reduceAdd, Int.reduceSub, Int.reduceToNat, Int.reducePow, b1, sl, b2, e1, e2, e3, c1, leftE_ret, got_some]
      exact hW _ (dec_no hE (by decide))
    have c1 : (((n2 p 22 : Nat) : Int) > 16) = False := eq_false (by omega)
    by_cases d2 : n2 p 24 > 1024
    · have c2 : (((n2 p 24 : Nat) : Int) > 1024) = True := eq_true (by omega)
      simp only [s28, R1, R2, R3, R4, R5, R6, R7, R8, AV.flat, fillIn_nil, fillIn_cons, splice, AV.cells, AV.one, eqsOf, idx, SO.calls, List.reduceReplicate, Nat.reduceBEq, Nat.reduceLT, Nat.reduceAdd, Nat.reduceMul, Nat.reduceSub, Nat.reduceLeDiff, Nat.reduceEqDiff, ↓reduceIte, Int.reduceLT, Int.reduceEq, Int.reduceBNe, Int.reduceBEq, aeq, Int.reduceLE, Int.reduceNeg, Int.reduceMul, Int.reduceAdd, Int.reduceSub, Int.reduceToNat, Int.reducePow, b1, sl, b2, e1, e2, e3, c1, c2, leftE_ret, got_some]
      exact hW _ (dec_no hE (by decide))
    have c2 : (((n2 p 24 : Nat) : Int) > 1024) = False := eq_false (by omega)
    have c3 : (((n4 p 26 : Nat) : Int) > 4096) = True := eq_true (by unfold Many at h3; omega)
    simp only [s28, R1, R2, R3, R4, R5, R6, R7, R8, AV.flat, fillIn_nil, fillIn_cons, splice, AV.cells, AV.one, eqsOf, idx, SO.calls, List.reduceReplicate, Nat.reduceBEq, Nat.reduceLT, Nat.reduceAdd, Nat.reduceMul, Nat.reduceSub, Nat.reduceLeDiff, Nat.reduceEqDiff, ↓reduceIte, Int.reduceLT, Int.reduceEq, Int.reduceBNe, Int.reduceBEq, aeq, Int.reduceLE, Int.reduceNeg, Int.reduceMul, Int.reduceAdd, Int.reduceSub, Int.reduceToNat, Int.reducePow, b1, sl, b2, e1, e2, e3, c1, c2, c3, leftE_ret, got_some]
    exact hW _ (dec_no hE (by decide))
  obtain ⟨d1, d2, d3⟩ := many_no h3
  have c1 : (((n2 p 22 : Nat) : Int) > 16) = False := eq_false (by omega)
  have c2 : (((n2 p 24 : Nat) : Int) > 1024) = False := eq_false (by omega)
  have c3 : (((n4 p 26 : Nat) : Int) > 4096) = False := eq_false (by omega)
  have l18 := n2_lt p 18
  have l20 := n2_lt p 20
  have e4 := fun H => c64 (n2 p 18) (n2 p 20) (n2 p 22) (n2 p 24) (n4 p 26) (by omega) (by omega) d1 d2 d3 H
  have hsz : sizeP (n2 p 18) (n2 p 20) (n2 p 22) (n2 p 24) (n4 p 26) = szP p := rfl
  rw [hsz] at e4
  have hge := szP_ge p
  generalize hsp : szP p = sz at *
  rcases hrest with ⟨h4, hE⟩ | ⟨h4, hE⟩ | ⟨h4, hrest⟩
  · have c4 : ((p.length : Int) < (sz : Int)) = True := eq_true (by omega)
    simp only [s28, R1, R2, R3, R4, R5, R6, R7, R8, AV.flat, fillIn_nil, fillIn_cons, splice, AV.cells, AV.one, eqsOf, idx, SO.calls, List.reduceReplicate, Nat.reduceBEq, Nat.reduceLT, Nat.reduceAdd, Nat.reduceMul, Nat.reduceSub, Nat.reduceLeDiff, Nat.reduceEqDiff, ↓reduceIte, Int.reduceLT, Int.reduceEq, Int.reduceBNe, Int.reduceBEq, aeq, Int.reduceLE, Int.reduceNeg, Int.reduceMul, Int.reduceAdd, Int.reduceSub, Int.reduceToNat, Int.reducePow, b1, sl, b2, e1, e2, e3, e4, c1, c2, c3, c4, leftE_ret, got_some]
    exact hW _ (dec_no hE (by decide))
  · have c4 : ((p.length : Int) < (sz : Int)) = False := eq_false (by omega)
    have c5 : ((p.length : Int) > (sz : Int)) = True := eq_true (by omega)
    simp only [s28, R1, R2, R3, R4, R5, R6, R7, R8, AV.flat, fillIn_nil, fillIn_cons, splice, AV.cells, AV.one, eqsOf, idx, SO.calls, List.reduceReplicate, Nat.reduceBEq, Nat.reduceLT, Nat.reduceAdd, Nat.reduceMul, Nat.reduceSub, Nat.reduceLeDiff, Nat.reduceEqDiff, ↓reduceIte, Int.reduceLT, Int.reduceEq, Int.reduceBNe, Int.reduceBEq, aeq, Int.reduceLE, Int.reduceNeg, Int.reduceMul, Int.reduceAdd, Int.reduceSub, Int.reduceToNat, Int.reducePow, b1, sl, b2, e1, e2, e3, e4, c1, c2, c3, c4, c5, leftE_ret, got_some]
    exact hW _ (dec_no hE (by decide))
  have c4 : ((p.length : Int) < (sz : Int)) = False := eq_false (by omega)
  have c5 : ((p.length : Int) > (sz : Int)) = False := eq_false (by omega)
  have w1 : IntKind.i64.wrap ((sz : Int) - 4) = ((sz - 4 : Nat) : Int) := by rw [wrap_i64 (by omega) (by omega)]; omega
  have e5 := fun H => c65 p ((sz - 4 : Nat) : Int) H hp
  have hcut : cut p ((sz - 4 : Nat) : Int) 4 = some ((p.drop (sz - 4)).take 4) := cut_all (n := 4) (by omega)
  rw [hcut] at e5
  simp only [cutS, cutE, Option.isSome, Option.getD_some, if_true] at e5
  have hn4 : num ((p.drop (sz - 4)).take 4) = n4 p (sz - 4) := rfl
  rw [hn4] at e5
  have sl2 := fun H => slstr_hi (H := H) (l := p) (b := sz - 4) (by omega)
  have e6 := fun H => c55 (mkS (p.take (sz - 4))) H (by rw [mkS_size, List.length_take]; omega)
  have hcr : (Crc.crc (mkS (p.take (sz - 4))).data.toList ^^^ 4294967295#32).toNat = crcN (p.take (sz - 4)) := rfl
  rw [hcr] at e6
  rcases hrest with ⟨h5, hE⟩ | ⟨h5, hrest⟩
  · have c6 : (((crcN (p.take (sz - 4)) : Nat) : Int) != ((n4 p (sz - 4) : Nat) : Int)) = true := by rw [bne_iff_ne]; exact fun h => h5 (by omega)
    simp only [s28, R1, R2, R3, R4, R5, R6, R7, R8, AV.flat, fillIn_nil, fillIn_cons, splice, AV.cells, AV.one, eqsOf, idx, SO.calls, List.reduceReplicate, Nat.reduceBEq, Nat.reduceLT, Nat.reduceAdd, Nat.reduceMul, Nat.reduceSub, Nat.reduceLeDiff, Nat.reduceEqDiff, ↓reduceIte, Int.reduceLT, Int.reduceEq, Int.reduceBNe, Int.reduceBEq, aeq, Int.reduceLE, Int.reduceNeg, Int.reduceMul, Int.reduceAdd, Int.reduceSub, Int.reduceToNat, Int.reducePow, b1, sl, b2, e1, e2, e3, e4, c1, c2, c3, c4, c5, w1, e5, sl2, e6, c6, leftE_ret, got_some]
    exact hW _ (dec_no hE (by decide))
  have c6 : (((crcN (p.take (sz - 4)) : Nat) : Int) != ((n4 p (sz - 4) : Nat) : Int)) = false := by rw [bne_eq_false_iff_eq]; omega
  obtain ⟨r, e7, Z, vg, vp, vs, rfl, o1, o2, o3⟩ := c66 (decK_ok 146 H (.cells [.int .i64 0, .int .i64 0, .int .i64 0, .int .i64 0, .int .i64 0, .int .i64 0, .int .i64 0, .int .i64 0, .nils, .nils, .nils] 53 true) (.cells (cntC p) 122 true) p) hp (n2 p 18) (n2 p 20) (n2 p 22) (n2 p 24) (n4 p 26) rfl rfl (by omega) (by omega) d1 d2 d3 (by rw [hsz, h4])
  have hA : ∀ x y q, AtlOf (decK 146 H x y p q vg vp vs ++ Z) (fullA p) vg vp vs := fun x y q => by
    have hl := (decK_ok 146 H x y p).len q vg vp vs
    exact ⟨own_sl ent_cel (ownz_own o1 hl), own_sl pr_cel (ownz_own o2 hl), own_sl strC_cel (ownz_own o3 hl)⟩
  have e8 := fun x y q => c26 (hA x y q) (by show (prsP _ _ _).length ≤ _; rw [prsP_len]; omega) (fun s hs => by
    obtain ⟨i, _, rfl⟩ := List.mem_map.1 hs
    rw [List.length_take, List.length_drop]; omega)
  have hcs : (fullA p).cs vg vp vs = (hdA p).cs vg vp vs := rfl
  rw [hcs] at e8
  have z1 := slof_cell (hA .dead .dead 0).gl
  have z2 := slof_cell (hA .dead .dead 0).pr
  have z3 := slof_cell (hA .dead .dead 0).pgs
  simp only [AV.cells, AV.one] at z1 z2 z3
  generalize 30 + 20 * n2 p 24 + 6 * n4 p 26 + 4 * n2 p 18 * n2 p 20 * n2 p 22 = Q at e7
  simp only [RD, decK, hdA, Atl.cs, cntC, Int.cast_ofNat_Int, List.append_assoc, List.cons_append, List.nil_append] at e7 e8
  rcases hrest with ⟨h6, hE⟩ | ⟨h6, hE⟩
  · rw [decide_eq_false h6] at e8
    simp only [s28, R1, R2, R3, R4, R5, R6, R7, R8, AV.flat, fillIn_nil, fillIn_cons, splice, AV.cells, AV.one, eqsOf, idx, SO.calls, List.reduceReplicate, Nat.reduceBEq, Nat.reduceLT, Nat.reduceAdd, Nat.reduceMul, Nat.reduceSub, Nat.reduceLeDiff, Nat.reduceEqDiff, ↓reduceIte, Int.reduceLT, Int.reduceEq, Int.reduceBNe, Int.reduceBEq, aeq, Int.reduceLE, Int.reduceNeg, Int.reduceMul, Int.reduceAdd, Int.reduceSub, Int.reduceToNat, Int.reducePow, b1, sl, b2, e1, e2, e3, e4, c1, c2, c3, c4, c5, w1, e5, sl2, e6, c6, e7, e8, z1, z2, z3, leftE_ret, got_some]
    exact hW _ (dec_no hE (by decide))
  · rw [decide_eq_true h6] at e8
    simp only [s28, R1, R2, R3, R4, R5, R6, R7, R8, AV.flat, fillIn_nil, fillIn_cons, splice, AV.cells, AV.one, eqsOf, idx, SO.calls, List.reduceReplicate, Nat.reduceBEq, Nat.reduceLT, Nat.reduceAdd, Nat.reduceMul, Nat.reduceSub, Nat.reduceLeDiff, Nat.reduceEqDiff, ↓reduceIte, Int.reduceLT, Int.reduceEq, Int.reduceBNe, Int.reduceBEq, aeq, Int.reduceLE, Int.reduceNeg, Int.reduceMul, Int.reduceAdd, Int.reduceSub, Int.reduceToNat, Int.reducePow, b1, sl, b2, e1, e2, e3, e4, c1, c2, c3, c4, c5, w1, e5, sl2, e6, c6, e7, e8, z1, z2, z3, leftE_ret, got_some]
    have hD : decA p = fullA p := if_pos hE
    refine hW _ ?_
    unfold Dec
    rw [hD, hE]
    obtain ⟨v1, v2, v3, X, t1, t2⟩ := tidy_atl (H := H) (Y := [.cells ((hdA p).cs vg vp vs) 53 true, .cells (RD p Q false) 146 true, .cells ((hdA p).cs vg vp vs) 53 true, .cells (cntC p) 122 true]) (a := fullA p) (x := .int .i64 0) (Z := Z) (by simp) o1 o2 o3 rfl
    refine ⟨v1, v2, v3, X, ?_, t2⟩
    rw [← t1]
    rfl
end Go.Proofs.Ytppkggodpihfiaa
