/- Chapter 30: the reference's Decode. -/
import Derived.Test.YtppkggodpihfiaaC30q
import Derived.Test.YtppkggodpihfiaaC30e
set_option linter.unusedVariables false
set_option linter.unusedSimpArgs false
set_option maxRecDepth 100000
set_option maxHeartbeats 4000000
namespace Go.Proofs.Ytppkggodpihfiaa
open Go Go.Den
def decR (e : TypeId) (H : Heap) (x : AO) (p : List UInt8) (q : Nat) (vg vp vs : AV) : Heap := H ++ [x, .cells (RD p q false) e true, .cells ((hdA p).cs vg vp vs) 53 true]
theorem decR_ok (e : TypeId) (H : Heap) (x : AO) (p : List UInt8) : Grw e (decR e H x p) (H.length + 1) (H.length + 2) (H.length + 3) p (hdA p) := by
  refine ⟨fun vg vp vs => ⟨fun a => ?_, fun a b => ?_, fun a => by simp [decR]⟩, fun q vg vp vs => ?_, fun q vg vp vs vg' vp' vs' => ?_⟩
  · unfold decR; rw [List.getElem?_append_right (by omega)]; simp
  · unfold decR; rw [List.set_append_right _ _ (by omega)]; simp
  · unfold decR; rw [List.getElem?_append_right (by omega)]; simp
  · unfold decR; rw [List.set_append_right _ _ (by omega)]; simp
theorem c31 (p : List UInt8) (H : Heap) (hp : p.length ≤ 1000000) : ∃ r, call env 31 [.str (mkS p)] H = some r ∧ Dec H p r := by
  refine call_endsE (fn := s31) rfl rfl (by simp [s31]) fun W hW => ?_
  rcases decE_list p with ⟨h1, hE⟩ | ⟨h1, hrest⟩
  · have b1 : ((p.length : Int) < 34) = True := eq_true (by omega)
    simp only [s31, R1, R2, R3, R4, R5, R6, R7, R8, AV.flat, fillIn_nil, fillIn_cons, splice, AV.cells, AV.one, eqsOf, idx, SO.calls, List.reduceReplicate, Nat.reduceBEq, Nat.reduceLT, Nat.reduceAdd, Nat.reduceMul, Nat.reduceSub, Nat.reduceLeDiff, Nat.reduceEqDiff, ↓reduceIte, Int.reduceLT, Int.reduceEq, Int.reduceBNe, Int.reduceBEq, aeq, Int.reduceLE, Int.reduceNeg, Int.reduceMul, Int.reduceAdd, Int.reduceSub, Int.reduceToNat, Int.reducePow, b1, leftE_ret, got_some]
    exact hW _ (dec_no hE (by decide))
  have b1 : ((p.length : Int) < 34) = False := eq_false (by omega)
  have sl := fun H => slstr_hi (H := H) (l := p) (b := 6) (by omega)
  rcases hrest with ⟨h2, hE⟩ | ⟨h2, hrest⟩
  · have b2 : (p.take 6 != [80, 79, 67, 72, 0, 1]) = true := by rw [bne_iff_ne]; exact h2
    simp only [s31, R1, R2, R3, R4, R5, R6, R7, R8, AV.flat, fillIn_nil, fillIn_cons, splice, AV.cells, AV.one, eqsOf, idx, SO.calls, List.reduceReplicate, Nat.reduceBEq, Nat.reduceLT, Nat.reduceAdd, Nat.reduceMul, Nat.reduceSub, Nat.reduceLeDiff, Nat.reduceEqDiff, ↓reduceIte, Int.reduceLT, Int.reduceEq, Int.reduceBNe, Int.reduceBEq, aeq, Int.reduceLE, Int.reduceNeg, Int.reduceMul, Int.reduceAdd, Int.reduceSub, Int.reduceToNat, Int.reducePow, b1, sl, b2, leftE_ret, got_some]
    exact hW _ (dec_no hE (by decide))
  have b2 : (p.take 6 != [80, 79, 67, 72, 0, 1]) = false := by rw [bne_eq_false_iff_eq]; exact h2
  obtain ⟨B0, hB0⟩ : ∃ B0, B0 = AO.cells [.int .i64 0, .int .i64 0, .int .i64 0, .int .i64 0, .int .i64 0, .int .i64 0, .int .i64 0, .int .i64 0, .nils, .nils, .nils] 53 true := ⟨_, rfl⟩
  have eu : ∀ q, q + 2 ≤ p.length → ∀ X, call env 71 [.ptr (H.length + 1) 0, .int .i64 2] (H ++ (B0 :: .cells (RD p q false) 135 true :: X)) = some (.int .u32 (n2 p q : Nat), H ++ (B0 :: .cells (RD p (q + 2) false) 135 true :: X)) := fun q hq X => by
    have := q_2 ((rdB_ok 135 H B0 p).app X) hp hq
    simpa only [rdB, List.append_assoc, List.cons_append, List.nil_append] using this
  have e4' : ∀ q, q + 4 ≤ p.length → ∀ X, call env 71 [.ptr (H.length + 1) 0, .int .i64 4] (H ++ (B0 :: .cells (RD p q false) 135 true :: X)) = some (.int .u32 (n4 p q : Nat), H ++ (B0 :: .cells (RD p (q + 4) false) 135 true :: X)) := fun q hq X => by
    have := q_4 ((rdB_ok 135 H B0 p).app X) hp hq
    simpa only [rdB, List.append_assoc, List.cons_append, List.nil_append] using this
  have es : ∀ q, q + 2 ≤ p.length → ∀ X, call env 72 [.ptr (H.length + 1) 0] (H ++ (B0 :: .cells (RD p q false) 135 true :: X)) = some (.int .i64 (sg16 (n2 p q)), H ++ (B0 :: .cells (RD p (q + 2) false) 135 true :: X)) := fun q hq X => by
    have := q_I16 ((rdB_ok 135 H B0 p).app X) hp hq
    simpa only [rdB, List.append_assoc, List.cons_append, List.nil_append] using this
  have e1 := eu 6 (by omega)
  have e2 := eu 8 (by omega)
  have e3 := eu 10 (by omega)
  have e5 := es 12 (by omega)
  have e6 := es 14 (by omega)
  have e7 := es 16 (by omega)
  have e8 := eu 18 (by omega)
  have e9 := eu 20 (by omega)
  have e10 := eu 22 (by omega)
  have e11 := eu 24 (by omega)
  have e12 := e4' 26 (by omega)
  rw [hB0] at e1 e2 e3 e5 e6 e7 e8 e9 e10 e11 e12
  simp only [RD, Nat.reduceAdd, Int.cast_ofNat_Int] at e1 e2 e3 e5 e6 e7 e8 e9 e10 e11 e12
  have wn : ∀ q, IntKind.i64.wrap (n2 p q : Nat) = (n2 p q : Nat) := fun q => wrap_i64 (by omega) (by have := n2_lt p q; omega)
  have wm : ∀ q, IntKind.i64.wrap (n4 p q : Nat) = (n4 p q : Nat) := fun q => wrap_i64 (by omega) (by have := n4_lt p q; omega)
  rcases hrest with ⟨h3, hE⟩ | ⟨h3, hrest⟩
  · by_cases d1 : n2 p 22 > 16
    · have c1 : (((n2 p 22 : Nat) : Int) > 16) = True := eq_true (by omega)
      simp only [s31, R1, R2, R3, R4, R5, R6, R7, R8, AV.flat, fillIn_nil, fillIn_cons, splice, AV.cells, AV.one, eqsOf, idx, SO.calls, List.reduceReplicate, Nat.reduceBEq, Nat.reduceLT, Nat.reduceAdd, Nat.reduceMul, Nat.reduceSub, Nat.reduceLeDiff, Nat.reduceEqDiff, ↓reduceIte, Int.reduceLT, Int.reduceEq, Int.reduceBNe, Int.reduceBEq, aeq, Int.reduceLE, Int.reduceNeg, Int.reduceMul, Int.reduceAdd, Int.reduceSub, Int.reduceToNat, Int.reducePow, b1, sl, b2, e1, e2, e3, e5, e6, e7, e8, e9, e10, e11, e12, wn, wm, c1, leftE_ret, got_some]
      exact hW _ (dec_no hE (by decide))
    have c1 : (((n2 p 22 : Nat) : Int) > 16) = False := eq_false (by omega)
    by_cases d2 : n2 p 24 > 1024
    · have c2 : (((n2 p 24 : Nat) : Int) > 1024) = True := eq_true (by omega)
      simp only [s31, R1, R2, R3, R4, R5, R6, R7, R8, AV.flat, fillIn_nil, fillIn_cons, splice, AV.cells, AV.one, eqsOf, idx, SO.calls, List.reduceReplicate, Nat.reduceBEq, Nat.reduceLT, Nat.reduceAdd, Nat.reduceMul, Nat.reduceSub, Nat.reduceLeDiff, Nat.reduceEqDiff, ↓reduceIte, Int.reduceLT, Int.reduceEq, Int.reduceBNe, Int.reduceBEq, aeq, Int.reduceLE, Int.reduceNeg, Int.reduceMul, Int.reduceAdd, Int.reduceSub, Int.reduceToNat, Int.reducePow, b1, sl, b2, e1, e2, e3, e5, e6, e7, e8, e9, e10, e11, e12, wn, wm, c1, c2, leftE_ret, got_some]
      exact hW _ (dec_no hE (by decide))
    have c2 : (((n2 p 24 : Nat) : Int) > 1024) = False := eq_false (by omega)
    have c3 : (((n4 p 26 : Nat) : Int) > 4096) = True := eq_true (by unfold Many at h3; omega)
    simp only [s31, R1, R2, R3, R4, R5, R6, R7, R8, AV.flat, fillIn_nil, fillIn_cons, splice, AV.cells, AV.one, eqsOf, idx, SO.calls, List.reduceReplicate, Nat.reduceBEq, Nat.reduceLT, Nat.reduceAdd, Nat.reduceMul, Nat.reduceSub, Nat.reduceLeDiff, Nat.reduceEqDiff, ↓reduceIte, Int.reduceLT, Int.reduceEq, Int.reduceBNe, Int.reduceBEq, aeq, Int.reduceLE, Int.reduceNeg, Int.reduceMul, Int.reduceAdd, Int.reduceSub, Int.reduceToNat, Int.reducePow, b1, sl, b2, e1, e2, e3, e5, e6, e7, e8, e9, e10, e11, e12, wn, wm, c1, c2, c3, leftE_ret, got_some]
    exact hW _ (dec_no hE (by decide))
  obtain ⟨d1, d2, d3⟩ := many_no h3
  have c1 : (((n2 p 22 : Nat) : Int) > 16) = False := eq_false (by omega)
  have c2 : (((n2 p 24 : Nat) : Int) > 1024) = False := eq_false (by omega)
  have c3 : (((n4 p 26 : Nat) : Int) > 4096) = False := eq_false (by omega)
  have l18 := n2_lt p 18
  have l20 := n2_lt p 20
  have hge := szP_ge p
  obtain ⟨one, hone⟩ : ∃ one, one = 4 * n2 p 18 * n2 p 20 := ⟨_, rfl⟩
  have m1 : n2 p 18 * n2 p 20 ≤ 65535 * 65535 := Nat.mul_le_mul (by omega) (by omega)
  have m2 : 4 * n2 p 18 * n2 p 20 = 4 * (n2 p 18 * n2 p 20) := Nat.mul_assoc _ _ _
  have m3 : one * n2 p 22 ≤ 4 * (65535 * 65535) * 16 := Nat.mul_le_mul (by omega) d1
  have ho2 : 4 * ((n2 p 18 : Nat) : Int) * ((n2 p 20 : Nat) : Int) = (one : Int) := by rw [hone]; push_cast; rfl
  have ho3 : ((n2 p 22 : Nat) : Int) * (one : Int) = ((one * n2 p 22 : Nat) : Int) := by rw [Nat.mul_comm]; push_cast; rfl
  have hsz : szP p = 34 + 20 * n2 p 24 + 6 * n4 p 26 + one * n2 p 22 := by rw [hone]; rfl
  have v1 : IntKind.i64.wrap (4 * ((n2 p 18 : Nat) : Int)) = 4 * ((n2 p 18 : Nat) : Int) := wrap_i64 (by omega) (by omega)
  have v2 : IntKind.i64.wrap (4 * ((n2 p 18 : Nat) : Int) * ((n2 p 20 : Nat) : Int)) = (one : Int) := by rw [ho2]; exact wrap_i64 (by omega) (by omega)
  have v3 := wrap_i64 (x := 20 * ((n2 p 24 : Nat) : Int)) (by omega) (by omega)
  have v4 := wrap_i64 (x := 34 + 20 * ((n2 p 24 : Nat) : Int)) (by omega) (by omega)
  have v5 := wrap_i64 (x := 6 * ((n4 p 26 : Nat) : Int)) (by omega) (by omega)
  have v6 := wrap_i64 (x := 34 + 20 * ((n2 p 24 : Nat) : Int) + 6 * ((n4 p 26 : Nat) : Int)) (by omega) (by omega)
  have v7 : IntKind.i64.wrap (((n2 p 22 : Nat) : Int) * (one : Int)) = ((one * n2 p 22 : Nat) : Int) := by rw [ho3]; exact wrap_i64 (by omega) (by omega)
  have v8 : IntKind.i64.wrap (34 + 20 * ((n2 p 24 : Nat) : Int) + 6 * ((n4 p 26 : Nat) : Int) + ((one * n2 p 22 : Nat) : Int)) = ((szP p : Nat) : Int) := by rw [wrap_i64 (by omega) (by omega), hsz]; omega
  generalize hsp : szP p = sz at *
  rcases hrest with ⟨h4, hE⟩ | ⟨h4, hE⟩ | ⟨h4, hrest⟩
  · have c4 : ((p.length : Int) < (sz : Int)) = True := eq_true (by omega)
    simp only [s31, R1, R2, R3, R4, R5, R6, R7, R8, AV.flat, fillIn_nil, fillIn_cons, splice, AV.cells, AV.one, eqsOf, idx, SO.calls, List.reduceReplicate, Nat.reduceBEq, Nat.reduceLT, Nat.reduceAdd, Nat.reduceMul, Nat.reduceSub, Nat.reduceLeDiff, Nat.reduceEqDiff, ↓reduceIte, Int.reduceLT, Int.reduceEq, Int.reduceBNe, Int.reduceBEq, aeq, Int.reduceLE, Int.reduceNeg, Int.reduceMul, Int.reduceAdd, Int.reduceSub, Int.reduceToNat, Int.reducePow, b1, sl, b2, e1, e2, e3, e5, e6, e7, e8, e9, e10, e11, e12, wn, wm, c1, c2, c3, v1, v2, v3, v4, v5, v6, v7, v8, c4, leftE_ret, got_some]
    exact hW _ (dec_no hE (by decide))
  · have c4 : ((p.length : Int) < (sz : Int)) = False := eq_false (by omega)
    have c5 : ((p.length : Int) > (sz : Int)) = True := eq_true (by omega)
    simp only [s31, R1, R2, R3, R4, R5, R6, R7, R8, AV.flat, fillIn_nil, fillIn_cons, splice, AV.cells, AV.one, eqsOf, idx, SO.calls, List.reduceReplicate, Nat.reduceBEq, Nat.reduceLT, Nat.reduceAdd, Nat.reduceMul, Nat.reduceSub, Nat.reduceLeDiff, Nat.reduceEqDiff, ↓reduceIte, Int.reduceLT, Int.reduceEq, Int.reduceBNe, Int.reduceBEq, aeq, Int.reduceLE, Int.reduceNeg, Int.reduceMul, Int.reduceAdd, Int.reduceSub, Int.reduceToNat, Int.reducePow, b1, sl, b2, e1, e2, e3, e5, e6, e7, e8, e9, e10, e11, e12, wn, wm, c1, c2, c3, v1, v2, v3, v4, v5, v6, v7, v8, c4, c5, leftE_ret, got_some]
    exact hW _ (dec_no hE (by decide))
  have c4 : ((p.length : Int) < (sz : Int)) = False := eq_false (by omega)
  have c5 : ((p.length : Int) > (sz : Int)) = False := eq_false (by omega)
  have u1 : IntKind.i64.wrap ((sz : Int) - 4) = ((sz - 4 : Nat) : Int) := by rw [wrap_i64 (by omega) (by omega)]; omega
  have e13 := fun H => c73 p ((sz - 4 : Nat) : Int) H hp
  have hcut : cut p ((sz - 4 : Nat) : Int) 4 = some ((p.drop (sz - 4)).take 4) := cut_all (n := 4) (by omega)
  rw [hcut] at e13
  simp only [cutS, cutE, Option.isSome, Option.getD_some, if_true] at e13
  have hn4 : num ((p.drop (sz - 4)).take 4) = n4 p (sz - 4) := rfl
  rw [hn4] at e13
  have sl2 := fun H => slstr_hi (H := H) (l := p) (b := sz - 4) (by omega)
  have e14 := fun H => c69 (mkS (p.take (sz - 4))) H (by rw [mkS_size, List.length_take]; omega)
  have hcr : (Crc.crc (mkS (p.take (sz - 4))).data.toList ^^^ 4294967295#32).toNat = crcN (p.take (sz - 4)) := rfl
  rw [hcr] at e14
  rcases hrest with ⟨h5, hE⟩ | ⟨h5, hrest⟩
  · have c6 : (((crcN (p.take (sz - 4)) : Nat) : Int) != ((n4 p (sz - 4) : Nat) : Int)) = true := by rw [bne_iff_ne]; exact fun h => h5 (by omega)
    simp only [s31, R1, R2, R3, R4, R5, R6, R7, R8, AV.flat, fillIn_nil, fillIn_cons, splice, AV.cells, AV.one, eqsOf, idx, SO.calls, List.reduceReplicate, Nat.reduceBEq, Nat.reduceLT, Nat.reduceAdd, Nat.reduceMul, Nat.reduceSub, Nat.reduceLeDiff, Nat.reduceEqDiff, ↓reduceIte, Int.reduceLT, Int.reduceEq, Int.reduceBNe, Int.reduceBEq, aeq, Int.reduceLE, Int.reduceNeg, Int.reduceMul, Int.reduceAdd, Int.reduceSub, Int.reduceToNat, Int.reducePow, b1, sl, b2, e1, e2, e3, e5, e6, e7, e8, e9, e10, e11, e12, wn, wm, c1, c2, c3, v1, v2, v3, v4, v5, v6, v7, v8, c4, c5, u1, e13, sl2, e14, c6, leftE_ret, got_some]
    exact hW _ (dec_no hE (by decide))
  have c6 : (((crcN (p.take (sz - 4)) : Nat) : Int) != ((n4 p (sz - 4) : Nat) : Int)) = false := by rw [bne_eq_false_iff_eq]; omega
  simp only [s31, R1, R2, R3, R4, R5, R6, R7, R8, AV.flat, fillIn_nil, fillIn_cons, splice, AV.cells, AV.one, eqsOf, idx, SO.calls, List.reduceReplicate, Nat.reduceBEq, Nat.reduceLT, Nat.reduceAdd, Nat.reduceMul, Nat.reduceSub, Nat.reduceLeDiff, Nat.reduceEqDiff, ↓reduceIte, Int.reduceLT, Int.reduceEq, Int.reduceBNe, Int.reduceBEq, aeq, Int.reduceLE, Int.reduceNeg, Int.reduceMul, Int.reduceAdd, Int.reduceSub, Int.reduceToNat, Int.reducePow, b1, sl, b2, e1, e2, e3, e5, e6, e7, e8, e9, e10, e11, e12, wn, wm, c1, c2, c3, v1, v2, v3, v4, v5, v6, v7, v8, c4, c5, u1, e13, sl2, e14, c6]
  clear e1 e2 e3 e5 e6 e7 e8 e9 e10 e11 e12 e13 e14 eu e4' es
  obtain ⟨K, hK0⟩ : ∃ K, K = decR 135 H B0 p := ⟨_, rfl⟩
  have h1' := decR_ok 135 H B0 p
  rw [← hK0] at h1'
  obtain ⟨M, hM⟩ : ∃ M, M = H.length + 3 := ⟨_, rfl⟩
  rw [← hM] at h1'
  have fK : ∀ q x y z, K q x y z = H ++ [B0, .cells (RD p q false) 135 true, .cells ((hdA p).cs x y z) 53 true] := fun q x y z => by rw [hK0]; rfl
  have hK := fam4 h1'.len
  have bl := fun q x y z X => h1'.load q x y z 1 8 X (by omega)
  have b2 := fun q x y z X => h1'.load q x y z 1 9 X (by omega)
  have b3 := fun q x y z X => h1'.load q x y z 1 10 X (by omega)
  simp only [Atl.cs, List.drop_succ_cons, List.drop_zero, List.take_succ_cons, List.take_zero] at bl b2 b3
  have sm := fun q q' x y z X Y => h1'.same q q' x y z X Y
  have st1 := fun q x y z X n k sz => (h1'.store q x y z X n k sz).1
  have st2 := fun q x y z X n k sz => (h1'.store q x y z X n k sz).2.1
  have st3 := fun q x y z X n k sz => (h1'.store q x y z X n k sz).2.2
  have eu : ∀ q, q + 2 ≤ p.length → ∀ x y z X, call env 71 [.ptr (H.length + 1) 0, .int .i64 2] (K q x y z ++ X) = some (.int .u32 (n2 p q : Nat), K (q + 2) x y z ++ X) := fun q hq x y z X => q_2 ((h1'.rd x y z).app X) hp hq
  have ei : ∀ q, q + 4 ≤ p.length → ∀ x y z X, call env 74 [.ptr (H.length + 1) 0] (K q x y z ++ X) = some (.int .i64 (sg32 (n4 p q)), K (q + 4) x y z ++ X) := fun q hq x y z X => q_whole ((h1'.rd x y z).app X) hp hq
  generalize hR : n4 p 26 = R at *
  generalize hG : n2 p 24 = G at *
  generalize hP : n2 p 22 = P at *
  refine ends_loop (fun k t H' => t.length = 205 ∧ (t.getD 2 .undef = .ptr H.length 0 ∧ t.getD 4 .undef = .ptr (H.length + 1) 0 ∧ t.getD 5 .undef = .ptr (H.length + 2) 0 ∧ t.getD 6 .undef = .int .i64 (P : Int) ∧ t.getD 7 .undef = .int .i64 (G : Int) ∧ t.getD 8 .undef = .int .i64 (R : Int) ∧ t.getD 9 .undef = .int .i64 (one : Int)) ∧
    ∃ (i : Nat) (Z : Heap) (vg : AV), i ≤ G ∧ k = G - i ∧ t.getD 13 .undef = .int .i64 (i : Int) ∧ K (30 + 20 * i) vg .nils .nils ++ Z = H' ∧ OwnZ M Z 107 8 Ent.cs vg (entsP p i)) G ?_ ?_
  · simp only [R1, R2, R3, R4, R5, R6, R7, R8, AV.flat, fillIn_nil, fillIn_cons, splice, AV.cells, AV.one, eqsOf, idx, SO.calls, List.reduceReplicate, Nat.reduceBEq, Nat.reduceLT, Nat.reduceAdd, Nat.reduceMul, Nat.reduceSub, Nat.reduceLeDiff, Nat.reduceEqDiff, ↓reduceIte, Int.reduceLT, Int.reduceEq, Int.reduceBNe, Int.reduceBEq, aeq, Int.reduceLE, Int.reduceNeg, Int.reduceMul, Int.reduceAdd, Int.reduceSub, Int.reduceToNat, Int.reducePow]
    exact ⟨0, [], .nils, by omega, by omega, rfl, by rw [fK, hB0]; simp [RD, hdA, Atl.cs], .nils⟩
  · rintro k t _ ⟨g1, ⟨g2, g3, g4, g5, g6, g7, g8⟩, i, Z, vg, hi, rfl, g9, rfl, hO⟩
    rw [← tm_nil t]
    by_cases hc : i < G
    · have a1 : ((i : Int) < (G : Int)) = True := eq_true (by omega)
      have w1 : IntKind.i64.wrap ((i : Int) + 1) = ((i + 1 : Nat) : Int) := by rw [wrap_i64 (by omega) (by omega)]; rfl
      obtain ⟨Z', Rw, hZ, hpush, hO2⟩ := push_ent hO (by omega)
      have hpush := fun q x y z => hpush (K q x y z) (h1'.len q x y z)
      have hnext : 30 + 20 * i + 20 = 30 + 20 * (i + 1) := by omega
      generalize hb : 30 + 20 * i = b at *
      have e1 := eu b (by omega)
      have e2 : ∀ x y z X, call env 74 [.ptr (H.length + 1) 0] (K (b + 2) x y z ++ X) = some (.int .i64 (sg32 (n4 p (b + 2))), K (b + 6) x y z ++ X) := ei (b + 2) (by omega)
      have e3 : ∀ x y z X, call env 74 [.ptr (H.length + 1) 0] (K (b + 6) x y z ++ X) = some (.int .i64 (sg32 (n4 p (b + 6))), K (b + 10) x y z ++ X) := ei (b + 6) (by omega)
      have e4 : ∀ x y z X, call env 71 [.ptr (H.length + 1) 0, .int .i64 2] (K (b + 10) x y z ++ X) = some (.int .u32 (n2 p (b + 10) : Nat), K (b + 12) x y z ++ X) := eu (b + 10) (by omega)
      have e5 : ∀ x y z X, call env 71 [.ptr (H.length + 1) 0, .int .i64 2] (K (b + 12) x y z ++ X) = some (.int .u32 (n2 p (b + 12) : Nat), K (b + 14) x y z ++ X) := eu (b + 12) (by omega)
      have e6 : ∀ x y z X, call env 71 [.ptr (H.length + 1) 0, .int .i64 2] (K (b + 14) x y z ++ X) = some (.int .u32 (n2 p (b + 14) : Nat), K (b + 16) x y z ++ X) := eu (b + 14) (by omega)
      have e7 : ∀ x y z X, call env 71 [.ptr (H.length + 1) 0, .int .i64 2] (K (b + 16) x y z ++ X) = some (.int .u32 (n2 p (b + 16) : Nat), K (b + 18) x y z ++ X) := eu (b + 16) (by omega)
      have e8 : ∀ x y z X, call env 71 [.ptr (H.length + 1) 0, .int .i64 2] (K (b + 18) x y z ++ X) = some (.int .u32 (n2 p (b + 18) : Nat), K (b + 20) x y z ++ X) := eu (b + 18) (by omega)
      simp only [entAt, Ent.cs] at hpush hO2
      simp only [R1, R2, R3, R4, R5, R6, R7, R8, AV.flat, fillIn_nil, fillIn_cons, splice, AV.cells, AV.one, eqsOf, idx, SO.calls, List.reduceReplicate, Nat.reduceBEq, Nat.reduceLT, Nat.reduceAdd, Nat.reduceMul, Nat.reduceSub, Nat.reduceLeDiff, Nat.reduceEqDiff, ↓reduceIte, Int.reduceLT, Int.reduceEq, Int.reduceBNe, Int.reduceBEq, aeq, Int.reduceLE, Int.reduceNeg, Int.reduceMul, Int.reduceAdd, Int.reduceSub, Int.reduceToNat, Int.reducePow, g1, g2, g3, g4, g5, g6, g7, g8, g9, a1, w1, wn, hK, e1, e2, e3, e4, e5, e6, e7, e8, bl, hpush, st1]
      exact ⟨_, by omega, i + 1, _, _, by omega, rfl, rfl, by rw [← hnext], hO2⟩
    · have a1 : ((i : Int) < (G : Int)) = False := eq_false (by omega)
      obtain rfl : i = G := by omega
      generalize hQ : 30 + 20 * i = Q at *
      simp only [R1, R2, R3, R4, R5, R6, R7, R8, AV.flat, fillIn_nil, fillIn_cons, splice, AV.cells, AV.one, eqsOf, idx, SO.calls, List.reduceReplicate, Nat.reduceBEq, Nat.reduceLT, Nat.reduceAdd, Nat.reduceMul, Nat.reduceSub, Nat.reduceLeDiff, Nat.reduceEqDiff, ↓reduceIte, Int.reduceLT, Int.reduceEq, Int.reduceBNe, Int.reduceBEq, aeq, Int.reduceLE, Int.reduceNeg, Int.reduceMul, Int.reduceAdd, Int.reduceSub, Int.reduceToNat, Int.reducePow, g1, g2, g3, g4, g5, g6, g7, g8, g9, a1]
      refine ends_loop (fun k t H' => t.length = 205 ∧ (t.getD 2 .undef = .ptr H.length 0 ∧ t.getD 4 .undef = .ptr (H.length + 1) 0 ∧ t.getD 5 .undef = .ptr (H.length + 2) 0 ∧ t.getD 6 .undef = .int .i64 (P : Int) ∧ t.getD 8 .undef = .int .i64 (R : Int) ∧ t.getD 9 .undef = .int .i64 (one : Int)) ∧
        ∃ (j : Nat) (Z : Heap) (vp : AV), j ≤ R ∧ k = R - j ∧ t.getD 15 .undef = .int .i64 (j : Int) ∧
        K (Q + 6 * j) vg vp .nils ++ Z = H' ∧ OwnZ M Z 107 8 Ent.cs vg (entsP p i) ∧ OwnZ M Z 113 2 Pr.cs vp (prsP p Q j)) R ?_ ?_
      · simp only [R1, R2, R3, R4, R5, R6, R7, R8, AV.flat, fillIn_nil, fillIn_cons, splice, AV.cells, AV.one, eqsOf, idx, SO.calls, List.reduceReplicate, Nat.reduceBEq, Nat.reduceLT, Nat.reduceAdd, Nat.reduceMul, Nat.reduceSub, Nat.reduceLeDiff, Nat.reduceEqDiff, ↓reduceIte, Int.reduceLT, Int.reduceEq, Int.reduceBNe, Int.reduceBEq, aeq, Int.reduceLE, Int.reduceNeg, Int.reduceMul, Int.reduceAdd, Int.reduceSub, Int.reduceToNat, Int.reducePow, g1, g2, g3, g4, g5, g7, g8]
        exact ⟨0, Z, .nils, by omega, by omega, rfl, by simp, hO, .nils⟩
      · rintro k t _ ⟨g1, ⟨g2, g3, g4, g5, g6, y7⟩, j, Z, vp, hj, rfl, g8, rfl, hO, hO1⟩
        rw [← tm_nil t]
        by_cases hc : j < R
        · have a1 : ((j : Int) < (R : Int)) = True := eq_true (by omega)
          have w1 : IntKind.i64.wrap ((j : Int) + 1) = ((j + 1 : Nat) : Int) := by rw [wrap_i64 (by omega) (by omega)]; rfl
          obtain ⟨Z', Rw, hZ, hpush, hO2, hO3⟩ := push_pr hO1 (by omega)
          have hO3 := hO3 (by decide) hO
          have hpush := fun q x y z => hpush (K q x y z) (h1'.len q x y z)
          have hnext : Q + 6 * j + 6 = Q + 6 * (j + 1) := by omega
          generalize hb : Q + 6 * j = b at *
          have e1 := ei b (by omega)
          have e2 : ∀ x y z X, call env 71 [.ptr (H.length + 1) 0, .int .i64 2] (K (b + 4) x y z ++ X) = some (.int .u32 (n2 p (b + 4) : Nat), K (b + 6) x y z ++ X) := eu (b + 4) (by omega)
          simp only [prAt, Pr.cs] at hpush hO2
          simp only [R1, R2, R3, R4, R5, R6, R7, R8, AV.flat, fillIn_nil, fillIn_cons, splice, AV.cells, AV.one, eqsOf, idx, SO.calls, List.reduceReplicate, Nat.reduceBEq, Nat.reduceLT, Nat.reduceAdd, Nat.reduceMul, Nat.reduceSub, Nat.reduceLeDiff, Nat.reduceEqDiff, ↓reduceIte, Int.reduceLT, Int.reduceEq, Int.reduceBNe, Int.reduceBEq, aeq, Int.reduceLE, Int.reduceNeg, Int.reduceMul, Int.reduceAdd, Int.reduceSub, Int.reduceToNat, Int.reducePow, g1, g2, g3, g4, g5, g6, y7, g8, a1, w1, wn, hK, e1, e2, b2, hpush, st2]
          exact ⟨_, by omega, j + 1, _, _, by omega, rfl, rfl, by rw [← hnext], hO3 _, hO2⟩
        · have a1 : ((j : Int) < (R : Int)) = False := eq_false (by omega)
          obtain rfl : j = R := by omega
          generalize hQ2 : Q + 6 * j = Q2 at *
          simp only [R1, R2, R3, R4, R5, R6, R7, R8, AV.flat, fillIn_nil, fillIn_cons, splice, AV.cells, AV.one, eqsOf, idx, SO.calls, List.reduceReplicate, Nat.reduceBEq, Nat.reduceLT, Nat.reduceAdd, Nat.reduceMul, Nat.reduceSub, Nat.reduceLeDiff, Nat.reduceEqDiff, ↓reduceIte, Int.reduceLT, Int.reduceEq, Int.reduceBNe, Int.reduceBEq, aeq, Int.reduceLE, Int.reduceNeg, Int.reduceMul, Int.reduceAdd, Int.reduceSub, Int.reduceToNat, Int.reducePow, g1, g2, g3, g4, g5, g6, y7, g8, a1]
          refine ends_loop (fun k t H' => t.length = 205 ∧ (t.getD 2 .undef = .ptr H.length 0 ∧ t.getD 4 .undef = .ptr (H.length + 1) 0 ∧ t.getD 5 .undef = .ptr (H.length + 2) 0 ∧ t.getD 6 .undef = .int .i64 (P : Int) ∧ t.getD 9 .undef = .int .i64 (one : Int)) ∧
            ∃ (m : Nat) (Z : Heap) (vs : AV), m ≤ P ∧ k = P - m ∧ t.getD 17 .undef = .int .i64 (m : Int) ∧
            K (Q2 + one * m) vg vp vs ++ Z = H' ∧ OwnZ M Z 107 8 Ent.cs vg (entsP p i) ∧ OwnZ M Z 113 2 Pr.cs vp (prsP p Q j) ∧ OwnZ M Z 9 1 StrC vs (pgsP p Q2 one m)) P ?_ ?_
          · simp only [R1, R2, R3, R4, R5, R6, R7, R8, AV.flat, fillIn_nil, fillIn_cons, splice, AV.cells, AV.one, eqsOf, idx, SO.calls, List.reduceReplicate, Nat.reduceBEq, Nat.reduceLT, Nat.reduceAdd, Nat.reduceMul, Nat.reduceSub, Nat.reduceLeDiff, Nat.reduceEqDiff, ↓reduceIte, Int.reduceLT, Int.reduceEq, Int.reduceBNe, Int.reduceBEq, aeq, Int.reduceLE, Int.reduceNeg, Int.reduceMul, Int.reduceAdd, Int.reduceSub, Int.reduceToNat, Int.reducePow, g1, g2, g3, g4, g5, y7]
            exact ⟨0, Z, .nils, by omega, by omega, rfl, by simp, hO, hO1, .nils⟩
          · rintro k t _ ⟨g1, ⟨g2, g3, g4, g5, g6⟩, m, Z, vs, hm, rfl, g7, rfl, hO, hO1, hO2⟩
            rw [← tm_nil t]
            by_cases hc : m < P
            · have a1 : ((m : Int) < (P : Int)) = True := eq_true (by omega)
              have w1 : IntKind.i64.wrap ((m : Int) + 1) = ((m + 1 : Nat) : Int) := by rw [wrap_i64 (by omega) (by omega)]; rfl
              obtain ⟨Z', Rw, hZ, hpush, hP2, hP3⟩ := push_pg hO2 (by omega)
              have hG3 := hP3 (by decide) hO
              have hR3 := hP3 (by decide) hO1
              have hpush := fun q x y z => hpush (K q x y z) (h1'.len q x y z)
              have hnext : Q2 + one * m + one = Q2 + one * (m + 1) := by rw [Nat.mul_succ]; omega
              have hroom : Q2 + one * m + one ≤ p.length := by
                rw [hnext]
                have : one * (m + 1) ≤ one * P := Nat.mul_le_mul_left _ (by omega)
                omega
              generalize hb : Q2 + one * m = b at *
              have e1 := fun x y z X => q_Take ((h1'.rd x y z).app X) hp hroom
              have q1 : (M + Z.length ≤ M + (Z.length + 1)) = True := eq_true (by omega)
              have q2 : (M + (Z.length + 1) ≤ M + (Z'.length + 2)) = True := eq_true (by omega)
              simp only [R1, R2, R3, R4, R5, R6, R7, R8, AV.flat, fillIn_nil, fillIn_cons, splice, AV.cells, AV.one, eqsOf, idx, SO.calls, List.reduceReplicate, Nat.reduceBEq, Nat.reduceLT, Nat.reduceAdd, Nat.reduceMul, Nat.reduceSub, Nat.reduceLeDiff, Nat.reduceEqDiff, ↓reduceIte, Int.reduceLT, Int.reduceEq, Int.reduceBNe, Int.reduceBEq, aeq, Int.reduceLE, Int.reduceNeg, Int.reduceMul, Int.reduceAdd, Int.reduceSub, Int.reduceToNat, Int.reducePow, g1, g2, g3, g4, g5, g6, g7, a1, w1, hK, e1, b3, sm, hpush, st3, shun_un, veil_un, q1, q2]
              exact ⟨_, by omega, m + 1, _, _, by omega, rfl, rfl, by rw [← hnext], hG3 _, hR3 _, hP2⟩
            · have a1 : ((m : Int) < (P : Int)) = False := eq_false (by omega)
              obtain rfl : m = P := by omega
              simp only [R1, R2, R3, R4, R5, R6, R7, R8, AV.flat, fillIn_nil, fillIn_cons, splice, AV.cells, AV.one, eqsOf, idx, SO.calls, List.reduceReplicate, Nat.reduceBEq, Nat.reduceLT, Nat.reduceAdd, Nat.reduceMul, Nat.reduceSub, Nat.reduceLeDiff, Nat.reduceEqDiff, ↓reduceIte, Int.reduceLT, Int.reduceEq, Int.reduceBNe, Int.reduceBEq, aeq, Int.reduceLE, Int.reduceNeg, Int.reduceMul, Int.reduceAdd, Int.reduceSub, Int.reduceToNat, Int.reducePow, g1, g2, g3, g4, g5, g6, g7, a1]
              have hF : fullA p = { hdA p with gl := entsP p i, pr := prsP p Q j, pgs := pgsP p Q2 one m } := by
                unfold fullA; rw [hG, hP, hR, ← hone, hQ, hQ2]
              have hA : AtlOf (K (Q2 + one * m) vg vp vs ++ Z) (fullA p) vg vp vs := by
                have hl := h1'.len (Q2 + one * m) vg vp vs
                rw [hF]
                exact ⟨own_sl ent_cel (ownz_own hO hl), own_sl pr_cel (ownz_own hO1 hl), own_sl strC_cel (ownz_own hO2 hl)⟩
              have e8 := c27 hA (by rw [hF]; show (prsP _ _ _).length ≤ _; rw [prsP_len]; omega) (fun s hs => by
                rw [hF] at hs
                obtain ⟨i, _, rfl⟩ := List.mem_map.1 hs
                rw [List.length_take, List.length_drop]; omega)
              have hcs : (fullA p).cs vg vp vs = (hdA p).cs vg vp vs := rfl
              rw [hcs] at e8
              have z1 := slof_cell hA.gl
              have z2 := slof_cell hA.pr
              have z3 := slof_cell hA.pgs
              simp only [AV.cells, AV.one] at z1 z2 z3
              rw [fK, hB0] at e8 ⊢
              simp only [RD, hdA, Atl.cs, List.append_assoc, List.cons_append, List.nil_append] at e8 ⊢
              rcases hrest with ⟨h6, hE⟩ | ⟨h6, hE⟩
              · rw [decide_eq_false h6] at e8
                simp only [R1, R2, R3, R4, R5, R6, R7, R8, AV.flat, fillIn_nil, fillIn_cons, splice, AV.cells, AV.one, eqsOf, idx, SO.calls, List.reduceReplicate, Nat.reduceBEq, Nat.reduceLT, Nat.reduceAdd, Nat.reduceMul, Nat.reduceSub, Nat.reduceLeDiff, Nat.reduceEqDiff, ↓reduceIte, Int.reduceLT, Int.reduceEq, Int.reduceBNe, Int.reduceBEq, aeq, Int.reduceLE, Int.reduceNeg, Int.reduceMul, Int.reduceAdd, Int.reduceSub, Int.reduceToNat, Int.reducePow, g1, g2, g3, g4, e8, leftE_ret, got_some]
                exact hW _ (dec_no hE (by decide))
              · rw [decide_eq_true h6] at e8
                simp only [R1, R2, R3, R4, R5, R6, R7, R8, AV.flat, fillIn_nil, fillIn_cons, splice, AV.cells, AV.one, eqsOf, idx, SO.calls, List.reduceReplicate, Nat.reduceBEq, Nat.reduceLT, Nat.reduceAdd, Nat.reduceMul, Nat.reduceSub, Nat.reduceLeDiff, Nat.reduceEqDiff, ↓reduceIte, Int.reduceLT, Int.reduceEq, Int.reduceBNe, Int.reduceBEq, aeq, Int.reduceLE, Int.reduceNeg, Int.reduceMul, Int.reduceAdd, Int.reduceSub, Int.reduceToNat, Int.reducePow, g1, g2, g3, g4, e8, z1, z2, z3, leftE_ret, got_some]
                have hD : decA p = fullA p := if_pos hE
                refine hW _ ?_
                unfold Dec
                rw [hD, hE]
                rw [hF]
                obtain ⟨v1, v2, v3, X, t1, t2⟩ := tidy_atl (H := H) (Y := [.cells ((hdA p).cs vg vp vs) 53 true, .cells (RD p (Q2 + one * m) false) 135 true, .cells ((hdA p).cs vg vp vs) 53 true]) (a := { hdA p with gl := entsP p i, pr := prsP p Q j, pgs := pgsP p Q2 one m }) (x := .int .i64 0) (Z := Z) (M := M) (by rw [hM]; rfl) hO hO1 hO2 rfl
                refine ⟨v1, v2, v3, X, ?_, t2⟩
                rw [← t1]
                rfl
end Go.Proofs.Ytppkggodpihfiaa
