/- Chapter 42: PatchTurned, in the machine. -/
import Derived.Test.YtkcbjeenoafbkaaC42m
set_option linter.unusedVariables false
set_option linter.unusedSimpArgs false
set_option maxRecDepth 100000
set_option maxHeartbeats 2000000
namespace Go.Proofs.Ytkcbjeenoafbkaa
open Go Go.Den
theorem u8s_set {l : List UInt8} {k : Nat} {c : UInt8} (h : k < l.length) : (u8s l).take k ++ (AV.int .u8 (c.toNat : Int) :: (u8s l).drop (k + 1)) = u8s (l.set k c) := by
  unfold u8s
  rw [List.map_set, ← List.map_take, ← List.map_drop]
  rw [List.set_eq_take_append_cons_drop, if_pos (by simpa using h)]
  simp
theorem u8s_get {l : List UInt8} {k : Nat} (h : k < l.length) : ((u8s l).drop k).take 1 = [AV.int .u8 (l[k].toNat : Int)] := by
  unfold u8s
  rw [List.drop_eq_getElem_cons (by simpa using h)]
  simp
theorem awake_any (H : Heap) : call env 25 [] H = some (.bool true, H) := by
  have hD : (DiffP [97, 98, 99, 100, 101, 102, 103, 104] [97, 98, 99, 100, 88, 101, 102, 103, 104]).length = 40 := by decide +kernel
  have h1 : ApplyP [97, 98, 99, 100, 101, 102, 103, 104] (DiffP [97, 98, 99, 100, 101, 102, 103, 104] [97, 98, 99, 100, 88, 101, 102, 103, 104]) = ([97, 98, 99, 100, 88, 101, 102, 103, 104], 0) := by decide +kernel
  have h2 : ApplyP [97, 98, 99, 100, 101, 102, 103, 120] (DiffP [97, 98, 99, 100, 101, 102, 103, 104] [97, 98, 99, 100, 88, 101, 102, 103, 104]) = ([], 5) := by decide +kernel
  have h3 : StepsN (DiffP [97, 98, 99, 100, 101, 102, 103, 104] [97, 98, 99, 100, 88, 101, 102, 103, 104]) = (3, 0) := by decide +kernel
  have e1 := fun H => @is_diff [97, 98, 99, 100, 101, 102, 103, 104] [97, 98, 99, 100, 88, 101, 102, 103, 104] (by decide) (by decide) H
  generalize DiffP [97, 98, 99, 100, 101, 102, 103, 104] [97, 98, 99, 100, 88, 101, 102, 103, 104] = D at *
  have e2 := fun H => @c27 [97, 98, 99, 100, 101, 102, 103, 104] D (by decide) (by omega) H
  have e3 := fun H => @c27 [97, 98, 99, 100, 101, 102, 103, 120] D (by decide) (by omega) H
  have e4 := fun H => @c29 D (by omega) H
  rw [h1] at e2
  rw [h2] at e3
  rw [h3] at e4
  have b1 : ((D.length : Int) ≤ 40) = True := eq_true (by omega)
  have b2 : ((3 : Int) > 0) = True := eq_true (by decide)
  refine call_ends (fn := s25) rfl rfl (by simp [s25]) ?_
  simp only [s25, R1, R2, R3, R4, R5, R6, R7, R8, AV.flat, fillIn_nil, fillIn_cons, splice, AV.cells, AV.one, eqsOf, idx, SO.calls, List.reduceReplicate, Nat.reduceBEq, Nat.reduceLT, Nat.reduceAdd, Nat.reduceMul, Nat.reduceSub, Nat.reduceLeDiff, Nat.reduceEqDiff, ↓reduceIte, Int.reduceLT, Int.reduceEq, Int.reduceBNe, Int.reduceBEq, aeq, Int.reduceLE, Int.reduceNeg, Int.reduceMul, Int.reduceAdd, Int.reduceSub, Int.reduceToNat, Int.reducePow, e1, e2, e3, e4, b1, b2, tidy_bool]
theorem c8 (old to : List UInt8) (n0 n1 : Int) (h0 : 0 ≤ n0 ∧ n0 < 65536) (h1 : 0 ≤ n1 ∧ n1 < 65536) : ∃ H', call env 8 [.str (mkS old), .str (mkS to), .agg [.int .u16 n0, .int .u16 n1]] [] = some (.bool true, H') := by
  refine ⟨[], ?_⟩
  have e0 := fun H => awake_any H
  by_cases ho : old.length ≤ 300
  case neg =>
    have b1 : ((old.length : Int) > 300) = True := eq_true (by omega)
    refine call_ends (fn := s8) rfl rfl (by simp [s8]) ?_
    simp only [s8, R1, R2, R3, R4, R5, R6, R7, R8, AV.flat, fillIn_nil, fillIn_cons, splice, AV.cells, AV.one, eqsOf, idx, SO.calls, List.reduceReplicate, Nat.reduceBEq, Nat.reduceLT, Nat.reduceAdd, Nat.reduceMul, Nat.reduceSub, Nat.reduceLeDiff, Nat.reduceEqDiff, ↓reduceIte, Int.reduceLT, Int.reduceEq, Int.reduceBNe, Int.reduceBEq, aeq, Int.reduceLE, Int.reduceNeg, Int.reduceMul, Int.reduceAdd, Int.reduceSub, Int.reduceToNat, Int.reducePow, e0, b1]
  have b1 : ((old.length : Int) > 300) = False := eq_false (by omega)
  by_cases hp : to.length ≤ 300
  case neg =>
    have b2 : ((to.length : Int) > 300) = True := eq_true (by omega)
    refine call_ends (fn := s8) rfl rfl (by simp [s8]) ?_
    simp only [s8, R1, R2, R3, R4, R5, R6, R7, R8, AV.flat, fillIn_nil, fillIn_cons, splice, AV.cells, AV.one, eqsOf, idx, SO.calls, List.reduceReplicate, Nat.reduceBEq, Nat.reduceLT, Nat.reduceAdd, Nat.reduceMul, Nat.reduceSub, Nat.reduceLeDiff, Nat.reduceEqDiff, ↓reduceIte, Int.reduceLT, Int.reduceEq, Int.reduceBNe, Int.reduceBEq, aeq, Int.reduceLE, Int.reduceNeg, Int.reduceMul, Int.reduceAdd, Int.reduceSub, Int.reduceToNat, Int.reducePow, e0, b1, b2]
  have b2 : ((to.length : Int) > 300) = False := eq_false (by omega)
  have hdl := diff_len old to
  have hml := mid_le old to
  have e1 := fun H => @is_diff old to (by omega) (by omega) H
  obtain ⟨m1, rfl⟩ : ∃ m : Nat, n1 = m := ⟨n1.toNat, by omega⟩
  have wb := wrap_byte m1
  generalize UInt8.ofNat m1 = c at wb
  obtain ⟨k, hk⟩ : ∃ k : Nat, k = (n0 % ((DiffP old to).length : Int)).toNat := ⟨_, rfl⟩
  have hmod1 := Int.emod_nonneg n0 (show ((DiffP old to).length : Int) ≠ 0 by omega)
  have hmod2 := Int.emod_lt_of_pos n0 (show (0 : Int) < ((DiffP old to).length : Int) by omega)
  have hkl : k < (DiffP old to).length := by omega
  have w4 : n0.tmod ((DiffP old to).length : Int) = (k : Nat) := by rw [Int.tmod_eq_emod_of_nonneg h0.1]; omega
  have w5 : (((DiffP old to).length : Int) = 0) = False := eq_false (by omega)
  have w6 : IntKind.i64.wrap ((k : Nat) : Int) = (k : Nat) := wrap_i64 (by omega) (by omega)
  have w7 : IntKind.i64.wrap n0 = n0 := wrap_i64 (by omega) (by omega)
  have a1 : ((k : Int) < ((DiffP old to).length : Int)) = True := eq_true (by omega)
  have a2 : (k + 1 ≤ (DiffP old to).length) = True := eq_true (by omega)
  have b3 : (((DiffP old to).length : Int) < 16) = False := eq_false (by omega)
  have hturn := fun hc h => @turned old to (by omega) (by omega) k c hkl hc h
  have herr := @apply_err old ((DiffP old to).set k c)
  have hoth := @other old to (by omega) (by omega)
  have hset := @u8s_set (DiffP old to) k c hkl
  have hget := @u8s_get ((DiffP old to).set k c) k (by rw [List.length_set]; exact hkl)
  have hgc : ((DiffP old to).set k c)[k]'(by rw [List.length_set]; exact hkl) = c := by simp
  rw [hgc] at hget
  clear hgc
  have x1 : (DiffP old to)[k]? = some (DiffP old to)[k] := List.getElem?_eq_getElem hkl
  have lQ : ((DiffP old to).set k c).length = (DiffP old to).length := List.length_set
  have f1 := fun H => @c27 old ((DiffP old to).set k c) (by omega) (by omega) H
  have f2 := fun H => @c27 to (DiffP old to) (by omega) (by omega) H
  have sr := fun (x : AO) => @str_row ((DiffP old to).set k c) [x, .cells (u8s ((DiffP old to).set k c)) 5 true] 5 true none 1 rfl
  rw [lQ] at sr
  have lD' := u8s_len (DiffP old to)
  have lQ' := u8s_len ((DiffP old to).set k c)
  rw [lQ] at lQ'
  generalize hdk : (DiffP old to)[k] = dk at *
  generalize hrD : u8s (DiffP old to) = rD at *
  generalize u8s ((DiffP old to).set k c) = rQ at *
  generalize hQ : (DiffP old to).set k c = Q at *
  generalize DiffP old to = D at *
  have hlenm : (ApplyP old Q).2 = 0 → (ApplyP old Q).1.length ≤ 1000000 := fun h => by
    have := apply_ok h
    have h2 : n4 Q 8 ≤ 65536 := by
      by_cases hh : n4 Q 8 > 65536
      · unfold ApplyP at h
        rw [if_neg (by omega), if_neg (by omega), if_pos hh] at h
        cases h
      · omega
    omega
  have ct := fun H => crc_ref to (by omega) H
  have co := fun H => crc_ref old (by omega) H
  have byte_ne := fun x y : UInt8 => show (((x.toNat : Int)) != ((y.toNat : Int))) = !decide (x = y) by rw [bne, byte_beq]
  generalize hM : ApplyP old Q = M at *
  obtain ⟨m, e⟩ := M
  simp only at hturn herr hlenm f1
  have fin : (to.length = old.length ∧ crcN to = crcN old) ∨ (¬ to.length = old.length ∧ ApplyP to D = ([], 5)) ∨ (to.length = old.length ∧ ¬ crcN to = crcN old ∧ ApplyP to D = ([], 5)) := by
    by_cases q1 : to.length = old.length
    · by_cases q2 : crcN to = crcN old
      · exact .inl ⟨q1, q2⟩
      · exact .inr (.inr ⟨q1, q2, hoth fun h => q2 h.2⟩)
    · exact .inr (.inl ⟨q1, hoth fun h => q1 h.1⟩)
  by_cases he : e = 0
  · subst he
    have hml2 := hlenm rfl
    have cm := fun H => crc_ref m hml2 H
    by_cases hc : dk = c
    · have b7 : (((c.toNat : Int)) != ((dk.toNat : Int))) = false := by rw [byte_ne, hc]; simp
      rcases fin with ⟨q1, q2⟩ | ⟨q1, q3⟩ | ⟨q1, q2, q3⟩
      · have d1 : ((to.length : Int) == (old.length : Int)) = true := by simp [q1]
        have d2 : (((crcN to : Nat) : Int) == ((crcN old : Nat) : Int)) = true := by simp [q2]
        refine call_ends (fn := s8) rfl rfl (by simp [s8]) ?_
        simp only [s8, R1, R2, R3, R4, R5, R6, R7, R8, AV.flat, fillIn_nil, fillIn_cons, splice, AV.cells, AV.one, eqsOf, idx, SO.calls, List.reduceReplicate, Nat.reduceBEq, Nat.reduceLT, Nat.reduceAdd, Nat.reduceMul, Nat.reduceSub, Nat.reduceLeDiff, Nat.reduceEqDiff, ↓reduceIte, Int.reduceLT, Int.reduceEq, Int.reduceBNe, Int.reduceBEq, aeq, Int.reduceLE, Int.reduceNeg, Int.reduceMul, Int.reduceAdd, Int.reduceSub, Int.reduceToNat, Int.reducePow, e0, b1, b2, b3, e1, wb, w4, w5, w6, w7, a1, a2, hrD, lD', lQ', hset, sr, f1, x1, hget, shun_un, veil_un, bne_self_eq_false, b7, cm, ct, co, d1, d2]
      · have d1 : ((to.length : Int) == (old.length : Int)) = false := by rw [beq_eq_false_iff_ne]; omega
        rw [q3] at f2
        refine call_ends (fn := s8) rfl rfl (by simp [s8]) ?_
        simp only [s8, R1, R2, R3, R4, R5, R6, R7, R8, AV.flat, fillIn_nil, fillIn_cons, splice, AV.cells, AV.one, eqsOf, idx, SO.calls, List.reduceReplicate, Nat.reduceBEq, Nat.reduceLT, Nat.reduceAdd, Nat.reduceMul, Nat.reduceSub, Nat.reduceLeDiff, Nat.reduceEqDiff, ↓reduceIte, Int.reduceLT, Int.reduceEq, Int.reduceBNe, Int.reduceBEq, aeq, Int.reduceLE, Int.reduceNeg, Int.reduceMul, Int.reduceAdd, Int.reduceSub, Int.reduceToNat, Int.reducePow, e0, b1, b2, b3, e1, wb, w4, w5, w6, w7, a1, a2, hrD, lD', lQ', hset, sr, f1, x1, hget, shun_un, veil_un, bne_self_eq_false, b7, cm, ct, co, d1, f2]
      · have d1 : ((to.length : Int) == (old.length : Int)) = true := by simp [q1]
        have d2 : (((crcN to : Nat) : Int) == ((crcN old : Nat) : Int)) = false := by rw [beq_eq_false_iff_ne]; omega
        rw [q3] at f2
        refine call_ends (fn := s8) rfl rfl (by simp [s8]) ?_
        simp only [s8, R1, R2, R3, R4, R5, R6, R7, R8, AV.flat, fillIn_nil, fillIn_cons, splice, AV.cells, AV.one, eqsOf, idx, SO.calls, List.reduceReplicate, Nat.reduceBEq, Nat.reduceLT, Nat.reduceAdd, Nat.reduceMul, Nat.reduceSub, Nat.reduceLeDiff, Nat.reduceEqDiff, ↓reduceIte, Int.reduceLT, Int.reduceEq, Int.reduceBNe, Int.reduceBEq, aeq, Int.reduceLE, Int.reduceNeg, Int.reduceMul, Int.reduceAdd, Int.reduceSub, Int.reduceToNat, Int.reducePow, e0, b1, b2, b3, e1, wb, w4, w5, w6, w7, a1, a2, hrD, lD', lQ', hset, sr, f1, x1, hget, shun_un, veil_un, bne_self_eq_false, b7, cm, ct, co, d1, d2, f2]
    · have b7 : (((c.toNat : Int)) != ((dk.toNat : Int))) = true := by rw [byte_ne]; simpa using fun h => hc h.symm
      obtain ⟨t1, t2, t3⟩ := hturn hc rfl
      have b8 : ((k : Int) < 16) = False := eq_false (by omega)
      have b9 : ((m.length : Int) != (to.length : Int)) = false := by simp [t2]
      have b10 : (((crcN m : Nat) : Int) != ((crcN to : Nat) : Int)) = false := by simp [t3]
      rcases fin with ⟨q1, q2⟩ | ⟨q1, q3⟩ | ⟨q1, q2, q3⟩
      · have d1 : ((to.length : Int) == (old.length : Int)) = true := by simp [q1]
        have d2 : (((crcN to : Nat) : Int) == ((crcN old : Nat) : Int)) = true := by simp [q2]
        refine call_ends (fn := s8) rfl rfl (by simp [s8]) ?_
        simp only [s8, R1, R2, R3, R4, R5, R6, R7, R8, AV.flat, fillIn_nil, fillIn_cons, splice, AV.cells, AV.one, eqsOf, idx, SO.calls, List.reduceReplicate, Nat.reduceBEq, Nat.reduceLT, Nat.reduceAdd, Nat.reduceMul, Nat.reduceSub, Nat.reduceLeDiff, Nat.reduceEqDiff, ↓reduceIte, Int.reduceLT, Int.reduceEq, Int.reduceBNe, Int.reduceBEq, aeq, Int.reduceLE, Int.reduceNeg, Int.reduceMul, Int.reduceAdd, Int.reduceSub, Int.reduceToNat, Int.reducePow, e0, b1, b2, b3, e1, wb, w4, w5, w6, w7, a1, a2, hrD, lD', lQ', hset, sr, f1, x1, hget, shun_un, veil_un, bne_self_eq_false, b7, b8, b9, b10, cm, ct, co, d1, d2]
      · have d1 : ((to.length : Int) == (old.length : Int)) = false := by rw [beq_eq_false_iff_ne]; omega
        rw [q3] at f2
        refine call_ends (fn := s8) rfl rfl (by simp [s8]) ?_
        simp only [s8, R1, R2, R3, R4, R5, R6, R7, R8, AV.flat, fillIn_nil, fillIn_cons, splice, AV.cells, AV.one, eqsOf, idx, SO.calls, List.reduceReplicate, Nat.reduceBEq, Nat.reduceLT, Nat.reduceAdd, Nat.reduceMul, Nat.reduceSub, Nat.reduceLeDiff, Nat.reduceEqDiff, ↓reduceIte, Int.reduceLT, Int.reduceEq, Int.reduceBNe, Int.reduceBEq, aeq, Int.reduceLE, Int.reduceNeg, Int.reduceMul, Int.reduceAdd, Int.reduceSub, Int.reduceToNat, Int.reducePow, e0, b1, b2, b3, e1, wb, w4, w5, w6, w7, a1, a2, hrD, lD', lQ', hset, sr, f1, x1, hget, shun_un, veil_un, bne_self_eq_false, b7, b8, b9, b10, cm, ct, co, d1, f2]
      · have d1 : ((to.length : Int) == (old.length : Int)) = true := by simp [q1]
        have d2 : (((crcN to : Nat) : Int) == ((crcN old : Nat) : Int)) = false := by rw [beq_eq_false_iff_ne]; omega
        rw [q3] at f2
        refine call_ends (fn := s8) rfl rfl (by simp [s8]) ?_
        simp only [s8, R1, R2, R3, R4, R5, R6, R7, R8, AV.flat, fillIn_nil, fillIn_cons, splice, AV.cells, AV.one, eqsOf, idx, SO.calls, List.reduceReplicate, Nat.reduceBEq, Nat.reduceLT, Nat.reduceAdd, Nat.reduceMul, Nat.reduceSub, Nat.reduceLeDiff, Nat.reduceEqDiff, ↓reduceIte, Int.reduceLT, Int.reduceEq, Int.reduceBNe, Int.reduceBEq, aeq, Int.reduceLE, Int.reduceNeg, Int.reduceMul, Int.reduceAdd, Int.reduceSub, Int.reduceToNat, Int.reducePow, e0, b1, b2, b3, e1, wb, w4, w5, w6, w7, a1, a2, hrD, lD', lQ', hset, sr, f1, x1, hget, shun_un, veil_un, bne_self_eq_false, b7, b8, b9, b10, cm, ct, co, d1, d2, f2]
  · have b5 : (e != 0) = true := by simp [he]
    have b6 : (e == 0) = false := by simp [he]
    have hm0 : m = [] := herr he
    subst hm0
    rcases fin with ⟨q1, q2⟩ | ⟨q1, q3⟩ | ⟨q1, q2, q3⟩
    · have d1 : ((to.length : Int) == (old.length : Int)) = true := by simp [q1]
      have d2 : (((crcN to : Nat) : Int) == ((crcN old : Nat) : Int)) = true := by simp [q2]
      refine call_ends (fn := s8) rfl rfl (by simp [s8]) ?_
      simp only [s8, R1, R2, R3, R4, R5, R6, R7, R8, AV.flat, fillIn_nil, fillIn_cons, splice, AV.cells, AV.one, eqsOf, idx, SO.calls, List.reduceReplicate, Nat.reduceBEq, Nat.reduceLT, Nat.reduceAdd, Nat.reduceMul, Nat.reduceSub, Nat.reduceLeDiff, Nat.reduceEqDiff, ↓reduceIte, Int.reduceLT, Int.reduceEq, Int.reduceBNe, Int.reduceBEq, aeq, Int.reduceLE, Int.reduceNeg, Int.reduceMul, Int.reduceAdd, Int.reduceSub, Int.reduceToNat, Int.reducePow, e0, b1, b2, b3, e1, wb, w4, w5, w6, w7, a1, a2, hrD, lD', lQ', hset, sr, f1, x1, hget, shun_un, veil_un, bne_self_eq_false, b5, b6, ct, co, d1, d2]
    · have d1 : ((to.length : Int) == (old.length : Int)) = false := by rw [beq_eq_false_iff_ne]; omega
      rw [q3] at f2
      refine call_ends (fn := s8) rfl rfl (by simp [s8]) ?_
      simp only [s8, R1, R2, R3, R4, R5, R6, R7, R8, AV.flat, fillIn_nil, fillIn_cons, splice, AV.cells, AV.one, eqsOf, idx, SO.calls, List.reduceReplicate, Nat.reduceBEq, Nat.reduceLT, Nat.reduceAdd, Nat.reduceMul, Nat.reduceSub, Nat.reduceLeDiff, Nat.reduceEqDiff, ↓reduceIte, Int.reduceLT, Int.reduceEq, Int.reduceBNe, Int.reduceBEq, aeq, Int.reduceLE, Int.reduceNeg, Int.reduceMul, Int.reduceAdd, Int.reduceSub, Int.reduceToNat, Int.reducePow, e0, b1, b2, b3, e1, wb, w4, w5, w6, w7, a1, a2, hrD, lD', lQ', hset, sr, f1, x1, hget, shun_un, veil_un, bne_self_eq_false, b5, b6, ct, co, d1, f2]
    · have d1 : ((to.length : Int) == (old.length : Int)) = true := by simp [q1]
      have d2 : (((crcN to : Nat) : Int) == ((crcN old : Nat) : Int)) = false := by rw [beq_eq_false_iff_ne]; omega
      rw [q3] at f2
      refine call_ends (fn := s8) rfl rfl (by simp [s8]) ?_
      simp only [s8, R1, R2, R3, R4, R5, R6, R7, R8, AV.flat, fillIn_nil, fillIn_cons, splice, AV.cells, AV.one, eqsOf, idx, SO.calls, List.reduceReplicate, Nat.reduceBEq, Nat.reduceLT, Nat.reduceAdd, Nat.reduceMul, Nat.reduceSub, Nat.reduceLeDiff, Nat.reduceEqDiff, ↓reduceIte, Int.reduceLT, Int.reduceEq, Int.reduceBNe, Int.reduceBEq, aeq, Int.reduceLE, Int.reduceNeg, Int.reduceMul, Int.reduceAdd, Int.reduceSub, Int.reduceToNat, Int.reducePow, e0, b1, b2, b3, e1, wb, w4, w5, w6, w7, a1, a2, hrD, lD', lQ', hset, sr, f1, x1, hget, shun_un, veil_un, bne_self_eq_false, b5, b6, ct, co, d1, d2, f2]
end Go.Proofs.Ytkcbjeenoafbkaa
