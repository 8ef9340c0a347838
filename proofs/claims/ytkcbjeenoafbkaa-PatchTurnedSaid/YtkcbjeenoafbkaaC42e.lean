/- Chapter 42: Apply, Steps. -/
import Derived.Test.YtkcbjeenoafbkaaC42d
set_option linter.unusedVariables false
set_option linter.unusedSimpArgs false
set_option maxRecDepth 100000
set_option maxHeartbeats 2000000
namespace Go.Proofs.Ytkcbjeenoafbkaa
open Go Go.Den
section
variable {cl : CL} {i : Nat} {m : List (Nat × Nat × Nat)} {d : Option Nat} {o : SO} {r : List SOp} {t : List AV} {H : Heap}
def guarddA (b : Bool) (ap : List (Option (Nat × Bool) × SX)) (o : SO) (cl : CL) (i : Nat) (m : List (Nat × Nat × Nat)) (d : Option Nat) (r : List SOp) (t : List AV) (H : Heap) : Option (List AV × Heap) :=
  if b = true then thenAllA cl i m ap (sop cl t H o) d r t H else opsd cl (i + 1) m r (put t d .undef) H
theorem opsd_ga {g p l} : opsd cl i m (⟨d, o, some g, none, p :: l⟩ :: r) t H = guarddA (wants t (some g)) (p :: l) o cl i m d r t H := _root_.id rfl
theorem guarddA_t {ap} : guarddA true ap o cl i m d r t H = thenAllA cl i m ap (sop cl t H o) d r t H := _root_.id rfl
theorem guarddA_f {ap} : guarddA false ap o cl i m d r t H = opsd cl (i + 1) m r (put t d .undef) H := _root_.id rfl
end
theorem steps_own (p : List UInt8) : ∀ (k a : Nat), ∀ s ∈ (stepsF p k a).1, s.own.length ≤ p.length
  | 0, a, s, h => by simp [stepsF] at h
  | k + 1, a, s, h => by
    rw [stepsF] at h
    split at h
    · split at h
      · simp at h
      · rcases List.mem_cons.1 h with rfl | h
        · unfold stepS
          split
          · simp
          · simp only [List.length_take, List.length_drop]; omega
        · exact steps_own p k _ s h
    · simp at h
theorem stepsF_len (p : List UInt8) : ∀ (k a : Nat), (stepsF p k a).1.length ≤ k
  | 0, a => by simp [stepsF]
  | k + 1, a => by
    have := stepsF_len p k (stepN p a)
    rw [stepsF]
    split
    · split
      · simp
      · simp only [List.length_cons]; omega
    · simp
theorem readS_own (p : List UInt8) : ∀ s ∈ readS p, s.own.length ≤ p.length := by
  unfold readS
  intro s hs
  split at hs
  · simp at hs
  · split at hs
    · simp at hs
    · exact steps_own p _ _ s hs
theorem readS_len (p : List UInt8) : (readS p).length ≤ p.length := by
  unfold readS
  split
  · simp
  · split
    · simp
    · exact stepsF_len p _ _
theorem crc_of (l : List UInt8) (hl : l.length ≤ 1000000) (H : Heap) : call env 52 [.str (mkS l)] H = some (.int .u32 (crcN l : Nat), H) := c52 (mkS l) H (by rw [mkS_size]; exact hl)
theorem crc_ref (l : List UInt8) (hl : l.length ≤ 1000000) (H : Heap) : call env 32 [.str (mkS l)] H = some (.int .u32 (crcN l : Nat), H) := c32 (mkS l) H (by rw [mkS_size]; exact hl)
theorem c29 {p : List UInt8} (hp : p.length ≤ 1000000) (H : Heap) : call env 29 [.str (mkS p)] H = some (.tup [.int .i64 (StepsN p).1, .int .i64 (StepsN p).2], H) := by
  have e1 := c55 hp H
  have hs := newSl_of (H := H) (e := 140) (l := readS p) (fun a _ => stp_cel.size a) stp_cel.pos
  have el := hs.lenOf
  generalize (newSl H 140 4 Stp.cs (readS p)).1 = v at *
  generalize (newSl H 140 4 Stp.cs (readS p)).2 = X at *
  by_cases h16 : p.length < 16
  · have hR : StepsN p = (0, 3) := if_pos h16
    rw [hR]
    simp only [headR, readE, readW, if_pos h16, Hd4, Int.cast_ofNat_Int] at e1
    refine call_ends (fn := s29) rfl rfl (by simp [s29]) ?_
    simp only [s29, R1, R2, R3, R4, R5, R6, R7, R8, AV.flat, fillIn_nil, fillIn_cons, splice, AV.cells, AV.one, eqsOf, idx, SO.calls, List.reduceReplicate, Nat.reduceBEq, Nat.reduceLT, Nat.reduceAdd, Nat.reduceMul, Nat.reduceSub, Nat.reduceLeDiff, Nat.reduceEqDiff, ↓reduceIte, Int.reduceLT, Int.reduceEq, Int.reduceBNe, Int.reduceBEq, aeq, Int.reduceLE, Int.reduceNeg, Int.reduceMul, Int.reduceAdd, Int.reduceSub, Int.reduceToNat, Int.reducePow, e1]
    rw [tidy_tup' (l := [.int .i64 0, .int .i64 3]) rfl]
  by_cases hlong : n4 p 8 > 65536
  · have hR : StepsN p = (0, 6) := by unfold StepsN; rw [if_neg h16, if_pos hlong]
    rw [hR]
    simp only [headR, readE, readW, if_neg h16, if_pos hlong, Hd4, Int.cast_ofNat_Int] at e1
    refine call_ends (fn := s29) rfl rfl (by simp [s29]) ?_
    simp only [s29, R1, R2, R3, R4, R5, R6, R7, R8, AV.flat, fillIn_nil, fillIn_cons, splice, AV.cells, AV.one, eqsOf, idx, SO.calls, List.reduceReplicate, Nat.reduceBEq, Nat.reduceLT, Nat.reduceAdd, Nat.reduceMul, Nat.reduceSub, Nat.reduceLeDiff, Nat.reduceEqDiff, ↓reduceIte, Int.reduceLT, Int.reduceEq, Int.reduceBNe, Int.reduceBEq, aeq, Int.reduceLE, Int.reduceNeg, Int.reduceMul, Int.reduceAdd, Int.reduceSub, Int.reduceToNat, Int.reducePow, e1]
    rw [tidy_tup' (l := [.int .i64 0, .int .i64 6]) rfl]
  have hS : readS p = (stepsP p 16).1 := by unfold readS; rw [if_neg h16, if_neg hlong]
  have hR : StepsN p = if (stepsP p 16).2 ≠ 0 then (0, (stepsP p 16).2) else (((stepsP p 16).1.length : Int), 0) := by unfold StepsN; rw [if_neg h16, if_neg hlong]
  simp only [headR, readE, readW, if_neg h16, if_neg hlong, Hd4] at e1
  rw [hR]
  rw [hS] at el
  by_cases hw : (stepsP p 16).2 = 0
  · rw [if_neg (by simp [hw])]
    rw [hw] at e1
    refine call_ends (fn := s29) rfl rfl (by simp [s29]) ?_
    simp only [s29, R1, R2, R3, R4, R5, R6, R7, R8, AV.flat, fillIn_nil, fillIn_cons, splice, AV.cells, AV.one, eqsOf, idx, SO.calls, List.reduceReplicate, Nat.reduceBEq, Nat.reduceLT, Nat.reduceAdd, Nat.reduceMul, Nat.reduceSub, Nat.reduceLeDiff, Nat.reduceEqDiff, ↓reduceIte, Int.reduceLT, Int.reduceEq, Int.reduceBNe, Int.reduceBEq, aeq, Int.reduceLE, Int.reduceNeg, Int.reduceMul, Int.reduceAdd, Int.reduceSub, Int.reduceToNat, Int.reducePow, e1, el]
    rw [tidy_tup' (l := [.int .i64 ((stepsP p 16).1.length : Int), .int .i64 0]) rfl]
  · have b1 : ((stepsP p 16).2 != 0) = true := by simp [hw]
    rw [if_pos hw]
    generalize (stepsP p 16).2 = w at *
    refine call_ends (fn := s29) rfl rfl (by simp [s29]) ?_
    simp only [s29, R1, R2, R3, R4, R5, R6, R7, R8, AV.flat, fillIn_nil, fillIn_cons, splice, AV.cells, AV.one, eqsOf, idx, SO.calls, List.reduceReplicate, Nat.reduceBEq, Nat.reduceLT, Nat.reduceAdd, Nat.reduceMul, Nat.reduceSub, Nat.reduceLeDiff, Nat.reduceEqDiff, ↓reduceIte, Int.reduceLT, Int.reduceEq, Int.reduceBNe, Int.reduceBEq, aeq, Int.reduceLE, Int.reduceNeg, Int.reduceMul, Int.reduceAdd, Int.reduceSub, Int.reduceToNat, Int.reducePow, e1, b1]
    rw [tidy_tup' (l := [.int .i64 0, .int .i64 w]) rfl]
theorem c27 {old p : List UInt8} (ho : old.length ≤ 1000000) (hp : p.length ≤ 1000000) (H : Heap) : call env 27 [.str (mkS old), .str (mkS p)] H = some (.tup [.str (mkS (ApplyP old p).1), .int .i64 (ApplyP old p).2], H) := by
  unfold ApplyP
  by_cases hol : old.length > 65536
  · have b0 : ((old.length : Int) > 65536) = True := eq_true (by omega)
    rw [if_pos hol]
    refine call_ends (fn := s27) rfl rfl (by simp [s27]) ?_
    simp only [s27, R1, R2, R3, R4, R5, R6, R7, R8, AV.flat, fillIn_nil, fillIn_cons, splice, AV.cells, AV.one, eqsOf, idx, SO.calls, List.reduceReplicate, Nat.reduceBEq, Nat.reduceLT, Nat.reduceAdd, Nat.reduceMul, Nat.reduceSub, Nat.reduceLeDiff, Nat.reduceEqDiff, ↓reduceIte, Int.reduceLT, Int.reduceEq, Int.reduceBNe, Int.reduceBEq, aeq, Int.reduceLE, Int.reduceNeg, Int.reduceMul, Int.reduceAdd, Int.reduceSub, Int.reduceToNat, Int.reducePow, b0]
    try rw [tidy_tup' (l := [.str (mkS []), .int .i64 6]) rfl]
  rw [if_neg hol]
  have b0 : ((old.length : Int) > 65536) = False := eq_false (by omega)
  have e1 := c55 hp H
  have hs := newSl_of (H := H) (e := 140) (l := readS p) (fun a _ => stp_cel.size a) stp_cel.pos
  generalize (newSl H 140 4 Stp.cs (readS p)).1 = v at *
  generalize (newSl H 140 4 Stp.cs (readS p)).2 = X at *
  by_cases h16 : p.length < 16
  · rw [if_pos h16]
    simp only [headR, readE, readW, if_pos h16, Hd4, Int.cast_ofNat_Int] at e1
    refine call_ends (fn := s27) rfl rfl (by simp [s27]) ?_
    simp only [s27, R1, R2, R3, R4, R5, R6, R7, R8, AV.flat, fillIn_nil, fillIn_cons, splice, AV.cells, AV.one, eqsOf, idx, SO.calls, List.reduceReplicate, Nat.reduceBEq, Nat.reduceLT, Nat.reduceAdd, Nat.reduceMul, Nat.reduceSub, Nat.reduceLeDiff, Nat.reduceEqDiff, ↓reduceIte, Int.reduceLT, Int.reduceEq, Int.reduceBNe, Int.reduceBEq, aeq, Int.reduceLE, Int.reduceNeg, Int.reduceMul, Int.reduceAdd, Int.reduceSub, Int.reduceToNat, Int.reducePow, b0, e1]
    rw [tidy_tup' (l := [.str (mkS []), .int .i64 3]) rfl]
  rw [if_neg h16]
  by_cases hlong : n4 p 8 > 65536
  · rw [if_pos hlong]
    simp only [headR, readE, readW, if_neg h16, if_pos hlong, Hd4, Int.cast_ofNat_Int] at e1
    refine call_ends (fn := s27) rfl rfl (by simp [s27]) ?_
    simp only [s27, R1, R2, R3, R4, R5, R6, R7, R8, AV.flat, fillIn_nil, fillIn_cons, splice, AV.cells, AV.one, eqsOf, idx, SO.calls, List.reduceReplicate, Nat.reduceBEq, Nat.reduceLT, Nat.reduceAdd, Nat.reduceMul, Nat.reduceSub, Nat.reduceLeDiff, Nat.reduceEqDiff, ↓reduceIte, Int.reduceLT, Int.reduceEq, Int.reduceBNe, Int.reduceBEq, aeq, Int.reduceLE, Int.reduceNeg, Int.reduceMul, Int.reduceAdd, Int.reduceSub, Int.reduceToNat, Int.reducePow, b0, e1]
    rw [tidy_tup' (l := [.str (mkS []), .int .i64 6]) rfl]
  rw [if_neg hlong]
  have hS : readS p = (stepsP p 16).1 := by unfold readS; rw [if_neg h16, if_neg hlong]
  have hown := readS_own p
  have hsl := readS_len p
  rw [hS] at hs hown hsl
  simp only [headR, readE, readW, if_neg h16, if_neg hlong, Hd4] at e1
  have l0 := n4_lt p 0
  have l1 := n4_lt p 4
  have l3 := n4_lt p 12
  have w0 : IntKind.i64.wrap ((n4 p 0 : Nat) : Int) = (n4 p 0 : Nat) := wrap_i64 (by omega) (by omega)
  have w2 : IntKind.i64.wrap ((n4 p 8 : Nat) : Int) = (n4 p 8 : Nat) := wrap_i64 (by omega) (by omega)
  have ec := fun H => crc_of old ho H
  by_cases hlen : n4 p 0 = old.length
  · have b1 : (((n4 p 0 : Nat) : Int) != (old.length : Int)) = false := by simp [hlen]
    by_cases hcr : n4 p 4 = crcN old
    · have b2 : (((n4 p 4 : Nat) : Int) != ((crcN old : Nat) : Int)) = false := by simp [hcr]
      rw [if_neg (by rintro (h | h); exact h hlen; exact h hcr)]
      have em := fun Y => c56 (hs.app Y) (by omega) (fun s hs => by have := hown s hs; omega) ho (most := n4 p 8) (by omega)
      have hml := made_len (old := old) (most := n4 p 8) (l := (stepsP p 16).1) (acc := []) (by simp)
      unfold restP
      have ec2 := fun H => crc_of (madeP old (n4 p 8) [] (stepsP p 16).1).1 (by omega) H
      generalize hM : madeP old (n4 p 8) [] (stepsP p 16).1 = M at *
      obtain ⟨m, me⟩ := M
      generalize (stepsP p 16).2 = wr at *
      generalize (stepsP p 16).1 = st at *
      simp only at em ec2 hml ⊢
      by_cases hme : me = 0
      · subst hme
        rw [if_neg (by simp)]
        by_cases hwr : wr = 0
        · subst hwr
          rw [if_neg (by simp)]
          by_cases hl2 : n4 p 8 = m.length
          · have b3 : (((n4 p 8 : Nat) : Int) != (m.length : Int)) = false := by simp [hl2]
            by_cases hc2 : n4 p 12 = crcN m
            · have b4 : (((n4 p 12 : Nat) : Int) != ((crcN m : Nat) : Int)) = false := by simp [hc2]
              rw [if_neg (by rintro (h | h); exact h hl2; exact h hc2)]
              simp only [List.append_assoc] at em
              refine call_ends (fn := s27) rfl rfl (by simp [s27]) ?_
              simp only [s27, R1, R2, R3, R4, R5, R6, R7, R8, AV.flat, fillIn_nil, fillIn_cons, splice, AV.cells, AV.one, eqsOf, idx, SO.calls, List.reduceReplicate, Nat.reduceBEq, Nat.reduceLT, Nat.reduceAdd, Nat.reduceMul, Nat.reduceSub, Nat.reduceLeDiff, Nat.reduceEqDiff, ↓reduceIte, Int.reduceLT, Int.reduceEq, Int.reduceBNe, Int.reduceBEq, aeq, Int.reduceLE, Int.reduceNeg, Int.reduceMul, Int.reduceAdd, Int.reduceSub, Int.reduceToNat, Int.reducePow, b0, e1, w0, w2, b1, b2, ec, em, b3, b4, ec2, shun_un, veil_un, opsd_ga, guarddA_t, guarddA_f, apartAll_g]
              rw [tidy_tup' (l := [.str (mkS m), .int .i64 0]) rfl]
            · have b4 : (((n4 p 12 : Nat) : Int) != ((crcN m : Nat) : Int)) = true := by rw [bne_iff_ne]; omega
              rw [if_pos (.inr hc2)]
              simp only [List.append_assoc] at em
              refine call_ends (fn := s27) rfl rfl (by simp [s27]) ?_
              simp only [s27, R1, R2, R3, R4, R5, R6, R7, R8, AV.flat, fillIn_nil, fillIn_cons, splice, AV.cells, AV.one, eqsOf, idx, SO.calls, List.reduceReplicate, Nat.reduceBEq, Nat.reduceLT, Nat.reduceAdd, Nat.reduceMul, Nat.reduceSub, Nat.reduceLeDiff, Nat.reduceEqDiff, ↓reduceIte, Int.reduceLT, Int.reduceEq, Int.reduceBNe, Int.reduceBEq, aeq, Int.reduceLE, Int.reduceNeg, Int.reduceMul, Int.reduceAdd, Int.reduceSub, Int.reduceToNat, Int.reducePow, b0, e1, w0, w2, b1, b2, ec, em, b3, b4, ec2, shun_un, veil_un, opsd_ga, guarddA_t, guarddA_f, apartAll_g]
              rw [tidy_tup' (l := [.str (mkS []), .int .i64 5]) rfl]
          · have b3 : (((n4 p 8 : Nat) : Int) != (m.length : Int)) = true := by rw [bne_iff_ne]; omega
            rw [if_pos (.inl hl2)]
            simp only [List.append_assoc] at em
            refine call_ends (fn := s27) rfl rfl (by simp [s27]) ?_
            simp only [s27, R1, R2, R3, R4, R5, R6, R7, R8, AV.flat, fillIn_nil, fillIn_cons, splice, AV.cells, AV.one, eqsOf, idx, SO.calls, List.reduceReplicate, Nat.reduceBEq, Nat.reduceLT, Nat.reduceAdd, Nat.reduceMul, Nat.reduceSub, Nat.reduceLeDiff, Nat.reduceEqDiff, ↓reduceIte, Int.reduceLT, Int.reduceEq, Int.reduceBNe, Int.reduceBEq, aeq, Int.reduceLE, Int.reduceNeg, Int.reduceMul, Int.reduceAdd, Int.reduceSub, Int.reduceToNat, Int.reducePow, b0, e1, w0, w2, b1, b2, ec, em, b3, shun_un, veil_un, opsd_ga, guarddA_t, guarddA_f, apartAll_g]
            rw [tidy_tup' (l := [.str (mkS []), .int .i64 5]) rfl]
        · have b3 : (wr != 0) = true := by simp [hwr]
          rw [if_pos hwr]
          simp only [List.append_assoc] at em
          refine call_ends (fn := s27) rfl rfl (by simp [s27]) ?_
          simp only [s27, R1, R2, R3, R4, R5, R6, R7, R8, AV.flat, fillIn_nil, fillIn_cons, splice, AV.cells, AV.one, eqsOf, idx, SO.calls, List.reduceReplicate, Nat.reduceBEq, Nat.reduceLT, Nat.reduceAdd, Nat.reduceMul, Nat.reduceSub, Nat.reduceLeDiff, Nat.reduceEqDiff, ↓reduceIte, Int.reduceLT, Int.reduceEq, Int.reduceBNe, Int.reduceBEq, aeq, Int.reduceLE, Int.reduceNeg, Int.reduceMul, Int.reduceAdd, Int.reduceSub, Int.reduceToNat, Int.reducePow, b0, e1, w0, w2, b1, b2, ec, em, b3, shun_un, veil_un, opsd_ga, guarddA_t, guarddA_f, apartAll_g]
          rw [tidy_tup' (l := [.str (mkS []), .int .i64 wr]) rfl]
      · have b3 : (me != 0) = true := by simp [hme]
        rw [if_pos hme]
        simp only [List.append_assoc] at em
        refine call_ends (fn := s27) rfl rfl (by simp [s27]) ?_
        simp only [s27, R1, R2, R3, R4, R5, R6, R7, R8, AV.flat, fillIn_nil, fillIn_cons, splice, AV.cells, AV.one, eqsOf, idx, SO.calls, List.reduceReplicate, Nat.reduceBEq, Nat.reduceLT, Nat.reduceAdd, Nat.reduceMul, Nat.reduceSub, Nat.reduceLeDiff, Nat.reduceEqDiff, ↓reduceIte, Int.reduceLT, Int.reduceEq, Int.reduceBNe, Int.reduceBEq, aeq, Int.reduceLE, Int.reduceNeg, Int.reduceMul, Int.reduceAdd, Int.reduceSub, Int.reduceToNat, Int.reducePow, b0, e1, w0, w2, b1, b2, ec, em, b3, shun_un, veil_un, opsd_ga, guarddA_t, guarddA_f, apartAll_g]
        rw [tidy_tup' (l := [.str (mkS []), .int .i64 me]) rfl]
    · have b2 : (((n4 p 4 : Nat) : Int) != ((crcN old : Nat) : Int)) = true := by rw [bne_iff_ne]; omega
      rw [if_pos (.inr hcr)]
      refine call_ends (fn := s27) rfl rfl (by simp [s27]) ?_
      simp only [s27, R1, R2, R3, R4, R5, R6, R7, R8, AV.flat, fillIn_nil, fillIn_cons, splice, AV.cells, AV.one, eqsOf, idx, SO.calls, List.reduceReplicate, Nat.reduceBEq, Nat.reduceLT, Nat.reduceAdd, Nat.reduceMul, Nat.reduceSub, Nat.reduceLeDiff, Nat.reduceEqDiff, ↓reduceIte, Int.reduceLT, Int.reduceEq, Int.reduceBNe, Int.reduceBEq, aeq, Int.reduceLE, Int.reduceNeg, Int.reduceMul, Int.reduceAdd, Int.reduceSub, Int.reduceToNat, Int.reducePow, b0, e1, w0, w2, b1, b2, ec, shun_un, veil_un, opsd_ga, guarddA_t, guarddA_f, apartAll_g]
      rw [tidy_tup' (l := [.str (mkS []), .int .i64 5]) rfl]
  · have b1 : (((n4 p 0 : Nat) : Int) != (old.length : Int)) = true := by rw [bne_iff_ne]; omega
    rw [if_pos (.inl hlen)]
    refine call_ends (fn := s27) rfl rfl (by simp [s27]) ?_
    simp only [s27, R1, R2, R3, R4, R5, R6, R7, R8, AV.flat, fillIn_nil, fillIn_cons, splice, AV.cells, AV.one, eqsOf, idx, SO.calls, List.reduceReplicate, Nat.reduceBEq, Nat.reduceLT, Nat.reduceAdd, Nat.reduceMul, Nat.reduceSub, Nat.reduceLeDiff, Nat.reduceEqDiff, ↓reduceIte, Int.reduceLT, Int.reduceEq, Int.reduceBNe, Int.reduceBEq, aeq, Int.reduceLE, Int.reduceNeg, Int.reduceMul, Int.reduceAdd, Int.reduceSub, Int.reduceToNat, Int.reducePow, b0, e1, w0, w2, b1, shun_un, veil_un, opsd_ga, guarddA_t, guarddA_f, apartAll_g]
    rw [tidy_tup' (l := [.str (mkS []), .int .i64 5]) rfl]
end Go.Proofs.Ytkcbjeenoafbkaa
