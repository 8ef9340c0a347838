/- Chapter 10: head.maxp, head.hhea. -/
import Derived.Test.YthfpndelfbeknaaC10g
set_option linter.unusedVariables false
set_option linter.unusedSimpArgs false
set_option maxRecDepth 100000
set_option maxHeartbeats 1000000
namespace Go.Proofs.Ythfpndelfbeknaa
open Go Go.Den
def eMaxp (l : List Tab) : Int := match findP tMaxp l with | none => 7 | some s => maxpE s
theorem c97 {H : Heap} {v : AV} {l : List Tab} (hs : SlOf H 2 Tab.cs v l) (hn : l.length ≤ 1000000) (hd : ∀ t ∈ l, t.data.length ≤ 1000000) {o : Nat} {h : Hd} (ho : H[o]? = some (.cells h.cs 71 true)) :
    ∃ h', call env 97 [v, .ptr o 0] H = some (.int .i64 (eMaxp l), H.set o (.cells h'.cs 71 true)) ∧ (eMaxp l = 0 → ∃ s, findP tMaxp l = some s ∧ h' = maxpH s h) := by
  have e1 := c119 hs hn tMaxp 32
  have hlt : o < H.length := (List.getElem?_eq_some_iff.1 ho).1
  unfold eMaxp
  cases hf : findP tMaxp l with
  | none =>
    have hE : readE tMaxp 32 l = 7 := by simp [readE, hf]
    rw [hE, if_neg (by decide)] at e1
    refine ⟨h, ?_, fun h => by cases h⟩
    rw [set_same ho]
    simp only [tMaxp, Int.cast_ofNat_Int] at e1
    refine call_ends (fn := s97) rfl rfl (by simp [s97]) ?_
    simp only [s97, R1, R2, R3, R4, R5, R6, R7, R8, AV.flat, fillIn_nil, fillIn_cons, splice, AV.cells, AV.one, eqsOf, idx, SO.calls, List.reduceReplicate, Nat.reduceBEq, Nat.reduceLT, Nat.reduceAdd, Nat.reduceMul, Nat.reduceSub, Nat.reduceLeDiff, Nat.reduceEqDiff, ↓reduceIte, Int.reduceLT, Int.reduceEq, Int.reduceBNe, Int.reduceBEq, aeq, Int.reduceLE, Int.reduceNeg, Int.reduceMul, Int.reduceAdd, Int.reduceSub, Int.reduceToNat, Int.reducePow, e1]
    rw [tidy_int]
  | some s =>
    obtain ⟨t1, ht1, hd1⟩ := find_in hf
    have hl1 := hd t1 ht1
    rw [hd1] at hl1
    by_cases hl : s.length < 32
    · have hE : readE tMaxp 32 l = 3 := by simp [readE, hf, hl]
      rw [hE, if_neg (by decide)] at e1
      have hh : maxpE s = 3 := if_pos hl
      simp only [hh]
      refine ⟨h, ?_, fun h => by cases h⟩
      rw [set_same ho]
      simp only [tMaxp, Int.cast_ofNat_Int] at e1
      refine call_ends (fn := s97) rfl rfl (by simp [s97]) ?_
      simp only [s97, R1, R2, R3, R4, R5, R6, R7, R8, AV.flat, fillIn_nil, fillIn_cons, splice, AV.cells, AV.one, eqsOf, idx, SO.calls, List.reduceReplicate, Nat.reduceBEq, Nat.reduceLT, Nat.reduceAdd, Nat.reduceMul, Nat.reduceSub, Nat.reduceLeDiff, Nat.reduceEqDiff, ↓reduceIte, Int.reduceLT, Int.reduceEq, Int.reduceBNe, Int.reduceBEq, aeq, Int.reduceLE, Int.reduceNeg, Int.reduceMul, Int.reduceAdd, Int.reduceSub, Int.reduceToNat, Int.reducePow, e1]
      rw [tidy_int]
    · have hE : readE tMaxp 32 l = 0 := by simp [readE, hf, hl]
      have hb : bytesL tMaxp l = s := by simp [bytesL, hf, foundS]
      rw [hE, if_pos rfl, hb] at e1
      have hh : maxpE s = if n4 s 0 ≠ 65536 then 4 else if n2 s 4 > 1024 then 6 else if n2 s 4 = 0 then 4 else 0 := if_neg hl
      have k0 := @rU32 s H.length hl1 0 (by omega) H rfl
      have k1 := @rU16 s H.length hl1 4 (by omega) H rfl
      simp only [tMaxp, Int.cast_ofNat_Int] at e1
      simp only [Nat.reduceAdd] at k0 k1
      by_cases h0 : n4 s 0 = 65536
      · have b0 : (((n4 s 0 : Nat) : Int) != 65536) = false := by rw [h0]; rfl
        rw [if_neg (by omega)] at hh
        refine ⟨maxpH s h, ?_, fun _ => ⟨s, rfl, rfl⟩⟩
        obtain ⟨em, long, glyphs, metrics, up, down, gap⟩ := h
        simp only [Hd.cs] at ho
        have w1 := fun X => st_row (off := 2) (v := .int .i64 (n2 s 4 : Nat)) ho rfl (by simp) X
        simp only [splice, List.take_zero, List.take_succ_cons, List.drop_succ_cons, List.drop_zero, List.nil_append, List.cons_append, List.length_cons, List.length_nil, Nat.reduceAdd] at w1
        generalize hr1 : AO.cells [.int .i64 em, .bool long, .int .i64 (n2 s 4 : Nat), .int .i64 metrics, .int .i64 up, .int .i64 down, .int .i64 gap] 71 true = r1 at w1
        have ho1 : (H.set o r1)[o]? = some (.cells [.int .i64 em, .bool long, .int .i64 (n2 s 4 : Nat), .int .i64 metrics, .int .i64 up, .int .i64 down, .int .i64 gap] 71 true) := by rw [← hr1]; simp [hlt]
        have l1 := fun X => ld_row (off := 2) ho1 rfl X
        have hb1 := n2_lt s 4
        have x1 : IntKind.i64.wrap ((n2 s 4 : Nat) : Int) = (n2 s 4 : Nat) := wrap_i64 (by omega) (by omega)
        have ff := fun b H => c120 b H
        have fin : ∀ n X, tidy H (.int .i64 n) (H.set o r1 ++ X) = (.int .i64 n, H.set o r1) := fun n X => by rw [← hr1]; exact tidy_setX rfl rfl
        have hcs : (maxpH s ⟨em, long, glyphs, metrics, up, down, gap⟩).cs = [.int .i64 em, .bool long, .int .i64 (n2 s 4 : Nat), .int .i64 metrics, .int .i64 up, .int .i64 down, .int .i64 gap] := rfl
        rw [hcs, hr1]
        simp only [hh]
        by_cases h1 : n2 s 4 > 1024
        · have b1 : (((n2 s 4 : Nat) : Int) > 1024) = True := eq_true (by omega)
          rw [if_pos h1]
          refine call_ends (fn := s97) rfl rfl (by simp [s97]) ?_
          simp only [s97, R1, R2, R3, R4, R5, R6, R7, R8, AV.flat, fillIn_nil, fillIn_cons, splice, AV.cells, AV.one, eqsOf, idx, SO.calls, List.reduceReplicate, Nat.reduceBEq, Nat.reduceLT, Nat.reduceAdd, Nat.reduceMul, Nat.reduceSub, Nat.reduceLeDiff, Nat.reduceEqDiff, ↓reduceIte, Int.reduceLT, Int.reduceEq, Int.reduceBNe, Int.reduceBEq, aeq, Int.reduceLE, Int.reduceNeg, Int.reduceMul, Int.reduceAdd, Int.reduceSub, Int.reduceToNat, Int.reducePow, e1, k0, k1, b0, x1, w1, l1, b1]
          rw [fin]
        · have b1 : (((n2 s 4 : Nat) : Int) > 1024) = False := eq_false (by omega)
          rw [if_neg h1]
          by_cases h2 : n2 s 4 = 0
          · have b2 : (((n2 s 4 : Nat) : Int) > 0) = False := eq_false (by omega)
            rw [if_pos h2]
            refine call_ends (fn := s97) rfl rfl (by simp [s97]) ?_
            simp only [s97, R1, R2, R3, R4, R5, R6, R7, R8, AV.flat, fillIn_nil, fillIn_cons, splice, AV.cells, AV.one, eqsOf, idx, SO.calls, List.reduceReplicate, Nat.reduceBEq, Nat.reduceLT, Nat.reduceAdd, Nat.reduceMul, Nat.reduceSub, Nat.reduceLeDiff, Nat.reduceEqDiff, ↓reduceIte, Int.reduceLT, Int.reduceEq, Int.reduceBNe, Int.reduceBEq, aeq, Int.reduceLE, Int.reduceNeg, Int.reduceMul, Int.reduceAdd, Int.reduceSub, Int.reduceToNat, Int.reducePow, e1, k0, k1, b0, x1, w1, l1, b1, b2, ff]
            rw [fin]
          · have b2 : (((n2 s 4 : Nat) : Int) > 0) = True := eq_true (by omega)
            rw [if_neg h2]
            refine call_ends (fn := s97) rfl rfl (by simp [s97]) ?_
            simp only [s97, R1, R2, R3, R4, R5, R6, R7, R8, AV.flat, fillIn_nil, fillIn_cons, splice, AV.cells, AV.one, eqsOf, idx, SO.calls, List.reduceReplicate, Nat.reduceBEq, Nat.reduceLT, Nat.reduceAdd, Nat.reduceMul, Nat.reduceSub, Nat.reduceLeDiff, Nat.reduceEqDiff, ↓reduceIte, Int.reduceLT, Int.reduceEq, Int.reduceBNe, Int.reduceBEq, aeq, Int.reduceLE, Int.reduceNeg, Int.reduceMul, Int.reduceAdd, Int.reduceSub, Int.reduceToNat, Int.reducePow, e1, k0, k1, b0, x1, w1, l1, b1, b2, ff]
            rw [fin]
      · have b0 : (((n4 s 0 : Nat) : Int) != 65536) = true := by simp; omega
        rw [if_pos h0] at hh
        simp only [hh]
        refine ⟨h, ?_, fun h => by cases h⟩
        rw [set_same ho]
        refine call_ends (fn := s97) rfl rfl (by simp [s97]) ?_
        simp only [s97, R1, R2, R3, R4, R5, R6, R7, R8, AV.flat, fillIn_nil, fillIn_cons, splice, AV.cells, AV.one, eqsOf, idx, SO.calls, List.reduceReplicate, Nat.reduceBEq, Nat.reduceLT, Nat.reduceAdd, Nat.reduceMul, Nat.reduceSub, Nat.reduceLeDiff, Nat.reduceEqDiff, ↓reduceIte, Int.reduceLT, Int.reduceEq, Int.reduceBNe, Int.reduceBEq, aeq, Int.reduceLE, Int.reduceNeg, Int.reduceMul, Int.reduceAdd, Int.reduceSub, Int.reduceToNat, Int.reducePow, e1, k0, b0]
        rw [tidy_int']
def eHhea (l : List Tab) (g : Int) : Int := match findP tHhea l with | none => 7 | some s => hheaE s g
theorem c98 {H : Heap} {v : AV} {l : List Tab} (hs : SlOf H 2 Tab.cs v l) (hn : l.length ≤ 1000000) (hd : ∀ t ∈ l, t.data.length ≤ 1000000) {o : Nat} {h : Hd} (ho : H[o]? = some (.cells h.cs 71 true)) :
    ∃ h', call env 98 [v, .ptr o 0] H = some (.int .i64 (eHhea l h.glyphs), H.set o (.cells h'.cs 71 true)) ∧ (eHhea l h.glyphs = 0 → ∃ s, findP tHhea l = some s ∧ h' = hheaH s h) := by
  have e1 := c119 hs hn tHhea 36
  have hlt : o < H.length := (List.getElem?_eq_some_iff.1 ho).1
  unfold eHhea
  cases hf : findP tHhea l with
  | none =>
    have hE : readE tHhea 36 l = 7 := by simp [readE, hf]
    rw [hE, if_neg (by decide)] at e1
    refine ⟨h, ?_, fun h => by cases h⟩
    rw [set_same ho]
    simp only [tHhea, Int.cast_ofNat_Int] at e1
    refine call_ends (fn := s98) rfl rfl (by simp [s98]) ?_
    simp only [s98, R1, R2, R3, R4, R5, R6, R7, R8, AV.flat, fillIn_nil, fillIn_cons, splice, AV.cells, AV.one, eqsOf, idx, SO.calls, List.reduceReplicate, Nat.reduceBEq, Nat.reduceLT, Nat.reduceAdd, Nat.reduceMul, Nat.reduceSub, Nat.reduceLeDiff, Nat.reduceEqDiff, ↓reduceIte, Int.reduceLT, Int.reduceEq, Int.reduceBNe, Int.reduceBEq, aeq, Int.reduceLE, Int.reduceNeg, Int.reduceMul, Int.reduceAdd, Int.reduceSub, Int.reduceToNat, Int.reducePow, e1]
    rw [tidy_int]
  | some s =>
    obtain ⟨t1, ht1, hd1⟩ := find_in hf
    have hl1 := hd t1 ht1
    rw [hd1] at hl1
    by_cases hl : s.length < 36
    · have hE : readE tHhea 36 l = 3 := by simp [readE, hf, hl]
      rw [hE, if_neg (by decide)] at e1
      have hh : hheaE s h.glyphs = 3 := if_pos hl
      simp only [hh]
      refine ⟨h, ?_, fun h => by cases h⟩
      rw [set_same ho]
      simp only [tHhea, Int.cast_ofNat_Int] at e1
      refine call_ends (fn := s98) rfl rfl (by simp [s98]) ?_
      simp only [s98, R1, R2, R3, R4, R5, R6, R7, R8, AV.flat, fillIn_nil, fillIn_cons, splice, AV.cells, AV.one, eqsOf, idx, SO.calls, List.reduceReplicate, Nat.reduceBEq, Nat.reduceLT, Nat.reduceAdd, Nat.reduceMul, Nat.reduceSub, Nat.reduceLeDiff, Nat.reduceEqDiff, ↓reduceIte, Int.reduceLT, Int.reduceEq, Int.reduceBNe, Int.reduceBEq, aeq, Int.reduceLE, Int.reduceNeg, Int.reduceMul, Int.reduceAdd, Int.reduceSub, Int.reduceToNat, Int.reducePow, e1]
      rw [tidy_int]
    · have hE : readE tHhea 36 l = 0 := by simp [readE, hf, hl]
      have hb : bytesL tHhea l = s := by simp [bytesL, hf, foundS]
      rw [hE, if_pos rfl, hb] at e1
      have hh : hheaE s h.glyphs = if hheaOk s h.glyphs then 0 else 4 := if_neg hl
      simp only [hh]
      refine ⟨hheaH s h, ?_, fun _ => ⟨s, rfl, rfl⟩⟩
      obtain ⟨em, long, glyphs, metrics, up, down, gap⟩ := h
      simp only [Hd.cs] at ho ⊢
      have sgl : ∀ a, -32768 ≤ sg (n2 s a) ∧ sg (n2 s a) ≤ 32767 := fun a => by
        have := n2_lt s a
        unfold sg; split <;> omega
      have x4 : IntKind.i64.wrap (sg (n2 s 4)) = sg (n2 s 4) := by have := sgl 4; exact wrap_i64 (by omega) (by omega)
      have x6 : IntKind.i64.wrap (sg (n2 s 6)) = sg (n2 s 6) := by have := sgl 6; exact wrap_i64 (by omega) (by omega)
      have x8 : IntKind.i64.wrap (sg (n2 s 8)) = sg (n2 s 8) := by have := sgl 8; exact wrap_i64 (by omega) (by omega)
      have k0 := @rU32 s H.length hl1 0 (by omega) H rfl
      have k4 := @rI16 s H.length hl1 4 (by omega) H rfl
      have k6 := @rI16 s H.length hl1 6 (by omega) H rfl
      have k8 := @rI16 s H.length hl1 8 (by omega) H rfl
      have w4 := fun X => st_row (off := 4) (v := .int .i64 (sg (n2 s 4))) ho rfl (by simp) X
      simp only [splice, List.take_zero, List.take_succ_cons, List.drop_succ_cons, List.drop_zero, List.nil_append, List.cons_append, List.length_cons, List.length_nil, Nat.reduceAdd] at w4
      generalize hr1 : AO.cells [.int .i64 em, .bool long, .int .i64 glyphs, .int .i64 metrics, .int .i64 (sg (n2 s 4)), .int .i64 down, .int .i64 gap] 71 true = r1 at w4
      have ho1 : (H.set o r1)[o]? = some (.cells [.int .i64 em, .bool long, .int .i64 glyphs, .int .i64 metrics, .int .i64 (sg (n2 s 4)), .int .i64 down, .int .i64 gap] 71 true) := by rw [← hr1]; simp [hlt]
      have w5 := fun X => st_row (off := 5) (v := .int .i64 (sg (n2 s 6))) ho1 rfl (by simp) X
      simp only [splice, List.take_zero, List.take_succ_cons, List.drop_succ_cons, List.drop_zero, List.nil_append, List.cons_append, List.length_cons, List.length_nil, Nat.reduceAdd, List.set_set] at w5
      generalize hr2 : AO.cells [.int .i64 em, .bool long, .int .i64 glyphs, .int .i64 metrics, .int .i64 (sg (n2 s 4)), .int .i64 (sg (n2 s 6)), .int .i64 gap] 71 true = r2 at w5
      have ho2 : (H.set o r2)[o]? = some (.cells [.int .i64 em, .bool long, .int .i64 glyphs, .int .i64 metrics, .int .i64 (sg (n2 s 4)), .int .i64 (sg (n2 s 6)), .int .i64 gap] 71 true) := by rw [← hr2]; simp [hlt]
      have w6 := fun X => st_row (off := 6) (v := .int .i64 (sg (n2 s 8))) ho2 rfl (by simp) X
      simp only [splice, List.take_zero, List.take_succ_cons, List.drop_succ_cons, List.drop_zero, List.nil_append, List.cons_append, List.length_cons, List.length_nil, Nat.reduceAdd, List.set_set] at w6
      generalize hr3 : AO.cells [.int .i64 em, .bool long, .int .i64 glyphs, .int .i64 metrics, .int .i64 (sg (n2 s 4)), .int .i64 (sg (n2 s 6)), .int .i64 (sg (n2 s 8))] 71 true = r3 at w6
      have ho3 : (H.set o r3)[o]? = some (.cells [.int .i64 em, .bool long, .int .i64 glyphs, .int .i64 metrics, .int .i64 (sg (n2 s 4)), .int .i64 (sg (n2 s 6)), .int .i64 (sg (n2 s 8))] 71 true) := by rw [← hr3]; simp [hlt]
      have k10 := @rSkip s H.length hl1 10 22 (by omega) (H.set o r3) (by simp)
      have k32 := @rU16 s H.length hl1 32 (by omega) (H.set o r3) (by simp)
      have k34 := @rU16 s H.length hl1 34 (by omega) (H.set o r3) (by simp)
      have w3 := fun X => st_row (off := 3) (v := .int .i64 (n2 s 34 : Nat)) ho3 rfl (by simp) X
      simp only [splice, List.take_zero, List.take_succ_cons, List.drop_succ_cons, List.drop_zero, List.nil_append, List.cons_append, List.length_cons, List.length_nil, Nat.reduceAdd, List.set_set] at w3
      generalize hr4 : AO.cells [.int .i64 em, .bool long, .int .i64 glyphs, .int .i64 (n2 s 34 : Nat), .int .i64 (sg (n2 s 4)), .int .i64 (sg (n2 s 6)), .int .i64 (sg (n2 s 8))] 71 true = r4 at w3
      have ho4 : (H.set o r4)[o]? = some (.cells [.int .i64 em, .bool long, .int .i64 glyphs, .int .i64 (n2 s 34 : Nat), .int .i64 (sg (n2 s 4)), .int .i64 (sg (n2 s 6)), .int .i64 (sg (n2 s 8))] 71 true) := by rw [← hr4]; simp [hlt]
      have l3 := fun X => ld_row (off := 3) ho4 rfl X
      have l2 := fun X => ld_row (off := 2) ho4 rfl X
      have hb34 := n2_lt s 34
      have x34 : IntKind.i64.wrap ((n2 s 34 : Nat) : Int) = (n2 s 34 : Nat) := wrap_i64 (by omega) (by omega)
      have fw := fun H => c93 (n2 s 34 : Nat) 1 glyphs H
      have ff := fun b H => c120 b H
      simp only [tHhea, Int.cast_ofNat_Int] at e1
      simp only [Int.cast_ofNat_Int, Nat.reduceAdd] at k0 k4 k6 k8 k10 k32 k34
      have hcs : (hheaH s ⟨em, long, glyphs, metrics, up, down, gap⟩).cs = [.int .i64 em, .bool long, .int .i64 glyphs, .int .i64 (n2 s 34 : Nat), .int .i64 (sg (n2 s 4)), .int .i64 (sg (n2 s 6)), .int .i64 (sg (n2 s 8))] := rfl
      simp only [Hd.cs] at hcs
      rw [hcs, hr4]
      have ho' : (if hheaOk s glyphs then (0 : Int) else 4) = if (decide (n4 s 0 = 65536) && decide (n2 s 32 = 0) && decide (1 ≤ n2 s 34 ∧ (n2 s 34 : Int) ≤ glyphs)) = true then 0 else 4 := by
        by_cases hk : hheaOk s glyphs
        · rw [if_pos hk, if_pos]
          unfold hheaOk at hk
          simp only [Bool.and_eq_true, decide_eq_true_eq]
          omega
        · rw [if_neg hk, if_neg]
          unfold hheaOk at hk
          simp only [Bool.and_eq_true, decide_eq_true_eq]
          omega
      have fin : ∀ n X, tidy H (.int .i64 n) (H.set o r4 ++ X) = (.int .i64 n, H.set o r4) := fun n X => by rw [← hr4]; exact tidy_setX rfl rfl
      generalize (if hheaOk s glyphs then (0 : Int) else 4) = res at ho' ⊢
      have y0 : (((n4 s 0 : Nat) : Int) == 65536) = decide (n4 s 0 = 65536) := by rw [Bool.eq_iff_iff]; simp; omega
      have y32 : (((n2 s 32 : Nat) : Int) == 0) = decide (n2 s 32 = 0) := by rw [Bool.eq_iff_iff]; simp
      have y34 : decide ((1 : Int) ≤ (n2 s 34 : Nat) ∧ ((n2 s 34 : Nat) : Int) ≤ glyphs) = decide (1 ≤ n2 s 34 ∧ (n2 s 34 : Int) ≤ glyphs) := by rw [Bool.eq_iff_iff]; simp; omega
      rw [y34] at fw
      generalize decide (n4 s 0 = 65536) = z0 at y0 ho'
      generalize decide (n2 s 32 = 0) = z32 at y32 ho'
      generalize decide (1 ≤ n2 s 34 ∧ (n2 s 34 : Int) ≤ glyphs) = z34 at fw ho'
      refine call_ends (fn := s98) rfl rfl (by simp [s98]) ?_
      simp only [s98, R1, R2, R3, R4, R5, R6, R7, R8, AV.flat, fillIn_nil, fillIn_cons, splice, AV.cells, AV.one, eqsOf, idx, SO.calls, List.reduceReplicate, Nat.reduceBEq, Nat.reduceLT, Nat.reduceAdd, Nat.reduceMul, Nat.reduceSub, Nat.reduceLeDiff, Nat.reduceEqDiff, ↓reduceIte, Int.reduceLT, Int.reduceEq, Int.reduceBNe, Int.reduceBEq, aeq, Int.reduceLE, Int.reduceNeg, Int.reduceMul, Int.reduceAdd, Int.reduceSub, Int.reduceToNat, Int.reducePow, e1, k0, k4, k6, k8, k10, k32, k34, x4, x6, x8, x34, w3, w4, w5, w6, l2, l3, y0, y32]
      cases z0
      · simp only [R1, R2, R3, R4, R5, R6, R7, R8, AV.flat, fillIn_nil, fillIn_cons, splice, AV.cells, AV.one, eqsOf, idx, SO.calls, List.reduceReplicate, Nat.reduceBEq, Nat.reduceLT, Nat.reduceAdd, Nat.reduceMul, Nat.reduceSub, Nat.reduceLeDiff, Nat.reduceEqDiff, ↓reduceIte, Int.reduceLT, Int.reduceEq, Int.reduceBNe, Int.reduceBEq, aeq, Int.reduceLE, Int.reduceNeg, Int.reduceMul, Int.reduceAdd, Int.reduceSub, Int.reduceToNat, Int.reducePow, fw, ff, l2, l3, y32]
        obtain rfl : res = 4 := by simpa using ho'
        rw [fin]
      · simp only [R1, R2, R3, R4, R5, R6, R7, R8, AV.flat, fillIn_nil, fillIn_cons, splice, AV.cells, AV.one, eqsOf, idx, SO.calls, List.reduceReplicate, Nat.reduceBEq, Nat.reduceLT, Nat.reduceAdd, Nat.reduceMul, Nat.reduceSub, Nat.reduceLeDiff, Nat.reduceEqDiff, ↓reduceIte, Int.reduceLT, Int.reduceEq, Int.reduceBNe, Int.reduceBEq, aeq, Int.reduceLE, Int.reduceNeg, Int.reduceMul, Int.reduceAdd, Int.reduceSub, Int.reduceToNat, Int.reducePow, fw, ff, l2, l3, y32]
        cases z32
        · simp only [R1, R2, R3, R4, R5, R6, R7, R8, AV.flat, fillIn_nil, fillIn_cons, splice, AV.cells, AV.one, eqsOf, idx, SO.calls, List.reduceReplicate, Nat.reduceBEq, Nat.reduceLT, Nat.reduceAdd, Nat.reduceMul, Nat.reduceSub, Nat.reduceLeDiff, Nat.reduceEqDiff, ↓reduceIte, Int.reduceLT, Int.reduceEq, Int.reduceBNe, Int.reduceBEq, aeq, Int.reduceLE, Int.reduceNeg, Int.reduceMul, Int.reduceAdd, Int.reduceSub, Int.reduceToNat, Int.reducePow, fw, ff, l2, l3, y32]
          obtain rfl : res = 4 := by simpa using ho'
          rw [fin]
        · simp only [R1, R2, R3, R4, R5, R6, R7, R8, AV.flat, fillIn_nil, fillIn_cons, splice, AV.cells, AV.one, eqsOf, idx, SO.calls, List.reduceReplicate, Nat.reduceBEq, Nat.reduceLT, Nat.reduceAdd, Nat.reduceMul, Nat.reduceSub, Nat.reduceLeDiff, Nat.reduceEqDiff, ↓reduceIte, Int.reduceLT, Int.reduceEq, Int.reduceBNe, Int.reduceBEq, aeq, Int.reduceLE, Int.reduceNeg, Int.reduceMul, Int.reduceAdd, Int.reduceSub, Int.reduceToNat, Int.reducePow, fw, ff, l2, l3, y32]
          cases z34
          · simp only [R1, R2, R3, R4, R5, R6, R7, R8, AV.flat, fillIn_nil, fillIn_cons, splice, AV.cells, AV.one, eqsOf, idx, SO.calls, List.reduceReplicate, Nat.reduceBEq, Nat.reduceLT, Nat.reduceAdd, Nat.reduceMul, Nat.reduceSub, Nat.reduceLeDiff, Nat.reduceEqDiff, ↓reduceIte, Int.reduceLT, Int.reduceEq, Int.reduceBNe, Int.reduceBEq, aeq, Int.reduceLE, Int.reduceNeg, Int.reduceMul, Int.reduceAdd, Int.reduceSub, Int.reduceToNat, Int.reducePow, fw, ff, l2, l3]
            obtain rfl : res = 4 := by simpa using ho'
            rw [fin]
          · simp only [R1, R2, R3, R4, R5, R6, R7, R8, AV.flat, fillIn_nil, fillIn_cons, splice, AV.cells, AV.one, eqsOf, idx, SO.calls, List.reduceReplicate, Nat.reduceBEq, Nat.reduceLT, Nat.reduceAdd, Nat.reduceMul, Nat.reduceSub, Nat.reduceLeDiff, Nat.reduceEqDiff, ↓reduceIte, Int.reduceLT, Int.reduceEq, Int.reduceBNe, Int.reduceBEq, aeq, Int.reduceLE, Int.reduceNeg, Int.reduceMul, Int.reduceAdd, Int.reduceSub, Int.reduceToNat, Int.reducePow, fw, ff, l2, l3]
            obtain rfl : res = 0 := by simpa using ho'
            rw [fin]
end Go.Proofs.Ythfpndelfbeknaa
