/- Chapter 10: head.head. -/
import Derived.Test.YthfpndelfbeknaaC10f
set_option linter.unusedVariables false
set_option linter.unusedSimpArgs false
set_option maxRecDepth 100000
set_option maxHeartbeats 1000000
namespace Go.Proofs.Ythfpndelfbeknaa
open Go Go.Den
theorem last_at {K : Heap} {n : Nat} (hK : K.length = n) {x : AO} : (K ++ [x])[n]? = some x := by subst hK; simp
theorem last_set {K : Heap} {n : Nat} (hK : K.length = n) {x y : AO} : (K ++ [x]).set n y = K ++ [y] := by subst hK; simp
section
variable {s : List UInt8} {n : Nat}
theorem rU16 (hs : s.length ≤ 1000000) (p : Nat) (hp : p + 2 ≤ s.length) {K : Heap} (hK : K.length = n) : call env 81 [.ptr n 0] (K ++ [.cells (RD s p false) 155 true]) = some (.int .u16 (n2 s p : Nat), K ++ [.cells (RD s (p + 2) false) 155 true]) := by
  rw [c81 (last_at hK) hp hs, last_set hK]; rfl
theorem rU32 (hs : s.length ≤ 1000000) (p : Nat) (hp : p + 4 ≤ s.length) {K : Heap} (hK : K.length = n) : call env 117 [.ptr n 0] (K ++ [.cells (RD s p false) 155 true]) = some (.int .u32 (n4 s p : Nat), K ++ [.cells (RD s (p + 4) false) 155 true]) := by
  rw [c117 (last_at hK) hp hs, last_set hK]; rfl
theorem rI16 (hs : s.length ≤ 1000000) (p : Nat) (hp : p + 2 ≤ s.length) {K : Heap} (hK : K.length = n) : call env 121 [.ptr n 0] (K ++ [.cells (RD s p false) 155 true]) = some (.int .i16 (sg (n2 s p)), K ++ [.cells (RD s (p + 2) false) 155 true]) := by
  rw [c121 (last_at hK) hp hs, last_set hK]
theorem rSkip (hs : s.length ≤ 1000000) (p k : Nat) (hp : p + k ≤ s.length) {K : Heap} (hK : K.length = n) : call env 82 [.ptr n 0, .int .i64 (k : Int)] (K ++ [.cells (RD s p false) 155 true]) = some (.tup [], K ++ [.cells (RD s (p + k) false) 155 true]) := by
  rw [skips k (last_at hK) hp hs, last_set hK]
end
theorem st_row {H : Heap} {o off : Nat} {c : List AV} {e : TypeId} {v : AV} (h : H[o]? = some (.cells c e true)) (hv : v.one = true) (ho : off < c.length) (X : Heap) : astore (H ++ X) (.ptr o off) [v] = some (H.set o (.cells (splice c off [v]) e true) ++ X) := by
  have hlt : o < H.length := (List.getElem?_eq_some_iff.1 h).1
  rw [astore_row (getElem?_keep h), if_pos ⟨ho, by simp [hv]⟩, List.set_append_left _ _ hlt]
theorem ld_row {H : Heap} {o off : Nat} {c : List AV} {e : TypeId} {w : Bool} {x : AV} (h : H[o]? = some (.cells c e w)) (hx : c[off]? = some x) (X : Heap) : aload (H ++ X) 1 (.ptr o off) = some [x] := by
  have hlt : off < c.length := (List.getElem?_eq_some_iff.1 hx).1
  rw [aload_row (getElem?_keep h), if_pos (by omega), List.drop_eq_getElem_cons hlt]
  rw [List.getElem?_eq_getElem hlt] at hx
  injection hx with hx
  simp [hx]
def eHead (l : List Tab) : Int := match findP tHead l with | none => 7 | some s => headE s
theorem c96 {H : Heap} {v : AV} {l : List Tab} (hs : SlOf H 2 Tab.cs v l) (hn : l.length ≤ 1000000) (hd : ∀ t ∈ l, t.data.length ≤ 1000000) {o : Nat} {h : Hd} (ho : H[o]? = some (.cells h.cs 71 true)) :
    ∃ h', call env 96 [v, .ptr o 0] H = some (.int .i64 (eHead l), H.set o (.cells h'.cs 71 true)) ∧ (eHead l = 0 → ∃ s, findP tHead l = some s ∧ h' = headH s h) := by
  have e1 := c119 hs hn tHead 54
  have hlt : o < H.length := (List.getElem?_eq_some_iff.1 ho).1
  unfold eHead
  cases hf : findP tHead l with
  | none =>
    have hE : readE tHead 54 l = 7 := by simp [readE, hf]
    rw [hE, if_neg (by decide)] at e1
    refine ⟨h, ?_, fun h => by cases h⟩
    rw [set_same ho]
    simp only [tHead, Int.cast_ofNat_Int] at e1
    refine call_ends (fn := s96) rfl rfl (by simp [s96]) ?_
    simp only [s96, R1, R2, R3, R4, R5, R6, R7, R8, AV.flat, fillIn_nil, fillIn_cons, splice, AV.cells, AV.one, eqsOf, idx, SO.calls, List.reduceReplicate, Nat.reduceBEq, Nat.reduceLT, Nat.reduceAdd, Nat.reduceMul, Nat.reduceSub, Nat.reduceLeDiff, Nat.reduceEqDiff, ↓reduceIte, Int.reduceLT, Int.reduceEq, Int.reduceBNe, Int.reduceBEq, aeq, Int.reduceLE, Int.reduceNeg, Int.reduceMul, Int.reduceAdd, Int.reduceSub, Int.reduceToNat, Int.reducePow, e1]
    rw [tidy_int]
  | some s =>
    obtain ⟨t1, ht1, hd1⟩ := find_in hf
    have hl1 := hd t1 ht1
    rw [hd1] at hl1
    by_cases hl : s.length < 54
    · have hE : readE tHead 54 l = 3 := by simp [readE, hf, hl]
      rw [hE, if_neg (by decide)] at e1
      have hh : headE s = 3 := if_pos hl
      simp only [hh]
      refine ⟨h, ?_, fun h => by cases h⟩
      rw [set_same ho]
      simp only [tHead, Int.cast_ofNat_Int] at e1
      refine call_ends (fn := s96) rfl rfl (by simp [s96]) ?_
      simp only [s96, R1, R2, R3, R4, R5, R6, R7, R8, AV.flat, fillIn_nil, fillIn_cons, splice, AV.cells, AV.one, eqsOf, idx, SO.calls, List.reduceReplicate, Nat.reduceBEq, Nat.reduceLT, Nat.reduceAdd, Nat.reduceMul, Nat.reduceSub, Nat.reduceLeDiff, Nat.reduceEqDiff, ↓reduceIte, Int.reduceLT, Int.reduceEq, Int.reduceBNe, Int.reduceBEq, aeq, Int.reduceLE, Int.reduceNeg, Int.reduceMul, Int.reduceAdd, Int.reduceSub, Int.reduceToNat, Int.reducePow, e1]
      rw [tidy_int]
    · have hE : readE tHead 54 l = 0 := by simp [readE, hf, hl]
      have hb : bytesL tHead l = s := by simp [bytesL, hf, foundS]
      rw [hE, if_pos rfl, hb] at e1
      have hh : headE s = if headOk s then 0 else 4 := if_neg hl
      simp only [hh]
      refine ⟨headH s h, ?_, fun _ => ⟨s, rfl, rfl⟩⟩
      obtain ⟨em, long, glyphs, metrics, up, down, gap⟩ := h
      simp only [Hd.cs] at ho
      have k0 := @rU16 s H.length hl1 0 (by omega) H rfl
      have k1 := @rU16 s H.length hl1 2 (by omega) H rfl
      have k2 := @rSkip s H.length hl1 4 8 (by omega) H rfl
      have k3 := @rU32 s H.length hl1 12 (by omega) H rfl
      have k4 := @rSkip s H.length hl1 16 2 (by omega) H rfl
      have k5 := @rU16 s H.length hl1 18 (by omega) H rfl
      have w1 := fun X => st_row (off := 0) (v := .int .i64 (n2 s 18 : Nat)) ho rfl (by simp) X
      simp only [splice, List.take_zero, List.drop_succ_cons, List.drop_zero, List.nil_append, List.cons_append, List.length_cons, List.length_nil, Nat.reduceAdd] at w1
      generalize hr1 : AO.cells [.int .i64 (n2 s 18 : Nat), .bool long, .int .i64 glyphs, .int .i64 metrics, .int .i64 up, .int .i64 down, .int .i64 gap] 71 true = r1 at w1
      have k6 := @rSkip s H.length hl1 20 30 (by omega) (H.set o r1) (by simp)
      have k7 := @rU16 s H.length hl1 50 (by omega) (H.set o r1) (by simp)
      have k8 := @rU16 s H.length hl1 52 (by omega) (H.set o r1) (by simp)
      have ho1 : (H.set o r1)[o]? = some (.cells [.int .i64 (n2 s 18 : Nat), .bool long, .int .i64 glyphs, .int .i64 metrics, .int .i64 up, .int .i64 down, .int .i64 gap] 71 true) := by rw [← hr1]; simp [hlt]
      have w2 := fun X => st_row (off := 1) (v := .bool (n2 s 50 == 1)) ho1 rfl (by simp) X
      simp only [splice, List.take_zero, List.take_succ_cons, List.drop_succ_cons, List.drop_zero, List.nil_append, List.cons_append, List.length_cons, List.length_nil, Nat.reduceAdd, List.set_set] at w2
      generalize hr2 : AO.cells [.int .i64 (n2 s 18 : Nat), .bool (n2 s 50 == 1), .int .i64 glyphs, .int .i64 metrics, .int .i64 up, .int .i64 down, .int .i64 gap] 71 true = r2 at w2
      have ho2 : (H.set o r2)[o]? = some (.cells [.int .i64 (n2 s 18 : Nat), .bool (n2 s 50 == 1), .int .i64 glyphs, .int .i64 metrics, .int .i64 up, .int .i64 down, .int .i64 gap] 71 true) := by rw [← hr2]; simp [hlt]
      have l1 := fun X => ld_row (off := 0) ho2 rfl X
      have hb1 := n2_lt s 18
      have x1 : IntKind.i64.wrap ((n2 s 18 : Nat) : Int) = (n2 s 18 : Nat) := wrap_i64 (by omega) (by omega)
      have b0 : (((n2 s 50 : Nat) : Int) == 1) = (n2 s 50 == 1) := by rw [Bool.eq_iff_iff]; simp; omega
      have fw := fun H => c93 (n2 s 18 : Nat) 16 16384 H
      have ff := fun b H => c120 b H
      simp only [tHead, Int.cast_ofNat_Int] at e1
      simp only [Int.cast_ofNat_Int, Nat.reduceAdd] at k0 k1 k2 k3 k4 k5 k6 k7 k8
      have fin : ∀ X, tidy H (.int .i64 (if headOk s then 0 else 4)) (H.set o r2 ++ X) = (.int .i64 (if headOk s then 0 else 4), H.set o r2) := fun X => by rw [← hr2]; exact tidy_setX rfl rfl
      have hcs : (headH s ⟨em, long, glyphs, metrics, up, down, gap⟩).cs = [.int .i64 (n2 s 18 : Nat), .bool (n2 s 50 == 1), .int .i64 glyphs, .int .i64 metrics, .int .i64 up, .int .i64 down, .int .i64 gap] := rfl
      rw [hcs, hr2]
      have ho' : (if headOk s then (0 : Int) else 4) = if (decide (n2 s 0 = 1) && decide (n2 s 2 = 0) && decide (n4 s 12 = 1594834165) && decide (16 ≤ n2 s 18 ∧ n2 s 18 ≤ 16384) && decide (n2 s 50 ≤ 1) && decide (n2 s 52 = 0)) = true then 0 else 4 := by
        by_cases hk : headOk s
        · rw [if_pos hk, if_pos]
          unfold headOk at hk
          simp only [Bool.and_eq_true, decide_eq_true_eq]
          omega
        · rw [if_neg hk, if_neg]
          unfold headOk at hk
          simp only [Bool.and_eq_true, decide_eq_true_eq]
          omega
      generalize (if headOk s then (0 : Int) else 4) = res at fin ho' ⊢
      have y0 : (((n2 s 0 : Nat) : Int) == 1) = decide (n2 s 0 = 1) := by rw [Bool.eq_iff_iff]; simp; omega
      have y2 : (((n2 s 2 : Nat) : Int) == 0) = decide (n2 s 2 = 0) := by rw [Bool.eq_iff_iff]; simp
      have y12 : (((n4 s 12 : Nat) : Int) == 1594834165) = decide (n4 s 12 = 1594834165) := by rw [Bool.eq_iff_iff]; simp; omega
      have y18 : decide ((16 : Int) ≤ (n2 s 18 : Nat) ∧ ((n2 s 18 : Nat) : Int) ≤ 16384) = decide (16 ≤ n2 s 18 ∧ n2 s 18 ≤ 16384) := by rw [Bool.eq_iff_iff]; simp; omega
      have y50 : decide (((n2 s 50 : Nat) : Int) ≤ 1) = decide (n2 s 50 ≤ 1) := by rw [Bool.eq_iff_iff]; simp; omega
      have y52 : (((n2 s 52 : Nat) : Int) == 0) = decide (n2 s 52 = 0) := by rw [Bool.eq_iff_iff]; simp
      rw [y18] at fw
      generalize decide (n2 s 0 = 1) = z0 at y0 ho'
      generalize decide (n2 s 2 = 0) = z2 at y2 ho'
      generalize decide (n4 s 12 = 1594834165) = z12 at y12 ho'
      generalize decide (16 ≤ n2 s 18 ∧ n2 s 18 ≤ 16384) = z18 at fw ho'
      generalize decide (n2 s 50 ≤ 1) = z50 at y50 ho'
      generalize decide (n2 s 52 = 0) = z52 at y52 ho'
      refine call_ends (fn := s96) rfl rfl (by simp [s96]) ?_
      simp only [s96, R1, R2, R3, R4, R5, R6, R7, R8, AV.flat, fillIn_nil, fillIn_cons, splice, AV.cells, AV.one, eqsOf, idx, SO.calls, List.reduceReplicate, Nat.reduceBEq, Nat.reduceLT, Nat.reduceAdd, Nat.reduceMul, Nat.reduceSub, Nat.reduceLeDiff, Nat.reduceEqDiff, ↓reduceIte, Int.reduceLT, Int.reduceEq, Int.reduceBNe, Int.reduceBEq, aeq, Int.reduceLE, Int.reduceNeg, Int.reduceMul, Int.reduceAdd, Int.reduceSub, Int.reduceToNat, Int.reducePow, e1, k0, k1, k2, k3, k4, k5, k6, k7, k8, x1, w1, w2, l1, b0, y0]
      cases z0
      · simp only [R1, R2, R3, R4, R5, R6, R7, R8, AV.flat, fillIn_nil, fillIn_cons, splice, AV.cells, AV.one, eqsOf, idx, SO.calls, List.reduceReplicate, Nat.reduceBEq, Nat.reduceLT, Nat.reduceAdd, Nat.reduceMul, Nat.reduceSub, Nat.reduceLeDiff, Nat.reduceEqDiff, ↓reduceIte, Int.reduceLT, Int.reduceEq, Int.reduceBNe, Int.reduceBEq, aeq, Int.reduceLE, Int.reduceNeg, Int.reduceMul, Int.reduceAdd, Int.reduceSub, Int.reduceToNat, Int.reducePow, y2, y12, y50, y52, fw, ff, l1]
        obtain rfl : res = 4 := by simpa using ho'
        rw [fin]
      · simp only [R1, R2, R3, R4, R5, R6, R7, R8, AV.flat, fillIn_nil, fillIn_cons, splice, AV.cells, AV.one, eqsOf, idx, SO.calls, List.reduceReplicate, Nat.reduceBEq, Nat.reduceLT, Nat.reduceAdd, Nat.reduceMul, Nat.reduceSub, Nat.reduceLeDiff, Nat.reduceEqDiff, ↓reduceIte, Int.reduceLT, Int.reduceEq, Int.reduceBNe, Int.reduceBEq, aeq, Int.reduceLE, Int.reduceNeg, Int.reduceMul, Int.reduceAdd, Int.reduceSub, Int.reduceToNat, Int.reducePow, y2, y12, y50, y52, fw, ff, l1]
        cases z2
        · simp only [R1, R2, R3, R4, R5, R6, R7, R8, AV.flat, fillIn_nil, fillIn_cons, splice, AV.cells, AV.one, eqsOf, idx, SO.calls, List.reduceReplicate, Nat.reduceBEq, Nat.reduceLT, Nat.reduceAdd, Nat.reduceMul, Nat.reduceSub, Nat.reduceLeDiff, Nat.reduceEqDiff, ↓reduceIte, Int.reduceLT, Int.reduceEq, Int.reduceBNe, Int.reduceBEq, aeq, Int.reduceLE, Int.reduceNeg, Int.reduceMul, Int.reduceAdd, Int.reduceSub, Int.reduceToNat, Int.reducePow, y2, y12, y50, y52, fw, ff, l1]
          obtain rfl : res = 4 := by simpa using ho'
          rw [fin]
        · simp only [R1, R2, R3, R4, R5, R6, R7, R8, AV.flat, fillIn_nil, fillIn_cons, splice, AV.cells, AV.one, eqsOf, idx, SO.calls, List.reduceReplicate, Nat.reduceBEq, Nat.reduceLT, Nat.reduceAdd, Nat.reduceMul, Nat.reduceSub, Nat.reduceLeDiff, Nat.reduceEqDiff, ↓reduceIte, Int.reduceLT, Int.reduceEq, Int.reduceBNe, Int.reduceBEq, aeq, Int.reduceLE, Int.reduceNeg, Int.reduceMul, Int.reduceAdd, Int.reduceSub, Int.reduceToNat, Int.reducePow, y2, y12, y50, y52, fw, ff, l1]
          cases z12
          · simp only [R1, R2, R3, R4, R5, R6, R7, R8, AV.flat, fillIn_nil, fillIn_cons, splice, AV.cells, AV.one, eqsOf, idx, SO.calls, List.reduceReplicate, Nat.reduceBEq, Nat.reduceLT, Nat.reduceAdd, Nat.reduceMul, Nat.reduceSub, Nat.reduceLeDiff, Nat.reduceEqDiff, ↓reduceIte, Int.reduceLT, Int.reduceEq, Int.reduceBNe, Int.reduceBEq, aeq, Int.reduceLE, Int.reduceNeg, Int.reduceMul, Int.reduceAdd, Int.reduceSub, Int.reduceToNat, Int.reducePow, y2, y12, y50, y52, fw, ff, l1]
            obtain rfl : res = 4 := by simpa using ho'
            rw [fin]
          · simp only [R1, R2, R3, R4, R5, R6, R7, R8, AV.flat, fillIn_nil, fillIn_cons, splice, AV.cells, AV.one, eqsOf, idx, SO.calls, List.reduceReplicate, Nat.reduceBEq, Nat.reduceLT, Nat.reduceAdd, Nat.reduceMul, Nat.reduceSub, Nat.reduceLeDiff, Nat.reduceEqDiff, ↓reduceIte, Int.reduceLT, Int.reduceEq, Int.reduceBNe, Int.reduceBEq, aeq, Int.reduceLE, Int.reduceNeg, Int.reduceMul, Int.reduceAdd, Int.reduceSub, Int.reduceToNat, Int.reducePow, y2, y12, y50, y52, fw, ff, l1]
            cases z18
            · simp only [R1, R2, R3, R4, R5, R6, R7, R8, AV.flat, fillIn_nil, fillIn_cons, splice, AV.cells, AV.one, eqsOf, idx, SO.calls, List.reduceReplicate, Nat.reduceBEq, Nat.reduceLT, Nat.reduceAdd, Nat.reduceMul, Nat.reduceSub, Nat.reduceLeDiff, Nat.reduceEqDiff, ↓reduceIte, Int.reduceLT, Int.reduceEq, Int.reduceBNe, Int.reduceBEq, aeq, Int.reduceLE, Int.reduceNeg, Int.reduceMul, Int.reduceAdd, Int.reduceSub, Int.reduceToNat, Int.reducePow, y2, y12, y50, y52, fw, ff, l1]
              obtain rfl : res = 4 := by simpa using ho'
              rw [fin]
            · simp only [R1, R2, R3, R4, R5, R6, R7, R8, AV.flat, fillIn_nil, fillIn_cons, splice, AV.cells, AV.one, eqsOf, idx, SO.calls, List.reduceReplicate, Nat.reduceBEq, Nat.reduceLT, Nat.reduceAdd, Nat.reduceMul, Nat.reduceSub, Nat.reduceLeDiff, Nat.reduceEqDiff, ↓reduceIte, Int.reduceLT, Int.reduceEq, Int.reduceBNe, Int.reduceBEq, aeq, Int.reduceLE, Int.reduceNeg, Int.reduceMul, Int.reduceAdd, Int.reduceSub, Int.reduceToNat, Int.reducePow, y2, y12, y50, y52, fw, ff, l1]
              cases z50
              · simp only [R1, R2, R3, R4, R5, R6, R7, R8, AV.flat, fillIn_nil, fillIn_cons, splice, AV.cells, AV.one, eqsOf, idx, SO.calls, List.reduceReplicate, Nat.reduceBEq, Nat.reduceLT, Nat.reduceAdd, Nat.reduceMul, Nat.reduceSub, Nat.reduceLeDiff, Nat.reduceEqDiff, ↓reduceIte, Int.reduceLT, Int.reduceEq, Int.reduceBNe, Int.reduceBEq, aeq, Int.reduceLE, Int.reduceNeg, Int.reduceMul, Int.reduceAdd, Int.reduceSub, Int.reduceToNat, Int.reducePow, y2, y12, y50, y52, fw, ff, l1]
                obtain rfl : res = 4 := by simpa using ho'
                rw [fin]
              · simp only [R1, R2, R3, R4, R5, R6, R7, R8, AV.flat, fillIn_nil, fillIn_cons, splice, AV.cells, AV.one, eqsOf, idx, SO.calls, List.reduceReplicate, Nat.reduceBEq, Nat.reduceLT, Nat.reduceAdd, Nat.reduceMul, Nat.reduceSub, Nat.reduceLeDiff, Nat.reduceEqDiff, ↓reduceIte, Int.reduceLT, Int.reduceEq, Int.reduceBNe, Int.reduceBEq, aeq, Int.reduceLE, Int.reduceNeg, Int.reduceMul, Int.reduceAdd, Int.reduceSub, Int.reduceToNat, Int.reducePow, y2, y12, y50, y52, fw, ff, l1]
                cases z52
                · simp only [R1, R2, R3, R4, R5, R6, R7, R8, AV.flat, fillIn_nil, fillIn_cons, splice, AV.cells, AV.one, eqsOf, idx, SO.calls, List.reduceReplicate, Nat.reduceBEq, Nat.reduceLT, Nat.reduceAdd, Nat.reduceMul, Nat.reduceSub, Nat.reduceLeDiff, Nat.reduceEqDiff, ↓reduceIte, Int.reduceLT, Int.reduceEq, Int.reduceBNe, Int.reduceBEq, aeq, Int.reduceLE, Int.reduceNeg, Int.reduceMul, Int.reduceAdd, Int.reduceSub, Int.reduceToNat, Int.reducePow, y2, y12, y50, y52, fw, ff, l1]
                  obtain rfl : res = 4 := by simpa using ho'
                  rw [fin]
                · simp only [R1, R2, R3, R4, R5, R6, R7, R8, AV.flat, fillIn_nil, fillIn_cons, splice, AV.cells, AV.one, eqsOf, idx, SO.calls, List.reduceReplicate, Nat.reduceBEq, Nat.reduceLT, Nat.reduceAdd, Nat.reduceMul, Nat.reduceSub, Nat.reduceLeDiff, Nat.reduceEqDiff, ↓reduceIte, Int.reduceLT, Int.reduceEq, Int.reduceBNe, Int.reduceBEq, aeq, Int.reduceLE, Int.reduceNeg, Int.reduceMul, Int.reduceAdd, Int.reduceSub, Int.reduceToNat, Int.reducePow, y2, y12, y50, y52, fw, ff, l1]
                  obtain rfl : res = 0 := by simpa using ho'
                  rw [fin]
end Go.Proofs.Ythfpndelfbeknaa
