/- Chapter 10: the reference's Make. -/
import Derived.Test.YthfpndelfbeknaaC10o
set_option linter.unusedVariables false
set_option linter.unusedSimpArgs false
set_option maxRecDepth 100000
set_option maxHeartbeats 1000000
namespace Go.Proofs.Ythfpndelfbeknaa
open Go Go.Den
theorem made_ref (h : Hd) (H : Heap) : call env 49 [.agg h.cs] H = some (.sl H.length 0 3 2 (some 3), H ++ [rowT (MakeH h)]) := by
  have p1 := fun H => c89 1594834165 4 H (by omega) (by omega)
  have p2 := fun H => c89 65536 4 H (by omega) (by omega)
  have z2 := fun H => c100 2 (by omega) H
  have z10 := fun H => c100 10 (by omega) H
  have z24 := fun H => c100 24 (by omega) H
  have z26 := fun H => c100 26 (by omega) H
  have z30 := fun H => c100 30 (by omega) H
  have ad := fun (x y : List UInt8) (hl : x.length + y.length ≤ 9223372036854775807) H => @bin_adds H x y hl
  have aE : aL h = b16 1 ++ zs 10 ++ putB 1594834165 4 ++ zs 2 ++ b16 h.em ++ zs 30 ++ b16 (if h.long then 1 else 0) ++ zs 2 := rfl
  have bE : bL h = putB 65536 4 ++ b16 h.up ++ b16 h.down ++ b16 h.gap ++ zs 24 ++ b16 h.metrics := rfl
  have cE : cL h = putB 65536 4 ++ b16 h.glyphs ++ zs 26 := rfl
  have lb := fun n => show (b16 n).length = 2 from rfl
  have lz := fun n => show (zs n).length = n from List.length_replicate ..
  have lp := fun n k => show (putB n k).length = k from putB_len n k
  have a1 := ad (b16 1) (zs 10) (by simp only [List.length_append, lb, lz, lp]; omega)
  have a2 := ad (b16 1 ++ zs 10) (putB 1594834165 4) (by simp only [List.length_append, lb, lz, lp]; omega)
  have a3 := ad (b16 1 ++ zs 10 ++ putB 1594834165 4) (zs 2) (by simp only [List.length_append, lb, lz, lp]; omega)
  have a4 := ad (b16 1 ++ zs 10 ++ putB 1594834165 4 ++ zs 2) (b16 h.em) (by simp only [List.length_append, lb, lz, lp]; omega)
  have a5 := ad (b16 1 ++ zs 10 ++ putB 1594834165 4 ++ zs 2 ++ b16 h.em) (zs 30) (by simp only [List.length_append, lb, lz, lp]; omega)
  have a6 := ad (b16 1 ++ zs 10 ++ putB 1594834165 4 ++ zs 2 ++ b16 h.em ++ zs 30) (b16 (if h.long then 1 else 0)) (by simp only [List.length_append, lb, lz, lp]; omega)
  have a7 := ad (b16 1 ++ zs 10 ++ putB 1594834165 4 ++ zs 2 ++ b16 h.em ++ zs 30 ++ b16 (if h.long then 1 else 0)) (zs 2) (by simp only [List.length_append, lb, lz, lp]; omega)
  have b1 := ad (putB 65536 4) (b16 h.up) (by simp only [List.length_append, lb, lz, lp]; omega)
  have b2 := ad (putB 65536 4 ++ b16 h.up) (b16 h.down) (by simp only [List.length_append, lb, lz, lp]; omega)
  have b3 := ad (putB 65536 4 ++ b16 h.up ++ b16 h.down) (b16 h.gap) (by simp only [List.length_append, lb, lz, lp]; omega)
  have b4 := ad (putB 65536 4 ++ b16 h.up ++ b16 h.down ++ b16 h.gap) (zs 24) (by simp only [List.length_append, lb, lz, lp]; omega)
  have b5 := ad (putB 65536 4 ++ b16 h.up ++ b16 h.down ++ b16 h.gap ++ zs 24) (b16 h.metrics) (by simp only [List.length_append, lb, lz, lp]; omega)
  have d1 := ad (putB 65536 4) (b16 h.glyphs) (by simp only [List.length_append, lb, lz, lp]; omega)
  have d2 := ad (putB 65536 4 ++ b16 h.glyphs) (zs 26) (by simp only [List.length_append, lb, lz, lp]; omega)
  rw [← aE] at a7
  rw [← bE] at b5
  rw [← cE] at d2
  have ti : ∀ a : AO, tidy H (.sl (H.length + 1) 0 3 2 (some 3)) (H ++ [a, rowT (MakeH h)]) = (.sl H.length 0 3 2 (some 3), H ++ [rowT (MakeH h)]) := fun a =>
    @tidy_sl1 H [a, rowT (MakeH h)] 1 0 3 2 (some 3) _ 95 true rfl rfl (by simp [MakeH, Tab.cs]) (by decide)
  have hrow : rowT (MakeH h) = .cells [.str (mkS [104, 101, 97, 100]), .str (mkS (aL h)), .str (mkS [104, 104, 101, 97]), .str (mkS (bL h)), .str (mkS [109, 97, 120, 112]), .str (mkS (cL h))] 95 true := rfl
  rw [hrow] at ti ⊢
  clear aE bE cE hrow
  obtain ⟨em, long, glyphs, metrics, up, down, gap⟩ := h
  generalize aL _ = LA at *
  generalize bL _ = LB at *
  generalize cL _ = LC at *
  simp only at *
  clear ad lb lz lp
  cases long
  all_goals
    simp only [Bool.false_eq_true, if_false, if_true] at a6 a7
    generalize b16 1 ++ zs 10 ++ putB 1594834165 4 ++ zs 2 ++ b16 em ++ zs 30 ++ b16 _ = A7 at *
    generalize b16 1 ++ zs 10 ++ putB 1594834165 4 ++ zs 2 ++ b16 em ++ zs 30 = A6 at *
    generalize b16 1 ++ zs 10 ++ putB 1594834165 4 ++ zs 2 ++ b16 em = A5 at *
    generalize b16 1 ++ zs 10 ++ putB 1594834165 4 ++ zs 2 = A4 at *
    generalize b16 1 ++ zs 10 ++ putB 1594834165 4 = A3 at *
    generalize b16 1 ++ zs 10 = A2 at *
    generalize putB 65536 4 ++ b16 up ++ b16 down ++ b16 gap ++ zs 24 = B5 at *
    generalize putB 65536 4 ++ b16 up ++ b16 down ++ b16 gap = B4 at *
    generalize putB 65536 4 ++ b16 up ++ b16 down = B3 at *
    generalize putB 65536 4 ++ b16 up = B2 at *
    generalize putB 65536 4 ++ b16 glyphs = D2 at *
    have pp := c99
    generalize putB 1594834165 4 = pm at *
    generalize putB 65536 4 = pv at *
    generalize zs 2 = y2 at *
    generalize zs 10 = y10 at *
    generalize zs 24 = y24 at *
    generalize zs 26 = y26 at *
    generalize zs 30 = y30 at *
    generalize b16 = bb at *
    simp only [Hd.cs, Int.cast_ofNat_Int] at p1 p2 z2 z10 z24 z26 z30 ⊢
    refine call_ends (fn := s49) rfl rfl (by simp [s49]) ?_
    simp only [s49, R1, R2, R3, R4, R5, R6, R7, R8, AV.flat, fillIn_nil, fillIn_cons, splice, AV.cells, AV.one, eqsOf, idx, SO.calls, List.reduceReplicate, Nat.reduceBEq, Nat.reduceLT, Nat.reduceAdd, Nat.reduceMul, Nat.reduceSub, Nat.reduceLeDiff, Nat.reduceEqDiff, ↓reduceIte, Int.reduceLT, Int.reduceEq, Int.reduceBNe, Int.reduceBEq, aeq, Int.reduceLE, Int.reduceNeg, Int.reduceMul, Int.reduceAdd, Int.reduceSub, Int.reduceToNat, Int.reducePow, p1, p2, z2, z10, z24, z26, z30, pp, a1, a2, a3, a4, a5, a6, a7, b1, b2, b3, b4, b5, d1, d2, shun_un, veil_un]
    rw [ti]
end Go.Proofs.Ythfpndelfbeknaa
