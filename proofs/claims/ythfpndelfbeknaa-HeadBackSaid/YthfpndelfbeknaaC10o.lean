/- Chapter 10: Make. -/
import Derived.Test.YthfpndelfbeknaaC10n
set_option linter.unusedVariables false
set_option linter.unusedSimpArgs false
set_option maxRecDepth 100000
set_option maxHeartbeats 1000000
namespace Go.Proofs.Ythfpndelfbeknaa
open Go Go.Den
theorem leads_u8s {f : Nat → Bool} (l : List UInt8) : leadss f (u8s l) = true := leadss_flat (u8s_flat l)
def rowT (l : List Tab) : AO := .cells (l.flatMap Tab.cs) 95 true
theorem no_make {h : Hd} (m : ¬ MayH h) (H : Heap) : call env 44 [.agg h.cs] H = some (.tup [.nils, .int .i64 1], H) := by
  have e1 := fun H => c45 h H
  rw [decide_eq_false m] at e1
  simp only [Hd.cs] at e1 ⊢
  refine call_ends (fn := s44) rfl rfl (by simp [s44]) ?_
  simp only [s44, R1, R2, R3, R4, R5, R6, R7, R8, AV.flat, fillIn_nil, fillIn_cons, splice, AV.cells, AV.one, eqsOf, idx, SO.calls, List.reduceReplicate, Nat.reduceBEq, Nat.reduceLT, Nat.reduceAdd, Nat.reduceMul, Nat.reduceSub, Nat.reduceLeDiff, Nat.reduceEqDiff, ↓reduceIte, Int.reduceLT, Int.reduceEq, Int.reduceBNe, Int.reduceBEq, aeq, Int.reduceLE, Int.reduceNeg, Int.reduceMul, Int.reduceAdd, Int.reduceSub, Int.reduceToNat, Int.reducePow, e1]
  rw [tidy_still rfl]
theorem is_make {h : Hd} (m : MayH h) (H : Heap) : call env 44 [.agg h.cs] H = some (.tup [.sl H.length 0 3 2 (some 3), .int .i64 0], H ++ [rowT (MakeH h)]) := by
  have e1 := fun H => c45 h H
  rw [decide_eq_true m] at e1
  have m1 := fun H => mk_zs 54 (by omega) H
  have m2 := fun H => mk_zs 36 (by omega) H
  have m3 := fun H => mk_zs 32 (by omega) H
  have p1 := fun H => c92 1594834165 H (by omega)
  have p2 := fun H => c92 65536 H (by omega)
  have lb := fun n => show (b16 n).length = 2 from rfl
  have j1 := fun H => @bin_adds H (b16 h.up) (b16 h.down) (by rw [lb, lb]; omega)
  have j2 := fun H => @bin_adds H (b16 h.up ++ b16 h.down) (b16 h.gap) (by rw [List.length_append, lb, lb, lb]; omega)
  have q1 := @put1 H h.cs (zs 54) (zs 36) (zs 32) (b16 1) 0 rfl (by decide)
  have q2 := @put1 H h.cs (over (zs 54) 0 (b16 1)) (zs 36) (zs 32) (putB 1594834165 4) 12 rfl (by decide)
  have q3 := @put1 H h.cs (over (over (zs 54) 0 (b16 1)) 12 (putB 1594834165 4)) (zs 36) (zs 32) (b16 h.em) 18 rfl (by rw [lb]; omega)
  have q4 := @put1 H h.cs (over (over (over (zs 54) 0 (b16 1)) 12 (putB 1594834165 4)) 18 (b16 h.em)) (zs 36) (zs 32) (b16 1) 50 rfl (by rw [lb]; omega)
  have r1 := fun x => @put2 H h.cs x (zs 36) (zs 32) (putB 65536 4) 0 rfl (by decide)
  have r2 := fun x => @put2 H h.cs x (over (zs 36) 0 (putB 65536 4)) (zs 32) (b16 h.up ++ b16 h.down ++ b16 h.gap) 4 rfl (by rw [List.length_append, List.length_append, lb, lb, lb]; omega)
  have r3 := fun x => @put2 H h.cs x (over (over (zs 36) 0 (putB 65536 4)) 4 (b16 h.up ++ b16 h.down ++ b16 h.gap)) (zs 32) (b16 h.metrics) 34 rfl (by rw [lb]; omega)
  have r3' : over (over (over (zs 36) 0 (putB 65536 4)) 4 (b16 h.up ++ b16 h.down ++ b16 h.gap)) 34 (b16 h.metrics) = bL h := rfl
  have t1 := fun x => @put3 H h.cs x (bL h) (zs 32) (putB 65536 4) 0 rfl (by decide)
  have t2 := fun x => @put3 H h.cs x (bL h) (over (zs 32) 0 (putB 65536 4)) (b16 h.glyphs) 4 rfl (by rw [lb]; omega)
  have t2' : over (over (zs 32) 0 (putB 65536 4)) 4 (b16 h.glyphs) = cL h := rfl
  rw [r3'] at r3
  rw [t2'] at t2
  have s1 := @str_row (aL h) (pg H h.cs (aL h) (bL h) (cL h)) 5 true (some 54) (H.length + 1) pg1
  have s2 := @str_row (bL h) (pg H h.cs (aL h) (bL h) (cL h)) 5 true (some 36) (H.length + 2) pg2
  have s3 := @str_row (cL h) (pg H h.cs (aL h) (bL h) (cL h)) 5 true (some 32) (H.length + 3) pg3
  rw [show (aL h).length = 54 from rfl] at s1
  rw [show (bL h).length = 36 from rfl] at s2
  rw [show (cL h).length = 32 from rfl] at s3
  have ti : ∀ a b c d : AO, tidy H (.tup [.sl (H.length + 4) 0 3 2 (some 3), .int .i64 0]) (H ++ [a, b, c, d, rowT (MakeH h)]) = (.tup [.sl H.length 0 3 2 (some 3), .int .i64 0], H ++ [rowT (MakeH h)]) := fun a b c d =>
    @tidy_sl H [a, b, c, d, rowT (MakeH h)] 4 0 3 2 (some 3) _ 95 true [.int .i64 0] rfl rfl (by simp [MakeH, Tab.cs]) rfl (by decide)
  have hrow : rowT (MakeH h) = .cells [.str (mkS [104, 101, 97, 100]), .str (mkS (aL h)), .str (mkS [104, 104, 101, 97]), .str (mkS (bL h)), .str (mkS [109, 97, 120, 112]), .str (mkS (cL h))] 95 true := rfl
  rw [hrow] at ti ⊢
  have a4 : h.long = true → over (over (over (over (zs 54) 0 (b16 1)) 12 (putB 1594834165 4)) 18 (b16 h.em)) 50 (b16 1) = aL h := fun e => by unfold aL; rw [e]; rfl
  have a3 : h.long = false → over (over (over (zs 54) 0 (b16 1)) 12 (putB 1594834165 4)) 18 (b16 h.em) = aL h := fun e => by unfold aL; rw [e]; rfl
  obtain ⟨em, long, glyphs, metrics, up, down, gap⟩ := h
  generalize aL _ = LA at *
  generalize bL _ = LB at *
  generalize cL _ = LC at *
  simp only at *
  generalize over (over (zs 54) 0 (b16 1)) 12 (putB 1594834165 4) = A2 at *
  generalize over (zs 54) 0 (b16 1) = A1 at *
  generalize over A2 18 (b16 em) = A3 at *
  generalize over (over (zs 36) 0 (putB 65536 4)) 4 (b16 up ++ b16 down ++ b16 gap) = B2 at *
  generalize over (zs 36) 0 (putB 65536 4) = B1 at *
  generalize over (zs 32) 0 (putB 65536 4) = C1 at *
  generalize b16 up ++ b16 down ++ b16 gap = u3 at *
  generalize zs 54 = z54 at *
  generalize zs 36 = z36 at *
  generalize zs 32 = z32 at *
  generalize putB 1594834165 4 = pm at *
  generalize putB 65536 4 = pv at *
  simp only [pg, Hd.cs, Int.cast_ofNat_Int] at e1 m1 m2 m3 p1 p2 q1 q2 q3 q4 r1 r2 r3 t1 t2 s1 s2 s3 ⊢
  cases long
  · rw [a3 rfl] at q3
    refine call_ends (fn := s44) rfl rfl (by simp [s44]) ?_
    simp only [s44, R1, R2, R3, R4, R5, R6, R7, R8, AV.flat, fillIn_nil, fillIn_cons, splice, AV.cells, AV.one, eqsOf, idx, SO.calls, List.reduceReplicate, Nat.reduceBEq, Nat.reduceLT, Nat.reduceAdd, Nat.reduceMul, Nat.reduceSub, Nat.reduceLeDiff, Nat.reduceEqDiff, ↓reduceIte, Int.reduceLT, Int.reduceEq, Int.reduceBNe, Int.reduceBEq, aeq, Int.reduceLE, Int.reduceNeg, Int.reduceMul, Int.reduceAdd, Int.reduceSub, Int.reduceToNat, Int.reducePow, e1, m1, m2, m3, p1, p2, q1, q2, q3, r1, r2, r3, t1, t2, s1, s2, s3, j1, j2, c91, leads_u8s, Bool.and_self, shun_un, veil_un]
    rw [ti]
  · rw [a4 rfl] at q4
    refine call_ends (fn := s44) rfl rfl (by simp [s44]) ?_
    simp only [s44, R1, R2, R3, R4, R5, R6, R7, R8, AV.flat, fillIn_nil, fillIn_cons, splice, AV.cells, AV.one, eqsOf, idx, SO.calls, List.reduceReplicate, Nat.reduceBEq, Nat.reduceLT, Nat.reduceAdd, Nat.reduceMul, Nat.reduceSub, Nat.reduceLeDiff, Nat.reduceEqDiff, ↓reduceIte, Int.reduceLT, Int.reduceEq, Int.reduceBNe, Int.reduceBEq, aeq, Int.reduceLE, Int.reduceNeg, Int.reduceMul, Int.reduceAdd, Int.reduceSub, Int.reduceToNat, Int.reducePow, e1, m1, m2, m3, p1, p2, q1, q2, q3, q4, r1, r2, r3, t1, t2, s1, s2, s3, j1, j2, c91, leads_u8s, Bool.and_self, shun_un, veil_un]
    rw [ti]
end Go.Proofs.Ythfpndelfbeknaa
