/- Chapter 32: the reference's samples of a point. -/
import Derived.Test.YtbnnfmncipdlpaaDoorC32c
set_option linter.unusedVariables false
set_option linter.unusedSimpArgs false
set_option maxRecDepth 100000
set_option maxHeartbeats 8000000
namespace Go.Proofs.YtbnnfmncipdlpaaDoor
open Go Go.Den
def kx : Nat → Int | 0 => 0 | 1 => 1 | 2 => 0 | _ => 1
def ky : Nat → Int | 0 => 0 | 1 => 0 | _ => 1
def wtI (u v : Int) : Nat → Int | 0 => (256 - u) * (256 - v) | 1 => u * (256 - v) | 2 => (256 - u) * v | _ => u * v
def parI (a : Atl) (pg x y u v : Int) (c : Nat) : Nat → Int
  | 0 => 0
  | k + 1 => parI a pg x y u v c k + wtI u v k * texI a pg (x + kx k) (y + ky k) c
theorem two_le {p q : Int} (hp : 0 ≤ p ∧ p ≤ 256) (hq : 0 ≤ q ∧ q ≤ 256) : 0 ≤ p * q ∧ p * q ≤ 65536 := by
  have h1 : 0 ≤ p * q := Int.mul_nonneg hp.1 hq.1
  have h2 : p * q ≤ 256 * 256 := Int.mul_le_mul hp.2 hq.2 hq.1 (by omega)
  omega
theorem wt_le {u v : Int} (hu : 0 ≤ u ∧ u ≤ 256) (hv : 0 ≤ v ∧ v ≤ 256) : ∀ k, 0 ≤ wtI u v k ∧ wtI u v k ≤ 65536
  | 0 => two_le (by omega) (by omega)
  | 1 => two_le (by omega) (by omega)
  | 2 => two_le (by omega) (by omega)
  | _ + 3 => two_le (by omega) (by omega)
theorem tex_wt (a : Atl) (pg x y : Int) {w : Int} (hw : 0 ≤ w ∧ w ≤ 65536) (c : Nat) : 0 ≤ w * texI a pg x y c ∧ w * texI a pg x y c ≤ 16711680 := by
  have ht := texI_le a pg x y c
  have h1 : 0 ≤ w * texI a pg x y c := Int.mul_nonneg hw.1 ht.1
  have h2 : w * texI a pg x y c ≤ 65536 * 255 := Int.mul_le_mul hw.2 ht.2 ht.1 (by omega)
  omega
theorem par_le (a : Atl) (pg x y : Int) {u v : Int} (hu : 0 ≤ u ∧ u ≤ 256) (hv : 0 ≤ v ∧ v ≤ 256) (c : Nat) : ∀ k : Nat, 0 ≤ parI a pg x y u v c k ∧ parI a pg x y u v c k ≤ (k : Int) * 16711680
  | 0 => by simp [parI]
  | k + 1 => by
    have ih := par_le a pg x y hu hv c k
    have := tex_wt a pg (x + kx k) (y + ky k) (wt_le hu hv k) c
    rw [parI]
    omega
theorem par_four (a : Atl) (pg x y u v : Int) (c : Nat) : parI a pg x y u v c 4 = mixI (rowI a pg x y u c) (rowI a pg x (y + 1) u c) v := by
  have e0 : parI a pg x y u v c 4 = 0 + wtI u v 0 * texI a pg (x + kx 0) (y + ky 0) c + wtI u v 1 * texI a pg (x + kx 1) (y + ky 1) c + wtI u v 2 * texI a pg (x + kx 2) (y + ky 2) c + wtI u v 3 * texI a pg (x + kx 3) (y + ky 3) c := rfl
  rw [e0]
  unfold rowI mixI
  simp only [wtI, kx, ky, Int.add_zero]
  generalize texI a pg x y c = p
  generalize texI a pg (x + 1) y c = q
  generalize texI a pg x (y + 1) c = r
  generalize texI a pg (x + 1) (y + 1) c = s
  grind
theorem veil_one {H X Y : Heap} {A B C D r : AO} : veil [3] [(3, H.length + (X.length + 1 + 1 + 1 + 1), 1)] (H ++ (A :: B :: C :: D :: (X ++ (r :: Y)))) = H ++ (A :: B :: C :: D :: (X ++ (.dead :: Y))) := by
  rw [veil_off]
  simp [veil, take_app0, drop_app]
theorem veil_two {H X Y : Heap} {A B C D r q : AO} : veil [3] [(3, H.length + (X.length + 1 + 1 + 1 + 1), 1), (11, H.length + (X.length + 1 + 1 + 1 + 1 + 1), 1)] (H ++ (A :: B :: C :: D :: (X ++ (r :: q :: Y)))) = H ++ (A :: B :: C :: D :: (X ++ (.dead :: q :: Y))) := by
  rw [veil_off]
  simp [veil, take_app0, drop_app]
theorem veil_both {H X Y : Heap} {A B C D r q : AO} : veil [3, 11] [(3, H.length + (X.length + 1 + 1 + 1 + 1), 1), (11, H.length + (X.length + 1 + 1 + 1 + 1 + 1), 1)] (H ++ (A :: B :: C :: D :: (X ++ (r :: q :: Y)))) = H ++ (A :: B :: C :: D :: (X ++ (.dead :: .dead :: Y))) := by
  rw [veil_off]
  have : (H ++ (A :: B :: C :: D :: (X ++ (AO.dead :: q :: Y)))) = (H ++ (A :: B :: C :: D :: X)) ++ (.dead :: q :: Y) := by simp
  simp only [List.contains_cons, BEq.rfl, Bool.true_or, if_true]
  rw [show (A :: B :: C :: D :: (X ++ (r :: q :: Y))).take (X.length + 1 + 1 + 1 + 1) ++ (List.replicate 1 AO.dead ++ (A :: B :: C :: D :: (X ++ (r :: q :: Y))).drop (X.length + 1 + 1 + 1 + 1 + 1)) = A :: B :: C :: D :: (X ++ (.dead :: q :: Y)) by simp [take_app0, drop_app]]
  rw [veil_off]
  have e : (X ++ AO.dead :: q :: Y).take (X.length + 1) = X ++ [.dead] := by
    rw [show X ++ AO.dead :: q :: Y = (X ++ [.dead]) ++ (q :: Y) by simp, List.take_append_of_le_length (by simp), List.take_of_length_le (by simp)]
  simp [veil, e, drop_app]
theorem c64 {H : Heap} {a : Atl} {vg vp vs : AV} (hs : AtlOf H a vg vp vs) (hp : a.pr.length ≤ 9223372036854775807) (hl : a.pgs.length ≤ 1000000) (hd : ∀ s ∈ a.pgs, s.length ≤ 1000000000) (n x y : Int) :
    call env 64 [.agg (a.cs vg vp vs), .int .i64 n, .int .i64 x, .int .i64 y] H = some (.tup [.agg (atC a n x y), .int .i64 (atE a n x y)], H) := by
  have z1 := slof_cell hs.gl
  have z2 := slof_cell hs.pr
  have z3 := slof_cell hs.pgs
  simp only [AV.cells, AV.one] at z1 z2 z3
  have l1 := hs.gl.lenOf
  have eM := fun X => c24 (hs.app X) hp hd
  by_cases hm : MayA a
  rotate_left
  · have hno : ¬ AskA a n := fun h => hm h.1
    unfold atC atE zeroC
    rw [if_neg hno, if_neg hno]
    rw [decide_eq_false hm] at eM
    simp only [Atl.cs] at eM ⊢
    refine call_ends (fn := s64) rfl rfl (by simp [s64]) ?_
    simp only [s64, R1, R2, R3, R4, R5, R6, R7, R8, AV.flat, fillIn_nil, fillIn_cons, splice, AV.cells, AV.one, eqsOf, idx, SO.calls, List.reduceReplicate, Nat.reduceBEq, Nat.reduceLT, Nat.reduceAdd, Nat.reduceMul, Nat.reduceSub, Nat.reduceLeDiff, Nat.reduceEqDiff, ↓reduceIte, Int.reduceLT, Int.reduceEq, Int.reduceBNe, Int.reduceBEq, aeq, Int.reduceLE, Int.reduceNeg, Int.reduceMul, Int.reduceAdd, Int.reduceSub, Int.reduceToNat, Int.reducePow, eM, z1, z2, z3]
    rw [tidy_still rfl]
  rw [decide_eq_true hm] at eM
  by_cases hn0 : n < 0
  · have hno : ¬ AskA a n := fun h => by have := h.2; omega
    unfold atC atE zeroC
    rw [if_neg hno, if_neg hno]
    simp only [Atl.cs] at eM ⊢
    refine call_ends (fn := s64) rfl rfl (by simp [s64]) ?_
    simp only [s64, R1, R2, R3, R4, R5, R6, R7, R8, AV.flat, fillIn_nil, fillIn_cons, splice, AV.cells, AV.one, eqsOf, idx, SO.calls, List.reduceReplicate, Nat.reduceBEq, Nat.reduceLT, Nat.reduceAdd, Nat.reduceMul, Nat.reduceSub, Nat.reduceLeDiff, Nat.reduceEqDiff, ↓reduceIte, Int.reduceLT, Int.reduceEq, Int.reduceBNe, Int.reduceBEq, aeq, Int.reduceLE, Int.reduceNeg, Int.reduceMul, Int.reduceAdd, Int.reduceSub, Int.reduceToNat, Int.reducePow, eM, z1, z2, z3, eq_true hn0]
    rw [tidy_still rfl]
  by_cases hn1 : n ≥ (a.gl.length : Int)
  · have hno : ¬ AskA a n := fun h => by have := h.2; omega
    unfold atC atE zeroC
    rw [if_neg hno, if_neg hno]
    simp only [Atl.cs] at eM ⊢
    refine call_ends (fn := s64) rfl rfl (by simp [s64]) ?_
    simp only [s64, R1, R2, R3, R4, R5, R6, R7, R8, AV.flat, fillIn_nil, fillIn_cons, splice, AV.cells, AV.one, eqsOf, idx, SO.calls, List.reduceReplicate, Nat.reduceBEq, Nat.reduceLT, Nat.reduceAdd, Nat.reduceMul, Nat.reduceSub, Nat.reduceLeDiff, Nat.reduceEqDiff, ↓reduceIte, Int.reduceLT, Int.reduceEq, Int.reduceBNe, Int.reduceBEq, aeq, Int.reduceLE, Int.reduceNeg, Int.reduceMul, Int.reduceAdd, Int.reduceSub, Int.reduceToNat, Int.reducePow, eM, z1, z2, z3, l1, eq_false hn0, eq_true hn1]
    rw [tidy_still rfl]
  have hask : AskA a n := ⟨hm, by omega, by omega⟩
  obtain ⟨m, rfl⟩ : ∃ m : Nat, n = (m : Int) := ⟨n.toNat, by omega⟩
  have hml : m < a.gl.length := by omega
  have E := hs.gl.elem hml
  have hent : a.gl[m] = entA a (m : Int) := by unfold entA; simp [List.getD, hml]
  rw [hent] at E
  unfold atC atE zeroC
  rw [if_pos hask, if_pos hask]
  have hok := fun h => ent_ok hask h
  generalize entA a (m : Int) = e at *
  simp only [Ent.cs] at E
  by_cases hw0 : e.c.w = 0
  · have c1 : (e.c.w == 0) = true := by rw [beq_iff_eq]; exact hw0
    have hno : ¬ InC e x y := fun h => h.1 hw0
    rw [if_neg hno, if_neg hno]
    simp only [Atl.cs] at eM ⊢
    refine call_ends (fn := s64) rfl rfl (by simp [s64]) ?_
    simp only [s64, R1, R2, R3, R4, R5, R6, R7, R8, AV.flat, fillIn_nil, fillIn_cons, splice, AV.cells, AV.one, eqsOf, idx, SO.calls, List.reduceReplicate, Nat.reduceBEq, Nat.reduceLT, Nat.reduceAdd, Nat.reduceMul, Nat.reduceSub, Nat.reduceLeDiff, Nat.reduceEqDiff, ↓reduceIte, Int.reduceLT, Int.reduceEq, Int.reduceBNe, Int.reduceBEq, aeq, Int.reduceLE, Int.reduceNeg, Int.reduceMul, Int.reduceAdd, Int.reduceSub, Int.reduceToNat, Int.reducePow, eM, z1, z2, z3, l1, eq_false hn0, eq_false hn1, E, c1]
    rw [tidy_still rfl]
  have c1 : (e.c.w == 0) = false := by rw [beq_eq_false_iff_ne]; exact hw0
  have ok := hok hw0
  have okw := ok.w
  have okh := ok.h
  have okx := ok.x
  have oky := ok.y
  have oks := ok.size
  have okp := ok.pg
  have w1 := wrap_i64 (x := e.c.w - 1) (by omega) (by omega)
  have w2 := wrap_i64 (x := e.c.h - 1) (by omega) (by omega)
  have w3 := wrap_i64 (x := 256 * (e.c.w - 1)) (by omega) (by omega)
  have w4 := wrap_i64 (x := 256 * (e.c.h - 1)) (by omega) (by omega)
  by_cases h1 : x < 0
  · have hno : ¬ InC e x y := fun h => by have := h.2.1; omega
    rw [if_neg hno, if_neg hno]
    simp only [Atl.cs] at eM ⊢
    refine call_ends (fn := s64) rfl rfl (by simp [s64]) ?_
    simp only [s64, R1, R2, R3, R4, R5, R6, R7, R8, AV.flat, fillIn_nil, fillIn_cons, splice, AV.cells, AV.one, eqsOf, idx, SO.calls, List.reduceReplicate, Nat.reduceBEq, Nat.reduceLT, Nat.reduceAdd, Nat.reduceMul, Nat.reduceSub, Nat.reduceLeDiff, Nat.reduceEqDiff, ↓reduceIte, Int.reduceLT, Int.reduceEq, Int.reduceBNe, Int.reduceBEq, aeq, Int.reduceLE, Int.reduceNeg, Int.reduceMul, Int.reduceAdd, Int.reduceSub, Int.reduceToNat, Int.reducePow, eM, z1, z2, z3, l1, eq_false hn0, eq_false hn1, E, c1, w1, w2, w3, w4, eq_true h1]
    rw [tidy_still rfl]
  by_cases h3 : y < 0
  · have hno : ¬ InC e x y := fun h => by have := h.2.2; omega
    rw [if_neg hno, if_neg hno]
    simp only [Atl.cs] at eM ⊢
    refine call_ends (fn := s64) rfl rfl (by simp [s64]) ?_
    simp only [s64, R1, R2, R3, R4, R5, R6, R7, R8, AV.flat, fillIn_nil, fillIn_cons, splice, AV.cells, AV.one, eqsOf, idx, SO.calls, List.reduceReplicate, Nat.reduceBEq, Nat.reduceLT, Nat.reduceAdd, Nat.reduceMul, Nat.reduceSub, Nat.reduceLeDiff, Nat.reduceEqDiff, ↓reduceIte, Int.reduceLT, Int.reduceEq, Int.reduceBNe, Int.reduceBEq, aeq, Int.reduceLE, Int.reduceNeg, Int.reduceMul, Int.reduceAdd, Int.reduceSub, Int.reduceToNat, Int.reducePow, eM, z1, z2, z3, l1, eq_false hn0, eq_false hn1, E, c1, w1, w2, w3, w4, eq_false h1, eq_true h3]
    rw [tidy_still rfl]
  by_cases h2 : x > 256 * (e.c.w - 1)
  · have hno : ¬ InC e x y := fun h => by have := h.2.1; omega
    rw [if_neg hno, if_neg hno]
    simp only [Atl.cs] at eM ⊢
    refine call_ends (fn := s64) rfl rfl (by simp [s64]) ?_
    simp only [s64, R1, R2, R3, R4, R5, R6, R7, R8, AV.flat, fillIn_nil, fillIn_cons, splice, AV.cells, AV.one, eqsOf, idx, SO.calls, List.reduceReplicate, Nat.reduceBEq, Nat.reduceLT, Nat.reduceAdd, Nat.reduceMul, Nat.reduceSub, Nat.reduceLeDiff, Nat.reduceEqDiff, ↓reduceIte, Int.reduceLT, Int.reduceEq, Int.reduceBNe, Int.reduceBEq, aeq, Int.reduceLE, Int.reduceNeg, Int.reduceMul, Int.reduceAdd, Int.reduceSub, Int.reduceToNat, Int.reducePow, eM, z1, z2, z3, l1, eq_false hn0, eq_false hn1, E, c1, w1, w2, w3, w4, eq_false h1, eq_true h2, eq_false h3]
    rw [tidy_still rfl]
  by_cases h4 : y > 256 * (e.c.h - 1)
  · have hno : ¬ InC e x y := fun h => by have := h.2.2; omega
    rw [if_neg hno, if_neg hno]
    simp only [Atl.cs] at eM ⊢
    refine call_ends (fn := s64) rfl rfl (by simp [s64]) ?_
    simp only [s64, R1, R2, R3, R4, R5, R6, R7, R8, AV.flat, fillIn_nil, fillIn_cons, splice, AV.cells, AV.one, eqsOf, idx, SO.calls, List.reduceReplicate, Nat.reduceBEq, Nat.reduceLT, Nat.reduceAdd, Nat.reduceMul, Nat.reduceSub, Nat.reduceLeDiff, Nat.reduceEqDiff, ↓reduceIte, Int.reduceLT, Int.reduceEq, Int.reduceBNe, Int.reduceBEq, aeq, Int.reduceLE, Int.reduceNeg, Int.reduceMul, Int.reduceAdd, Int.reduceSub, Int.reduceToNat, Int.reducePow, eM, z1, z2, z3, l1, eq_false hn0, eq_false hn1, E, c1, w1, w2, w3, w4, eq_false h1, eq_false h2, eq_false h3, eq_true h4]
    rw [tidy_still rfl]
  have hin : InC e x y := ⟨hw0, by omega, by omega⟩
  rw [if_pos hin, if_pos hin]
  have cx := cutI_ok (x := x) (n := e.c.w) (by omega) okw.1 (by omega)
  have cy := cutI_ok (x := y) (n := e.c.h) (by omega) okh.1 (by omega)
  have e1 := fun H => c86 (x := x) (n := e.c.w) (by omega) (by omega) (by omega) H
  have e2 := fun H => c86 (x := y) (n := e.c.h) (by omega) (by omega) (by omega) H
  unfold bilC bilI
  rw [← Int.add_assoc e.y (cutI y e.c.h) 1]
  simp only [← par_four]
  generalize cutI x e.c.w = i at *
  generalize cutI y e.c.h = j at *
  generalize x - 256 * i = u at *
  generalize y - 256 * j = v at *
  have hu : 0 ≤ u ∧ u ≤ 256 := by omega
  have hv : 0 ≤ v ∧ v ≤ 256 := by omega
  have eT := fun X => c87 (hs.app X) hp hl hd
  have u0 := wrap_i64 (x := 256 - u) (by omega) (by omega)
  have v0 := wrap_i64 (x := 256 - v) (by omega) (by omega)
  have wx := wrap_i64 (x := e.x + i) (by omega) (by omega)
  have wy := wrap_i64 (x := e.y + j) (by omega) (by omega)
  have wx0 := wrap_i64 (x := e.x + i + 0) (by omega) (by omega)
  have wy0 := wrap_i64 (x := e.y + j + 0) (by omega) (by omega)
  have wx1 := wrap_i64 (x := e.x + i + 1) (by omega) (by omega)
  have wy1 := wrap_i64 (x := e.y + j + 1) (by omega) (by omega)
  have rm0 : (0 : Int).tmod 2 = 0 := rfl
  have rm1 : (1 : Int).tmod 2 = 1 := rfl
  have rm2 : (2 : Int).tmod 2 = 0 := rfl
  have rm3 : (3 : Int).tmod 2 = 1 := rfl
  have qo0 : (0 : Int).tdiv 2 = 0 := rfl
  have qo1 : (1 : Int).tdiv 2 = 0 := rfl
  have qo2 : (2 : Int).tdiv 2 = 1 := rfl
  have qo3 : (3 : Int).tdiv 2 = 1 := rfl
  have vt : ∀ X Y c, IntKind.i64.wrap (texI a e.pg X Y c) = texI a e.pg X Y c := fun X Y c => by have := texI_le a e.pg X Y c; exact wrap_i64 (by omega) (by omega)
  simp only [Atl.cs] at eM eT ⊢
  refine call_ends (fn := s64) rfl rfl (by simp [s64]) ?_
  simp only [s64, R1, R2, R3, R4, R5, R6, R7, R8, AV.flat, fillIn_nil, fillIn_cons, splice, AV.cells, AV.one, eqsOf, idx, SO.calls, List.reduceReplicate, Nat.reduceBEq, Nat.reduceLT, Nat.reduceAdd, Nat.reduceMul, Nat.reduceSub, Nat.reduceLeDiff, Nat.reduceEqDiff, ↓reduceIte, Int.reduceLT, Int.reduceEq, Int.reduceBNe, Int.reduceBEq, aeq, Int.reduceLE, Int.reduceNeg, Int.reduceMul, Int.reduceAdd, Int.reduceSub, Int.reduceToNat, Int.reducePow, eM, z1, z2, z3, l1, eq_false hn0, eq_false hn1, E, c1, w1, w2, w3, w4, eq_false h1, eq_false h2, eq_false h3, eq_false h4, e1, e2, veil_un, shun_un]
  refine ends_loop (fun k t H' => t.length = 172 ∧ (t.getD 4 .undef = .ptr H.length 0 ∧ t.getD 8 .undef = .ptr (H.length + 1) 0 ∧ t.getD 10 .undef = .ptr (H.length + 2) 0 ∧ t.getD 15 .undef = .ptr (H.length + 3) 0) ∧ (t.getD 11 .undef = .int .i64 i ∧ t.getD 12 .undef = .int .i64 u ∧ t.getD 13 .undef = .int .i64 j ∧ t.getD 14 .undef = .int .i64 v) ∧
    ∃ (q : Nat) (X : Heap), q ≤ 4 ∧ k = 4 - q ∧ t.getD 16 .undef = .int .i64 (q : Int) ∧
      H' = H ++ (.cells [.int .i64 a.em, .int .i64 a.px, .int .i64 a.rg, .int .i64 a.up, .int .i64 a.down, .int .i64 a.gap, .int .i64 a.w, .int .i64 a.h, vg, vp, vs] 33 true :: .cells [.int .i64 0, .int .i64 0, .int .i64 0, .int .i64 0] 122 true ::
        .cells [.int .i64 e.wd, .int .i64 e.c.x, .int .i64 e.c.y, .int .i64 e.c.w, .int .i64 e.c.h, .int .i64 e.pg, .int .i64 e.x, .int .i64 e.y] 77 true ::
        .cells [.int .i64 (parI a e.pg (e.x + i) (e.y + j) u v 0 q), .int .i64 (parI a e.pg (e.x + i) (e.y + j) u v 1 q), .int .i64 (parI a e.pg (e.x + i) (e.y + j) u v 2 q), .int .i64 (parI a e.pg (e.x + i) (e.y + j) u v 3 q)] 122 true :: X)) 4 ?_ ?_
  · simp only [R1, R2, R3, R4, R5, R6, R7, R8, AV.flat, fillIn_nil, fillIn_cons, splice, AV.cells, AV.one, eqsOf, idx, SO.calls, List.reduceReplicate, Nat.reduceBEq, Nat.reduceLT, Nat.reduceAdd, Nat.reduceMul, Nat.reduceSub, Nat.reduceLeDiff, Nat.reduceEqDiff, ↓reduceIte, Int.reduceLT, Int.reduceEq, Int.reduceBNe, Int.reduceBEq, aeq, Int.reduceLE, Int.reduceNeg, Int.reduceMul, Int.reduceAdd, Int.reduceSub, Int.reduceToNat, Int.reducePow]
    exact ⟨0, [], by omega, by omega, rfl, rfl⟩
  rintro k t _ ⟨g1, ⟨g2, g3, g4, g5⟩, ⟨g6, g7, g8, g9⟩, q, X, hq, rfl, g10, rfl⟩
  rw [← tm_nil t]
  by_cases hq4 : q = 4
  · subst hq4
    have g10 : t.getD 16 .undef = .int .i64 4 := g10
    simp only [R1, R2, R3, R4, R5, R6, R7, R8, AV.flat, fillIn_nil, fillIn_cons, splice, AV.cells, AV.one, eqsOf, idx, SO.calls, List.reduceReplicate, Nat.reduceBEq, Nat.reduceLT, Nat.reduceAdd, Nat.reduceMul, Nat.reduceSub, Nat.reduceLeDiff, Nat.reduceEqDiff, ↓reduceIte, Int.reduceLT, Int.reduceEq, Int.reduceBNe, Int.reduceBEq, aeq, Int.reduceLE, Int.reduceNeg, Int.reduceMul, Int.reduceAdd, Int.reduceSub, Int.reduceToNat, Int.reducePow, g1, g2, g3, g4, g5, g6, g7, g8, g9, g10]
    rw [tidy_still rfl]
  have hpl := fun c => par_le a e.pg (e.x + i) (e.y + j) hu hv c q
  have hwt := wt_le hu hv q
  have htw := fun c => tex_wt a e.pg (e.x + i + kx q) (e.y + j + ky q) hwt c
  have ps : ∀ c, parI a e.pg (e.x + i) (e.y + j) u v c (q + 1) = parI a e.pg (e.x + i) (e.y + j) u v c q + wtI u v q * texI a e.pg (e.x + i + kx q) (e.y + j + ky q) c := fun c => rfl
  have wm : ∀ c, IntKind.i64.wrap (wtI u v q * texI a e.pg (e.x + i + kx q) (e.y + j + ky q) c) = wtI u v q * texI a e.pg (e.x + i + kx q) (e.y + j + ky q) c := fun c => by have := htw c; exact wrap_i64 (by omega) (by omega)
  have wa : ∀ c, IntKind.i64.wrap (parI a e.pg (e.x + i) (e.y + j) u v c q + wtI u v q * texI a e.pg (e.x + i + kx q) (e.y + j + ky q) c) = parI a e.pg (e.x + i) (e.y + j) u v c (q + 1) := fun c => by have := htw c; have := hpl c; rw [ps]; exact wrap_i64 (by omega) (by omega)
  have wv := wrap_i64 (x := wtI u v q) (by omega) (by omega)
  have skip : wtI u v q = 0 → ∀ c, parI a e.pg (e.x + i) (e.y + j) u v c q = parI a e.pg (e.x + i) (e.y + j) u v c (q + 1) := fun h c => by rw [ps, h]; simp
  have hA1 : (X.length + 1 + 1 + 1 + 1 = X.length + 1 + 1 + 1 + 1 + 1) = False := eq_false (by omega)
  have hA2 : (X.length + 1 + 1 + 1 + 1 + 1 = X.length + 1 + 1 + 1 + 1 + 1 + 1) = False := eq_false (by omega)
  have hA3 : (X.length + 1 + 1 + 1 + 1 + 1 = X.length + 2 + 1 + 1 + 1 + 1) = False := eq_false (by omega)
  have hB1 : X.length + 1 + 1 + 1 + 1 + 1 - (X.length + 1 + 1 + 1 + 1) = 1 := by omega
  have hB2 : X.length + 1 + 1 + 1 + 1 + 1 + 1 - (X.length + 1 + 1 + 1 + 1 + 1) = 1 := by omega
  have hB3 : X.length + 2 + 1 + 1 + 1 + 1 - (X.length + 1 + 1 + 1 + 1 + 1) = 1 := by omega
  obtain rfl | rfl | rfl | rfl : q = 0 ∨ q = 1 ∨ q = 2 ∨ q = 3 := by omega
  · have g10 : t.getD 16 .undef = .int .i64 0 := g10
    have hwd : wtI u v 0 = (256 - u) * (256 - v) := rfl
    simp only [hwd, kx, ky, Int.add_zero, Nat.reduceAdd] at wm wa wv skip
    by_cases hz : (256 - u) * (256 - v) = 0
    · have c2 : ((256 - u) * (256 - v) == 0) = true := by rw [beq_iff_eq]; exact hz
      simp only [R1, R2, R3, R4, R5, R6, R7, R8, AV.flat, fillIn_nil, fillIn_cons, splice, AV.cells, AV.one, eqsOf, idx, SO.calls, List.reduceReplicate, Nat.reduceBEq, Nat.reduceLT, Nat.reduceAdd, Nat.reduceMul, Nat.reduceSub, Nat.reduceLeDiff, Nat.reduceEqDiff, ↓reduceIte, Int.reduceLT, Int.reduceEq, Int.reduceBNe, Int.reduceBEq, aeq, Int.reduceLE, Int.reduceNeg, Int.reduceMul, Int.reduceAdd, Int.reduceSub, Int.reduceToNat, Int.reducePow, g1, g2, g3, g4, g5, g6, g7, g8, g9, g10, u0, v0, rm0, qo0, wv, c2, veil_one, veil_two, veil_both, hA1, hA2, hA3, hB1, hB2, hB3, Nat.lt_irrefl, veil_un, shun_un]
      exact ⟨_, by omega, 1, _, by omega, rfl, rfl, by rw [skip hz 0, skip hz 1, skip hz 2, skip hz 3]⟩
    · have c2 : ((256 - u) * (256 - v) == 0) = false := by rw [beq_eq_false_iff_ne]; exact hz
      have hto : TexOk a e.pg (e.x + i) (e.y + j) := by
        have := tex_ok hm ok (i := i) (j := j) (by omega) (by omega)
        simpa only [Int.add_assoc] using this
      have eT := fun X => eT X e.pg (e.x + i) (e.y + j)
      rw [texL_ok hto] at eT
      simp only [R1, R2, R3, R4, R5, R6, R7, R8, AV.flat, fillIn_nil, fillIn_cons, splice, AV.cells, AV.one, eqsOf, idx, SO.calls, List.reduceReplicate, Nat.reduceBEq, Nat.reduceLT, Nat.reduceAdd, Nat.reduceMul, Nat.reduceSub, Nat.reduceLeDiff, Nat.reduceEqDiff, ↓reduceIte, Int.reduceLT, Int.reduceEq, Int.reduceBNe, Int.reduceBEq, aeq, Int.reduceLE, Int.reduceNeg, Int.reduceMul, Int.reduceAdd, Int.reduceSub, Int.reduceToNat, Int.reducePow, g1, g2, g3, g4, g5, g6, g7, g8, g9, g10, z1, z2, z3, u0, v0, rm0, qo0, Int.add_zero, wx, wy, wx1, wy1, wv, c2, eT, vt, wm, wa, veil_one, veil_two, veil_both, hA1, hA2, hA3, hB1, hB2, hB3, Nat.lt_irrefl, veil_un, shun_un]
      exact ⟨_, by omega, 1, _, by omega, rfl, rfl, rfl⟩
  · have g10 : t.getD 16 .undef = .int .i64 1 := g10
    have hwd : wtI u v 1 = u * (256 - v) := rfl
    simp only [hwd, kx, ky, Int.add_zero, Nat.reduceAdd] at wm wa wv skip
    by_cases hz : u * (256 - v) = 0
    · have c2 : (u * (256 - v) == 0) = true := by rw [beq_iff_eq]; exact hz
      simp only [R1, R2, R3, R4, R5, R6, R7, R8, AV.flat, fillIn_nil, fillIn_cons, splice, AV.cells, AV.one, eqsOf, idx, SO.calls, List.reduceReplicate, Nat.reduceBEq, Nat.reduceLT, Nat.reduceAdd, Nat.reduceMul, Nat.reduceSub, Nat.reduceLeDiff, Nat.reduceEqDiff, ↓reduceIte, Int.reduceLT, Int.reduceEq, Int.reduceBNe, Int.reduceBEq, aeq, Int.reduceLE, Int.reduceNeg, Int.reduceMul, Int.reduceAdd, Int.reduceSub, Int.reduceToNat, Int.reducePow, g1, g2, g3, g4, g5, g6, g7, g8, g9, g10, u0, v0, rm1, qo1, wv, c2, veil_one, veil_two, veil_both, hA1, hA2, hA3, hB1, hB2, hB3, Nat.lt_irrefl, veil_un, shun_un]
      exact ⟨_, by omega, 2, _, by omega, rfl, rfl, by rw [skip hz 0, skip hz 1, skip hz 2, skip hz 3]⟩
    · have c2 : (u * (256 - v) == 0) = false := by rw [beq_eq_false_iff_ne]; exact hz
      have hto : TexOk a e.pg (e.x + i + 1) (e.y + j) := by
        have hux : u ≠ 0 := fun h => hz (by rw [h]; simp)
        have := cx.2.2.2.2 hux
        have := tex_ok hm ok (i := i + 1) (j := j) (by omega) (by omega)
        simpa only [Int.add_assoc] using this
      have eT := fun X => eT X e.pg (e.x + i + 1) (e.y + j)
      rw [texL_ok hto] at eT
      simp only [R1, R2, R3, R4, R5, R6, R7, R8, AV.flat, fillIn_nil, fillIn_cons, splice, AV.cells, AV.one, eqsOf, idx, SO.calls, List.reduceReplicate, Nat.reduceBEq, Nat.reduceLT, Nat.reduceAdd, Nat.reduceMul, Nat.reduceSub, Nat.reduceLeDiff, Nat.reduceEqDiff, ↓reduceIte, Int.reduceLT, Int.reduceEq, Int.reduceBNe, Int.reduceBEq, aeq, Int.reduceLE, Int.reduceNeg, Int.reduceMul, Int.reduceAdd, Int.reduceSub, Int.reduceToNat, Int.reducePow, g1, g2, g3, g4, g5, g6, g7, g8, g9, g10, z1, z2, z3, u0, v0, rm1, qo1, Int.add_zero, wx, wy, wx1, wy1, wv, c2, eT, vt, wm, wa, veil_one, veil_two, veil_both, hA1, hA2, hA3, hB1, hB2, hB3, Nat.lt_irrefl, veil_un, shun_un]
      exact ⟨_, by omega, 2, _, by omega, rfl, rfl, rfl⟩
  · have g10 : t.getD 16 .undef = .int .i64 2 := g10
    have hwd : wtI u v 2 = (256 - u) * v := rfl
    simp only [hwd, kx, ky, Int.add_zero, Nat.reduceAdd] at wm wa wv skip
    by_cases hz : (256 - u) * v = 0
    · have c2 : ((256 - u) * v == 0) = true := by rw [beq_iff_eq]; exact hz
      simp only [R1, R2, R3, R4, R5, R6, R7, R8, AV.flat, fillIn_nil, fillIn_cons, splice, AV.cells, AV.one, eqsOf, idx, SO.calls, List.reduceReplicate, Nat.reduceBEq, Nat.reduceLT, Nat.reduceAdd, Nat.reduceMul, Nat.reduceSub, Nat.reduceLeDiff, Nat.reduceEqDiff, ↓reduceIte, Int.reduceLT, Int.reduceEq, Int.reduceBNe, Int.reduceBEq, aeq, Int.reduceLE, Int.reduceNeg, Int.reduceMul, Int.reduceAdd, Int.reduceSub, Int.reduceToNat, Int.reducePow, g1, g2, g3, g4, g5, g6, g7, g8, g9, g10, u0, v0, rm2, qo2, wv, c2, veil_one, veil_two, veil_both, hA1, hA2, hA3, hB1, hB2, hB3, Nat.lt_irrefl, veil_un, shun_un]
      exact ⟨_, by omega, 3, _, by omega, rfl, rfl, by rw [skip hz 0, skip hz 1, skip hz 2, skip hz 3]⟩
    · have c2 : ((256 - u) * v == 0) = false := by rw [beq_eq_false_iff_ne]; exact hz
      have hto : TexOk a e.pg (e.x + i) (e.y + j + 1) := by
        have hvy : v ≠ 0 := fun h => hz (by rw [h]; simp)
        have := cy.2.2.2.2 hvy
        have := tex_ok hm ok (i := i) (j := j + 1) (by omega) (by omega)
        simpa only [Int.add_assoc] using this
      have eT := fun X => eT X e.pg (e.x + i) (e.y + j + 1)
      rw [texL_ok hto] at eT
      simp only [R1, R2, R3, R4, R5, R6, R7, R8, AV.flat, fillIn_nil, fillIn_cons, splice, AV.cells, AV.one, eqsOf, idx, SO.calls, List.reduceReplicate, Nat.reduceBEq, Nat.reduceLT, Nat.reduceAdd, Nat.reduceMul, Nat.reduceSub, Nat.reduceLeDiff, Nat.reduceEqDiff, ↓reduceIte, Int.reduceLT, Int.reduceEq, Int.reduceBNe, Int.reduceBEq, aeq, Int.reduceLE, Int.reduceNeg, Int.reduceMul, Int.reduceAdd, Int.reduceSub, Int.reduceToNat, Int.reducePow, g1, g2, g3, g4, g5, g6, g7, g8, g9, g10, z1, z2, z3, u0, v0, rm2, qo2, Int.add_zero, wx, wy, wx1, wy1, wv, c2, eT, vt, wm, wa, veil_one, veil_two, veil_both, hA1, hA2, hA3, hB1, hB2, hB3, Nat.lt_irrefl, veil_un, shun_un]
      exact ⟨_, by omega, 3, _, by omega, rfl, rfl, rfl⟩
  · have g10 : t.getD 16 .undef = .int .i64 3 := g10
    have hwd : wtI u v 3 = u * v := rfl
    simp only [hwd, kx, ky, Int.add_zero, Nat.reduceAdd] at wm wa wv skip
    by_cases hz : u * v = 0
    · have c2 : (u * v == 0) = true := by rw [beq_iff_eq]; exact hz
      simp only [R1, R2, R3, R4, R5, R6, R7, R8, AV.flat, fillIn_nil, fillIn_cons, splice, AV.cells, AV.one, eqsOf, idx, SO.calls, List.reduceReplicate, Nat.reduceBEq, Nat.reduceLT, Nat.reduceAdd, Nat.reduceMul, Nat.reduceSub, Nat.reduceLeDiff, Nat.reduceEqDiff, ↓reduceIte, Int.reduceLT, Int.reduceEq, Int.reduceBNe, Int.reduceBEq, aeq, Int.reduceLE, Int.reduceNeg, Int.reduceMul, Int.reduceAdd, Int.reduceSub, Int.reduceToNat, Int.reducePow, g1, g2, g3, g4, g5, g6, g7, g8, g9, g10, u0, v0, rm3, qo3, wv, c2, veil_one, veil_two, veil_both, hA1, hA2, hA3, hB1, hB2, hB3, Nat.lt_irrefl, veil_un, shun_un]
      exact ⟨_, by omega, 4, _, by omega, rfl, rfl, by rw [skip hz 0, skip hz 1, skip hz 2, skip hz 3]⟩
    · have c2 : (u * v == 0) = false := by rw [beq_eq_false_iff_ne]; exact hz
      have hto : TexOk a e.pg (e.x + i + 1) (e.y + j + 1) := by
        have hux : u ≠ 0 := fun h => hz (by rw [h]; simp)
        have hvy : v ≠ 0 := fun h => hz (by rw [h]; simp)
        have := cx.2.2.2.2 hux
        have := cy.2.2.2.2 hvy
        have := tex_ok hm ok (i := i + 1) (j := j + 1) (by omega) (by omega)
        simpa only [Int.add_assoc] using this
      have eT := fun X => eT X e.pg (e.x + i + 1) (e.y + j + 1)
      rw [texL_ok hto] at eT
      simp only [R1, R2, R3, R4, R5, R6, R7, R8, AV.flat, fillIn_nil, fillIn_cons, splice, AV.cells, AV.one, eqsOf, idx, SO.calls, List.reduceReplicate, Nat.reduceBEq, Nat.reduceLT, Nat.reduceAdd, Nat.reduceMul, Nat.reduceSub, Nat.reduceLeDiff, Nat.reduceEqDiff, ↓reduceIte, Int.reduceLT, Int.reduceEq, Int.reduceBNe, Int.reduceBEq, aeq, Int.reduceLE, Int.reduceNeg, Int.reduceMul, Int.reduceAdd, Int.reduceSub, Int.reduceToNat, Int.reducePow, g1, g2, g3, g4, g5, g6, g7, g8, g9, g10, z1, z2, z3, u0, v0, rm3, qo3, Int.add_zero, wx, wy, wx1, wy1, wv, c2, eT, vt, wm, wa, veil_one, veil_two, veil_both, hA1, hA2, hA3, hB1, hB2, hB3, Nat.lt_irrefl, veil_un, shun_un]
      exact ⟨_, by omega, 4, _, by omega, rfl, rfl, rfl⟩
end Go.Proofs.YtbnnfmncipdlpaaDoor
