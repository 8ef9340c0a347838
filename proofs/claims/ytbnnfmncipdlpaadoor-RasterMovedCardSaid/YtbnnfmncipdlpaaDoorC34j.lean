/- Chapter 34: pictures. -/
import Derived.Test.YtbnnfmncipdlpaaDoorC34i
set_option linter.unusedVariables false
set_option linter.unusedSimpArgs false
set_option maxRecDepth 100000
set_option maxHeartbeats 8000000
namespace Go.Proofs.YtbnnfmncipdlpaaDoor
open Go Go.Den
theorem picF_mk {H : Heap} {a : Atl} {vg vp vs : AV} (hs : AtlOf H a vg vp vs) (A1 A2 : AO) (Y : Heap) : PicF (fun b => H ++ (A1 :: A2 :: .cells (u8s b) 5 true :: Y)) (H.length + (3 + Y.length)) (H.length + 2) a vg vp vs := by
  refine ⟨fun l => by simp; omega, by omega, fun l => ?_, fun l l' => ?_, fun l => hs.app _⟩
  · rw [List.getElem?_append_right (by omega), Nat.add_sub_cancel_left]
    rfl
  · rw [List.set_append_right _ _ (by omega), Nat.add_sub_cancel_left]
    rfl
theorem PicF.str {B : List UInt8 → Heap} {N o : Nat} {a : Atl} {vg vp vs : AV} (F : PicF B N o a vg vp vs) (l : List UInt8) (cap : Option Nat) : strOf (.sl o 0 l.length 1 cap) (B l) = some (.str (mkS l), B l) := by
  have h := F.row l
  have hx : (u8s l).take l.length = u8s l := List.take_of_length_le (by rw [u8s_len]; exact Nat.le_refl _)
  refine str_of ?_ rfl
  have : aload (B l) l.length (.ptr o 0) = some (u8s l) := by
    rw [aload_row h, if_pos (by rw [u8s_len]; omega), List.drop_zero, hx]
  simp [acells, this]
theorem mk_u8 (n : Nat) (hn : n ≤ 4294967296) (H : Heap) : mkslOf 5 [.int .u8 0] (.int .i64 (n : Int)) (.int .i64 (n : Int)) H = some (.sl H.length 0 n 1 (some n), H ++ [.cells (u8s (List.replicate n 0)) 5 true]) := by
  have hr : roomy n = true := by simp [roomy]; omega
  have : (List.replicate n [AV.int .u8 0]).flatten = u8s (List.replicate n 0) := by
    unfold u8s
    rw [List.map_replicate]
    simp
  simp [mkslOf, hr, this]
/-- A picture of some glyphs. -/
def picL (a : Atl) (v : View) (l : List Pld) : List UInt8 := l.foldl (fun b p => drawn b (fun _ => true) (pxF a v p)) (List.replicate (v.w * v.h).toNat 0)
theorem fold_len (a : Atl) (v : View) : ∀ (l : List Pld) (b : List UInt8), (l.foldl (fun b p => drawn b (fun _ => true) (pxF a v p)) b).length = b.length
  | [], _ => rfl
  | p :: l, b => by rw [List.foldl_cons, fold_len a v l, drawn_len]
theorem pic_len (a : Atl) (v : View) (l : List Pld) : (picL a v l).length = (v.w * v.h).toNat := by
  unfold picL
  rw [fold_len, List.length_replicate]
theorem pic_suc (a : Atl) (v : View) {l : List Pld} {i : Nat} (h : i < l.length) : drawn (picL a v (l.take i)) (fun _ => true) (pxF a v l[i]) = picL a v (l.take (i + 1)) := by
  unfold picL
  rw [List.take_add_one, List.getElem?_eq_getElem h, Option.toList_some, List.foldl_append]
  rfl
theorem c27 {H : Heap} {a : Atl} {vg vp vs : AV} {vl : AV} {l : List Pld} {v : View} (hs : AtlOf H a vg vp vs) (hp : a.pr.length ≤ 9223372036854775807) (hd : ∀ s ∈ a.pgs, s.length ≤ 1000000000) (hl : SlOf H 3 Pld.cs vl l) (hn : l.length ≤ 9223372036854775807) :
    call env 27 [.agg (a.cs vg vp vs), .agg v.cs, vl] H = some (.tup [.str (mkS (if askE a v l = 0 then picL a v l else [])), .int .i64 (askE a v l)], H) := by
  have z1 := slof_cell hs.gl
  have z2 := slof_cell hs.pr
  have z3 := slof_cell hs.pgs
  have z4 := slof_cell hl
  simp only [AV.cells, AV.one] at z1 z2 z3 z4
  have l2 := hl.lenOf
  have e1 := fun X => c55 (hs.app X) hp hd v (hl.app X) hn
  refine call_ends (fn := s27) rfl rfl (by simp [s27]) ?_
  by_cases hk : askE a v l = 0
  rotate_left
  · rw [if_neg hk]
    have c1 : (askE a v l != 0) = true := by rw [bne_iff_ne]; exact hk
    generalize askE a v l = q at *
    simp only [Atl.cs, View.cs] at e1 ⊢
    simp only [s27, R1, R2, R3, R4, R5, R6, R7, R8, AV.flat, fillIn_nil, fillIn_cons, splice, AV.cells, AV.one, eqsOf, idx, SO.calls, List.reduceReplicate, Nat.reduceBEq, Nat.reduceLT, Nat.reduceAdd, Nat.reduceMul, Nat.reduceSub, Nat.reduceLeDiff, Nat.reduceEqDiff, ↓reduceIte, Int.reduceLT, Int.reduceEq, Int.reduceBNe, Int.reduceBEq, aeq, Int.reduceLE, Int.reduceNeg, Int.reduceMul, Int.reduceAdd, Int.reduceSub, Int.reduceToNat, Int.reducePow, z1, z2, z3, z4, e1, c1]
    rw [tidy_still rfl]
  rw [if_pos hk, hk]
  rw [hk] at e1
  obtain ⟨ha, hv, hok⟩ := ask_ok hk
  have e2 := fun X => c56 (hs.app X) ha hv
  obtain ⟨w, hw⟩ : ∃ w : Nat, v.w = (w : Int) := ⟨v.w.toNat, by have := hv.1; omega⟩
  obtain ⟨h, hh⟩ : ∃ h : Nat, v.h = (h : Int) := ⟨v.h.toNat, by have := hv.2.1; omega⟩
  obtain ⟨v1, v2, _⟩ := id hv
  have hwh : w * h ≤ 1024 * 1024 := Nat.mul_le_mul (by omega) (by omega)
  have w1 : IntKind.i64.wrap ((w : Int) * (h : Int)) = ((w * h : Nat) : Int) := by
    rw [← Int.natCast_mul]
    exact wrap_i64 (by omega) (by omega)
  have hnn : (v.w * v.h).toNat = w * h := by rw [hw, hh, ← Int.natCast_mul, Int.toNat_natCast]
  have hlen := fun i => pic_len a v (l.take i)
  rw [hnn] at hlen
  have hsuc := fun i hi => pic_suc a v (l := l) (i := i) hi
  have h0 : picL a v (l.take 0) = List.replicate (w * h) 0 := by unfold picL; rw [hnn]; rfl
  have hall : picL a v l = picL a v (l.take l.length) := by rw [List.take_length]
  rw [hall]
  have e3 := fun H => mk_u8 (w * h) (by omega) H
  have e4 := fun (i : Nat) (p : Pld) (hp1 : OkD a p) (Y : Heap) => c57 (v := v) (p := p) (picF_mk hs (.cells (a.cs vg vp vs) 33 true) (.cells v.cs 55 true) (.cells (drC a vg vp vs v) 111 true :: Y)) hp hd ha hv hp1 (l := picL a v (l.take i)) (cap := some (w * h)) (by rw [hlen, hw, hh, Int.natCast_mul])
  have e5 := fun (Y : Heap) => (picF_mk hs (.cells (a.cs vg vp vs) 33 true) (.cells v.cs 55 true) (.cells (drC a vg vp vs v) 111 true :: Y)).str (picL a v (l.take l.length)) (some (w * h))
  rw [hlen, List.take_length] at e5
  simp only [hlen] at e4
  rw [← h0] at e3
  generalize w * h = n at *
  simp only [drC, Atl.cs, View.cs, hw, hh, List.cons_append, List.nil_append] at e1 e2 e4 e5 ⊢
  simp only [s27, R1, R2, R3, R4, R5, R6, R7, R8, AV.flat, fillIn_nil, fillIn_cons, splice, AV.cells, AV.one, eqsOf, idx, SO.calls, List.reduceReplicate, Nat.reduceBEq, Nat.reduceLT, Nat.reduceAdd, Nat.reduceMul, Nat.reduceSub, Nat.reduceLeDiff, Nat.reduceEqDiff, ↓reduceIte, Int.reduceLT, Int.reduceEq, Int.reduceBNe, Int.reduceBEq, aeq, Int.reduceLE, Int.reduceNeg, Int.reduceMul, Int.reduceAdd, Int.reduceSub, Int.reduceToNat, Int.reducePow, z1, z2, z3, z4, l2, e1, e2, e3, w1]
  refine ends_loop (fun k t H' => t.length = 42 ∧ (t.getD 9 .undef = .sl (H.length + 2) 0 n 1 (some n) ∧ t.getD 10 .undef = .ptr (H.length + 3) 0 ∧ t.getD 29 .undef = vl ∧ t.getD 30 .undef = .int .i64 (l.length : Int)) ∧ ∃ (i : Nat) (Y : Heap), H' = H ++ (.cells [.int .i64 a.em, .int .i64 a.px, .int .i64 a.rg, .int .i64 a.up, .int .i64 a.down, .int .i64 a.gap, .int .i64 a.w, .int .i64 a.h, vg, vp, vs] 33 true :: .cells [.int .i64 (w : Int), .int .i64 (h : Int), .int .i64 v.x, .int .i64 v.y, .int .i64 v.n, .int .i64 v.d] 55 true :: .cells (u8s (picL a v (l.take i))) 5 true :: .cells [.int .i64 a.em, .int .i64 a.px, .int .i64 a.rg, .int .i64 a.up, .int .i64 a.down, .int .i64 a.gap, .int .i64 a.w, .int .i64 a.h, vg, vp, vs, .int .i64 (w : Int), .int .i64 (h : Int), .int .i64 v.x, .int .i64 v.y, .int .i64 v.n, .int .i64 v.d, .int .i64 (scI a v).1, .int .i64 (scI a v).2.1] 111 true :: Y) ∧ i ≤ l.length ∧ k = l.length - i ∧ t.getD 31 .undef = .int .i64 (i : Int)) l.length ?_ ?_
  · simp only [R1, R2, R3, R4, R5, R6, R7, R8, AV.flat, fillIn_nil, fillIn_cons, splice, AV.cells, AV.one, eqsOf, idx, SO.calls, List.reduceReplicate, Nat.reduceBEq, Nat.reduceLT, Nat.reduceAdd, Nat.reduceMul, Nat.reduceSub, Nat.reduceLeDiff, Nat.reduceEqDiff, ↓reduceIte, Int.reduceLT, Int.reduceEq, Int.reduceBNe, Int.reduceBEq, aeq, Int.reduceLE, Int.reduceNeg, Int.reduceMul, Int.reduceAdd, Int.reduceSub, Int.reduceToNat, Int.reducePow]
    exact ⟨0, [], rfl, by omega, by omega, rfl⟩
  rintro k t _ ⟨g1, ⟨g2, g3, g4, g5⟩, i, Y, rfl, hi, rfl, g6⟩
  rw [← tm_nil t]
  by_cases hc : i < l.length
  · have a1 : ((i : Int) < (l.length : Int)) = True := eq_true (by omega)
    have w2 : IntKind.i64.wrap ((i : Int) + 1) = ((i + 1 : Nat) : Int) := by rw [wrap_i64 (by omega) (by omega)]; rfl
    have E := hl.elem hc
    have e6 := fun Y => e4 i l[i] (hok _ (List.getElem_mem hc)) Y
    simp only [hsuc i hc] at e6
    generalize l[i] = p at *
    simp only [Pld.cs] at E e6
    simp only [R1, R2, R3, R4, R5, R6, R7, R8, AV.flat, fillIn_nil, fillIn_cons, splice, AV.cells, AV.one, eqsOf, idx, SO.calls, List.reduceReplicate, Nat.reduceBEq, Nat.reduceLT, Nat.reduceAdd, Nat.reduceMul, Nat.reduceSub, Nat.reduceLeDiff, Nat.reduceEqDiff, ↓reduceIte, Int.reduceLT, Int.reduceEq, Int.reduceBNe, Int.reduceBEq, aeq, Int.reduceLE, Int.reduceNeg, Int.reduceMul, Int.reduceAdd, Int.reduceSub, Int.reduceToNat, Int.reducePow, z1, z2, z3, g1, g2, g3, g4, g5, g6, a1, w2, E, e6]
    exact ⟨_, by omega, i + 1, _, rfl, by omega, rfl, rfl⟩
  · have a1 : ((i : Int) < (l.length : Int)) = False := eq_false (by omega)
    obtain rfl : i = l.length := by omega
    simp only [R1, R2, R3, R4, R5, R6, R7, R8, AV.flat, fillIn_nil, fillIn_cons, splice, AV.cells, AV.one, eqsOf, idx, SO.calls, List.reduceReplicate, Nat.reduceBEq, Nat.reduceLT, Nat.reduceAdd, Nat.reduceMul, Nat.reduceSub, Nat.reduceLeDiff, Nat.reduceEqDiff, ↓reduceIte, Int.reduceLT, Int.reduceEq, Int.reduceBNe, Int.reduceBEq, aeq, Int.reduceLE, Int.reduceNeg, Int.reduceMul, Int.reduceAdd, Int.reduceSub, Int.reduceToNat, Int.reducePow, g1, g2, g3, g4, g5, g6, a1, e5]
    rw [tidy_still rfl]
end Go.Proofs.YtbnnfmncipdlpaaDoor
