/- Chapter 34: the document's pictures. -/
import Derived.Test.YtbnnfmncipdlpaaDoorC34j
import Derived.Test.YtbnnfmncipdlpaaDoorC34f
set_option linter.unusedVariables false
set_option linter.unusedSimpArgs false
set_option maxRecDepth 100000
set_option maxHeartbeats 8000000
namespace Go.Proofs.YtbnnfmncipdlpaaDoor
open Go Go.Den
theorem px_ok (a : Atl) (v : View) (p : Pld) (k : Nat) : 0 ≤ pxF a v p k ∧ pxF a v p k ≤ 255 := pix_ok _ _ _ _ _
def bestI (a : Atl) (v : View) (l : List Pld) (k : Nat) : Int := l.foldl (fun m p => max m (pxF a v p k)) 0
theorem fold_get (a : Atl) (v : View) (k : Nat) : ∀ (l : List Pld) (b : List UInt8), (l.foldl (fun b p => drawn b (fun _ => true) (pxF a v p)) b)[k]? = b[k]?.map fun c => l.foldl (fun c p => mx c (pxF a v p k)) c
  | [], b => by simp
  | p :: l, b => by
    rw [List.foldl_cons, fold_get a v k l, drawn_get]
    cases b[k]? <;> simp
theorem fold_mx (a : Atl) (v : View) (k : Nat) : ∀ (l : List Pld) (c : UInt8), ((l.foldl (fun c p => mx c (pxF a v p k)) c).toNat : Int) = l.foldl (fun m p => max m (pxF a v p k)) (c.toNat : Int)
  | [], c => rfl
  | p :: l, c => by
    rw [List.foldl_cons, List.foldl_cons, fold_mx a v k l, mx_nat c (px_ok a v p k)]
theorem best_ok (a : Atl) (v : View) (k : Nat) : ∀ (l : List Pld) (m : Int), 0 ≤ m ∧ m ≤ 255 → 0 ≤ l.foldl (fun m p => max m (pxF a v p k)) m ∧ l.foldl (fun m p => max m (pxF a v p k)) m ≤ 255
  | [], m, h => h
  | p :: l, m, h => by
    have := px_ok a v p k
    rw [List.foldl_cons]
    exact best_ok a v k l _ (by omega)
theorem pic_get {a : Atl} {v : View} {l : List Pld} {k : Nat} (hk : k < (v.w * v.h).toNat) : ∃ b, (picL a v l)[k]? = some b ∧ (b.toNat : Int) = bestI a v l k := by
  unfold picL
  rw [fold_get, List.getElem?_replicate, if_pos hk]
  exact ⟨_, rfl, fold_mx a v k l 0⟩
theorem best_suc (a : Atl) (v : View) {l : List Pld} {i k : Nat} (h : i < l.length) : max (bestI a v (l.take i) k) (pxF a v l[i] k) = bestI a v (l.take (i + 1)) k := by
  unfold bestI
  rw [List.take_add_one, List.getElem?_eq_getElem h, Option.toList_some, List.foldl_append]
  rfl
/-- A picture whose first pixels are made. -/
def some' (P : List UInt8) (n k : Nat) : List UInt8 := P.take k ++ List.replicate (n - k) 0
theorem some_len {P : List UInt8} {n k : Nat} (hP : P.length = n) (hk : k ≤ n) : (some' P n k).length = n := by
  unfold some'
  simp
  omega
theorem some_set {P : List UInt8} {n k : Nat} {b : UInt8} (hP : P.length = n) (hk : k < n) (hb : P[k]? = some b) : splice (u8s (some' P n k)) k [.int .u8 (b.toNat : Int)] = u8s (some' P n (k + 1)) := by
  unfold some' u8s splice
  rw [List.take_add_one, hb, Option.toList_some]
  simp only [List.map_append, List.map_take, List.map_replicate, List.map_cons, List.map_nil, List.length_cons, List.length_nil]
  have h1 : (List.take k (P.map fun b => AV.int .u8 (b.toNat : Int))).length = k := by simp; omega
  rw [List.take_append_of_le_length (by omega), List.take_of_length_le (by omega), List.drop_append, List.drop_eq_nil_of_le (by omega), h1]
  simp [List.drop_replicate]
  omega
theorem c29 {H : Heap} {a : Atl} {vg vp vs : AV} {vl : AV} {l : List Pld} {v : View} (hs : AtlOf H a vg vp vs) (hp : a.pr.length ≤ 9223372036854775807) (hpg : a.pgs.length ≤ 1000000) (hd : ∀ s ∈ a.pgs, s.length ≤ 1000000000) (hl : SlOf H 3 Pld.cs vl l) (hn : l.length ≤ 9223372036854775807) (hk : askE a v l = 0) :
    call env 29 [.agg (a.cs vg vp vs), .agg v.cs, vl] H = some (.str (mkS (picL a v l)), H) := by
  have z1 := slof_cell hs.gl
  have z2 := slof_cell hs.pr
  have z3 := slof_cell hs.pgs
  have z4 := slof_cell hl
  simp only [AV.cells, AV.one] at z1 z2 z3 z4
  have l2 := hl.lenOf
  obtain ⟨ha, hv, hok⟩ := ask_ok hk
  obtain ⟨w, hw⟩ : ∃ w : Nat, v.w = (w : Int) := ⟨v.w.toNat, by have := hv.1; omega⟩
  obtain ⟨h, hh⟩ : ∃ h : Nat, v.h = (h : Int) := ⟨v.h.toNat, by have := hv.2.1; omega⟩
  obtain ⟨v1, v2, _⟩ := id hv
  have hwh : w * h ≤ 1024 * 1024 := Nat.mul_le_mul (by omega) (by omega)
  have w1 : IntKind.i64.wrap ((w : Int) * (h : Int)) = ((w * h : Nat) : Int) := by
    rw [← Int.natCast_mul]
    exact wrap_i64 (by omega) (by omega)
  have hnn : (v.w * v.h).toNat = w * h := by rw [hw, hh, ← Int.natCast_mul, Int.toNat_natCast]
  have hlen := pic_len a v l
  have hget := fun k hk => pic_get (a := a) (v := v) (l := l) (k := k) hk
  rw [hnn] at hlen hget
  have hbest := fun i k hi => best_suc a v (l := l) (i := i) (k := k) hi
  have e3 := fun H => mk_u8 (w * h) (by omega) H
  have hin : ∀ k, k < w * h → InV v ((k % w : Nat) : Int) ((k / w : Nat) : Int) := fun k hk => by
    have h1 := Nat.mod_lt k (show 0 < w by omega)
    have h2 : k / w < h := Nat.div_lt_of_lt_mul (by omega)
    unfold InV
    rw [hw, hh]
    generalize k % w = x at *
    generalize k / w = y at *
    omega
  have e4 := fun (X : Heap) (k : Nat) (hk : k < w * h) (p : Pld) (hpo : OkD a p) => c34 (hs.app X) hp hpg hd ha hv hpo (hin k hk)
  have hpx : ∀ k p, pixI a v p ((k % w : Nat) : Int) ((k / w : Nat) : Int) = pxF a v p k := fun k p => by unfold pxF; rw [hw, Int.toNat_natCast]
  simp only [hpx] at e4
  have hle : ∀ i k, 0 ≤ bestI a v (l.take i) k ∧ bestI a v (l.take i) k ≤ 255 := fun i k => best_ok a v k (l.take i) 0 (by omega)
  have e5 := fun (Y : Heap) => (picF_mk hs (.cells (a.cs vg vp vs) 33 true) (.cells v.cs 55 true) Y).str (some' (picL a v l) (w * h) (w * h)) (some (w * h))
  have hend : some' (picL a v l) (w * h) (w * h) = picL a v l := by
    unfold some'
    rw [Nat.sub_self, List.take_of_length_le (by omega)]
    simp
  have h0 : List.replicate (w * h) (0 : UInt8) = some' (picL a v l) (w * h) 0 := by unfold some'; simp
  rw [h0] at e3
  rw [hend, hlen] at e5
  have slen := fun k hk => some_len (k := k) hlen hk
  have sset := fun k b hk hb => some_set (k := k) (b := b) hlen hk hb
  have hw0 : 0 < w := by omega
  have c0 : ((w : Int) = 0) = False := eq_false (by omega)
  have hq : ∀ k, k / w ≤ k := fun k => Nat.div_le_self _ _
  generalize w * h = n at *
  generalize hPP : picL a v l = P at *
  simp only [Atl.cs, View.cs, hw, hh] at e4 e5 ⊢
  refine call_ends (fn := s29) rfl rfl (by simp [s29]) ?_
  simp only [s29, R1, R2, R3, R4, R5, R6, R7, R8, AV.flat, fillIn_nil, fillIn_cons, splice, AV.cells, AV.one, eqsOf, idx, SO.calls, List.reduceReplicate, Nat.reduceBEq, Nat.reduceLT, Nat.reduceAdd, Nat.reduceMul, Nat.reduceSub, Nat.reduceLeDiff, Nat.reduceEqDiff, ↓reduceIte, Int.reduceLT, Int.reduceEq, Int.reduceBNe, Int.reduceBEq, aeq, Int.reduceLE, Int.reduceNeg, Int.reduceMul, Int.reduceAdd, Int.reduceSub, Int.reduceToNat, Int.reducePow, z1, z2, z3, z4, e3, w1]
  refine ends_loop (fun k t H' => t.length = 53 ∧ (t.getD 2 .undef = vl ∧ t.getD 3 .undef = .ptr H.length 0 ∧ t.getD 4 .undef = .ptr (H.length + 1) 0 ∧ t.getD 7 .undef = .sl (H.length + 2) 0 n 1 (some n)) ∧ ∃ (q : Nat), H' = H ++ [.cells [.int .i64 a.em, .int .i64 a.px, .int .i64 a.rg, .int .i64 a.up, .int .i64 a.down, .int .i64 a.gap, .int .i64 a.w, .int .i64 a.h, vg, vp, vs] 33 true, .cells [.int .i64 (w : Int), .int .i64 (h : Int), .int .i64 v.x, .int .i64 v.y, .int .i64 v.n, .int .i64 v.d] 55 true, .cells (u8s (some' P n q)) 5 true] ∧ q ≤ n ∧ k = n - q ∧ t.getD 8 .undef = .int .i64 (q : Int)) n ?_ ?_
  · simp only [R1, R2, R3, R4, R5, R6, R7, R8, AV.flat, fillIn_nil, fillIn_cons, splice, AV.cells, AV.one, eqsOf, idx, SO.calls, List.reduceReplicate, Nat.reduceBEq, Nat.reduceLT, Nat.reduceAdd, Nat.reduceMul, Nat.reduceSub, Nat.reduceLeDiff, Nat.reduceEqDiff, ↓reduceIte, Int.reduceLT, Int.reduceEq, Int.reduceBNe, Int.reduceBEq, aeq, Int.reduceLE, Int.reduceNeg, Int.reduceMul, Int.reduceAdd, Int.reduceSub, Int.reduceToNat, Int.reducePow]
    exact ⟨0, rfl, by omega, by omega, rfl⟩
  rintro k t _ ⟨g1, ⟨g2, g3, g4, g5⟩, q, rfl, hq1, rfl, g6⟩
  rw [← tm_nil t]
  by_cases hc : q < n
  rotate_left
  · have a1 : ((q : Int) < (n : Int)) = False := eq_false (by omega)
    obtain rfl : q = n := by omega
    rw [hend]
    simp only [R1, R2, R3, R4, R5, R6, R7, R8, AV.flat, fillIn_nil, fillIn_cons, splice, AV.cells, AV.one, eqsOf, idx, SO.calls, List.reduceReplicate, Nat.reduceBEq, Nat.reduceLT, Nat.reduceAdd, Nat.reduceMul, Nat.reduceSub, Nat.reduceLeDiff, Nat.reduceEqDiff, ↓reduceIte, Int.reduceLT, Int.reduceEq, Int.reduceBNe, Int.reduceBEq, aeq, Int.reduceLE, Int.reduceNeg, Int.reduceMul, Int.reduceAdd, Int.reduceSub, Int.reduceToNat, Int.reducePow, g1, g5, g6, a1, e5]
    first | rw [tidy_flat rfl] | skip
  have a1 : ((q : Int) < (n : Int)) = True := eq_true (by omega)
  obtain ⟨b, hb1, hb2⟩ := hget q hc
  simp only [R1, R2, R3, R4, R5, R6, R7, R8, AV.flat, fillIn_nil, fillIn_cons, splice, AV.cells, AV.one, eqsOf, idx, SO.calls, List.reduceReplicate, Nat.reduceBEq, Nat.reduceLT, Nat.reduceAdd, Nat.reduceMul, Nat.reduceSub, Nat.reduceLeDiff, Nat.reduceEqDiff, ↓reduceIte, Int.reduceLT, Int.reduceEq, Int.reduceBNe, Int.reduceBEq, aeq, Int.reduceLE, Int.reduceNeg, Int.reduceMul, Int.reduceAdd, Int.reduceSub, Int.reduceToNat, Int.reducePow, g1, g5, g6, a1]
  refine ends_loop (fun k t H' => t.length = 53 ∧ (t.getD 2 .undef = vl ∧ t.getD 3 .undef = .ptr H.length 0 ∧ t.getD 4 .undef = .ptr (H.length + 1) 0 ∧ t.getD 7 .undef = .sl (H.length + 2) 0 n 1 (some n) ∧ t.getD 8 .undef = .int .i64 (q : Int)) ∧ H ++ [.cells [.int .i64 a.em, .int .i64 a.px, .int .i64 a.rg, .int .i64 a.up, .int .i64 a.down, .int .i64 a.gap, .int .i64 a.w, .int .i64 a.h, vg, vp, vs] 33 true, .cells [.int .i64 (w : Int), .int .i64 (h : Int), .int .i64 v.x, .int .i64 v.y, .int .i64 v.n, .int .i64 v.d] 55 true, .cells (u8s (some' P n q)) 5 true] = H' ∧ ∃ i : Nat, i ≤ l.length ∧ k = l.length - i ∧ t.getD 9 .undef = .int .i64 (bestI a v (l.take i) q) ∧ t.getD 10 .undef = .int .i64 (i : Int)) l.length ?_ ?_
  · simp only [R1, R2, R3, R4, R5, R6, R7, R8, AV.flat, fillIn_nil, fillIn_cons, splice, AV.cells, AV.one, eqsOf, idx, SO.calls, List.reduceReplicate, Nat.reduceBEq, Nat.reduceLT, Nat.reduceAdd, Nat.reduceMul, Nat.reduceSub, Nat.reduceLeDiff, Nat.reduceEqDiff, ↓reduceIte, Int.reduceLT, Int.reduceEq, Int.reduceBNe, Int.reduceBEq, aeq, Int.reduceLE, Int.reduceNeg, Int.reduceMul, Int.reduceAdd, Int.reduceSub, Int.reduceToNat, Int.reducePow, g1, g2, g3, g4, g5, g6]
    exact ⟨0, by omega, by omega, rfl, rfl⟩
  rintro k u _ ⟨k1, ⟨k2, k3, k4, k5, k6⟩, rfl, i, hi, rfl, k7, k8⟩
  rw [← tm_nil u]
  by_cases hd : i < l.length
  · have b1 : ((i : Int) < (l.length : Int)) = True := eq_true (by omega)
    have w2 : IntKind.i64.wrap ((i : Int) + 1) = ((i + 1 : Nat) : Int) := by rw [wrap_i64 (by omega) (by omega)]; rfl
    have E := hl.elem hd
    have e6 := fun X => e4 X q hc l[i] (hok _ (List.getElem_mem hd))
    have hm := hbest i q hd
    generalize l[i] = p at *
    generalize bestI a v (l.take i) q = bi at *
    have t1 : (q : Int).tmod (w : Int) = ((q % w : Nat) : Int) := by rw [Int.tmod_eq_emod_of_nonneg (by omega)]; norm_cast
    have t2 : IntKind.i64.wrap ((q : Int).tdiv (w : Int)) = ((q / w : Nat) : Int) := by
      have := hq q
      rw [Int.tdiv_eq_ediv_of_nonneg (by omega), ← Int.natCast_ediv]
      generalize q / w = z at *
      exact wrap_i64 (by omega) (by omega)
    generalize q % w = x at *
    generalize q / w = y at *
    simp only [Pld.cs] at E e6
    simp only [R1, R2, R3, R4, R5, R6, R7, R8, AV.flat, fillIn_nil, fillIn_cons, splice, AV.cells, AV.one, eqsOf, idx, SO.calls, List.reduceReplicate, Nat.reduceBEq, Nat.reduceLT, Nat.reduceAdd, Nat.reduceMul, Nat.reduceSub, Nat.reduceLeDiff, Nat.reduceEqDiff, ↓reduceIte, Int.reduceLT, Int.reduceEq, Int.reduceBNe, Int.reduceBEq, aeq, Int.reduceLE, Int.reduceNeg, Int.reduceMul, Int.reduceAdd, Int.reduceSub, Int.reduceToNat, Int.reducePow, z1, z2, z3, z4, k1, k2, k3, k4, k5, k6, k7, k8, l2, b1, w2, t1, t2, c0, E, e6, hm, veil_un, shun_un]
    exact ⟨_, by omega, i + 1, by omega, rfl, rfl, rfl⟩
  · have b1 : ((i : Int) < (l.length : Int)) = False := eq_false (by omega)
    obtain rfl : i = l.length := by omega
    have w2 : IntKind.i64.wrap ((q : Int) + 1) = ((q + 1 : Nat) : Int) := by rw [wrap_i64 (by omega) (by omega)]; rfl
    have hbl := hle l.length q
    rw [List.take_length] at k7 hbl
    have w3 : IntKind.u8.wrap (bestI a v l q) = (b.toNat : Int) := by rw [wrap_u8_mod]; omega
    have r1 : (q + 1 ≤ (some' P n q).length) = True := eq_true (by rw [slen q (by omega)]; omega)
    have r2 := sset q b hc hb1
    simp only [splice, List.length_cons, List.length_nil, Nat.zero_add, List.append_assoc, List.cons_append, List.nil_append] at r2
    simp only [R1, R2, R3, R4, R5, R6, R7, R8, AV.flat, fillIn_nil, fillIn_cons, splice, AV.cells, AV.one, eqsOf, idx, SO.calls, List.reduceReplicate, Nat.reduceBEq, Nat.reduceLT, Nat.reduceAdd, Nat.reduceMul, Nat.reduceSub, Nat.reduceLeDiff, Nat.reduceEqDiff, ↓reduceIte, Int.reduceLT, Int.reduceEq, Int.reduceBNe, Int.reduceBEq, aeq, Int.reduceLE, Int.reduceNeg, Int.reduceMul, Int.reduceAdd, Int.reduceSub, Int.reduceToNat, Int.reducePow, k1, k2, k3, k4, k5, k6, k7, k8, l2, b1, a1, w2, w3, r1, r2]
    exact ⟨_, by omega, q + 1, rfl, by omega, rfl, rfl⟩
end Go.Proofs.YtbnnfmncipdlpaaDoor
