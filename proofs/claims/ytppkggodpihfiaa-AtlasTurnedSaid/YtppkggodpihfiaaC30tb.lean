/- Chapter 30: the law AtlasTurned. -/
import Derived.Test.YtppkggodpihfiaaC30f
import Derived.Test.YtppkggodpihfiaaC30v
import Derived.Test.YtppkggodpihfiaaC30y
import Derived.Test.YtppkggodpihfiaaC30ta
set_option linter.unusedVariables false
set_option linter.unusedSimpArgs false
set_option maxRecDepth 100000
set_option maxHeartbeats 4000000
namespace Go.Proofs.Ytppkggodpihfiaa
open Go Go.Den
theorem few_pages {a : Atl} (h : FewA a) : a.pgs.flatten.length ≤ 8000 := by
  obtain ⟨h1, _, _, h4⟩ := h
  have gen : ∀ l : List (List UInt8), (∀ s ∈ l, s.length ≤ 2000) → l.flatten.length ≤ 2000 * l.length := by
    intro l hl
    induction l with
    | nil => simp
    | cons s l ih =>
      have := ih fun s hs => hl s (by simp [hs])
      have := hl s (by simp)
      rw [List.flatten_cons, List.length_append, List.length_cons]; omega
  have := gen _ h1
  omega
theorem str_row {H : Heap} {o n : Nat} {q : List UInt8} {c : Option Nat} (h : arow H o = some (u8s q)) (hn : n = q.length) : strOf (.sl o 0 n 1 c) H = some (.str (mkS q), H) := by
  subst hn
  have h1 : acells H (.sl o 0 q.length 1 c) = some (u8s q) := by
    simp only [acells, aload, h]
    rw [if_pos (by rw [u8s_len]; omega), List.drop_zero, List.take_of_length_le (by rw [u8s_len]; omega)]
  simp only [strOf, h1, alen, Option.bind_some, u8s_len, if_true, bytesOf_u8s, Option.map_some]
  rfl
theorem u8s_at {p : List UInt8} {k : Nat} (hk : k < p.length) : ((u8s p).drop k).take 1 = [AV.int .u8 (p[k].toNat : Int)] := by
  rw [List.drop_eq_getElem_cons (by rw [u8s_len]; exact hk)]
  simp [u8s]
theorem u8s_set {p : List UInt8} {k : Nat} (c : UInt8) (hk : k < p.length) : splice (u8s p) k [AV.int .u8 (c.toNat : Int)] = u8s (p.set k c) := by
  unfold splice
  rw [List.set_eq_take_append_cons_drop, if_pos hk]
  simp [u8s, List.map_take, List.map_drop]
theorem c8 {a : Atl} {vg vp vs : AV} (hs : AtlOf [] a vg vp vs) (hl : a.pgs.length ≤ 9223372036854775807) (at_ : Nat) (hat : at_ < 65536) (c : UInt8) :
    ∃ H', call env 8 [.agg (a.cs vg vp vs), .int .u16 (at_ : Int), .int .u8 (c.toNat : Int)] [] = some (.bool true, H') := by
  have z1 := slof_cell hs.gl
  have z2 := slof_cell hs.pr
  have z3 := slof_cell hs.pgs
  simp only [AV.cells, AV.one] at z1 z2 z3
  have hsX : ∀ X : Heap, AtlOf X a vg vp vs := fun X => by simpa using hs.app X
  have eF := fun X => c24 (hsX X) hl
  by_cases hf : FewA a
  case neg =>
    rw [decide_eq_false hf] at eF
    simp only [Atl.cs] at eF ⊢
    refine ⟨[], ?_⟩
    refine call_ends (fn := s8) rfl rfl (by simp [s8]) ?_
    simp only [s8, R1, R2, R3, R4, R5, R6, R7, R8, AV.flat, fillIn_nil, fillIn_cons, splice, AV.cells, AV.one, eqsOf, idx, SO.calls, List.reduceReplicate, Nat.reduceBEq, Nat.reduceLT, Nat.reduceAdd, Nat.reduceMul, Nat.reduceSub, Nat.reduceLeDiff, Nat.reduceEqDiff, ↓reduceIte, Int.reduceLT, Int.reduceEq, Int.reduceBNe, Int.reduceBEq, aeq, Int.reduceLE, Int.reduceNeg, Int.reduceMul, Int.reduceAdd, Int.reduceSub, Int.reduceToNat, Int.reducePow, w23, eF, z1, z2, z3]
    try rw [tidy_law]
  rw [decide_eq_true hf] at eF
  have hT := few_pages hf
  have k1 : a.gl.length ≤ 10 := hf.2.1
  have k2 : a.pr.length ≤ 20 := hf.2.2.1
  have k3 : a.pgs.length ≤ 4 := hf.2.2.2
  have hd : ∀ s ∈ a.pgs, s.length ≤ 1000000000 := fun s h => by have := hf.1 s h; omega
  have eR := fun X => c27 (hsX X) (by omega) hd
  by_cases hm : MayA a
  case neg =>
    rw [decide_eq_false hm] at eR
    simp only [Atl.cs] at eF eR ⊢
    refine ⟨[], ?_⟩
    refine call_ends (fn := s8) rfl rfl (by simp [s8]) ?_
    simp only [s8, R1, R2, R3, R4, R5, R6, R7, R8, AV.flat, fillIn_nil, fillIn_cons, splice, AV.cells, AV.one, eqsOf, idx, SO.calls, List.reduceReplicate, Nat.reduceBEq, Nat.reduceLT, Nat.reduceAdd, Nat.reduceMul, Nat.reduceSub, Nat.reduceLeDiff, Nat.reduceEqDiff, ↓reduceIte, Int.reduceLT, Int.reduceEq, Int.reduceBNe, Int.reduceBEq, aeq, Int.reduceLE, Int.reduceNeg, Int.reduceMul, Int.reduceAdd, Int.reduceSub, Int.reduceToNat, Int.reducePow, w23, eF, eR, z1, z2, z3]
    try rw [tidy_law]
  rw [decide_eq_true hm] at eR
  have e2 := fun X => c29 (hsX X) hm (by omega)
  obtain ⟨d1, d2⟩ := dec_enc hm
  have hlen := encP_len a
  have hg1 : 1 ≤ a.gl.length := hm.1.2.2.2.2.2.2.2.2.2.2.2.2.2.2.1
  generalize encP a = p at *
  have hn : 0 < p.length := by omega
  obtain ⟨k, hk⟩ : ∃ k, k = at_ % p.length := ⟨_, rfl⟩
  have hkl : k < p.length := by rw [hk]; exact Nat.mod_lt _ hn
  have w1 := wrap_i64 (x := (at_ : Int)) (by omega) (by omega)
  have w2 : ((at_ : Int)).tmod (p.length : Int) = (k : Int) := by rw [hk]; exact (Int.ofNat_tmod at_ p.length).symm
  have b1 : ((p.length : Int) = 0) = False := eq_false (by omega)
  have y1 := u8s_at hkl
  have y2 : (u8s p).take k ++ AV.int .u8 (c.toNat : Int) :: (u8s p).drop (k + 1) = u8s (p.set k c) := by
    rw [← u8s_set c hkl]; simp [splice]
  have b2 : ((k : Int) < (p.length : Int)) = True := eq_true (by omega)
  have b3 : (k + 1 ≤ p.length) = True := eq_true (by omega)
  have hql : (p.set k c).length = p.length := List.length_set
  have b4 : (p[k].toNat == c.toNat) = (decide (decE (p.set k c) = 0)) := by
    by_cases hc : p[k] = c
    · have : p.set k c = p := by rw [← hc]; exact List.set_getElem_self hkl
      rw [this, hc]; simp [d1]
    · have h1 : ¬ decE (p.set k c) = 0 := fun h => by
        have := turned_no hkl d1 h
        rw [List.getElem?_eq_getElem hkl] at this
        exact hc (Option.some.inj this)
      rw [decide_eq_false h1, beq_eq_false_iff_ne]
      exact fun h => hc (UInt8.toNat_inj.1 h)
  have b5 : (((p[k].toNat : Nat) : Int) == ((c.toNat : Nat) : Int)) = (decE (p.set k c) == 0) := by
    have e : (((p[k].toNat : Nat) : Int) == ((c.toNat : Nat) : Int)) = (p[k].toNat == c.toNat) := by
      rw [Bool.eq_iff_iff, beq_iff_eq, beq_iff_eq]; omega
    rw [e, b4, Bool.eq_iff_iff, beq_iff_eq, decide_eq_true_eq]
  obtain ⟨q, hq⟩ : ∃ q, q = p.set k c := ⟨_, rfl⟩
  rw [← hq] at y2 b5 hql
  obtain ⟨box, hbox⟩ : ∃ box, box = AO.cells (a.cs vg vp vs) 53 true := ⟨_, rfl⟩
  have f1 : strOf (.sl 1 0 p.length 1 none) [box, .raw (u8s q) 5] = some (.str (mkS q), [box, .raw (u8s q) 5]) := str_row rfl hql.symm
  obtain ⟨r1, e3, g1, g2, g3, X1, rfl, A1⟩ := c28 q [box, .raw (u8s q) 5] (by omega)
  have sl := fun H => slstr_hi (H := H) (l := p) (b := p.length - 1) (by omega)
  have w3 : IntKind.i64.wrap ((p.length : Int) - 1) = ((p.length - 1 : Nat) : Int) := by rw [wrap_i64 (by omega) (by omega)]; omega
  obtain ⟨r2, e4, h1, h2, h3, X2, rfl, A2⟩ := c28 (p.take (p.length - 1)) ([box, .raw (u8s q) 5] ++ X1 ++ [.cells ((decA q).cs g1 g2 g3) 53 true]) (by rw [List.length_take]; omega)
  have s2 := short_no d1 (by omega)
  have s3 := long_no (c := c) d1
  rw [s2] at e4
  have p1 := slof_cell A1.gl
  have p2 := slof_cell A1.pr
  have p3 := slof_cell A1.pgs
  have q1 := slof_cell A2.gl
  have q2 := slof_cell A2.pr
  have q3 := slof_cell A2.pgs
  simp only [AV.cells, AV.one] at p1 p2 p3 q1 q2 q3
  have f2 : ∀ u1 u2 u3 u4 : AO, strOf (.sl (X1.length + (X2.length + 1 + 1) + 1 + 1) 0 1 1 (some 1)) (u1 :: u2 :: (X1 ++ u3 :: (X2 ++ [u4, .cells [AV.int .u8 (c.toNat : Int)] 5 true]))) = some (.str (mkS [c]), u1 :: u2 :: (X1 ++ u3 :: (X2 ++ [u4, .cells [AV.int .u8 (c.toNat : Int)] 5 true]))) := fun u1 u2 u3 u4 => by
    refine str_row (q := [c]) ?_ rfl
    have hi : (u1 :: u2 :: (X1 ++ u3 :: (X2 ++ [u4, AO.cells [AV.int .u8 (c.toNat : Int)] 5 true])))[X1.length + (X2.length + 1 + 1) + 1 + 1]? = some (AO.cells [AV.int .u8 (c.toNat : Int)] 5 true) := by
      rw [List.getElem?_cons_succ, List.getElem?_cons_succ, List.getElem?_append_right (by omega), Nat.add_sub_cancel_left, List.getElem?_cons_succ, List.getElem?_append_right (by omega), Nat.add_sub_cancel_left]
      rfl
    simp only [arow, hi]
    rfl
  have f3 := fun H => @bin_adds H p [c] (by simp only [List.length_cons, List.length_nil]; omega)
  obtain ⟨r3, e5, i1, i2, i3, X3, rfl, A3⟩ := c28 (p ++ [c]) ([box, .raw (u8s q) 5] ++ X1 ++ [.cells ((decA q).cs g1 g2 g3) 53 true] ++ X2 ++ [.cells ((decA (p.take (p.length - 1))).cs h1 h2 h3) 53 true, .cells [AV.int .u8 (c.toNat : Int)] 5 true]) (by rw [List.length_append]; simp only [List.length_cons, List.length_nil]; omega)
  rw [s3] at e5
  have t1 := slof_cell A3.gl
  have t2 := slof_cell A3.pr
  have t3 := slof_cell A3.pgs
  simp only [AV.cells, AV.one] at t1 t2 t3
  have bs : ((decE q == 0) == (decE q == 0)) = true := by simp
  rw [hbox] at e3 e4 e5 f1
  simp only [Atl.cs, List.cons_append, List.nil_append, List.append_assoc] at eF eR e2 e3 e4 e5 f1 ⊢
  refine ⟨[], ?_⟩
  refine call_ends (fn := s8) rfl rfl (by simp [s8]) ?_
  simp only [s8, R1, R2, R3, R4, R5, R6, R7, R8, AV.flat, fillIn_nil, fillIn_cons, splice, AV.cells, AV.one, eqsOf, idx, SO.calls, List.reduceReplicate, Nat.reduceBEq, Nat.reduceLT, Nat.reduceAdd, Nat.reduceMul, Nat.reduceSub, Nat.reduceLeDiff, Nat.reduceEqDiff, ↓reduceIte, Int.reduceLT, Int.reduceEq, Int.reduceBNe, Int.reduceBEq, aeq, Int.reduceLE, Int.reduceNeg, Int.reduceMul, Int.reduceAdd, Int.reduceSub, Int.reduceToNat, Int.reducePow, w23, eF, eR, e2, z1, z2, z3, w1, w2, b1, b2, b3, y1, y2, b5, f1, e3, p1, p2, p3, sl, w3, e4, q1, q2, q3, f2, f3, e5, t1, t2, t3, bs]
  try rw [tidy_law]
end Go.Proofs.Ytppkggodpihfiaa
