/- Chapter 25: the cell of an outline. -/
import Derived.Test.YthfpndelfbeknaaC25a
set_option linter.unusedVariables false
set_option linter.unusedSimpArgs false
set_option maxRecDepth 100000
set_option maxHeartbeats 1000000
namespace Go.Proofs.Ythfpndelfbeknaa
open Go Go.Den
theorem fine_lo2 {p q : Pt} (h1 : Fine p) (h2 : Fine q) : Fine (lo2 p q) ∧ (lo2 p q).x ≤ p.x ∧ (lo2 p q).y ≤ p.y := by
  unfold Fine lo2 at *; simp only; omega
theorem fine_hi2 {p q : Pt} (h1 : Fine p) (h2 : Fine q) : Fine (hi2 p q) ∧ p.x ≤ (hi2 p q).x ∧ p.y ≤ (hi2 p q).y := by
  unfold Fine hi2 at *; simp only; omega
theorem fold_lo : ∀ (l : List Pt) (s : Pt), Fine s → (∀ p ∈ l, Fine p) → Fine (l.foldl lo2 s) ∧ (l.foldl lo2 s).x ≤ s.x ∧ (l.foldl lo2 s).y ≤ s.y
  | [], s, h, _ => ⟨h, Int.le_refl _, Int.le_refl _⟩
  | p :: l, s, h, hl => by
    obtain ⟨a1, a2, a3⟩ := fine_lo2 h (hl p (by simp))
    obtain ⟨b1, b2, b3⟩ := fold_lo l (lo2 s p) a1 fun q hq => hl q (by simp [hq])
    exact ⟨b1, by simp only [List.foldl_cons]; omega, by simp only [List.foldl_cons]; omega⟩
theorem fold_hi : ∀ (l : List Pt) (s : Pt), Fine s → (∀ p ∈ l, Fine p) → Fine (l.foldl hi2 s) ∧ s.x ≤ (l.foldl hi2 s).x ∧ s.y ≤ (l.foldl hi2 s).y
  | [], s, h, _ => ⟨h, Int.le_refl _, Int.le_refl _⟩
  | p :: l, s, h, hl => by
    obtain ⟨a1, a2, a3⟩ := fine_hi2 h (hl p (by simp))
    obtain ⟨b1, b2, b3⟩ := fold_hi l (hi2 s p) a1 fun q hq => hl q (by simp [hq])
    exact ⟨b1, by simp only [List.foldl_cons]; omega, by simp only [List.foldl_cons]; omega⟩
theorem points_fine {e : Edge} (h : One e) : ∀ p ∈ pointsP e, Fine p := by
  intro p hp
  unfold pointsP at hp
  obtain ⟨h1, h2, h3, _⟩ := h
  split at hp <;> simp at hp
  · rcases hp with rfl | rfl | rfl <;> assumption
  · rcases hp with rfl | rfl <;> assumption
theorem lo_fine : ∀ (l : List Edge) (s : Pt), Fine s → (∀ e ∈ l, One e) → Fine (loP s l) ∧ (loP s l).x ≤ s.x ∧ (loP s l).y ≤ s.y
  | [], s, h, _ => ⟨h, Int.le_refl _, Int.le_refl _⟩
  | e :: l, s, h, hl => by
    obtain ⟨a1, a2, a3⟩ := fold_lo (pointsP e) s h (points_fine (hl e (by simp)))
    obtain ⟨b1, b2, b3⟩ := lo_fine l ((pointsP e).foldl lo2 s) a1 fun q hq => hl q (by simp [hq])
    have : loP s (e :: l) = loP ((pointsP e).foldl lo2 s) l := rfl
    rw [this]
    exact ⟨b1, by omega, by omega⟩
theorem hi_fine : ∀ (l : List Edge) (s : Pt), Fine s → (∀ e ∈ l, One e) → Fine (hiP s l) ∧ s.x ≤ (hiP s l).x ∧ s.y ≤ (hiP s l).y
  | [], s, h, _ => ⟨h, Int.le_refl _, Int.le_refl _⟩
  | e :: l, s, h, hl => by
    obtain ⟨a1, a2, a3⟩ := fold_hi (pointsP e) s h (points_fine (hl e (by simp)))
    obtain ⟨b1, b2, b3⟩ := hi_fine l ((pointsP e).foldl hi2 s) a1 fun q hq => hl q (by simp [hq])
    have : hiP s (e :: l) = hiP ((pointsP e).foldl hi2 s) l := rfl
    rw [this]
    exact ⟨b1, by omega, by omega⟩
/-- Of edges that may be: their box. -/
theorem box_may {l : List Edge} (h : mayP l = true) (h0 : l ≠ []) : ∃ lo hi, boxP l = (lo, hi, true) ∧ Fine lo ∧ Fine hi ∧ lo.x ≤ hi.x ∧ lo.y ≤ hi.y := by
  cases l with
  | nil => exact absurd rfl h0
  | cons e r =>
    have hall : ∀ x ∈ e :: r, One x := by
      unfold mayP at h
      simp only [Bool.and_eq_true, List.all_eq_true] at h
      intro x hx
      have := h.2.2 x hx
      unfold one at this
      exact of_decide_eq_true this
    have ha : Fine e.a := (hall e (by simp)).1
    obtain ⟨a1, a2, a3⟩ := lo_fine (e :: r) e.a ha hall
    obtain ⟨b1, b2, b3⟩ := hi_fine (e :: r) e.a ha hall
    exact ⟨_, _, rfl, a1, b1, by omega, by omega⟩
/-- From where, and how many. -/
def fromP (low t reach : Int) : Int := low / t - reach
def manyP (low high t reach : Int) : Int := reach - (-high) / t - (low / t - reach)
theorem neg_quo {a b t : Int} (ht : 32 ≤ t) (hab : a ≤ b) : (-b) / t ≤ -(a / t) := by
  have h1 : t * (a / t) ≤ a := Int.mul_ediv_self_le (by omega)
  have h3 : t * ((-b) / t) ≤ -b := Int.mul_ediv_self_le (by omega)
  refine Classical.byContradiction fun h => ?_
  have h5 : -(a / t) + 1 ≤ (-b) / t := by omega
  have h6 : t * (-(a / t) + 1) ≤ t * ((-b) / t) := Int.mul_le_mul_of_nonneg_left h5 (by omega)
  rw [Int.mul_add, Int.mul_one, Int.mul_neg] at h6
  omega
theorem c76 {low high em reach : Int} (h1 : 16 ≤ em) (h2 : em ≤ 16384) (h3 : 1 ≤ reach) (h4 : reach ≤ 17) (h5 : -33554432 ≤ low) (h6 : low ≤ high) (h7 : high ≤ 33554432) (H : Heap) :
    call env 76 [.int .i64 low, .int .i64 high, .int .i64 em, .int .i64 reach] H = some (.tup [.int .i64 (fromP low (2 * em) reach), .int .i64 (manyP low high (2 * em) reach)], H) := by
  obtain ⟨a1, a2⟩ := quo_low (a := low) (b := 2 * em) (by omega) (by omega) (by omega)
  obtain ⟨b1, b2⟩ := quo_low (a := -high) (b := 2 * em) (by omega) (by omega) (by omega)
  have e1 := fun H => c111 (a := low) (b := 2 * em) (by omega) (by omega) (by omega) H
  have e2 := fun H => c111 (a := -high) (b := 2 * em) (by omega) (by omega) (by omega) H
  have w1 := wrap_i64 (x := 2 * em) (by omega) (by omega)
  have w2 : IntKind.i64.wrap (0 - high) = -high := by rw [wrap_i64 (by omega) (by omega)]; omega
  unfold fromP manyP
  generalize low / (2 * em) = p at *
  generalize -high / (2 * em) = q at *
  have w3 := wrap_i64 (x := p - reach) (by omega) (by omega)
  have w4 : IntKind.i64.wrap (0 - q) = -q := by rw [wrap_i64 (by omega) (by omega)]; omega
  have w5 := wrap_i64 (x := -q + reach) (by omega) (by omega)
  have w6 : IntKind.i64.wrap (-q + reach - (p - reach)) = reach - q - (p - reach) := by rw [wrap_i64 (by omega) (by omega)]; omega
  refine call_ends (fn := s76) rfl rfl (by simp [s76]) ?_
  simp only [s76, ends_seq, ends_reg, ends_regd, ends_skip, ends_exit, ends_ret, ends_cond', endsIf_true, endsIf_false, ends_block, onward_normal, onward_exit, onward_ret, blocked_normal, blocked_exit, blocked_ret, mid_normal, mid_exit, mid_ret, looped_normal, looped_exit, looped_ret, again_normal, again_exit, again_ret, gets_some, left_ret, left_normal, res_many, resList_nil, resList_cons, consRes_some, result1_tmp, result1_cells, result1_cell, res_cells, res_cell, res0, res1, res2, res3, ops_n, ops_g, guard_true, guard_false, then_some, ops_nil, opsd_n, opsd_a, thenAllA_some, apartAll_nil, apartAll_n, rowKept_same, rowKept_ptr, rowKept_pv, sameAt_same, sameAt_end, sameAt_end0, sameAt_zero, sameAt_suc, opsd_u, opsd_g, guardd_all, guardd_some, guardd_false, thenAll_some, thenSome_some, opsd_nil, wants_none, wants_at, wantsV_undef, wantsV_true, wantsV_false, sop_fcall, sop_mv, sop_pick, sop_box, sop_build, sop_bsl, sop_load, sop_store, sop_nilck, sop_bin, sop_eqs, sop_un, sop_conv, sop_b2s, sop_s2b, sop_mkfn, sop_mksl, sop_slc, sop_faddr, sop_fld, sop_iaddr, sop_iarr, sop_ixs, sop_ixa, sop_extract, sop_app, sop_len, sop_copy, sop_mnmx, pick_true, pick_false, pick_or, pick_and, extract_0, extract_1, extract_2, extract_3, len_sl, len_vs, len_nils, len_str, conv_int, not_bool, neg_int, mnmx_int, nilck_ptr, nilck_pv, faddr_ptr, faddr_pv, bin_add, bin_sub, bin_mul, bin_quo, bin_rem, bin_eql, bin_neq, bin_lss, bin_leq, bin_gtr, bin_geq, bin_and, bin_or, bin_xor, bin_andNot, sop_slstr, mkS_size, mkS_data, str_lit, bin_eqs, bin_nes, bound_nat, bound_int, strCells_mkS, u8s_len, u8s_one, tidy_tup0, AV.flat, tidy_bool0, tidy_law, wrap_l0, wrap_l1, wrap_l2, wrap_l3, wrap_l4, wrap_l5, wrap_l6, wrap_l7, wrap_l8, wrap_l9, wrap_l10, ixs_str, iarr_ptr, iarr_pv, iaddr_sl, ixa_n, ixa_1, s2b_str, bin_shl_le, bin_shr_le, afold_max, afold_min, afold_nil, evb_none, evb_some, load_n, load_1, one_1, store_n, new_l, astore_end, astore_end0, astore_suc, astore_zero, aload_end, aload_end0, aload_suc, aload_zero, fillIn_nil, fillIn_cons, splice, AV.cells, AV.one, eqsOf, evx_v, evx_t, tm_put, put_none, tm_get, tm_length, blank_length, blank_get, idx, look_hit, look_on, look_nil, drop_app, drop_app0, take_app, take_app0, veil_nil, SO.calls, shun_nil, shun_cons, inRows_off, inRows_off0, inRows_at, inRows_at0, veil_off, veil_at, leads_ptr, leads_sl, leads_int, leads_bool, leads_str, leads_nils, leads_nilp, leads_pv, leads_vs, leads_undef, leads_agg, leads_tup, leadss_nil, leadss_cons, leads_cells, contains_nil, contains_cons, List.reduceReplicate, addMade_off, addMade_0, Nat.reduceBEq, addMade_same, sameH_refl, List.map_cons, List.map_nil, List.all_cons, List.all_nil, List.length_cons, List.length_nil, List.length_append, List.append_assoc, List.cons_append, List.nil_append, List.append_nil, List.drop_succ_cons, List.drop_zero, List.drop_length, List.take_length, List.take_succ_cons, List.take_zero, List.drop_nil, List.take_nil, bind_on, map_on, Option.getD_some, Option.getD_none, Nat.reduceLT, Nat.reduceAdd, Nat.reduceMul, Nat.reduceSub, Nat.reduceLeDiff, Nat.reduceEqDiff, Nat.add_zero, Nat.zero_add, Nat.le_refl, Nat.le_add_right, ↓reduceIte, Bool.and_true, Bool.true_and, Bool.not_true, Bool.not_false, Bool.false_eq_true, true_and, and_true, and_self, true_implies, false_implies, decide_eq_true_eq, decide_true, decide_false, Int.reduceLT, Int.reduceEq, Int.reduceBNe, Int.reduceBEq, aeq, Int.reduceLE, Int.toNat_natCast, Int.natCast_nonneg, Int.cast_ofNat_Int, Int.reduceNeg, Int.reduceMul, Int.reduceAdd, Int.reduceSub, Int.one_mul, Nat.mul_one, Nat.mul_zero, Nat.zero_mul, Int.reduceToNat, Int.reducePow, bits_u8, bits_u16, bits_u32, bits_u64, bits_i64, Int.ofNat_eq_natCast, beq_self_eq_true, Bool.not_eq_true', Bool.true_or, Bool.or_false, Bool.false_or, Bool.or_true, Bool.false_and, Bool.and_false, e1, e2, w1, w2, w3, w4, w5, w6, tidy_still0, AV.still]
def cellP (lo hi : Pt) (em r : Int) : Cell := ⟨fromP lo.x (2 * em) r, fromP lo.y (2 * em) r, manyP lo.x hi.x (2 * em) r, manyP lo.y hi.y (2 * em) r⟩
def OkC (c : Cell) (em : Int) : Prop := c.w ≤ 256 ∧ c.h ≤ 256 ∧ fine (mid c em 0 0) = true ∧ fine (mid c em (c.w - 1) (c.h - 1)) = true
instance (c : Cell) (em : Int) : Decidable (OkC c em) := by unfold OkC; exact inferInstance
def ofR (l : List Edge) (em r : Int) : Cell × Int :=
  if mayP l = true ∧ 16 ≤ em ∧ em ≤ 16384 ∧ 1 ≤ r ∧ r ≤ 16 then
    (if l = [] then (zeroC, 0) else if OkC (cellP (boxP l).1 (boxP l).2.1 em r) em then (cellP (boxP l).1 (boxP l).2.1 em r, 0) else (zeroC, 11))
  else (zeroC, 1)
theorem cell_low {lo hi : Pt} {em r : Int} (h1 : 16 ≤ em) (h2 : em ≤ 16384) (h3 : 1 ≤ r) (h4 : r ≤ 17) (hl : Fine lo) (hh : Fine hi) (hx : lo.x ≤ hi.x) (hy : lo.y ≤ hi.y) :
    -1048593 ≤ (cellP lo hi em r).x ∧ (cellP lo hi em r).x ≤ 1048576 ∧ -1048593 ≤ (cellP lo hi em r).y ∧ (cellP lo hi em r).y ≤ 1048576 ∧ 2 * r ≤ (cellP lo hi em r).w ∧ (cellP lo hi em r).w ≤ 2097200 ∧ 2 * r ≤ (cellP lo hi em r).h ∧ (cellP lo hi em r).h ≤ 2097200 := by
  unfold Fine at hl hh
  obtain ⟨a1, a2⟩ := quo_low (a := lo.x) (b := 2 * em) (by omega) (by omega) (by omega)
  obtain ⟨a3, a4⟩ := quo_low (a := lo.y) (b := 2 * em) (by omega) (by omega) (by omega)
  obtain ⟨a5, a6⟩ := quo_low (a := -hi.x) (b := 2 * em) (by omega) (by omega) (by omega)
  obtain ⟨a7, a8⟩ := quo_low (a := -hi.y) (b := 2 * em) (by omega) (by omega) (by omega)
  have n1 := neg_quo (t := 2 * em) (by omega) hx
  have n2 := neg_quo (t := 2 * em) (by omega) hy
  simp only [cellP, fromP, manyP]
  omega
/-- A middle that may be lies in no cell too far away. -/
theorem mid_may {c : Cell} {em i : Int} (h1 : 16 ≤ em) {z : Int} (h : -33554432 ≤ (2 * z + 1) * em) (h' : (2 * z + 1) * em ≤ 33554432) : -1048576 ≤ z ∧ z ≤ 1048576 := by
  constructor
  · refine Classical.byContradiction fun hn => ?_
    have h2 : 2 * z + 1 ≤ -2097153 := by omega
    have h3 : (2 * z + 1) * em ≤ (-2097153) * em := Int.mul_le_mul_of_nonneg_right h2 (by omega)
    omega
  · refine Classical.byContradiction fun hn => ?_
    have h2 : 2097155 ≤ 2 * z + 1 := by omega
    have h3 : 2097155 * em ≤ (2 * z + 1) * em := Int.mul_le_mul_of_nonneg_right h2 (by omega)
    omega
theorem ok_may {c : Cell} {em : Int} (h1 : 16 ≤ em) (hw : 1 ≤ c.w) (hw2 : c.w ≤ 256) (hh : 1 ≤ c.h) (hh2 : c.h ≤ 256) (h : fine (mid c em 0 0) = true) : MayC c := by
  have h2 : Fine (mid c em 0 0) := of_decide_eq_true h
  simp only [Fine, mid, Int.add_zero] at h2
  have a1 := mid_may (c := c) (i := 0) h1 (z := c.x) (by omega) (by omega)
  have a2 := mid_may (c := c) (i := 0) h1 (z := c.y) (by omega) (by omega)
  unfold MayC; omega
theorem middle_err {c : Cell} {em : Int} (h1 : 16 ≤ em) (h2 : em ≤ 16384) (hw : 1 ≤ c.w) (hw2 : c.w ≤ 256) (hh : 1 ≤ c.h) (hh2 : c.h ≤ 256) :
    (OkC c em → (middleR c em 0 0).2 = 0 ∧ (middleR c em (c.w - 1) (c.h - 1)).2 = 0) ∧ (¬ OkC c em → (middleR c em 0 0).2 ≠ 0 ∨ (middleR c em (c.w - 1) (c.h - 1)).2 ≠ 0) := by
  constructor
  · rintro ⟨_, _, h3, h4⟩
    have hm := ok_may h1 hw hw2 hh hh2 h3
    constructor
    · unfold middleR; rw [if_pos ⟨hm, by omega, by omega, by omega, by omega, by omega, by omega⟩, if_pos h3]
    · unfold middleR; rw [if_pos ⟨hm, by omega, by omega, by omega, by omega, by omega, by omega⟩, if_pos h4]
  · intro hn
    by_cases h3 : fine (mid c em 0 0) = true
    · right
      have h4 : ¬ fine (mid c em (c.w - 1) (c.h - 1)) = true := fun h4 => hn ⟨hw2, hh2, h3, h4⟩
      unfold middleR
      split
      · simp
      · simp
    · left
      unfold middleR
      split
      · simp
      · simp
end Go.Proofs.Ythfpndelfbeknaa
