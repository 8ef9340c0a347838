/- Chapter 11: MetricPlaces, in the machine. -/
import Derived.Test.YthfpndelfbeknaaC11l
set_option linter.unusedVariables false
set_option linter.unusedSimpArgs false
set_option maxRecDepth 100000
set_option maxHeartbeats 1000000
namespace Go.Proofs.Ythfpndelfbeknaa
open Go Go.Den
theorem num_put2 {x : Nat} (h : x < 65536) : num (putB x 2) = x := by
  simp [num, putB]; omega
theorem num_put4 {x : Nat} (h : x < 4294967296) : num (putB x 4) = x := by
  simp [num, putB]; omega
theorem lcB_pre (b : Bool) (l : List Int) (i : Nat) : ∀ d, ∃ r, lcB b l (i + d) = lcB b l i ++ r
  | 0 => ⟨[], by simp⟩
  | d + 1 => by
    obtain ⟨r, h⟩ := lcB_pre b l i d
    exact ⟨r ++ lc1 b l (i + d), by rw [← Nat.add_assoc, lcB_suc, h, List.append_assoc]⟩
theorem lcB_at {b : Bool} {l : List Int} {n k : Nat} (hk : k < n) : ((lcB b l n).drop (ea b * k)).take (ea b) = lc1 b l k := by
  obtain ⟨r, h⟩ := lcB_pre b l (k + 1) (n - (k + 1))
  rw [show k + 1 + (n - (k + 1)) = n by omega] at h
  rw [h, lcB_suc, List.append_assoc, List.drop_append_of_le_length (by rw [lcB_len]; exact Nat.le_refl _), List.drop_of_length_le (by rw [lcB_len]; exact Nat.le_refl _), List.nil_append,
    List.take_append_of_le_length (by rw [lc1_len]; exact Nat.le_refl _), List.take_of_length_le (by rw [lc1_len]; exact Nat.le_refl _)]
theorem pl_back {b : Bool} {l : List Int} {n k : Nat} (hk : k < n) (h0 : 0 ≤ l.getD k 0) (h1 : l.getD k 0 ≤ 1048576) (h2 : b = false → l.getD k 0 % 2 = 0 ∧ l.getD k 0 ≤ 131070) : pl b (lcB b l n) k = l.getD k 0 := by
  have e := lcB_at (b := b) (l := l) hk
  unfold pl
  cases b
  · have := h2 rfl
    simp only [ea_f] at e
    rw [if_neg (by decide), e, lc1, if_neg (by decide), num_put2 (by omega)]
    omega
  · simp only [ea_t] at e
    rw [if_pos rfl, e, lc1, if_pos rfl, num_put4 (by omega)]
    omega
theorem rising {b : Bool} {l : List Int} {n : Nat} (hg : ∀ i, i < n → badL b l i = false) (i : Nat) : ∀ d, i + d < n → l.getD i 0 ≤ l.getD (i + d) 0
  | 0, _ => Int.le_refl _
  | d + 1, h => by
    have h1 := rising hg i d (by omega)
    have h2 := (goodL (hg (i + (d + 1)) h)).1
    have : lastP (l.getD · 0) (i + (d + 1)) = l.getD (i + d) 0 := by simp [lastP, ← Nat.add_assoc]
    rw [this] at h2
    omega
/-- What was made is read again. -/
theorem places_back {h : Hd} {l : List Int} (he : (LocaR h l).2 = 0) : PlacesR h (LocaR h l).1 (l.getD (l.length - 1) 0) = (l, 0) ∧ (LocaR h l).1.length ≤ 100000 ∧ 2 ≤ l.length := by
  unfold LocaR at he ⊢
  split at he
  · rename_i hg
    rw [if_pos hg]
    split at he
    · simp at he
    · rename_i hb
      rw [if_neg hb]
      obtain ⟨hm, hg⟩ := hg
      have hm' := hm
      obtain ⟨m1, m2, m3, m4, m5, m6, m7, m8, m9⟩ := hm'
      have good : ∀ i, i < l.length → badL h.long l i = false := fun i hi => by
        cases hh : badL h.long l i
        · rfl
        · exact absurd (anyL hi hh) hb
      have hlen := lcB_len h.long l l.length
      have hle := lcB_le h.long l l.length
      have hn : h.glyphs.toNat + 1 = l.length := by omega
      have hpl : ∀ i, i < l.length → pl h.long (lcB h.long l l.length) i = l.getD i 0 := fun i hi => by
        have g := goodL (good i hi)
        have := lastL_pos i fun j hj => good j (by omega)
        exact pl_back hi (by omega) g.2.1 g.2.2
      refine ⟨?_, by show (lcB h.long l l.length).length ≤ _; omega, by omega⟩
      unfold PlacesR
      rw [if_pos hm, if_neg (by rw [hlen, Int.natCast_mul, ← hg]; omega), hn, if_neg]
      · simp only [Prod.mk.injEq, and_true]
        apply List.ext_getElem
        · simp
        · intro i hi hi2
          simp only [List.getElem_map, List.getElem_range]
          rw [hpl i hi2, getD_at' hi2]
      · refine not_any fun i hi => decide_eq_false ?_
        have g := goodL (good i hi)
        have hr := rising good i (l.length - 1 - i) (by omega)
        rw [show i + (l.length - 1 - i) = l.length - 1 by omega] at hr
        have hlast : lastP (pl h.long (lcB h.long l l.length)) i = lastP (l.getD · 0) i := by
          unfold lastP
          split
          · rfl
          · exact hpl (i - 1) (by omega)
        rw [hpl i hi, hlast]
        omega
  · simp at he
theorem shun_un {made : List (Nat × Nat × Nat)} {v : AV} {new : Heap} : shun [] made v new = true := by simp [shun]
theorem veil_un : ∀ {made : List (Nat × Nat × Nat)} {H : Heap}, veil [] made H = H
  | [], H => rfl
  | p :: r, H => by simp only [veil, List.contains_nil, Bool.false_eq_true, if_false]; exact veil_un
theorem c13 (h : Hd) {v : AV} {l : List Int} (hs : SlOf [] 1 IntC v l) : call env 13 [.agg h.cs, v] [] = some (.bool true, []) := by
  have e0 := fun H => w34 H
  have e1 := fun H => c35 h H
  have e2 := hs.lenOf
  by_cases hn : l.length ≤ 110
  · have d1 : ((l.length : Int) > 110) = False := eq_false (by omega)
    cases hf : fewP h
    · rw [hf] at e1
      simp only [Hd.cs] at e1 ⊢
      refine call_ends (fn := s13) rfl rfl (by simp [s13]) ?_
      simp only [s13, ends_seq, ends_reg, ends_regd, ends_skip, ends_exit, ends_ret, ends_cond', endsIf_true, endsIf_false, ends_block, onward_normal, onward_exit, onward_ret, blocked_normal, blocked_exit, blocked_ret, mid_normal, mid_exit, mid_ret, looped_normal, looped_exit, looped_ret, again_normal, again_exit, again_ret, gets_some, left_ret, left_normal, res_many, resList_nil, resList_cons, consRes_some, result1_tmp, result1_cells, result1_cell, res_cells, res_cell, res0, res1, res2, res3, ops_n, ops_g, guard_true, guard_false, then_some, ops_nil, opsd_n, opsd_a, thenAllA_some, apartAll_nil, apartAll_n, rowKept_same, rowKept_ptr, rowKept_pv, sameAt_same, sameAt_end, sameAt_end0, sameAt_zero, sameAt_suc, opsd_u, opsd_g, guardd_all, guardd_some, guardd_false, thenAll_some, thenSome_some, opsd_nil, wants_none, wants_at, wantsV_undef, wantsV_true, wantsV_false, sop_fcall, sop_mv, sop_pick, sop_box, sop_build, sop_bsl, sop_load, sop_store, sop_nilck, sop_bin, sop_eqs, sop_un, sop_conv, sop_b2s, sop_s2b, sop_mkfn, sop_mksl, sop_slc, sop_faddr, sop_fld, sop_iaddr, sop_iarr, sop_ixs, sop_ixa, sop_extract, sop_app, sop_len, sop_copy, sop_mnmx, pick_true, pick_false, pick_or, pick_and, extract_0, extract_1, extract_2, extract_3, len_sl, len_vs, len_nils, len_str, conv_int, not_bool, neg_int, mnmx_int, nilck_ptr, nilck_pv, faddr_ptr, faddr_pv, bin_add, bin_sub, bin_mul, bin_quo, bin_rem, bin_eql, bin_neq, bin_lss, bin_leq, bin_gtr, bin_geq, bin_and, bin_or, bin_xor, bin_andNot, sop_slstr, mkS_size, mkS_data, str_lit, bin_eqs, bin_nes, bound_nat, bound_int, strCells_mkS, u8s_len, u8s_one, tidy_tup0, AV.flat, tidy_bool0, tidy_law, wrap_l0, wrap_l1, wrap_l2, wrap_l3, wrap_l4, wrap_l5, wrap_l6, wrap_l7, wrap_l8, wrap_l9, wrap_l10, ixs_str, iarr_ptr, iarr_pv, iaddr_sl, ixa_n, ixa_1, s2b_str, bin_shl_le, bin_shr_le, afold_max, afold_min, afold_nil, evb_none, evb_some, load_n, load_1, one_1, store_n, new_l, astore_end, astore_end0, astore_suc, astore_zero, aload_end, aload_end0, aload_suc, aload_zero, fillIn_nil, fillIn_cons, splice, AV.cells, AV.one, eqsOf, evx_v, evx_t, tm_put, put_none, tm_get, tm_length, blank_length, blank_get, idx, look_hit, look_on, look_nil, drop_app, drop_app0, take_app, take_app0, veil_nil, SO.calls, shun_nil, shun_cons, inRows_off, inRows_off0, inRows_at, inRows_at0, veil_off, veil_at, leads_ptr, leads_sl, leads_int, leads_bool, leads_str, leads_nils, leads_nilp, leads_pv, leads_vs, leads_undef, leads_agg, leads_tup, leadss_nil, leadss_cons, leads_cells, contains_nil, contains_cons, List.reduceReplicate, addMade_off, addMade_0, Nat.reduceBEq, addMade_same, sameH_refl, List.map_cons, List.map_nil, List.all_cons, List.all_nil, List.length_cons, List.length_nil, List.length_append, List.append_assoc, List.cons_append, List.nil_append, List.append_nil, List.drop_succ_cons, List.drop_zero, List.drop_length, List.take_length, List.take_succ_cons, List.take_zero, List.drop_nil, List.take_nil, bind_on, map_on, Option.getD_some, Option.getD_none, Nat.reduceLT, Nat.reduceAdd, Nat.reduceMul, Nat.reduceSub, Nat.reduceLeDiff, Nat.reduceEqDiff, Nat.add_zero, Nat.zero_add, Nat.le_refl, Nat.le_add_right, ↓reduceIte, Bool.and_true, Bool.true_and, Bool.not_true, Bool.not_false, Bool.false_eq_true, true_and, and_true, and_self, true_implies, false_implies, decide_eq_true_eq, decide_true, decide_false, Int.reduceLT, Int.reduceEq, Int.reduceBNe, Int.reduceBEq, aeq, Int.reduceLE, Int.toNat_natCast, Int.natCast_nonneg, Int.cast_ofNat_Int, Int.reduceNeg, Int.reduceMul, Int.reduceAdd, Int.reduceSub, Int.one_mul, Nat.mul_one, Nat.mul_zero, Nat.zero_mul, Int.reduceToNat, Int.reducePow, bits_u8, bits_u16, bits_u32, bits_u64, bits_i64, Int.ofNat_eq_natCast, beq_self_eq_true, Bool.not_eq_true', Bool.true_or, Bool.or_false, Bool.false_or, Bool.or_true, Bool.false_and, Bool.and_false, e0, e1, e2, d1]
    · rw [hf] at e1
      have q1 := fun X => c51 h (hs.app X) (by omega)
      have q2 := fun X => c52 h (hs.app X) (by omega)
      by_cases hz : (LocaR h l).2 = 0
      · obtain ⟨hb, hl, h2⟩ := places_back hz
        have hc1 : l.length - 1 < l.length := by omega
        rw [getD_at' hc1] at hb
        obtain ⟨v1, X1, q3, s1⟩ := c38 h (s := (LocaR h l).1) (by omega) l[l.length - 1] [.cells h.cs 71 true]
        rw [hb] at q3 s1
        have q4 := c40 s1 (hs.app ([.cells h.cs 71 true] ++ X1)) (by simpa using (by omega : l.length ≤ 1000000))
        have w2 : IntKind.i64.wrap ((l.length : Int) - 1) = ((l.length - 1 : Nat) : Int) := by rw [wrap_i64 (by omega) (by omega)]; omega
        have E3 := fun H' => hs.addr hc1 .i64 H'
        have E4 := fun X => hs.load hc1 X
        simp only [IntC, Nat.mul_one, List.nil_append] at E3 E4
        rw [hz] at q1 q2
        generalize (LocaR h l).1 = s at q1 q2 q3
        simp only [List.nil_append, Hd.cs] at e1 q1 q2 q3 q4 ⊢
        simp only [ends_seq, ends_reg, ends_regd, ends_skip, ends_exit, ends_ret, ends_cond', endsIf_true, endsIf_false, ends_block, onward_normal, onward_exit, onward_ret, blocked_normal, blocked_exit, blocked_ret, mid_normal, mid_exit, mid_ret, looped_normal, looped_exit, looped_ret, again_normal, again_exit, again_ret, gets_some, left_ret, left_normal, res_many, resList_nil, resList_cons, consRes_some, result1_tmp, result1_cells, result1_cell, res_cells, res_cell, res0, res1, res2, res3, ops_n, ops_g, guard_true, guard_false, then_some, ops_nil, opsd_n, opsd_a, thenAllA_some, apartAll_nil, apartAll_n, rowKept_same, rowKept_ptr, rowKept_pv, sameAt_same, sameAt_end, sameAt_end0, sameAt_zero, sameAt_suc, opsd_u, opsd_g, guardd_all, guardd_some, guardd_false, thenAll_some, thenSome_some, opsd_nil, wants_none, wants_at, wantsV_undef, wantsV_true, wantsV_false, sop_fcall, sop_mv, sop_pick, sop_box, sop_build, sop_bsl, sop_load, sop_store, sop_nilck, sop_bin, sop_eqs, sop_un, sop_conv, sop_b2s, sop_s2b, sop_mkfn, sop_mksl, sop_slc, sop_faddr, sop_fld, sop_iaddr, sop_iarr, sop_ixs, sop_ixa, sop_extract, sop_app, sop_len, sop_copy, sop_mnmx, pick_true, pick_false, pick_or, pick_and, extract_0, extract_1, extract_2, extract_3, len_sl, len_vs, len_nils, len_str, conv_int, not_bool, neg_int, mnmx_int, nilck_ptr, nilck_pv, faddr_ptr, faddr_pv, bin_add, bin_sub, bin_mul, bin_quo, bin_rem, bin_eql, bin_neq, bin_lss, bin_leq, bin_gtr, bin_geq, bin_and, bin_or, bin_xor, bin_andNot, sop_slstr, mkS_size, mkS_data, str_lit, bin_eqs, bin_nes, bound_nat, bound_int, strCells_mkS, u8s_len, u8s_one, tidy_tup0, AV.flat, tidy_bool0, tidy_law, wrap_l0, wrap_l1, wrap_l2, wrap_l3, wrap_l4, wrap_l5, wrap_l6, wrap_l7, wrap_l8, wrap_l9, wrap_l10, ixs_str, iarr_ptr, iarr_pv, iaddr_sl, ixa_n, ixa_1, s2b_str, bin_shl_le, bin_shr_le, afold_max, afold_min, afold_nil, evb_none, evb_some, load_n, load_1, one_1, store_n, new_l, astore_end, astore_end0, astore_suc, astore_zero, aload_end, aload_end0, aload_suc, aload_zero, fillIn_nil, fillIn_cons, splice, AV.cells, AV.one, eqsOf, evx_v, evx_t, tm_put, put_none, tm_get, tm_length, blank_length, blank_get, idx, look_hit, look_on, look_nil, drop_app, drop_app0, take_app, take_app0, veil_nil, SO.calls, shun_nil, shun_cons, inRows_off, inRows_off0, inRows_at, inRows_at0, veil_off, veil_at, leads_ptr, leads_sl, leads_int, leads_bool, leads_str, leads_nils, leads_nilp, leads_pv, leads_vs, leads_undef, leads_agg, leads_tup, leadss_nil, leadss_cons, leads_cells, contains_nil, contains_cons, List.reduceReplicate, addMade_off, addMade_0, Nat.reduceBEq, addMade_same, sameH_refl, List.map_cons, List.map_nil, List.all_cons, List.all_nil, List.length_cons, List.length_nil, List.length_append, List.append_assoc, List.cons_append, List.nil_append, List.append_nil, List.drop_succ_cons, List.drop_zero, List.drop_length, List.take_length, List.take_succ_cons, List.take_zero, List.drop_nil, List.take_nil, bind_on, map_on, Option.getD_some, Option.getD_none, Nat.reduceLT, Nat.reduceAdd, Nat.reduceMul, Nat.reduceSub, Nat.reduceLeDiff, Nat.reduceEqDiff, Nat.add_zero, Nat.zero_add, Nat.le_refl, Nat.le_add_right, ↓reduceIte, Bool.and_true, Bool.true_and, Bool.not_true, Bool.not_false, Bool.false_eq_true, true_and, and_true, and_self, true_implies, false_implies, decide_eq_true_eq, decide_true, decide_false, Int.reduceLT, Int.reduceEq, Int.reduceBNe, Int.reduceBEq, aeq, Int.reduceLE, Int.toNat_natCast, Int.natCast_nonneg, Int.cast_ofNat_Int, Int.reduceNeg, Int.reduceMul, Int.reduceAdd, Int.reduceSub, Int.one_mul, Nat.mul_one, Nat.mul_zero, Nat.zero_mul, Int.reduceToNat, Int.reducePow, bits_u8, bits_u16, bits_u32, bits_u64, bits_i64, Int.ofNat_eq_natCast, beq_self_eq_true, Bool.not_eq_true', Bool.true_or, Bool.or_false, Bool.false_or, Bool.or_true, Bool.false_and, Bool.and_false] at q3 q4
        refine call_ends (fn := s13) rfl rfl (by simp [s13]) ?_
        simp only [s13, ends_seq, ends_reg, ends_regd, ends_skip, ends_exit, ends_ret, ends_cond', endsIf_true, endsIf_false, ends_block, onward_normal, onward_exit, onward_ret, blocked_normal, blocked_exit, blocked_ret, mid_normal, mid_exit, mid_ret, looped_normal, looped_exit, looped_ret, again_normal, again_exit, again_ret, gets_some, left_ret, left_normal, res_many, resList_nil, resList_cons, consRes_some, result1_tmp, result1_cells, result1_cell, res_cells, res_cell, res0, res1, res2, res3, ops_n, ops_g, guard_true, guard_false, then_some, ops_nil, opsd_n, opsd_a, thenAllA_some, apartAll_nil, apartAll_n, rowKept_same, rowKept_ptr, rowKept_pv, sameAt_same, sameAt_end, sameAt_end0, sameAt_zero, sameAt_suc, opsd_u, opsd_g, guardd_all, guardd_some, guardd_false, thenAll_some, thenSome_some, opsd_nil, wants_none, wants_at, wantsV_undef, wantsV_true, wantsV_false, sop_fcall, sop_mv, sop_pick, sop_box, sop_build, sop_bsl, sop_load, sop_store, sop_nilck, sop_bin, sop_eqs, sop_un, sop_conv, sop_b2s, sop_s2b, sop_mkfn, sop_mksl, sop_slc, sop_faddr, sop_fld, sop_iaddr, sop_iarr, sop_ixs, sop_ixa, sop_extract, sop_app, sop_len, sop_copy, sop_mnmx, pick_true, pick_false, pick_or, pick_and, extract_0, extract_1, extract_2, extract_3, len_sl, len_vs, len_nils, len_str, conv_int, not_bool, neg_int, mnmx_int, nilck_ptr, nilck_pv, faddr_ptr, faddr_pv, bin_add, bin_sub, bin_mul, bin_quo, bin_rem, bin_eql, bin_neq, bin_lss, bin_leq, bin_gtr, bin_geq, bin_and, bin_or, bin_xor, bin_andNot, sop_slstr, mkS_size, mkS_data, str_lit, bin_eqs, bin_nes, bound_nat, bound_int, strCells_mkS, u8s_len, u8s_one, tidy_tup0, AV.flat, tidy_bool0, tidy_law, wrap_l0, wrap_l1, wrap_l2, wrap_l3, wrap_l4, wrap_l5, wrap_l6, wrap_l7, wrap_l8, wrap_l9, wrap_l10, ixs_str, iarr_ptr, iarr_pv, iaddr_sl, ixa_n, ixa_1, s2b_str, bin_shl_le, bin_shr_le, afold_max, afold_min, afold_nil, evb_none, evb_some, load_n, load_1, one_1, store_n, new_l, astore_end, astore_end0, astore_suc, astore_zero, aload_end, aload_end0, aload_suc, aload_zero, fillIn_nil, fillIn_cons, splice, AV.cells, AV.one, eqsOf, evx_v, evx_t, tm_put, put_none, tm_get, tm_length, blank_length, blank_get, idx, look_hit, look_on, look_nil, drop_app, drop_app0, take_app, take_app0, veil_nil, SO.calls, shun_nil, shun_cons, inRows_off, inRows_off0, inRows_at, inRows_at0, veil_off, veil_at, leads_ptr, leads_sl, leads_int, leads_bool, leads_str, leads_nils, leads_nilp, leads_pv, leads_vs, leads_undef, leads_agg, leads_tup, leadss_nil, leadss_cons, leads_cells, contains_nil, contains_cons, List.reduceReplicate, addMade_off, addMade_0, Nat.reduceBEq, addMade_same, sameH_refl, List.map_cons, List.map_nil, List.all_cons, List.all_nil, List.length_cons, List.length_nil, List.length_append, List.append_assoc, List.cons_append, List.nil_append, List.append_nil, List.drop_succ_cons, List.drop_zero, List.drop_length, List.take_length, List.take_succ_cons, List.take_zero, List.drop_nil, List.take_nil, bind_on, map_on, Option.getD_some, Option.getD_none, Nat.reduceLT, Nat.reduceAdd, Nat.reduceMul, Nat.reduceSub, Nat.reduceLeDiff, Nat.reduceEqDiff, Nat.add_zero, Nat.zero_add, Nat.le_refl, Nat.le_add_right, ↓reduceIte, Bool.and_true, Bool.true_and, Bool.not_true, Bool.not_false, Bool.false_eq_true, true_and, and_true, and_self, true_implies, false_implies, decide_eq_true_eq, decide_true, decide_false, Int.reduceLT, Int.reduceEq, Int.reduceBNe, Int.reduceBEq, aeq, Int.reduceLE, Int.toNat_natCast, Int.natCast_nonneg, Int.cast_ofNat_Int, Int.reduceNeg, Int.reduceMul, Int.reduceAdd, Int.reduceSub, Int.one_mul, Nat.mul_one, Nat.mul_zero, Nat.zero_mul, Int.reduceToNat, Int.reducePow, bits_u8, bits_u16, bits_u32, bits_u64, bits_i64, Int.ofNat_eq_natCast, beq_self_eq_true, Bool.not_eq_true', Bool.true_or, Bool.or_false, Bool.false_or, Bool.or_true, Bool.false_and, Bool.and_false, e0, e1, e2, d1, q1, q2, q3, q4, w2, E3, E4, bne_self_eq_false, shun_un, veil_un]
      · have b1 : ((LocaR h l).2 != 0) = true := by simp [hz]
        generalize (LocaR h l).1 = s at q1 q2
        generalize (LocaR h l).2 = f at q1 q2 b1
        simp only [List.nil_append, Hd.cs] at e1 q1 q2 ⊢
        refine call_ends (fn := s13) rfl rfl (by simp [s13]) ?_
        simp only [s13, ends_seq, ends_reg, ends_regd, ends_skip, ends_exit, ends_ret, ends_cond', endsIf_true, endsIf_false, ends_block, onward_normal, onward_exit, onward_ret, blocked_normal, blocked_exit, blocked_ret, mid_normal, mid_exit, mid_ret, looped_normal, looped_exit, looped_ret, again_normal, again_exit, again_ret, gets_some, left_ret, left_normal, res_many, resList_nil, resList_cons, consRes_some, result1_tmp, result1_cells, result1_cell, res_cells, res_cell, res0, res1, res2, res3, ops_n, ops_g, guard_true, guard_false, then_some, ops_nil, opsd_n, opsd_a, thenAllA_some, apartAll_nil, apartAll_n, rowKept_same, rowKept_ptr, rowKept_pv, sameAt_same, sameAt_end, sameAt_end0, sameAt_zero, sameAt_suc, opsd_u, opsd_g, guardd_all, guardd_some, guardd_false, thenAll_some, thenSome_some, opsd_nil, wants_none, wants_at, wantsV_undef, wantsV_true, wantsV_false, sop_fcall, sop_mv, sop_pick, sop_box, sop_build, sop_bsl, sop_load, sop_store, sop_nilck, sop_bin, sop_eqs, sop_un, sop_conv, sop_b2s, sop_s2b, sop_mkfn, sop_mksl, sop_slc, sop_faddr, sop_fld, sop_iaddr, sop_iarr, sop_ixs, sop_ixa, sop_extract, sop_app, sop_len, sop_copy, sop_mnmx, pick_true, pick_false, pick_or, pick_and, extract_0, extract_1, extract_2, extract_3, len_sl, len_vs, len_nils, len_str, conv_int, not_bool, neg_int, mnmx_int, nilck_ptr, nilck_pv, faddr_ptr, faddr_pv, bin_add, bin_sub, bin_mul, bin_quo, bin_rem, bin_eql, bin_neq, bin_lss, bin_leq, bin_gtr, bin_geq, bin_and, bin_or, bin_xor, bin_andNot, sop_slstr, mkS_size, mkS_data, str_lit, bin_eqs, bin_nes, bound_nat, bound_int, strCells_mkS, u8s_len, u8s_one, tidy_tup0, AV.flat, tidy_bool0, tidy_law, wrap_l0, wrap_l1, wrap_l2, wrap_l3, wrap_l4, wrap_l5, wrap_l6, wrap_l7, wrap_l8, wrap_l9, wrap_l10, ixs_str, iarr_ptr, iarr_pv, iaddr_sl, ixa_n, ixa_1, s2b_str, bin_shl_le, bin_shr_le, afold_max, afold_min, afold_nil, evb_none, evb_some, load_n, load_1, one_1, store_n, new_l, astore_end, astore_end0, astore_suc, astore_zero, aload_end, aload_end0, aload_suc, aload_zero, fillIn_nil, fillIn_cons, splice, AV.cells, AV.one, eqsOf, evx_v, evx_t, tm_put, put_none, tm_get, tm_length, blank_length, blank_get, idx, look_hit, look_on, look_nil, drop_app, drop_app0, take_app, take_app0, veil_nil, SO.calls, shun_nil, shun_cons, inRows_off, inRows_off0, inRows_at, inRows_at0, veil_off, veil_at, leads_ptr, leads_sl, leads_int, leads_bool, leads_str, leads_nils, leads_nilp, leads_pv, leads_vs, leads_undef, leads_agg, leads_tup, leadss_nil, leadss_cons, leads_cells, contains_nil, contains_cons, List.reduceReplicate, addMade_off, addMade_0, Nat.reduceBEq, addMade_same, sameH_refl, List.map_cons, List.map_nil, List.all_cons, List.all_nil, List.length_cons, List.length_nil, List.length_append, List.append_assoc, List.cons_append, List.nil_append, List.append_nil, List.drop_succ_cons, List.drop_zero, List.drop_length, List.take_length, List.take_succ_cons, List.take_zero, List.drop_nil, List.take_nil, bind_on, map_on, Option.getD_some, Option.getD_none, Nat.reduceLT, Nat.reduceAdd, Nat.reduceMul, Nat.reduceSub, Nat.reduceLeDiff, Nat.reduceEqDiff, Nat.add_zero, Nat.zero_add, Nat.le_refl, Nat.le_add_right, ↓reduceIte, Bool.and_true, Bool.true_and, Bool.not_true, Bool.not_false, Bool.false_eq_true, true_and, and_true, and_self, true_implies, false_implies, decide_eq_true_eq, decide_true, decide_false, Int.reduceLT, Int.reduceEq, Int.reduceBNe, Int.reduceBEq, aeq, Int.reduceLE, Int.toNat_natCast, Int.natCast_nonneg, Int.cast_ofNat_Int, Int.reduceNeg, Int.reduceMul, Int.reduceAdd, Int.reduceSub, Int.one_mul, Nat.mul_one, Nat.mul_zero, Nat.zero_mul, Int.reduceToNat, Int.reducePow, bits_u8, bits_u16, bits_u32, bits_u64, bits_i64, Int.ofNat_eq_natCast, beq_self_eq_true, Bool.not_eq_true', Bool.true_or, Bool.or_false, Bool.false_or, Bool.or_true, Bool.false_and, Bool.and_false, e0, e1, e2, d1, q1, q2, b1, bne_self_eq_false]
  · have d1 : ((l.length : Int) > 110) = True := eq_true (by omega)
    simp only [Hd.cs]
    refine call_ends (fn := s13) rfl rfl (by simp [s13]) ?_
    simp only [s13, ends_seq, ends_reg, ends_regd, ends_skip, ends_exit, ends_ret, ends_cond', endsIf_true, endsIf_false, ends_block, onward_normal, onward_exit, onward_ret, blocked_normal, blocked_exit, blocked_ret, mid_normal, mid_exit, mid_ret, looped_normal, looped_exit, looped_ret, again_normal, again_exit, again_ret, gets_some, left_ret, left_normal, res_many, resList_nil, resList_cons, consRes_some, result1_tmp, result1_cells, result1_cell, res_cells, res_cell, res0, res1, res2, res3, ops_n, ops_g, guard_true, guard_false, then_some, ops_nil, opsd_n, opsd_a, thenAllA_some, apartAll_nil, apartAll_n, rowKept_same, rowKept_ptr, rowKept_pv, sameAt_same, sameAt_end, sameAt_end0, sameAt_zero, sameAt_suc, opsd_u, opsd_g, guardd_all, guardd_some, guardd_false, thenAll_some, thenSome_some, opsd_nil, wants_none, wants_at, wantsV_undef, wantsV_true, wantsV_false, sop_fcall, sop_mv, sop_pick, sop_box, sop_build, sop_bsl, sop_load, sop_store, sop_nilck, sop_bin, sop_eqs, sop_un, sop_conv, sop_b2s, sop_s2b, sop_mkfn, sop_mksl, sop_slc, sop_faddr, sop_fld, sop_iaddr, sop_iarr, sop_ixs, sop_ixa, sop_extract, sop_app, sop_len, sop_copy, sop_mnmx, pick_true, pick_false, pick_or, pick_and, extract_0, extract_1, extract_2, extract_3, len_sl, len_vs, len_nils, len_str, conv_int, not_bool, neg_int, mnmx_int, nilck_ptr, nilck_pv, faddr_ptr, faddr_pv, bin_add, bin_sub, bin_mul, bin_quo, bin_rem, bin_eql, bin_neq, bin_lss, bin_leq, bin_gtr, bin_geq, bin_and, bin_or, bin_xor, bin_andNot, sop_slstr, mkS_size, mkS_data, str_lit, bin_eqs, bin_nes, bound_nat, bound_int, strCells_mkS, u8s_len, u8s_one, tidy_tup0, AV.flat, tidy_bool0, tidy_law, wrap_l0, wrap_l1, wrap_l2, wrap_l3, wrap_l4, wrap_l5, wrap_l6, wrap_l7, wrap_l8, wrap_l9, wrap_l10, ixs_str, iarr_ptr, iarr_pv, iaddr_sl, ixa_n, ixa_1, s2b_str, bin_shl_le, bin_shr_le, afold_max, afold_min, afold_nil, evb_none, evb_some, load_n, load_1, one_1, store_n, new_l, astore_end, astore_end0, astore_suc, astore_zero, aload_end, aload_end0, aload_suc, aload_zero, fillIn_nil, fillIn_cons, splice, AV.cells, AV.one, eqsOf, evx_v, evx_t, tm_put, put_none, tm_get, tm_length, blank_length, blank_get, idx, look_hit, look_on, look_nil, drop_app, drop_app0, take_app, take_app0, veil_nil, SO.calls, shun_nil, shun_cons, inRows_off, inRows_off0, inRows_at, inRows_at0, veil_off, veil_at, leads_ptr, leads_sl, leads_int, leads_bool, leads_str, leads_nils, leads_nilp, leads_pv, leads_vs, leads_undef, leads_agg, leads_tup, leadss_nil, leadss_cons, leads_cells, contains_nil, contains_cons, List.reduceReplicate, addMade_off, addMade_0, Nat.reduceBEq, addMade_same, sameH_refl, List.map_cons, List.map_nil, List.all_cons, List.all_nil, List.length_cons, List.length_nil, List.length_append, List.append_assoc, List.cons_append, List.nil_append, List.append_nil, List.drop_succ_cons, List.drop_zero, List.drop_length, List.take_length, List.take_succ_cons, List.take_zero, List.drop_nil, List.take_nil, bind_on, map_on, Option.getD_some, Option.getD_none, Nat.reduceLT, Nat.reduceAdd, Nat.reduceMul, Nat.reduceSub, Nat.reduceLeDiff, Nat.reduceEqDiff, Nat.add_zero, Nat.zero_add, Nat.le_refl, Nat.le_add_right, ↓reduceIte, Bool.and_true, Bool.true_and, Bool.not_true, Bool.not_false, Bool.false_eq_true, true_and, and_true, and_self, true_implies, false_implies, decide_eq_true_eq, decide_true, decide_false, Int.reduceLT, Int.reduceEq, Int.reduceBNe, Int.reduceBEq, aeq, Int.reduceLE, Int.toNat_natCast, Int.natCast_nonneg, Int.cast_ofNat_Int, Int.reduceNeg, Int.reduceMul, Int.reduceAdd, Int.reduceSub, Int.one_mul, Nat.mul_one, Nat.mul_zero, Nat.zero_mul, Int.reduceToNat, Int.reducePow, bits_u8, bits_u16, bits_u32, bits_u64, bits_i64, Int.ofNat_eq_natCast, beq_self_eq_true, Bool.not_eq_true', Bool.true_or, Bool.or_false, Bool.false_or, Bool.or_true, Bool.false_and, Bool.and_false, e0, e2, d1]
end Go.Proofs.Ythfpndelfbeknaa
