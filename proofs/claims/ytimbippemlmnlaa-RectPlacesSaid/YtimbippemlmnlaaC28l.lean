/- RectLists, in the machine. -/
import Derived.Test.YtimbippemlmnlaaC28k
set_option linter.unusedVariables false
set_option linter.unusedSimpArgs false
set_option maxRecDepth 100000
set_option maxHeartbeats 1000000
namespace Go.Proofs.Ytimbippemlmnlaa
open Go Go.Den
theorem veil_app (u : List Nat) : ∀ (m : List (Nat × Nat × Nat)) (p : Nat × Nat × Nat) (H : Heap), veil u (m ++ [p]) H = (if u.contains p.1 then (veil u m H).take p.2.1 ++ List.replicate p.2.2 .dead ++ (veil u m H).drop (p.2.1 + p.2.2) else veil u m H)
  | [], p, H => by rw [List.nil_append, veil_cons, veil_nil]; rfl
  | q :: m, p, H => by rw [List.cons_append, veil_cons, veil_app u m p, veil_cons]
theorem veil_other {u : List Nat} {m : List (Nat × Nat × Nat)} {i n n' : Nat} {H : Heap} (h : u.contains i = false) : veil u (addMade m i n n') H = veil u m H := by
  unfold addMade
  split
  · rfl
  · rw [veil_app, h]; simp
/-- the rows that one operation made, and those behind them, are not known. -/
theorem veil_this {u : List Nat} {m : List (Nat × Nat × Nat)} {i : Nat} {Hb X : Heap} (h : u.contains i = true) (hm : veil u m (Hb ++ X) = Hb ++ X) : veil u (addMade m i Hb.length (Hb ++ X).length) (Hb ++ X) = Hb ++ List.replicate X.length .dead := by
  unfold addMade
  split
  · rename_i he
    rw [List.length_append] at he
    have : X = [] := List.length_eq_zero_iff.1 (by omega)
    subst this
    rw [hm]; simp
  · rw [veil_app, h, hm]
    simp only [if_true, List.length_append, Nat.add_sub_cancel_left, List.take_left]
    rw [List.drop_of_length_le (by simp)]
    simp
theorem leads_in {v : AV} {l : List Rect} (hs : SlOf [] 4 Rect.cs v l) (p : Nat → Bool) : v.leads p = true := by
  rcases hs.kind with ⟨o, off, cap, row, h1, h2, _⟩ | ⟨n, h1⟩ | ⟨h1, _⟩
  · simp [arow] at h2
  · subst h1; rfl
  · subst h1; rfl
theorem c12 {v : AV} {l : List Rect} (r : Rect) (hs : SlOf [] 4 Rect.cs v l) : call env 12 [v, .agg r.cs] [] = some (.bool true, []) := by
  have e1 := hs.lenOf
  refine call_ends (fn := s12) rfl rfl (by simp [s12]) ?_
  by_cases h40 : l.length ≤ 40
  · have b1 : ((l.length : Int) > 40) = False := eq_false (by omega)
    have hs0 : ∀ X, SlOf X 4 Rect.cs v l := fun X => by simpa using hs.app X
    obtain ⟨w1, X1, e2, h2⟩ := c61 r (hs0 [.cells r.cs 81 true]) (by omega)
    obtain ⟨w2, X2, e3, h3⟩ := c62 r (hs0 ([.cells r.cs 81 true] ++ X1)) (by omega)
    have hcl : (cutAll (l.filter may) r).length ≤ 1000000 := by
      have hml := List.length_filter_le may l
      have := cutTo_len r (l.filter may)
      unfold cutAll; split <;> omega
    have e4 := c59 (h2.app X2) h3 hcl
    have e5 := c63 (hs0 ([.cells r.cs 81 true] ++ X1 ++ X2)) (by omega)
    have h5 := newSl_of (H := [.cells r.cs 81 true] ++ X1 ++ X2) (e := 81) (rect_size (prune (l.filter may))) (by decide)
    generalize (newSl ([.cells r.cs 81 true] ++ X1 ++ X2) 81 4 Rect.cs (prune (l.filter may))).1 = w3 at e5 h5
    generalize (newSl ([.cells r.cs 81 true] ++ X1 ++ X2) 81 4 Rect.cs (prune (l.filter may))).2 = X3 at e5 h5
    have e6 := c64 (hs0 ([.cells r.cs 81 true] ++ X1 ++ X2 ++ X3)) (by omega)
    have h6 := newSl_of (H := [.cells r.cs 81 true] ++ X1 ++ X2 ++ X3) (e := 81) (rect_size (prune (l.filter may))) (by decide)
    generalize (newSl ([.cells r.cs 81 true] ++ X1 ++ X2 ++ X3) 81 4 Rect.cs (prune (l.filter may))).1 = w4 at e6 h6
    generalize (newSl ([.cells r.cs 81 true] ++ X1 ++ X2 ++ X3) 81 4 Rect.cs (prune (l.filter may))).2 = X4 at e6 h6
    have hpl : (prune (l.filter may)).length ≤ 1000000 := by
      have := pruneTo_len (l.filter may) (l.filter may).length
      have := List.length_filter_le may l
      unfold prune; omega
    have e7 := c59 (h5.app X4) h6 hpl
    have v1 := veil_this (u := [2]) (m := []) (i := 2) (Hb := [.cells r.cs 81 true]) (X := X1) rfl rfl
    have v3 := fun a b c d => veil_this (u := [9]) (m := addMade (addMade [] 2 a b) 5 c d) (i := 9) (Hb := [.cells r.cs 81 true] ++ X1 ++ X2) (X := X3) rfl (by rw [veil_other rfl, veil_other rfl]; rfl)
    have hv := leads_in hs
    simp only [Rect.cs, ends_seq, ends_reg, ends_regd, ends_skip, ends_exit, ends_ret, ends_cond, ends_block, onward_normal, onward_exit, onward_ret, cond_bool, blocked_normal, blocked_exit, blocked_ret, mid_normal, mid_exit, mid_ret, again_normal, again_exit, again_ret, gets_some, left_ret, left_normal, res_cells, res_cell, res0, res1, res2, res3, ops_n, ops_g, guard_true, guard_false, then_some, ops_nil, opsd_n, opsd_u, opsd_g, guardd_all, guardd_some, guardd_false, thenAll_some, thenSome_some, opsd_nil, wants_none, wants_at, wantsV_true, wantsV_false, sop_fcall, sop_mv, sop_pick, sop_box, sop_build, sop_bsl, sop_load, sop_store, sop_nilck, sop_bin, sop_eqs, sop_un, sop_conv, sop_b2s, sop_s2b, sop_mkfn, sop_mksl, sop_slc, sop_faddr, sop_fld, sop_iaddr, sop_iarr, sop_ixs, sop_ixa, sop_extract, sop_app, sop_len, sop_copy, sop_mnmx, pick_true, pick_false, pick_or, pick_and, extract_0, extract_1, extract_2, extract_3, len_sl, len_vs, len_nils, len_str, conv_int, not_bool, neg_int, mnmx_int, nilck_ptr, nilck_pv, faddr_ptr, faddr_pv, bin_add, bin_sub, bin_mul, bin_quo, bin_rem, bin_eql, bin_neq, bin_lss, bin_leq, bin_gtr, bin_geq, bin_and, bin_or, bin_xor, bin_andNot, sop_slstr, mkS_size, mkS_data, str_lit, bin_eqs, bin_nes, bound_nat, bound_int, strCells_mkS, u8s_len, u8s_one, tidy_tup0, AV.flat, tidy_bool0, ixs_str, iarr_ptr, iarr_pv, iaddr_sl, s2b_str, bin_shl_le, bin_shr_le, afold_max, afold_min, afold_nil, evb_none, evb_some, load_n, load_1, one_1, store_n, new_l, astore_end, astore_end0, astore_suc, astore_zero, aload_end, aload_end0, aload_suc, aload_zero, fillIn_nil, fillIn_cons, splice, AV.cells, AV.one, eqsOf, evx_v, evx_t, tm_put, put_none, tm_get, tm_length, blank_length, blank_get, idx, look_hit, look_on, look_nil, drop_app, drop_app0, take_app, take_app0, veil_nil, SO.calls, shun, addMade_same, sameH_refl, List.map_cons, List.map_nil, List.all_cons, List.all_nil, List.length_cons, List.length_nil, List.length_append, List.append_assoc, List.cons_append, List.nil_append, List.append_nil, List.drop_succ_cons, List.drop_zero, List.drop_length, List.take_length, List.take_succ_cons, List.take_zero, List.drop_nil, List.take_nil, bind_on, map_on, Option.getD_some, Option.getD_none, Nat.reduceLT, Nat.reduceAdd, Nat.reduceMul, Nat.reduceSub, Nat.reduceLeDiff, Nat.reduceEqDiff, Nat.add_zero, Nat.zero_add, Nat.le_refl, ↓reduceIte, Bool.and_true, Bool.true_and, Bool.not_true, Bool.not_false, Bool.false_eq_true, true_and, and_true, and_self, true_implies, false_implies, decide_eq_true_eq, decide_true, decide_false, Int.reduceLT, Int.reduceEq, Int.reduceBNe, Int.reduceBEq, aeq, Int.reduceLE, Int.toNat_natCast, Int.natCast_nonneg, Int.cast_ofNat_Int, Int.reduceNeg, Int.reduceMul, Int.reduceAdd, Int.reduceSub, Int.one_mul, Nat.mul_one, Nat.mul_zero, Nat.zero_mul, Int.reduceToNat, Int.reducePow, bits_u8, bits_u16, bits_u32, bits_u64, bits_i64, Int.ofNat_eq_natCast, beq_self_eq_true, Bool.not_eq_true', Bool.true_or, Bool.or_false, Bool.false_or, Bool.or_true, Bool.false_and, Bool.and_false] at e2 e3 e4 e5 e6 e7 v1 v3
    simp only [s12, Rect.cs, ends_seq, ends_reg, ends_regd, ends_skip, ends_exit, ends_ret, ends_cond, ends_block, onward_normal, onward_exit, onward_ret, cond_bool, blocked_normal, blocked_exit, blocked_ret, mid_normal, mid_exit, mid_ret, again_normal, again_exit, again_ret, gets_some, left_ret, left_normal, res_cells, res_cell, res0, res1, res2, res3, ops_n, ops_g, guard_true, guard_false, then_some, ops_nil, opsd_n, opsd_u, opsd_g, guardd_all, guardd_some, guardd_false, thenAll_some, thenSome_some, opsd_nil, wants_none, wants_at, wantsV_true, wantsV_false, sop_fcall, sop_mv, sop_pick, sop_box, sop_build, sop_bsl, sop_load, sop_store, sop_nilck, sop_bin, sop_eqs, sop_un, sop_conv, sop_b2s, sop_s2b, sop_mkfn, sop_mksl, sop_slc, sop_faddr, sop_fld, sop_iaddr, sop_iarr, sop_ixs, sop_ixa, sop_extract, sop_app, sop_len, sop_copy, sop_mnmx, pick_true, pick_false, pick_or, pick_and, extract_0, extract_1, extract_2, extract_3, len_sl, len_vs, len_nils, len_str, conv_int, not_bool, neg_int, mnmx_int, nilck_ptr, nilck_pv, faddr_ptr, faddr_pv, bin_add, bin_sub, bin_mul, bin_quo, bin_rem, bin_eql, bin_neq, bin_lss, bin_leq, bin_gtr, bin_geq, bin_and, bin_or, bin_xor, bin_andNot, sop_slstr, mkS_size, mkS_data, str_lit, bin_eqs, bin_nes, bound_nat, bound_int, strCells_mkS, u8s_len, u8s_one, tidy_tup0, AV.flat, tidy_bool0, ixs_str, iarr_ptr, iarr_pv, iaddr_sl, s2b_str, bin_shl_le, bin_shr_le, afold_max, afold_min, afold_nil, evb_none, evb_some, load_n, load_1, one_1, store_n, new_l, astore_end, astore_end0, astore_suc, astore_zero, aload_end, aload_end0, aload_suc, aload_zero, fillIn_nil, fillIn_cons, splice, AV.cells, AV.one, eqsOf, evx_v, evx_t, tm_put, put_none, tm_get, tm_length, blank_length, blank_get, idx, look_hit, look_on, look_nil, drop_app, drop_app0, take_app, take_app0, veil_nil, SO.calls, shun, addMade_same, sameH_refl, List.map_cons, List.map_nil, List.all_cons, List.all_nil, List.length_cons, List.length_nil, List.length_append, List.append_assoc, List.cons_append, List.nil_append, List.append_nil, List.drop_succ_cons, List.drop_zero, List.drop_length, List.take_length, List.take_succ_cons, List.take_zero, List.drop_nil, List.take_nil, bind_on, map_on, Option.getD_some, Option.getD_none, Nat.reduceLT, Nat.reduceAdd, Nat.reduceMul, Nat.reduceSub, Nat.reduceLeDiff, Nat.reduceEqDiff, Nat.add_zero, Nat.zero_add, Nat.le_refl, ↓reduceIte, Bool.and_true, Bool.true_and, Bool.not_true, Bool.not_false, Bool.false_eq_true, true_and, and_true, and_self, true_implies, false_implies, decide_eq_true_eq, decide_true, decide_false, Int.reduceLT, Int.reduceEq, Int.reduceBNe, Int.reduceBEq, aeq, Int.reduceLE, Int.toNat_natCast, Int.natCast_nonneg, Int.cast_ofNat_Int, Int.reduceNeg, Int.reduceMul, Int.reduceAdd, Int.reduceSub, Int.one_mul, Nat.mul_one, Nat.mul_zero, Nat.zero_mul, Int.reduceToNat, Int.reducePow, bits_u8, bits_u16, bits_u32, bits_u64, bits_i64, Int.ofNat_eq_natCast, beq_self_eq_true, Bool.not_eq_true', Bool.true_or, Bool.or_false, Bool.false_or, Bool.or_true, Bool.false_and, Bool.and_false, w51, e1, b1, e2, e3, e4, e5, e6, e7, v1, v3, hv, veil_none, List.length_replicate, Nat.add_le_add_iff_right, Nat.add_le_add_iff_left, all_skip, all_true, Nat.le_add_right, List.drop_replicate, Nat.sub_self, List.replicate_zero, AV.leads, leadss]
  · have b1 : ((l.length : Int) > 40) = True := eq_true (by omega)
    simp only [s12, Rect.cs, ends_seq, ends_reg, ends_regd, ends_skip, ends_exit, ends_ret, ends_cond, ends_block, onward_normal, onward_exit, onward_ret, cond_bool, blocked_normal, blocked_exit, blocked_ret, mid_normal, mid_exit, mid_ret, again_normal, again_exit, again_ret, gets_some, left_ret, left_normal, res_cells, res_cell, res0, res1, res2, res3, ops_n, ops_g, guard_true, guard_false, then_some, ops_nil, opsd_n, opsd_u, opsd_g, guardd_all, guardd_some, guardd_false, thenAll_some, thenSome_some, opsd_nil, wants_none, wants_at, wantsV_true, wantsV_false, sop_fcall, sop_mv, sop_pick, sop_box, sop_build, sop_bsl, sop_load, sop_store, sop_nilck, sop_bin, sop_eqs, sop_un, sop_conv, sop_b2s, sop_s2b, sop_mkfn, sop_mksl, sop_slc, sop_faddr, sop_fld, sop_iaddr, sop_iarr, sop_ixs, sop_ixa, sop_extract, sop_app, sop_len, sop_copy, sop_mnmx, pick_true, pick_false, pick_or, pick_and, extract_0, extract_1, extract_2, extract_3, len_sl, len_vs, len_nils, len_str, conv_int, not_bool, neg_int, mnmx_int, nilck_ptr, nilck_pv, faddr_ptr, faddr_pv, bin_add, bin_sub, bin_mul, bin_quo, bin_rem, bin_eql, bin_neq, bin_lss, bin_leq, bin_gtr, bin_geq, bin_and, bin_or, bin_xor, bin_andNot, sop_slstr, mkS_size, mkS_data, str_lit, bin_eqs, bin_nes, bound_nat, bound_int, strCells_mkS, u8s_len, u8s_one, tidy_tup0, AV.flat, tidy_bool0, ixs_str, iarr_ptr, iarr_pv, iaddr_sl, s2b_str, bin_shl_le, bin_shr_le, afold_max, afold_min, afold_nil, evb_none, evb_some, load_n, load_1, one_1, store_n, new_l, astore_end, astore_end0, astore_suc, astore_zero, aload_end, aload_end0, aload_suc, aload_zero, fillIn_nil, fillIn_cons, splice, AV.cells, AV.one, eqsOf, evx_v, evx_t, tm_put, put_none, tm_get, tm_length, blank_length, blank_get, idx, look_hit, look_on, look_nil, drop_app, drop_app0, take_app, take_app0, veil_nil, SO.calls, shun, addMade_same, sameH_refl, List.map_cons, List.map_nil, List.all_cons, List.all_nil, List.length_cons, List.length_nil, List.length_append, List.append_assoc, List.cons_append, List.nil_append, List.append_nil, List.drop_succ_cons, List.drop_zero, List.drop_length, List.take_length, List.take_succ_cons, List.take_zero, List.drop_nil, List.take_nil, bind_on, map_on, Option.getD_some, Option.getD_none, Nat.reduceLT, Nat.reduceAdd, Nat.reduceMul, Nat.reduceSub, Nat.reduceLeDiff, Nat.reduceEqDiff, Nat.add_zero, Nat.zero_add, Nat.le_refl, ↓reduceIte, Bool.and_true, Bool.true_and, Bool.not_true, Bool.not_false, Bool.false_eq_true, true_and, and_true, and_self, true_implies, false_implies, decide_eq_true_eq, decide_true, decide_false, Int.reduceLT, Int.reduceEq, Int.reduceBNe, Int.reduceBEq, aeq, Int.reduceLE, Int.toNat_natCast, Int.natCast_nonneg, Int.cast_ofNat_Int, Int.reduceNeg, Int.reduceMul, Int.reduceAdd, Int.reduceSub, Int.one_mul, Nat.mul_one, Nat.mul_zero, Nat.zero_mul, Int.reduceToNat, Int.reducePow, bits_u8, bits_u16, bits_u32, bits_u64, bits_i64, Int.ofNat_eq_natCast, beq_self_eq_true, Bool.not_eq_true', Bool.true_or, Bool.or_false, Bool.false_or, Bool.or_true, Bool.false_and, Bool.and_false, w51, e1, b1]
end Go.Proofs.Ytimbippemlmnlaa
