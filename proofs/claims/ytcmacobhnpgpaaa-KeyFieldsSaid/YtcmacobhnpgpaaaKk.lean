/-
  Chapter 16: the law KeyFields.
-/
import Derived.Test.YtcmacobhnpgpaaaKg
set_option linter.unusedVariables false
set_option linter.unusedSimpArgs false
set_option maxRecDepth 10000
set_option maxHeartbeats 0
namespace Go.Proofs.Ytcmacobhnpgpaaa
open Go.Y
noncomputable def cx5 : Cx := ⟨Try.prog, [], [], [(0, [2, 1]), (1, [5, 2, 1]), (2, [6, 5, 2, 1]), (3, [7, 6, 5, 1]), (4, [8, 7, 6, 5]), (5, [9, 8, 7, 6, 5]), (6, [48, 9, 8, 7, 6, 5]), (7, [9, 8, 7, 6, 5]), (8, [9, 8, 7, 6, 5]), (9, [7, 6, 5]), (10, [10, 7, 5]), (11, [11, 10, 5]), (12, [4])]⟩
theorem cx5_P : cx5.P = Try.prog := rfl
theorem cx5_l0 : lookL 0 cx5.lv = some [2, 1] := rfl
theorem cx5_l1 : lookL 1 cx5.lv = some [5, 2, 1] := rfl
theorem cx5_l2 : lookL 2 cx5.lv = some [6, 5, 2, 1] := rfl
theorem cx5_l3 : lookL 3 cx5.lv = some [7, 6, 5, 1] := rfl
theorem cx5_l4 : lookL 4 cx5.lv = some [8, 7, 6, 5] := rfl
theorem cx5_l5 : lookL 5 cx5.lv = some [9, 8, 7, 6, 5] := rfl
theorem cx5_l6 : lookL 6 cx5.lv = some [48, 9, 8, 7, 6, 5] := rfl
theorem cx5_l8 : lookL 8 cx5.lv = some [9, 8, 7, 6, 5] := rfl
theorem cx5_l7 : lookL 7 cx5.lv = some [9, 8, 7, 6, 5] := rfl
theorem cx5_l9 : lookL 9 cx5.lv = some [7, 6, 5] := rfl
theorem cx5_l10 : lookL 10 cx5.lv = some [10, 7, 5] := rfl
theorem cx5_l11 : lookL 11 cx5.lv = some [11, 10, 5] := rfl
theorem cx5_l12 : lookL 12 cx5.lv = some [4] := rfl
theorem cx5_pu : cx5.pu = [] := rfl
theorem cx5_ok : okc cx5 Try.f5.ntmps (Try.f5.body.getD .skip) = true := by kernel_rfl
theorem enter5 {args : List AV} {H : Hp} {n : Nat} {Q : AV → Hp → Nat → Prop} (h : args.length ≤ 99 ∧ Ev cx5 ⟨99, n, none, 5⟩ (Try.f5.body.getD .skip) ⟨argT 0 args, H, n⟩ (.top Try.f5.results.toList Q)) : callA Try.prog 5 args H n Q :=
  callA_ev (cx := cx5) puOk_nil (f := 5) (fn := Try.f5) Try.func5 rfl (by kernel_rfl) h.1 cx5_ok h.2
theorem mod4 (x : Int) : x % 4 = 0 ∨ x % 4 = 1 ∨ x % 4 = 2 ∨ x % 4 = 3 := by omega
theorem rm_bd (x : Int) : -1099511627776 < remI x 1099511627776 ∧ remI x 1099511627776 < 1099511627776 := by
  show _ < x.tmod _ ∧ x.tmod _ < _
  rcases Int.le_total 0 x with h | h
  · rw [Int.tmod_eq_emod_of_nonneg h]; omega
  · obtain ⟨y, rfl⟩ : ∃ y, x = -y := ⟨-x, by omega⟩
    rw [Int.neg_tmod, Int.tmod_eq_emod_of_nonneg (by omega)]; omega
theorem wrap_rm (x : Int) : IntKind.wrap .i64 (remI x 1099511627776 + 1) = remI x 1099511627776 + 1 := by
  have := rm_bd x
  exact wrap64 (by omega)
theorem c1_up (z : Int) : cmp1 z (z + 1) = -1 := by unfold cmp1; rw [if_pos (by omega)]
theorem c1_dn (z : Int) : cmp1 (z + 1) z = 1 := by unfold cmp1; rw [if_neg (by omega), if_pos (by omega)]
theorem kf0 (z d t p d' t' p' : Int) : cmpK ⟨z, d, t, p⟩ ⟨z + 1, d', t', p'⟩ = -1 := by unfold cmpK; simp [c1_up]
theorem kg0 (z d t p d' t' p' : Int) : cmpK ⟨z + 1, d', t', p'⟩ ⟨z, d, t, p⟩ = 1 := by unfold cmpK; simp [c1_dn]
theorem kf1 (z d t p t' p' : Int) : cmpK ⟨z, d, t, p⟩ ⟨z, d + 1, t', p'⟩ = -1 := by unfold cmpK; simp [c1_up, cmp1_refl]
theorem kg1 (z d t p t' p' : Int) : cmpK ⟨z, d + 1, t', p'⟩ ⟨z, d, t, p⟩ = 1 := by unfold cmpK; simp [c1_dn, cmp1_refl]
theorem kf2 (z d t p p' : Int) : cmpK ⟨z, d, t, p⟩ ⟨z, d, t + 1, p'⟩ = -1 := by unfold cmpK; simp [c1_up, cmp1_refl]
theorem kg2 (z d t p p' : Int) : cmpK ⟨z, d, t + 1, p'⟩ ⟨z, d, t, p⟩ = 1 := by unfold cmpK; simp [c1_dn, cmp1_refl]
theorem kf3 (z d t p : Int) : cmpK ⟨z, d, t, p⟩ ⟨z, d, t, p + 1⟩ = -1 := by unfold cmpK; simp [c1_up, cmp1_refl]
theorem kg3 (z d t p : Int) : cmpK ⟨z, d, t, p + 1⟩ ⟨z, d, t, p⟩ = 1 := by unfold cmpK; simp [c1_dn, cmp1_refl]
theorem fields_walk (x0_0 : TKey) (x0_1 : TKey) (x1 : Int) (h0_0 : wKey x0_0) (h0_1 : wKey x0_1) (h1 : (0 ≤ x1 ∧ x1 ≤ 255)) : callA Try.prog 5 [.rows 4 [eKey x0_0, eKey x0_1], .int .u8 x1] [] 0 fun v _ _ => v = .bool true := by
  obtain e | e | e | e := mod4 x1
  all_goals
    show callA _ _ _ _ _ _
    sym =>
      repeat (first (apply enter5) (apply shown_use) (apply compare_use) (apply loop_next) (apply imp_go; intro hp) (apply valK_w64; · finish (splits := 3) (ematch := 1)) (apply valK_wu8; · finish (splits := 3) (ematch := 1)) (apply valK_wu64; · finish (splits := 3) (ematch := 1)) (apply valK_w32; · finish (splits := 3) (ematch := 1)) (apply valK_wu16; · finish (splits := 3) (ematch := 1)) (apply valK_wu32; · finish (splits := 3) (ematch := 1)) (apply valK_wr) (apply valK_andR) (apply valK_quo; · finish (splits := 3) (ematch := 1)) (apply valK_quoR; · finish (splits := 3) (ematch := 1)) (apply valK_rem; · finish (splits := 3) (ematch := 1)) (apply valK_remR; · finish (splits := 3) (ematch := 1)) (apply valK_bol; · finish (splits := 3) (ematch := 1)) (apply effK_bol; · finish (splits := 3) (ematch := 1)) (apply newK_bol; · finish (splits := 3) (ematch := 1)) (apply appK_bol; · finish (splits := 3) (ematch := 1)) (apply topO_bol; · finish (splits := 3) (ematch := 1)) (apply valK_altY; · finish (splits := 3) (ematch := 1)) (apply valK_altN; · finish (splits := 3) (ematch := 1)) (apply effK_altY; · finish (splits := 3) (ematch := 1)) (apply effK_altN; · finish (splits := 3) (ematch := 1)) (apply valK_altNY; · finish (splits := 3) (ematch := 1)) (apply valK_altNN; · finish (splits := 3) (ematch := 1)) (apply valK_altS) (apply valK_altNS) (apply effK_altS) (apply appS_go) (apply brC_y; · finish (splits := 3) (ematch := 1)) (apply brC_n; · finish (splits := 3) (ematch := 1)) (apply brC_yN; · finish (splits := 3) (ematch := 1)) (apply brC_nN; · finish (splits := 3) (ematch := 1)) (apply brC_s) (apply brC_sN) (apply wantK_y; · finish (splits := 3) (ematch := 1)) (apply wantK_n; · finish (splits := 3) (ematch := 1)) (apply wantK_yN; · finish (splits := 3) (ematch := 1)) (apply wantK_nN; · finish (splits := 3) (ematch := 1)) (apply wantK_s) (apply wantK_sN) (apply rowG_y; · finish (splits := 3) (ematch := 1)) (apply rowG_n; · finish (splits := 3) (ematch := 1)) (apply rowG_yN; · finish (splits := 3) (ematch := 1)) (apply rowG_nN; · finish (splits := 3) (ematch := 1)) (apply rowG_s) (apply rowG_sN) (simp [e, wrap_rm, kf0, kf1, kf2, kf3, kg0, kg1, kg2, kg3, cmpK_refl, eColour_eq, eFrag_eq, eKey_eq, ePeellast_eq, ePeelpixel_eq, cx5_P, cx5_l0, cx5_l1, cx5_l2, cx5_l3, cx5_l4, cx5_l5, cx5_l6, cx5_l8, cx5_l7, cx5_l9, cx5_l10, cx5_l11, cx5_l12, cx5_pu, Try.f5.eq_1, ty_arrOf_23, ty_arrOf_3, ty_arrOf_43, ty_arrOf_44, ty_eqTy_23, ty_fldOf_23_0, ty_fldOf_23_1, ty_fldOf_23_2, ty_fldOf_23_3, ty_hasTy_5, ty_intOf_3, ty_isInt_3, ty_notInt_3, ty_lay_23, ty_lay_3, ty_lay_44, ty_lay_5, ty_notInt_23, ty_placesOf_23, ty_placesOf_44, ty_slcOf_23, ty_slcOf_3, ty_slcOf_43, ty_slcOf_44, ty_zeroA_23, ty_zeroA_3, ty_zeroA_44, valK_some, newK_some, effK_some, opE_move, opE_assign, opE_pick, opE_build, opE_load, opE_bin, opE_un, opE_conv, opE_fieldAddr, opE_indexAddr, opE_alloc, opE_box, callK_fn, callK_yld, callG_some, callG_none, opE_store_r, opE_call_r, ev_seq, ev_skip, ev_label, ev_region, ev_cond, condC_some, brC_true, brC_false, ev_block, ev_scope, ev_exit, ev_ret, ev_loop, nx_seq, nx_seqE, nx_seqR, nx_blk, nx_blkE, nx_blkR, nx_loop, nx_loopE, nx_loopR, nx_inv, nx_invE, nx_invR, nx_top, nx_topR, topO_some, evR_nil, wantK_tup, wantK_tt, wantK_ff, wantK_tf, wantK_ft, evR_op, evR_guard, finK_reg, finN_reg, nid_reg, getT_cons, putT_some, putT_none, trimT_some, trimT_none, keepT_nil, keepT_cons, consT_some, consT_none, getT_nil, getO_tmp, getO_const, getO_func, ofC_int, ofC_bool, ofC_ptr, ofC_slc, ofC_map, ofC_fn, getOs_nil, getOs_cons, consO_some, guardT_eq, guardO_some, hget_cons, hset_cons, wrap_lit, wrap_neg, top_i64, bot_i64, bits_i64, cast_lit, toNat_lit, get_zero, get_succ, take_zero, take_succ, set_zero, set_succ, length_nil, length_cons, length_set, append_nil, nil_append, cons_append, toList_arr, bnot_true, bnot_false, band_true, band_false, beq_tt, beq_ff, beq_tf, beq_ft, beq_nat, beq_int, bne_nat, map_some, map_none, true_eq_false, false_eq_true, true_eq_true, fbody_mk, fresults_mk, getD_some, bol_true, binO_some, rem_lit, rem_neg, bin_eql, bin_lss, bin_beql, bin_bneq, bin_seql, bin_sneq, eqO_eq, eqO_ne, bin_aeql, bin_aneq, bin_reql, bin_rneq, aggEq_some, flatL_nil, flatL_cons, appV_some, flatV_int, flatV_bool, flatV_agg, flatV_rows, bin_feql, bin_fneq, bin_nfeql, bin_nfneq, bin_peql, bin_pneq, bin_npeql, bin_npneq, convO_some, conv_int, pickA_true, pickA_false, size_int, size_bool, size_str, size_ptr, size_nilp, size_slc, size_nils, size_map, size_nilm, size_fn, size_yld, size_nilf, size_agg, size_rows, sizeL_nil, sizeL_cons, layOK_int, layOK_bool, layOK_str, layOK_ptr, layOK_nilp, layOK_slc, layOK_nils, layOK_map, layOK_nilm, layOK_fn, layOK_yld, layOK_nilf, layOK_agg, layOK_rows, isTup_int, isTup_bool, isTup_str, isTup_ptr, isTup_nilp, isTup_slc, isTup_nils, isTup_map, isTup_nilm, isTup_fn, isTup_yld, isTup_nilf, isTup_agg, isTup_rows, getP_nil, getP_cons, getS_some, stepP_agg, stepP_rows, putP_nil, putP_cons, putS_some, putU_some, setS_agg, setS_rows, loadO_some, loadA_ptr, loadE_cel, loadE_vec, loadE_ro, chkL_some, storeO_some, stH_some, storeA_ptr, storeE_cel, storeE_vec, storeB_cel, faO_some, fa_ptr, iaO_some, newA_some, partsO_nil, partsO_cons, buildA_some, fillP_nil, fillP_cons, fillN_some, setA_agg, setA_rows, setC_some, setD_some, slN_some, resF_eq, resAll_nil, resAll_cons, resOne_tmp, resOne_cell, tupO_none, tupO_one, tupO_more, argT_nil, argT_cons, lookU_nil, lookU_cons, lookL_cons, lookL_nil, lookP_cons, roundS_eq, mbin_add, mbin_rem, mcvI_some, wrapO_lit, wrapO_neg, mia_ptr, mia_slc, mstoreB_vec, len_set, not_tf, not_ft, and_tf, alt_true, alt_false, pick_alt, bol_false, getS_bol, getS_alt, chkL_bol, chkL_alt, putS_bol, putS_alt, putU_bol, putU_alt, storeB_bol, storeB_alt, stH_bol, stH_alt, consO_bol, consO_bol2, tupO_bol, fillN_bol, eqO_bol, bol_bol, get_mapB, get_setB, get_appB, len_map, nat_zero_add, take_map, take_self, drop_zero, elemsE_vec, elemsE_ro, elemsE_cel, elemsC_rows, elemsC_bol, bin_nsleql, bin_nslneq, bin_nnleql, bin_nnlneq, slN_bol, conv_slc, conv_nils, cvS_some, cvS_bol, strO_map, strO_win, strO_take, strO_drop, strO_nil, beq_str, subC_nil, subC_seq0, subC_seq1, subC_cond0, subC_cond1, subC_block, subC_scope, subC_loop, subC_ran0, subC_ran1, hideH_nil, and_self, and_true, true_and, and_false, false_and]) (apply valK_bolB; · finish (splits := 3) (ematch := 1)) (apply valK_altT; · finish (splits := 3) (ematch := 1)) (apply valK_altF; · finish (splits := 3) (ematch := 1)) (apply valK_altB) (apply brC_t; · finish (splits := 3) (ematch := 1)) (apply brC_f; · finish (splits := 3) (ematch := 1)) (apply brC_sBN) (apply brC_sB) (apply wantK_t; · finish (splits := 3) (ematch := 1)) (apply wantK_f; · finish (splits := 3) (ematch := 1)) (apply wantK_sBN) (apply wantK_sB) (apply rowG_t; · finish (splits := 3) (ematch := 1)) (apply rowG_f; · finish (splits := 3) (ematch := 1)) (apply rowG_sBN) (apply rowG_sB) (intro~ hr) (tactic => first | rfl | (trace_state; exact test_fail)))
end Go.Proofs.Ytcmacobhnpgpaaa
