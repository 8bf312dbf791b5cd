/-
  Chapter 2: the small functions.
-/
import Derived.Test.YteoomeajampfcaaYz
set_option linter.unusedVariables false
set_option maxRecDepth 10000
namespace Go.Proofs.Yteoomeajampfcaa
open Go.Y

def byt (x : Int) : Prop := 0 ≤ x ∧ x ≤ 255
instance (x : Int) : Decidable (byt x) := inferInstanceAs (Decidable (_ ∧ _))
theorem byt_lit (n : Nat) : byt (OfNat.ofNat n) = ((OfNat.ofNat n : Nat) ≤ 255) := by
  apply propext
  show (0 ≤ (n : Int) ∧ (n : Int) ≤ 255) ↔ n ≤ 255
  omega

def clamp (a b x : Int) : Int := if b < (if x < a then a else x) then b else if x < a then a else x
theorem clamp_in {a b x : Int} (h : a ≤ b) : a ≤ clamp a b x ∧ clamp a b x ≤ b := by
  unfold clamp; split <;> split at * <;> omega

def div255 (x : Int) : Int := (clamp 0 65025 x + 127).tdiv 255
theorem div255_in (x : Int) : 0 ≤ div255 x ∧ div255 x ≤ 255 := by
  unfold div255
  have := clamp_in (a := 0) (b := 65025) (x := x) (by omega)
  rw [Int.tdiv_eq_ediv_of_nonneg (by omega)]
  omega

noncomputable def cx26 : Cx := ⟨Try.prog, [], [], [(0, [0]), (1, [2])]⟩
theorem cx26_P : cx26.P = Try.prog := rfl
theorem cx26_l0 : lookL 0 cx26.lv = some [0] := rfl
theorem cx26_l1 : lookL 1 cx26.lv = some [2] := rfl
theorem cx26_pu : cx26.pu = [] := rfl
theorem cx26_ok : okc cx26 Try.f26.ntmps (Try.f26.body.getD .skip) = true := by kernel_rfl
theorem enter26 {args : List AV} {H : Hp} {n : Nat} {Q : AV → Hp → Nat → Prop} (h : args.length ≤ 8 ∧ Ev cx26 ⟨8, n, none, 26⟩ (Try.f26.body.getD .skip) ⟨argT 0 args, H, n⟩ (.top Try.f26.results.toList Q)) : callA Try.prog 26 args H n Q :=
  callA_ev (cx := cx26) puOk_nil (f := 26) (fn := Try.f26) Try.func26 rfl (by kernel_rfl) h.1 cx26_ok h.2
theorem div255_call (x : Int) (H : Hp) (n : Nat) : callA Try.prog 26 [.int .i64 x] H n fun v' H' n' => v' = .int .i64 (div255 x) ∧ H' = H ∧ n' = n := by
  sym =>
    apply enter26
    simp [cx26_P, cx26_l0, cx26_l1, cx26_pu, Try.f26.eq_1, ty_arrOf_3, ty_hasTy_3, ty_intOf_3, ty_lay_3, ty_slcOf_3, ty_zeroA_3, valK_some, newK_some, effK_some, opE_move, opE_assign, opE_pick, opE_build, opE_load, opE_nilCheck, opE_bin, opE_un, opE_conv, opE_makeFunc, opE_slice, opE_fieldAddr, opE_field, opE_indexAddr, opE_index, opE_extract, opE_len, opE_cap, opE_min, opE_max, opE_alloc, opE_box, opE_buildSlice, opE_makeMap, opE_makeSlice, callK_fn, callK_yld, callG_some, callG_none, appK_some, opE_store_r, opE_call_r, opE_append_r, opE_store_w, opE_call_w, opE_append_w, ev_seq, ev_skip, ev_label, ev_region, ev_draw, evDO_some, ev_cond, condC_some, brC_true, brC_false, ev_block, ev_scope, ev_exit, ev_ret, ev_loop, ev_range, nx_seq, nx_seqE, nx_seqR, nx_blk, nx_blkE, nx_blkR, nx_loop, nx_loopE, nx_loopR, nx_inv, nx_invE, nx_invR, nx_top, nx_topR, topO_some, nx_rnd, nx_rndE, nx_rndR, rndO_some, nx_bgn, bgnO_some, evR_nil, wantK_tup, wantK_tt, wantK_ff, wantK_tf, wantK_ft, evR_op, evR_guard, evD_nil, evD_row, rowK_eff, rowK_calm, rowK_guard, rowG_tup, rowG_tt, rowG_ff, rowG_tf, rowG_ft, rowN_eq, chkA_nil, chkA_cons, chkO_some, chkW_false, sameO_some, chkW_load, chkW_len, finK_reg, finK_row, finK_calm, finN_reg, finN_row, finN_calm, nid_reg, nid_row, nid_calm, getT_cons, putT_some, putT_none, trimT_some, trimT_none, keepT_nil, keepT_cons, consT_some, consT_none, getT_nil, getO_tmp, getO_const, getO_func, ofC_int, ofC_bool, ofC_ptr, ofC_slc, ofC_map, ofC_fn, getOs_nil, getOs_cons, consO_some, guardT_eq, guardO_some, wantA_none, wantA_some, wantO_tup, wantO_tt, wantO_ff, wantO_tf, wantO_ft, hget_cons, hset_cons, hdel_cons, memb_nil, memb_cons, hideH_cons, showH_cons, hideH_none, showH_none, showH_nil, outs_nil, outs_cons, app_nil, nil_app, cons_app, dropO_some, dropO_none, rowOf_cons, wrap_lit, wrap_neg, top_i8, bot_i8, top_i16, bot_i16, top_i32, bot_i32, top_i64, bot_i64, top_u8, bot_u8, top_u16, bot_u16, top_u32, bot_u32, top_u64, bot_u64, bits_i8, bits_u8, bits_i16, bits_u16, bits_i32, bits_u32, bits_i64, bits_u64, cast_lit, toNat_lit, get_zero, get_succ, take_zero, take_succ, set_zero, set_succ, length_nil, length_cons, length_set, append_nil, nil_append, cons_append, toList_arr, rep_zero, rep_succ, bnot_true, bnot_false, band_true, band_false, beq_tt, beq_ff, beq_tf, beq_ft, beq_nat, beq_int, bne_nat, map_some, map_none, true_eq_false, false_eq_true, true_eq_true, fbody_mk, fresults_mk, getD_some, bol_true, binO_some, bin_add, bin_sub, bin_mul, quo_lit, quo_neg, rem_lit, rem_neg, shr_lit, bin_quo, bin_rem, bin_eql, bin_neq, bin_lss, bin_leq, bin_gtr, bin_geq, bin_and, bin_or, bin_xor, bin_andNot, bin_shl, bin_shr, bin_beql, bin_bneq, bin_seql, bin_sneq, eqO_eq, eqO_ne, bin_aeql, bin_aneq, bin_reql, bin_rneq, aggEq_some, flatL_nil, flatL_cons, appV_some, flatV_int, flatV_bool, flatV_agg, flatV_rows, bin_feql, bin_fneq, bin_nfeql, bin_nfneq, bin_peql, bin_pneq, bin_npeql, bin_npneq, unO_some, un_not, un_neg, convO_some, conv_int, cvI_some, pickA_true, pickA_false, nilO_some, nilA_ptr, nilA_fn, nilA_yld, nilA_map, nilA_slc, exO_some, ext_tup, mkFnO_some, size_int, size_bool, size_str, size_ptr, size_nilp, size_slc, size_nils, size_map, size_nilm, size_fn, size_yld, size_nilf, size_agg, size_rows, sizeL_nil, sizeL_cons, layOK_int, layOK_bool, layOK_str, layOK_ptr, layOK_nilp, layOK_slc, layOK_nils, layOK_map, layOK_nilm, layOK_fn, layOK_yld, layOK_nilf, layOK_agg, layOK_rows, isTup_int, isTup_bool, isTup_str, isTup_ptr, isTup_nilp, isTup_slc, isTup_nils, isTup_map, isTup_nilm, isTup_fn, isTup_yld, isTup_nilf, isTup_agg, isTup_rows, getP_nil, getP_cons, getS_some, stepP_agg, stepP_rows, putP_nil, putP_cons, putS_some, putU_some, setS_agg, setS_rows, loadO_some, loadA_ptr, loadE_cel, loadE_vec, loadE_ro, chkL_some, storeO_some, stH_some, storeA_ptr, storeE_cel, storeE_vec, storeB_cel, storeB_vec, faO_some, fa_ptr, fdO_some, lkO_some, fd_agg, iaO_some, ia_ptr, ia_slc, ixO_some, ix_rows, ix_str, chO_some, newA_some, partsO_nil, partsO_cons, buildA_some, fillP_nil, fillP_cons, fillN_some, setA_agg, setA_rows, setC_some, setD_some, fillQ_nil, fillQ_cons, fillM_some, fitZ_some, bs_some, bsO_some, msO_some, sliceO_some, slice_slc, slO_some, slice_nils, slN_some, slice_ptr, slA_some, cutA_some, cutN_some, cutS_some, sliceB_none, sliceB_hi, sbH_some, sbL_none, sbL_some, sbX_some, bndA_int, mv_eq, builtO_some, len_slc, len_nils, cap_slc, len_str, len_rows, arN_some, min_two, max_two, appO_some, apO_some, own_nils, own_slc, owO_vec, more_nils, more_slc, resF_eq, resAll_nil, resAll_cons, resOne_tmp, resOne_cell, tupO_none, tupO_one, tupO_more, setLp_eq, setLO_some, putPs_nil, putPs_cons, argT_nil, argT_cons, lookU_nil, lookU_cons, lookL_cons, lookL_nil, lookP_cons, hideH_nil, and_self, and_true, true_and, and_false, false_and]
    tactic =>
      have h := clamp_in (a := 0) (b := 65025) (x := x) (by omega)
      have h2 := div255_in x
      change AV.int .i64 (IntKind.wrap .i64 ((IntKind.wrap .i64 (clamp 0 65025 x + 127)).tdiv 255)) = AV.int .i64 (div255 x)
      have e : IntKind.wrap .i64 (clamp 0 65025 x + 127) = clamp 0 65025 x + 127 := wrap64 (by omega)
      rw [e]
      change AV.int .i64 (IntKind.wrap .i64 (div255 x)) = AV.int .i64 (div255 x)
      rw [wrap64 (by omega)]
def s26 : List AV → Option AV
  | [.int .i64 x] => some (.int .i64 (div255 x))
  | _ => none
theorem s26_eq (x : Int) : s26 [.int .i64 x] = some (.int .i64 (div255 x)) := rfl
theorem s26_ok : ∀ args v, s26 args = some v → PureA Try.prog 26 args v := by
  intro args v h H n
  unfold s26 at h
  split at h
  · cases h; exact div255_call _ H n
  · cases h

def sat (x : Int) : Int := clamp 0 255 x
theorem sat_in (x : Int) : 0 ≤ sat x ∧ sat x ≤ 255 := clamp_in (by omega)
theorem byt_sat (x : Int) : byt (sat x) = True := by simp only [byt, sat_in]; simp
theorem sat_of {x : Int} (h : byt x) : sat x = x := by
  unfold byt at h; unfold sat clamp; split <;> split at * <;> omega
noncomputable def cx37 : Cx := ⟨Try.prog, [], [], [(0, [0]), (1, [2])]⟩
theorem cx37_P : cx37.P = Try.prog := rfl
theorem cx37_l0 : lookL 0 cx37.lv = some [0] := rfl
theorem cx37_l1 : lookL 1 cx37.lv = some [2] := rfl
theorem cx37_pu : cx37.pu = [] := rfl
theorem cx37_ok : okc cx37 Try.f37.ntmps (Try.f37.body.getD .skip) = true := by kernel_rfl
theorem enter37 {args : List AV} {H : Hp} {n : Nat} {Q : AV → Hp → Nat → Prop} (h : args.length ≤ 7 ∧ Ev cx37 ⟨7, n, none, 37⟩ (Try.f37.body.getD .skip) ⟨argT 0 args, H, n⟩ (.top Try.f37.results.toList Q)) : callA Try.prog 37 args H n Q :=
  callA_ev (cx := cx37) puOk_nil (f := 37) (fn := Try.f37) Try.func37 rfl (by kernel_rfl) h.1 cx37_ok h.2
theorem sat_call (x : Int) (H : Hp) (n : Nat) : callA Try.prog 37 [.int .i64 x] H n fun v' H' n' => v' = .int .u8 (sat x) ∧ H' = H ∧ n' = n := by
  sym =>
    apply enter37
    simp [cx37_P, cx37_l0, cx37_l1, cx37_pu, Try.f37.eq_1, ty_arrOf_3, ty_arrOf_5, ty_hasTy_3, ty_hasTy_5, ty_intOf_3, ty_intOf_5, ty_lay_3, ty_lay_5, ty_slcOf_3, ty_slcOf_5, ty_zeroA_3, valK_some, newK_some, effK_some, opE_move, opE_assign, opE_pick, opE_build, opE_load, opE_nilCheck, opE_bin, opE_un, opE_conv, opE_makeFunc, opE_slice, opE_fieldAddr, opE_field, opE_indexAddr, opE_index, opE_extract, opE_len, opE_cap, opE_min, opE_max, opE_alloc, opE_box, opE_buildSlice, opE_makeMap, opE_makeSlice, callK_fn, callK_yld, callG_some, callG_none, appK_some, opE_store_r, opE_call_r, opE_append_r, opE_store_w, opE_call_w, opE_append_w, ev_seq, ev_skip, ev_label, ev_region, ev_draw, evDO_some, ev_cond, condC_some, brC_true, brC_false, ev_block, ev_scope, ev_exit, ev_ret, ev_loop, ev_range, nx_seq, nx_seqE, nx_seqR, nx_blk, nx_blkE, nx_blkR, nx_loop, nx_loopE, nx_loopR, nx_inv, nx_invE, nx_invR, nx_top, nx_topR, topO_some, nx_rnd, nx_rndE, nx_rndR, rndO_some, nx_bgn, bgnO_some, evR_nil, wantK_tup, wantK_tt, wantK_ff, wantK_tf, wantK_ft, evR_op, evR_guard, evD_nil, evD_row, rowK_eff, rowK_calm, rowK_guard, rowG_tup, rowG_tt, rowG_ff, rowG_tf, rowG_ft, rowN_eq, chkA_nil, chkA_cons, chkO_some, chkW_false, sameO_some, chkW_load, chkW_len, finK_reg, finK_row, finK_calm, finN_reg, finN_row, finN_calm, nid_reg, nid_row, nid_calm, getT_cons, putT_some, putT_none, trimT_some, trimT_none, keepT_nil, keepT_cons, consT_some, consT_none, getT_nil, getO_tmp, getO_const, getO_func, ofC_int, ofC_bool, ofC_ptr, ofC_slc, ofC_map, ofC_fn, getOs_nil, getOs_cons, consO_some, guardT_eq, guardO_some, wantA_none, wantA_some, wantO_tup, wantO_tt, wantO_ff, wantO_tf, wantO_ft, hget_cons, hset_cons, hdel_cons, memb_nil, memb_cons, hideH_cons, showH_cons, hideH_none, showH_none, showH_nil, outs_nil, outs_cons, app_nil, nil_app, cons_app, dropO_some, dropO_none, rowOf_cons, wrap_lit, wrap_neg, top_i8, bot_i8, top_i16, bot_i16, top_i32, bot_i32, top_i64, bot_i64, top_u8, bot_u8, top_u16, bot_u16, top_u32, bot_u32, top_u64, bot_u64, bits_i8, bits_u8, bits_i16, bits_u16, bits_i32, bits_u32, bits_i64, bits_u64, cast_lit, toNat_lit, get_zero, get_succ, take_zero, take_succ, set_zero, set_succ, length_nil, length_cons, length_set, append_nil, nil_append, cons_append, toList_arr, rep_zero, rep_succ, bnot_true, bnot_false, band_true, band_false, beq_tt, beq_ff, beq_tf, beq_ft, beq_nat, beq_int, bne_nat, map_some, map_none, true_eq_false, false_eq_true, true_eq_true, fbody_mk, fresults_mk, getD_some, bol_true, binO_some, bin_add, bin_sub, bin_mul, quo_lit, quo_neg, rem_lit, rem_neg, shr_lit, bin_quo, bin_rem, bin_eql, bin_neq, bin_lss, bin_leq, bin_gtr, bin_geq, bin_and, bin_or, bin_xor, bin_andNot, bin_shl, bin_shr, bin_beql, bin_bneq, bin_seql, bin_sneq, eqO_eq, eqO_ne, bin_aeql, bin_aneq, bin_reql, bin_rneq, aggEq_some, flatL_nil, flatL_cons, appV_some, flatV_int, flatV_bool, flatV_agg, flatV_rows, bin_feql, bin_fneq, bin_nfeql, bin_nfneq, bin_peql, bin_pneq, bin_npeql, bin_npneq, unO_some, un_not, un_neg, convO_some, conv_int, cvI_some, pickA_true, pickA_false, nilO_some, nilA_ptr, nilA_fn, nilA_yld, nilA_map, nilA_slc, exO_some, ext_tup, mkFnO_some, size_int, size_bool, size_str, size_ptr, size_nilp, size_slc, size_nils, size_map, size_nilm, size_fn, size_yld, size_nilf, size_agg, size_rows, sizeL_nil, sizeL_cons, layOK_int, layOK_bool, layOK_str, layOK_ptr, layOK_nilp, layOK_slc, layOK_nils, layOK_map, layOK_nilm, layOK_fn, layOK_yld, layOK_nilf, layOK_agg, layOK_rows, isTup_int, isTup_bool, isTup_str, isTup_ptr, isTup_nilp, isTup_slc, isTup_nils, isTup_map, isTup_nilm, isTup_fn, isTup_yld, isTup_nilf, isTup_agg, isTup_rows, getP_nil, getP_cons, getS_some, stepP_agg, stepP_rows, putP_nil, putP_cons, putS_some, putU_some, setS_agg, setS_rows, loadO_some, loadA_ptr, loadE_cel, loadE_vec, loadE_ro, chkL_some, storeO_some, stH_some, storeA_ptr, storeE_cel, storeE_vec, storeB_cel, storeB_vec, faO_some, fa_ptr, fdO_some, lkO_some, fd_agg, iaO_some, ia_ptr, ia_slc, ixO_some, ix_rows, ix_str, chO_some, newA_some, partsO_nil, partsO_cons, buildA_some, fillP_nil, fillP_cons, fillN_some, setA_agg, setA_rows, setC_some, setD_some, fillQ_nil, fillQ_cons, fillM_some, fitZ_some, bs_some, bsO_some, msO_some, sliceO_some, slice_slc, slO_some, slice_nils, slN_some, slice_ptr, slA_some, cutA_some, cutN_some, cutS_some, sliceB_none, sliceB_hi, sbH_some, sbL_none, sbL_some, sbX_some, bndA_int, mv_eq, builtO_some, len_slc, len_nils, cap_slc, len_str, len_rows, arN_some, min_two, max_two, appO_some, apO_some, own_nils, own_slc, owO_vec, more_nils, more_slc, resF_eq, resAll_nil, resAll_cons, resOne_tmp, resOne_cell, tupO_none, tupO_one, tupO_more, setLp_eq, setLO_some, putPs_nil, putPs_cons, argT_nil, argT_cons, lookU_nil, lookU_cons, lookL_cons, lookL_nil, lookP_cons, hideH_nil, and_self, and_true, true_and, and_false, false_and]
    tactic =>
      have h := sat_in x
      change AV.int .u8 (IntKind.wrap .u8 (sat x)) = AV.int .u8 (sat x)
      rw [wrapu8 (by omega)]
def s37 : List AV → Option AV
  | [.int .i64 x] => some (.int .u8 (sat x))
  | _ => none
theorem s37_eq (x : Int) : s37 [.int .i64 x] = some (.int .u8 (sat x)) := rfl
theorem s37_ok : ∀ args v, s37 args = some v → PureA Try.prog 37 args v := by
  intro args v h H n
  unfold s37 at h
  split at h
  · cases h; exact sat_call _ H n
  · cases h

end Go.Proofs.Yteoomeajampfcaa
