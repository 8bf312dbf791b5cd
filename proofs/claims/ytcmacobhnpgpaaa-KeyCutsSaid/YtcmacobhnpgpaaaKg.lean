/-
  Chapter 16: the law KeyOrder.
-/
import Derived.Test.YtcmacobhnpgpaaaKf
set_option linter.unusedVariables false
set_option linter.unusedSimpArgs false
set_option maxRecDepth 10000
set_option maxHeartbeats 0
namespace Go.Proofs.Ytcmacobhnpgpaaa
open Go.Y
noncomputable def cx3 : Cx := ⟨Try.prog, [], [], [(0, [1]), (1, [3, 1]), (2, [4, 3, 1]), (3, [5, 4, 3, 1]), (4, [6, 5, 4, 3, 1]), (5, [56, 6, 5, 4, 3, 1]), (6, [2]), (7, [78, 4, 3, 1]), (8, [2]), (9, [2])]⟩
theorem cx3_P : cx3.P = Try.prog := rfl
theorem cx3_l0 : lookL 0 cx3.lv = some [1] := rfl
theorem cx3_l1 : lookL 1 cx3.lv = some [3, 1] := rfl
theorem cx3_l2 : lookL 2 cx3.lv = some [4, 3, 1] := rfl
theorem cx3_l3 : lookL 3 cx3.lv = some [5, 4, 3, 1] := rfl
theorem cx3_l4 : lookL 4 cx3.lv = some [6, 5, 4, 3, 1] := rfl
theorem cx3_l5 : lookL 5 cx3.lv = some [56, 6, 5, 4, 3, 1] := rfl
theorem cx3_l6 : lookL 6 cx3.lv = some [2] := rfl
theorem cx3_l7 : lookL 7 cx3.lv = some [78, 4, 3, 1] := rfl
theorem cx3_l8 : lookL 8 cx3.lv = some [2] := rfl
theorem cx3_l9 : lookL 9 cx3.lv = some [2] := rfl
theorem cx3_pu : cx3.pu = [] := rfl
theorem cx3_ok : okc cx3 Try.f3.ntmps (Try.f3.body.getD .skip) = true := by kernel_rfl
theorem enter3 {args : List AV} {H : Hp} {n : Nat} {Q : AV → Hp → Nat → Prop} (h : args.length ≤ 101 ∧ Ev cx3 ⟨101, n, none, 3⟩ (Try.f3.body.getD .skip) ⟨argT 0 args, H, n⟩ (.top Try.f3.results.toList Q)) : callA Try.prog 3 args H n Q :=
  callA_ev (cx := cx3) puOk_nil (f := 3) (fn := Try.f3) Try.func3 rfl (by kernel_rfl) h.1 cx3_ok h.2
theorem key_eta (a : TKey) : (⟨a.z, a.draw, a.tri, a.part⟩ : TKey) = a := rfl
theorem wrap_cmp (a b : TKey) : IntKind.wrap .i64 (0 - cmpK a b) = 0 - cmpK a b := by
  have := cmpK_ord.rng a b
  exact wrap64 (by omega)
theorem chain_eq (a b : TKey) : ((if a.z = b.z then true else false) && ((if a.draw = b.draw then true else false) && ((if a.tri = b.tri then true else false) && ((if a.part = b.part then true else false) && true)))) = if cmpK a b = 0 then true else false := by
  by_cases h : cmpK a b = 0
  · rw [if_pos h, cmpK_zero h]; simp
  · rw [if_neg h]
    by_cases h1 : a.z = b.z
    · by_cases h2 : a.draw = b.draw
      · by_cases h3 : a.tri = b.tri
        · by_cases h4 : a.part = b.part
          · exact absurd (by cases a; cases b; simp_all [cmpK_refl]) h
          · simp [h4]
        · simp [h3]
      · simp [h2]
    · simp [h1]
theorem beqb (b : Bool) : (b == b) = true := by simp
/-- What an order says of three. -/
theorem ord_facts (a b c : TKey) : ((cmpK a b = -1 ∨ cmpK a b = 0 ∨ cmpK a b = 1) ∧ (cmpK b c = -1 ∨ cmpK b c = 0 ∨ cmpK b c = 1) ∧ (cmpK a c = -1 ∨ cmpK a c = 0 ∨ cmpK a c = 1)) ∧ cmpK b a = 0 - cmpK a b ∧ cmpK a a = 0 ∧ (cmpK a b < 0 → cmpK b c < 0 → cmpK a c < 0) ∧ (cmpK a b = 0 → cmpK a c = cmpK b c) ∧ (cmpK b c = 0 → cmpK a c = cmpK a b) :=
  ⟨⟨cmpK_ord.rng _ _, cmpK_ord.rng _ _, cmpK_ord.rng _ _⟩, by rw [cmpK_ord.anti a b]; omega, cmpK_refl a, cmpK_ord.tr a b c, cmpK_ord.eqL a b c, fun h => eqR cmpK_ord h⟩
theorem ord_z {a b : TKey} (h : ¬ a.z = b.z) : AV.bool ((if cmpK a b < 0 then true else false) == (if a.z < b.z then true else false)) = .bool true := by
  rw [cmpK_z h]
  unfold cmp1
  by_cases h1 : a.z < b.z
  · simp [h1]
  · rw [if_neg h1, if_pos (show b.z < a.z by omega)]; simp [h1]
theorem order_walk (x0_0 : TKey) (x0_1 : TKey) (x0_2 : TKey) (h0_0 : wKey x0_0) (h0_1 : wKey x0_1) (h0_2 : wKey x0_2) : callA Try.prog 3 [.rows 4 [eKey x0_0, eKey x0_1, eKey x0_2]] [] 0 fun v _ _ => v = .bool true := by
  have f1 := ord_facts x0_0 x0_1 x0_2
  show callA _ _ _ _ _ _
  sym =>
    repeat (first (apply enter3) (apply shown_use) (apply compare_use) (apply imp_go; intro hp) (apply valK_w64; · finish (splits := 3) (ematch := 1)) (apply valK_wu8; · finish (splits := 3) (ematch := 1)) (apply valK_wu64; · finish (splits := 3) (ematch := 1)) (apply valK_w32; · finish (splits := 3) (ematch := 1)) (apply valK_wu16; · finish (splits := 3) (ematch := 1)) (apply valK_wu32; · finish (splits := 3) (ematch := 1)) (apply valK_wr) (apply valK_andR) (apply valK_quo; · finish (splits := 3) (ematch := 1)) (apply valK_quoR; · finish (splits := 3) (ematch := 1)) (apply valK_rem; · finish (splits := 3) (ematch := 1)) (apply valK_remR; · finish (splits := 3) (ematch := 1)) (apply valK_bol; · finish (splits := 3) (ematch := 1)) (apply effK_bol; · finish (splits := 3) (ematch := 1)) (apply newK_bol; · finish (splits := 3) (ematch := 1)) (apply appK_bol; · finish (splits := 3) (ematch := 1)) (apply topO_bol; · finish (splits := 3) (ematch := 1)) (apply valK_altY; · finish (splits := 3) (ematch := 1)) (apply valK_altN; · finish (splits := 3) (ematch := 1)) (apply effK_altY; · finish (splits := 3) (ematch := 1)) (apply effK_altN; · finish (splits := 3) (ematch := 1)) (apply valK_altNY; · finish (splits := 3) (ematch := 1)) (apply valK_altNN; · finish (splits := 3) (ematch := 1)) (apply valK_altS) (apply valK_altNS) (apply effK_altS) (apply appS_go) (apply brC_y; · finish (splits := 3) (ematch := 1)) (apply brC_n; · finish (splits := 3) (ematch := 1)) (apply brC_yN; · finish (splits := 3) (ematch := 1)) (apply brC_nN; · finish (splits := 3) (ematch := 1)) (apply brC_s) (apply brC_sN) (apply wantK_y; · finish (splits := 3) (ematch := 1)) (apply wantK_n; · finish (splits := 3) (ematch := 1)) (apply wantK_yN; · finish (splits := 3) (ematch := 1)) (apply wantK_nN; · finish (splits := 3) (ematch := 1)) (apply wantK_s) (apply wantK_sN) (apply rowG_y; · finish (splits := 3) (ematch := 1)) (apply rowG_n; · finish (splits := 3) (ematch := 1)) (apply rowG_yN; · finish (splits := 3) (ematch := 1)) (apply rowG_nN; · finish (splits := 3) (ematch := 1)) (apply rowG_s) (apply rowG_sN) (simp [key_eta, wrap_cmp, chain_eq, beqb, eColour_eq, eFrag_eq, eKey_eq, ePeellast_eq, ePeelpixel_eq, cx3_P, cx3_l0, cx3_l1, cx3_l2, cx3_l3, cx3_l4, cx3_l5, cx3_l6, cx3_l7, cx3_l8, cx3_l9, cx3_pu, Try.f3.eq_1, ty_arrOf_23, ty_arrOf_24, ty_arrOf_3, ty_eqTy_23, ty_fldOf_23_0, ty_fldOf_23_1, ty_fldOf_23_2, ty_fldOf_23_3, ty_intOf_3, ty_isBoolTy_4, ty_isInt_3, ty_notInt_3, ty_lay_23, ty_lay_3, ty_lay_4, ty_notInt_23, ty_placesOf_23, ty_slcOf_23, ty_slcOf_24, ty_slcOf_3, ty_zeroA_23, ty_zeroA_3, ty_zeroA_4, valK_some, newK_some, opE_move, opE_assign, opE_pick, opE_load, opE_bin, opE_un, opE_fieldAddr, opE_indexAddr, opE_alloc, opE_box, callK_fn, callK_yld, callG_some, callG_none, opE_call_r, ev_seq, ev_skip, ev_label, ev_region, ev_cond, condC_some, brC_true, brC_false, ev_block, ev_scope, ev_exit, ev_ret, nx_seq, nx_seqE, nx_seqR, nx_blk, nx_blkE, nx_blkR, nx_top, nx_topR, topO_some, evR_nil, wantK_tup, wantK_tt, wantK_ff, wantK_tf, wantK_ft, evR_op, evR_guard, finK_reg, finN_reg, nid_reg, getT_cons, putT_some, putT_none, trimT_some, trimT_none, keepT_nil, keepT_cons, consT_some, consT_none, getT_nil, getO_tmp, getO_const, getO_func, ofC_int, ofC_bool, ofC_ptr, ofC_slc, ofC_map, ofC_fn, getOs_nil, getOs_cons, consO_some, guardT_eq, guardO_some, hget_cons, wrap_lit, wrap_neg, top_i64, bot_i64, bits_i64, cast_lit, toNat_lit, get_zero, get_succ, take_zero, take_succ, set_zero, set_succ, length_nil, length_cons, append_nil, nil_append, cons_append, toList_arr, bnot_true, bnot_false, band_true, band_false, beq_tt, beq_ff, beq_tf, beq_ft, beq_nat, beq_int, bne_nat, map_some, map_none, true_eq_false, false_eq_true, true_eq_true, fbody_mk, fresults_mk, getD_some, bol_true, binO_some, bin_eql, bin_neq, bin_lss, bin_leq, bin_gtr, bin_geq, bin_beql, bin_bneq, eqO_eq, eqO_ne, bin_aeql, bin_aneq, bin_reql, bin_rneq, aggEq_some, flatL_nil, flatL_cons, appV_some, flatV_int, flatV_bool, flatV_agg, flatV_rows, bin_feql, bin_fneq, bin_nfeql, bin_nfneq, bin_peql, bin_pneq, bin_npeql, bin_npneq, unO_some, un_not, pickA_true, pickA_false, size_int, size_bool, size_str, size_ptr, size_nilp, size_slc, size_nils, size_map, size_nilm, size_fn, size_yld, size_nilf, size_agg, size_rows, sizeL_nil, sizeL_cons, layOK_int, layOK_bool, layOK_str, layOK_ptr, layOK_nilp, layOK_slc, layOK_nils, layOK_map, layOK_nilm, layOK_fn, layOK_yld, layOK_nilf, layOK_agg, layOK_rows, isTup_int, isTup_bool, isTup_str, isTup_ptr, isTup_nilp, isTup_slc, isTup_nils, isTup_map, isTup_nilm, isTup_fn, isTup_yld, isTup_nilf, isTup_agg, isTup_rows, getP_nil, getP_cons, getS_some, stepP_agg, stepP_rows, loadO_some, loadA_ptr, loadE_cel, loadE_vec, loadE_ro, chkL_some, faO_some, fa_ptr, iaO_some, newA_some, slN_some, resF_eq, resAll_nil, resAll_cons, resOne_tmp, resOne_cell, tupO_none, tupO_one, tupO_more, argT_nil, argT_cons, lookU_nil, lookU_cons, lookL_cons, lookL_nil, lookP_cons, roundS_eq, mun_neg, wrapO_lit, wrapO_neg, mia_ptr, mia_slc, not_tf, not_ft, and_tf, not_not_b, alt_true, alt_false, pick_alt, bol_false, getS_bol, getS_alt, chkL_bol, chkL_alt, consO_bol, consO_bol2, tupO_bol, eqO_bol, bol_bol, get_mapB, get_setB, get_appB, len_map, nat_zero_add, bin_nsleql, bin_nslneq, bin_nnleql, bin_nnlneq, slN_bol, beq_str, hideH_nil, and_self, and_true, true_and, and_false, false_and]) (apply valK_bolB; · finish (splits := 3) (ematch := 1)) (apply valK_altT; · finish (splits := 3) (ematch := 1)) (apply valK_altF; · finish (splits := 3) (ematch := 1)) (apply valK_altB) (apply brC_t; · finish (splits := 3) (ematch := 1)) (apply brC_f; · finish (splits := 3) (ematch := 1)) (apply brC_sBN) (apply brC_sB) (apply wantK_t; · finish (splits := 3) (ematch := 1)) (apply wantK_f; · finish (splits := 3) (ematch := 1)) (apply wantK_sBN) (apply wantK_sB) (apply rowG_t; · finish (splits := 3) (ematch := 1)) (apply rowG_f; · finish (splits := 3) (ematch := 1)) (apply rowG_sBN) (apply rowG_sB) (intro~ hr) (tactic => first | rfl | exact ord_z ‹_› | (exfalso; omega) | (trace_state; exact test_fail)))
end Go.Proofs.Ytcmacobhnpgpaaa
