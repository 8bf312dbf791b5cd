/-
  Chapter 12: the law CodeRefuses.
-/
import Derived.Test.YtngjfoajgedgjaaWg
set_option linter.unusedVariables false
set_option linter.unusedSimpArgs false
set_option maxRecDepth 10000
set_option maxHeartbeats 0
namespace Go.Proofs.Ytngjfoajgedgjaa
open Go.Y
theorem valK_remV {cx : Cx} {fx : Fx} {kt : Kt} {k : IntKind} {a b : Int} {H : Hp} {n : Nat} (h : 0 ≤ a ∧ 0 < b) (hk : ∀ q : Int, Imp (q = a % b ∧ 0 ≤ q ∧ q < b) (ValK cx fx kt (some (.int k q)) H n)) : ValK cx fx kt (remO k a b) H n :=
  valK_rem h (hk _ ⟨rfl, Int.emod_nonneg _ (by omega), Int.emod_lt_of_pos _ h.2⟩)
theorem ref_bd {p : List TIns} {pc : Nat} {a q : Int} (hg : (1 ≤ (p.length : Int) ∧ (p.length : Int) ≤ 32) ∧ goodP p pc) (hq : q = a % p.length ∧ 0 ≤ q ∧ q < p.length) :
    (0 ≤ (p.getD q.toNat default).op ∧ (p.getD q.toNat default).op ≤ 14) ∧ (0 ≤ (p.getD q.toNat default).d ∧ (p.getD q.toNat default).d ≤ 7) ∧ (0 ≤ (p.getD q.toNat default).a ∧ (p.getD q.toNat default).a ≤ 7) ∧ (0 ≤ (p.getD q.toNat default).b ∧ (p.getD q.toNat default).b ≤ 7) ∧ (-2147483648 ≤ (p.getD q.toNat default).n ∧ (p.getD q.toNat default).n ≤ 2147483647) := by
  have hx := hg.2.2.2.2 q.toNat (by omega)
  have hl := hg.2.2.1
  obtain ⟨hw, hx⟩ := hx
  simp only [oneI, ite_eq_left_iff, Bool.false_eq_true, imp_false, Decidable.not_not] at hx
  unfold oneP threeP at hx
  unfold wIns at hw
  rw [show ((q.toNat : Nat) : Int) = q by omega] at hx
  omega
theorem Fit_use2 {l : List TIns} {cap : Nat} {Q : AV → Hp → Nat → Prop} (hc : l.length ≤ cap ∧ cap ≤ 9223372036854775807) (hw : ∀ x, x ∈ l → wIns x) (hq : ∀ (p : List TIns) (pc : Nat), Imp ((1 ≤ (p.length : Int) ∧ (p.length : Int) ≤ 32) ∧ goodP p pc) (Q (.slc 1 0 [] 5 0 0 p.length pc) [(1, .vec pc 5 (p.map eIns)), (0, .ro fun _ => .rows 5 (l.map eIns))] 2)) :
    callA Try.prog 16 [.slc 0 0 [] 5 0 0 l.length cap, .bool false] [(0, .ro fun _ => .rows 5 (l.map eIns))] 1 Q := Fit_use hc hw fun p pc hg => hq p pc ⟨⟨by have := hg.1; omega, by have := hg.2.1; omega⟩, hg⟩
theorem check_bad_use {p : List TIns} {k pc : Nat} {a q op d aa b m : Int} {rows : List AV} {H : Hp} {n : Nat} {Q : AV → Hp → Nat → Prop} (hv : viewE (hget k H) = some (5, rows)) (hr : rows = (p.map eIns).set q.toNat (.agg [.int .u8 op, .int .u8 d, .int .u8 aa, .int .u8 b, .int .i64 m]))
    (hg : (1 ≤ (p.length : Int) ∧ (p.length : Int) ≤ 32) ∧ goodP p pc) (hq : q = a % p.length ∧ 0 ≤ q ∧ q < p.length) (hx : wIns ⟨op, d, aa, b, m⟩) (hb : ¬ oneP op d aa b m q p.length) (hQ : Q (.int .i64 23) H n) :
    callA Try.prog 17 [.slc k 0 [] 5 0 0 p.length pc] H n Q := by
  have hlen : (p.set q.toNat ⟨op, d, aa, b, m⟩).length = p.length := List.length_set
  have hk : q.toNat < (p.set q.toNat ⟨op, d, aa, b, m⟩).length := by omega
  have hget : ∀ i : Nat, i < p.length → (p.set q.toNat ⟨op, d, aa, b, m⟩).getD i default = if q.toNat = i then ⟨op, d, aa, b, m⟩ else p.getD i default := by
    intro i hi
    rw [List.getD_eq_getElem?_getD, List.getElem?_set]
    by_cases h : q.toNat = i
    · subst h; simp [hi]
    · simp [h]
  have hc : checkI (p.set q.toNat ⟨op, d, aa, b, m⟩) = 23 := by
    rw [checkI, if_neg]
    intro h
    have hbad : okFrom (p.set q.toNat ⟨op, d, aa, b, m⟩).length 0 (p.set q.toNat ⟨op, d, aa, b, m⟩) = false := by
      refine okFrom_bad q.toNat hk ?_
      rw [hget _ (by omega), if_pos rfl, hlen, show (0 : Int) + (q.toNat : Int) = q by omega, oneI, if_neg hb]
    rw [hbad] at h
    exact Bool.noConfusion h.2.2
  refine check_use (l := p.set q.toNat ⟨op, d, aa, b, m⟩) (l' := p.set q.toNat ⟨op, d, aa, b, m⟩) hv (by rw [hr, List.map_set]; rfl) (by rw [← hlen]; exact (List.take_length).symm) (by omega) ⟨hg.2.2.2.1, by omega⟩ (fun i hi => ?_) (by rw [hc]; exact hQ)
  rw [hget i (by omega)]
  split
  · exact hx
  · exact (hg.2.2.2.2 i (by omega)).1
noncomputable def cx3 : Cx := ⟨Try.prog, [], [], [(0, [2, 1, 0]), (1, [7, 2, 1, 0]), (2, [8, 7, 2, 1]), (3, [9, 8, 7, 2]), (4, [19, 9, 8, 7]), (5, [20, 19, 9, 8, 7]), (6, [9, 8, 7]), (7, [32, 19, 9, 8, 7]), (8, [9, 8, 7]), (9, [44, 19, 9, 8, 7]), (10, [9, 8, 7]), (11, [56, 19, 9, 8, 7]), (12, [9, 8, 7]), (13, [68, 19, 9, 8, 7]), (14, [9, 8, 7]), (15, [74, 9, 8, 7]), (16, [9, 8, 7]), (17, [6])]⟩
theorem cx3_P : cx3.P = Try.prog := rfl
theorem cx3_l0 : lookL 0 cx3.lv = some [2, 1, 0] := rfl
theorem cx3_l1 : lookL 1 cx3.lv = some [7, 2, 1, 0] := rfl
theorem cx3_l2 : lookL 2 cx3.lv = some [8, 7, 2, 1] := rfl
theorem cx3_l3 : lookL 3 cx3.lv = some [9, 8, 7, 2] := rfl
theorem cx3_l4 : lookL 4 cx3.lv = some [19, 9, 8, 7] := rfl
theorem cx3_l5 : lookL 5 cx3.lv = some [20, 19, 9, 8, 7] := rfl
theorem cx3_l6 : lookL 6 cx3.lv = some [9, 8, 7] := rfl
theorem cx3_l7 : lookL 7 cx3.lv = some [32, 19, 9, 8, 7] := rfl
theorem cx3_l8 : lookL 8 cx3.lv = some [9, 8, 7] := rfl
theorem cx3_l9 : lookL 9 cx3.lv = some [44, 19, 9, 8, 7] := rfl
theorem cx3_l10 : lookL 10 cx3.lv = some [9, 8, 7] := rfl
theorem cx3_l11 : lookL 11 cx3.lv = some [56, 19, 9, 8, 7] := rfl
theorem cx3_l12 : lookL 12 cx3.lv = some [9, 8, 7] := rfl
theorem cx3_l13 : lookL 13 cx3.lv = some [68, 19, 9, 8, 7] := rfl
theorem cx3_l14 : lookL 14 cx3.lv = some [9, 8, 7] := rfl
theorem cx3_l15 : lookL 15 cx3.lv = some [74, 9, 8, 7] := rfl
theorem cx3_l16 : lookL 16 cx3.lv = some [9, 8, 7] := rfl
theorem cx3_l17 : lookL 17 cx3.lv = some [6] := rfl
theorem cx3_pu : cx3.pu = [] := rfl
theorem cx3_ok : okc cx3 Try.f3.ntmps (Try.f3.body.getD .skip) = true := by kernel_rfl
theorem enter3 {args : List AV} {H : Hp} {n : Nat} {Q : AV → Hp → Nat → Prop} (h : args.length ≤ 101 ∧ Ev cx3 ⟨101, n, none, 3⟩ (Try.f3.body.getD .skip) ⟨argT 0 args, H, n⟩ (.top Try.f3.results.toList Q)) : callA Try.prog 3 args H n Q :=
  callA_ev (cx := cx3) puOk_nil (f := 3) (fn := Try.f3) Try.func3 rfl (by kernel_rfl) h.1 cx3_ok h.2
theorem refuses_walk (x0 : List TIns) (c0 : Nat) (x1 : Int) (x2 : Int) (h0 : x0.length ≤ c0 ∧ c0 ≤ 9223372036854775807) (w0 : ∀ a ∈ x0, wIns a) (h1 : (0 ≤ x1 ∧ x1 ≤ 255)) (h2 : (0 ≤ x2 ∧ x2 ≤ 255)) : callA Try.prog 3 [.slc 0 0 [] 5 0 0 x0.length c0, .int .u8 x1, .int .u8 x2] [(0, .ro fun _ => .rows 5 (x0.map eIns))] 1 fun v _ _ => v = .bool true := by
  show callA _ _ _ _ _ _
  sym =>
    repeat (first (apply enter3) (apply shown_use) (apply Fit_use2; (tactic => assumption); (tactic => assumption)) (apply valK_remV; (tactic => omega)) (apply valK_wu8; (tactic => (have g := ref_bd (by assumption) (by assumption); omega))) (apply check_bad_use; (tactic => rfl); (tactic => rfl); (tactic => assumption); (tactic => assumption); (tactic => (have g := ref_bd (by assumption) (by assumption); simp only [wIns]; omega)); (tactic => (have g := ref_bd (by assumption) (by assumption); unfold oneP threeP; omega))) (apply one_use; (tactic => (have g := ref_bd (by assumption) (by assumption); omega))) (apply imp_go; intro hp) (apply valK_w64; · finish (splits := 3) (ematch := 1)) (apply valK_wu8; · finish (splits := 3) (ematch := 1)) (apply valK_wu64; · finish (splits := 3) (ematch := 1)) (apply valK_w32; · finish (splits := 3) (ematch := 1)) (apply valK_wu16; · finish (splits := 3) (ematch := 1)) (apply valK_wu32; · finish (splits := 3) (ematch := 1)) (apply valK_wr) (apply valK_andR) (apply valK_quo; · finish (splits := 3) (ematch := 1)) (apply valK_quoR; · finish (splits := 3) (ematch := 1)) (apply valK_rem; · finish (splits := 3) (ematch := 1)) (apply valK_remR; · finish (splits := 3) (ematch := 1)) (apply valK_bol; · finish (splits := 3) (ematch := 1)) (apply effK_bol; · finish (splits := 3) (ematch := 1)) (apply newK_bol; · finish (splits := 3) (ematch := 1)) (apply appK_bol; · finish (splits := 3) (ematch := 1)) (apply topO_bol; · finish (splits := 3) (ematch := 1)) (apply valK_altY; · finish (splits := 3) (ematch := 1)) (apply valK_altN; · finish (splits := 3) (ematch := 1)) (apply effK_altY; · finish (splits := 3) (ematch := 1)) (apply effK_altN; · finish (splits := 3) (ematch := 1)) (apply valK_altNY; · finish (splits := 3) (ematch := 1)) (apply valK_altNN; · finish (splits := 3) (ematch := 1)) (apply valK_altS) (apply valK_altNS) (apply effK_altS) (apply appS_go) (apply brC_y; · finish (splits := 3) (ematch := 1)) (apply brC_n; · finish (splits := 3) (ematch := 1)) (apply brC_yN; · finish (splits := 3) (ematch := 1)) (apply brC_nN; · finish (splits := 3) (ematch := 1)) (apply brC_s) (apply brC_sN) (apply wantK_y; · finish (splits := 3) (ematch := 1)) (apply wantK_n; · finish (splits := 3) (ematch := 1)) (apply wantK_yN; · finish (splits := 3) (ematch := 1)) (apply wantK_nN; · finish (splits := 3) (ematch := 1)) (apply wantK_s) (apply wantK_sN) (apply rowG_y; · finish (splits := 3) (ematch := 1)) (apply rowG_n; · finish (splits := 3) (ematch := 1)) (apply rowG_yN; · finish (splits := 3) (ematch := 1)) (apply rowG_nN; · finish (splits := 3) (ematch := 1)) (apply rowG_s) (apply rowG_sN) (simp [eIns_eq, eIns_eq, cx3_P, cx3_l0, cx3_l1, cx3_l2, cx3_l3, cx3_l4, cx3_l5, cx3_l6, cx3_l7, cx3_l8, cx3_l9, cx3_l10, cx3_l11, cx3_l12, cx3_l13, cx3_l14, cx3_l15, cx3_l16, cx3_l17, cx3_pu, Try.f3.eq_1, ty_arrOf_22, ty_arrOf_26, ty_arrOf_3, ty_arrOf_4, ty_arrOf_5, ty_bytesE_22, ty_fldOf_26_0, ty_fldOf_26_1, ty_fldOf_26_2, ty_fldOf_26_3, ty_fldOf_26_4, ty_hasTy_3, ty_hasTy_5, ty_intOf_3, ty_intOf_5, ty_isBoolTy_4, ty_lay_26, ty_lay_3, ty_lay_4, ty_lay_5, ty_notInt_22, ty_notInt_26, ty_notInt_4, ty_placesOf_26, ty_slcOf_22, ty_slcOf_26, ty_slcOf_3, ty_slcOf_4, ty_slcOf_5, ty_zeroA_26, ty_zeroA_3, ty_zeroA_4, ty_zeroE_22, valK_some, effK_some, opE_move, opE_assign, opE_pick, opE_build, opE_load, opE_bin, opE_un, opE_conv, opE_fieldAddr, opE_indexAddr, opE_len, callK_fn, callK_yld, callG_some, callG_none, opE_store_r, opE_call_r, ev_seq, ev_skip, ev_label, ev_region, ev_cond, condC_some, brC_true, brC_false, ev_block, ev_scope, ev_exit, ev_ret, nx_seq, nx_seqE, nx_seqR, nx_blk, nx_blkE, nx_blkR, nx_top, nx_topR, topO_some, evR_nil, wantK_tup, wantK_tt, wantK_ff, wantK_tf, wantK_ft, evR_op, evR_guard, finK_reg, getT_cons, putT_some, putT_none, trimT_some, trimT_none, keepT_nil, keepT_cons, consT_some, consT_none, getT_nil, getO_tmp, getO_const, getO_func, ofC_int, ofC_bool, ofC_ptr, ofC_slc, ofC_map, ofC_fn, getOs_nil, getOs_cons, consO_some, guardT_eq, guardO_some, hget_cons, hset_cons, wrap_lit, wrap_neg, top_i64, bot_i64, top_u8, bot_u8, bits_u8, bits_i64, cast_lit, toNat_lit, get_zero, get_succ, take_zero, take_succ, set_zero, set_succ, length_nil, length_cons, length_set, append_nil, nil_append, cons_append, toList_arr, bnot_true, bnot_false, band_true, band_false, beq_tt, beq_ff, beq_tf, beq_ft, beq_nat, beq_int, bne_nat, map_some, map_none, true_eq_false, false_eq_true, true_eq_true, fbody_mk, fresults_mk, getD_some, bol_true, binO_some, rem_lit, rem_neg, bin_eql, bin_beql, bin_bneq, eqO_eq, eqO_ne, bin_aeql, bin_aneq, bin_reql, bin_rneq, aggEq_some, flatL_nil, flatL_cons, appV_some, flatV_int, flatV_bool, flatV_agg, flatV_rows, bin_feql, bin_fneq, bin_nfeql, bin_nfneq, bin_peql, bin_pneq, bin_npeql, bin_npneq, unO_some, un_not, convO_some, conv_int, pickA_true, pickA_false, size_int, size_bool, size_str, size_ptr, size_nilp, size_slc, size_nils, size_map, size_nilm, size_fn, size_yld, size_nilf, size_agg, size_rows, sizeL_nil, sizeL_cons, layOK_int, layOK_bool, layOK_str, layOK_ptr, layOK_nilp, layOK_slc, layOK_nils, layOK_map, layOK_nilm, layOK_fn, layOK_yld, layOK_nilf, layOK_agg, layOK_rows, isTup_int, isTup_bool, isTup_str, isTup_ptr, isTup_nilp, isTup_slc, isTup_nils, isTup_map, isTup_nilm, isTup_fn, isTup_yld, isTup_nilf, isTup_agg, isTup_rows, getP_nil, getP_cons, getS_some, stepP_agg, stepP_rows, putP_nil, putP_cons, putS_some, putU_some, setS_agg, setS_rows, loadO_some, loadA_ptr, loadE_cel, loadE_vec, loadE_ro, chkL_some, storeO_some, stH_some, storeA_ptr, storeE_cel, storeE_vec, storeB_cel, faO_some, fa_ptr, iaO_some, partsO_nil, partsO_cons, buildA_some, fillP_nil, fillP_cons, fillN_some, setA_agg, setA_rows, setC_some, setD_some, slN_some, builtO_some, len_slc, len_nils, len_rows, arN_some, resF_eq, resAll_nil, resAll_cons, resOne_tmp, resOne_cell, tupO_none, tupO_one, tupO_more, argT_nil, argT_cons, lookU_nil, lookU_cons, lookL_cons, lookL_nil, lookP_cons, mbin_add, mbin_sub, mbin_rem, mun_neg, mcvI_some, wrapO_lit, wrapO_neg, mia_ptr, mia_slc, mstoreB_vec, len_set, not_tf, not_ft, and_tf, not_not_b, alt_true, alt_false, pick_alt, bol_false, getS_bol, getS_alt, chkL_bol, chkL_alt, putS_bol, putS_alt, putU_bol, putU_alt, storeB_bol, storeB_alt, stH_bol, stH_alt, consO_bol, consO_bol2, tupO_bol, fillN_bol, eqO_bol, bol_bol, get_mapB, get_setB, get_appB, len_map, nat_zero_add, hideH_nil, and_self, and_true, true_and, and_false, false_and]) (apply valK_bolB; · finish (splits := 3) (ematch := 1)) (apply valK_altT; · finish (splits := 3) (ematch := 1)) (apply valK_altF; · finish (splits := 3) (ematch := 1)) (apply valK_altB) (apply brC_t; · finish (splits := 3) (ematch := 1)) (apply brC_f; · finish (splits := 3) (ematch := 1)) (apply brC_sBN) (apply brC_sB) (apply wantK_t; · finish (splits := 3) (ematch := 1)) (apply wantK_f; · finish (splits := 3) (ematch := 1)) (apply wantK_sBN) (apply wantK_sB) (apply rowG_t; · finish (splits := 3) (ematch := 1)) (apply rowG_f; · finish (splits := 3) (ematch := 1)) (apply rowG_sBN) (apply rowG_sB) (intro~ hr) (tactic => exact congrArg AV.bool (if_neg (by have g := ref_bd (by assumption) (by assumption); unfold oneP threeP; omega))))
end Go.Proofs.Ytngjfoajgedgjaa
