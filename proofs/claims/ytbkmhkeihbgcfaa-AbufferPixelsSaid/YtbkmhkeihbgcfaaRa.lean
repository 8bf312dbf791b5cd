/-
  Several texts in one.
-/
import Derived.Test.YtbkmhkeihbgcfaaT
import Derived.Test.YtbkmhkeihbgcfaaLc
set_option linter.unusedVariables false
set_option linter.unusedSimpArgs false
set_option maxRecDepth 10000
set_option maxHeartbeats 0
namespace Go.Proofs.Ytbkmhkeihbgcfaa
open Go.Y
-- Chapter 16: keys are held against each other.
noncomputable def cx75 : Cx := ⟨Try.prog, [], [], [(0, [0]), (1, [2])]⟩
theorem cx75_P : cx75.P = Try.prog := rfl
theorem cx75_l0 : lookL 0 cx75.lv = some [0] := rfl
theorem cx75_l1 : lookL 1 cx75.lv = some [2] := rfl
theorem cx75_pu : cx75.pu = [] := rfl
theorem cx75_ok : okc cx75 Try.f75.ntmps (Try.f75.body.getD .skip) = true := by kernel_rfl
theorem enter75 {args : List AV} {H : Hp} {n : Nat} {Q : AV → Hp → Nat → Prop} (h : args.length ≤ 6 ∧ Ev cx75 ⟨6, n, none, 75⟩ (Try.f75.body.getD .skip) ⟨argT 0 args, H, n⟩ (.top Try.f75.results.toList Q)) : callA Try.prog 75 args H n Q :=
  callA_ev (cx := cx75) puOk_nil (f := 75) (fn := Try.f75) Try.func75 rfl (by kernel_rfl) h.1 cx75_ok h.2
noncomputable def cx72 : Cx := ⟨Try.prog, [], [], [(0, [1, 0]), (1, [5, 1, 0]), (2, [6, 5, 1, 0]), (3, [11, 6, 1, 0]), (4, [12]), (5, [4]), (6, [4]), (7, [13, 1, 0]), (8, [4]), (9, [16, 1, 0]), (10, [4]), (11, [19]), (12, [4]), (13, [4])]⟩
theorem cx72_P : cx72.P = Try.prog := rfl
theorem cx72_l0 : lookL 0 cx72.lv = some [1, 0] := rfl
theorem cx72_l1 : lookL 1 cx72.lv = some [5, 1, 0] := rfl
theorem cx72_l2 : lookL 2 cx72.lv = some [6, 5, 1, 0] := rfl
theorem cx72_l3 : lookL 3 cx72.lv = some [11, 6, 1, 0] := rfl
theorem cx72_l4 : lookL 4 cx72.lv = some [12] := rfl
theorem cx72_l5 : lookL 5 cx72.lv = some [4] := rfl
theorem cx72_l6 : lookL 6 cx72.lv = some [4] := rfl
theorem cx72_l7 : lookL 7 cx72.lv = some [13, 1, 0] := rfl
theorem cx72_l8 : lookL 8 cx72.lv = some [4] := rfl
theorem cx72_l9 : lookL 9 cx72.lv = some [16, 1, 0] := rfl
theorem cx72_l10 : lookL 10 cx72.lv = some [4] := rfl
theorem cx72_l11 : lookL 11 cx72.lv = some [19] := rfl
theorem cx72_l12 : lookL 12 cx72.lv = some [4] := rfl
theorem cx72_l13 : lookL 13 cx72.lv = some [4] := rfl
theorem cx72_pu : cx72.pu = [] := rfl
theorem cx72_ok : okc cx72 Try.f72.ntmps (Try.f72.body.getD .skip) = true := by kernel_rfl
theorem enter72 {args : List AV} {H : Hp} {n : Nat} {Q : AV → Hp → Nat → Prop} (h : args.length ≤ 20 ∧ Ev cx72 ⟨20, n, none, 72⟩ (Try.f72.body.getD .skip) ⟨argT 0 args, H, n⟩ (.top Try.f72.results.toList Q)) : callA Try.prog 72 args H n Q :=
  callA_ev (cx := cx72) puOk_nil (f := 72) (fn := Try.f72) Try.func72 rfl (by kernel_rfl) h.1 cx72_ok h.2
noncomputable def cx71 : Cx := ⟨Try.prog, [], [], [(0, [0]), (1, [3, 0]), (2, [8, 7, 6, 3]), (3, [9, 8, 7, 6, 3]), (4, [8, 7, 6, 5, 3]), (5, [14, 8, 7, 6, 5, 3]), (6, [2]), (7, [8, 7, 6, 3]), (8, [2])]⟩
theorem cx71_P : cx71.P = Try.prog := rfl
theorem cx71_l0 : lookL 0 cx71.lv = some [0] := rfl
theorem cx71_l1 : lookL 1 cx71.lv = some [3, 0] := rfl
theorem cx71_l2 : lookL 2 cx71.lv = some [8, 7, 6, 3] := rfl
theorem cx71_l3 : lookL 3 cx71.lv = some [9, 8, 7, 6, 3] := rfl
theorem cx71_l4 : lookL 4 cx71.lv = some [8, 7, 6, 5, 3] := rfl
theorem cx71_l5 : lookL 5 cx71.lv = some [14, 8, 7, 6, 5, 3] := rfl
theorem cx71_l6 : lookL 6 cx71.lv = some [2] := rfl
theorem cx71_l7 : lookL 7 cx71.lv = some [8, 7, 6, 3] := rfl
theorem cx71_l8 : lookL 8 cx71.lv = some [2] := rfl
theorem cx71_pu : cx71.pu = [] := rfl
theorem cx71_ok : okc cx71 Try.f71.ntmps (Try.f71.body.getD .skip) = true := by kernel_rfl
theorem enter71 {args : List AV} {H : Hp} {n : Nat} {Q : AV → Hp → Nat → Prop} (h : args.length ≤ 18 ∧ Ev cx71 ⟨18, n, none, 71⟩ (Try.f71.body.getD .skip) ⟨argT 0 args, H, n⟩ (.top Try.f71.results.toList Q)) : callA Try.prog 71 args H n Q :=
  callA_ev (cx := cx71) puOk_nil (f := 71) (fn := Try.f71) Try.func71 rfl (by kernel_rfl) h.1 cx71_ok h.2
noncomputable def cx66 : Cx := ⟨Try.prog, [], [(1, ⟨1, (⟨0, false, [], [], [], 0⟩ :: ⟨1, false, [0], [], [0], 0⟩ :: ⟨2, false, [], [], [], 0⟩ :: ⟨3, false, [2], [], [0], 0⟩ :: ⟨5, false, [], [], [], 0⟩ :: ⟨6, false, [5], [], [0], 0⟩ :: ⟨7, false, [], [], [], 0⟩ :: ⟨8, false, [7], [], [0], 0⟩ :: ⟨10, false, [], [], [], 0⟩ :: ⟨11, false, [10], [], [0], 0⟩ :: ⟨12, false, [], [], [], 0⟩ :: ⟨13, false, [12], [], [0], 0⟩ :: ⟨15, false, [], [], [], 0⟩ :: ⟨16, false, [15], [], [0], 0⟩ :: ⟨17, false, [], [], [], 0⟩ :: ⟨18, false, [17], [], [0], 0⟩ :: ⟨4, true, [1, 3], [6, 8, 11, 13, 16, 18], [0], 0⟩ :: ⟨9, true, [1, 3, 4, 6, 8], [11, 13, 16, 18], [0], 0⟩ :: ⟨14, true, [1, 3, 4, 6, 8, 9, 11, 13], [16, 18], [0], 0⟩ :: ⟨19, true, [1, 3, 4, 6, 8, 9, 11, 13, 14, 16, 18], [], [0], 0⟩ :: ⟨20, false, [4, 9, 14, 19], [], [], 0⟩ :: ⟨21, true, [1, 3, 4, 6, 8, 9, 11, 13, 14, 16, 18, 19, 20], [], [], 0⟩ :: ⟨22, false, [4, 9, 14, 19, 21], [], [], 0⟩ :: [])⟩)], [(0, [3, 2]), (1, [4])]⟩
theorem cx66_P : cx66.P = Try.prog := rfl
theorem cx66_l0 : lookL 0 cx66.lv = some [3, 2] := rfl
theorem cx66_l1 : lookL 1 cx66.lv = some [4] := rfl
theorem cx66_p1 : lookP 1 cx66.pl = some ⟨1, (⟨0, false, [], [], [], 0⟩ :: ⟨1, false, [0], [], [0], 0⟩ :: ⟨2, false, [], [], [], 0⟩ :: ⟨3, false, [2], [], [0], 0⟩ :: ⟨5, false, [], [], [], 0⟩ :: ⟨6, false, [5], [], [0], 0⟩ :: ⟨7, false, [], [], [], 0⟩ :: ⟨8, false, [7], [], [0], 0⟩ :: ⟨10, false, [], [], [], 0⟩ :: ⟨11, false, [10], [], [0], 0⟩ :: ⟨12, false, [], [], [], 0⟩ :: ⟨13, false, [12], [], [0], 0⟩ :: ⟨15, false, [], [], [], 0⟩ :: ⟨16, false, [15], [], [0], 0⟩ :: ⟨17, false, [], [], [], 0⟩ :: ⟨18, false, [17], [], [0], 0⟩ :: ⟨4, true, [1, 3], [6, 8, 11, 13, 16, 18], [0], 0⟩ :: ⟨9, true, [1, 3, 4, 6, 8], [11, 13, 16, 18], [0], 0⟩ :: ⟨14, true, [1, 3, 4, 6, 8, 9, 11, 13], [16, 18], [0], 0⟩ :: ⟨19, true, [1, 3, 4, 6, 8, 9, 11, 13, 14, 16, 18], [], [0], 0⟩ :: ⟨20, false, [4, 9, 14, 19], [], [], 0⟩ :: ⟨21, true, [1, 3, 4, 6, 8, 9, 11, 13, 14, 16, 18, 19, 20], [], [], 0⟩ :: ⟨22, false, [4, 9, 14, 19, 21], [], [], 0⟩ :: [])⟩ := rfl
theorem cx66_pu : cx66.pu = [] := rfl
theorem cx66_ok : okc cx66 Try.f66.ntmps (Try.f66.body.getD .skip) = true := by kernel_rfl
theorem enter66 {args : List AV} {H : Hp} {n : Nat} {Q : AV → Hp → Nat → Prop} (h : args.length ≤ 27 ∧ Ev cx66 ⟨27, n, none, 66⟩ (Try.f66.body.getD .skip) ⟨argT 0 args, H, n⟩ (.top Try.f66.results.toList Q)) : callA Try.prog 66 args H n Q :=
  callA_ev (cx := cx66) puOk_nil (f := 66) (fn := Try.f66) Try.func66 rfl (by kernel_rfl) h.1 cx66_ok h.2
noncomputable def cx59 : Cx := ⟨Try.prog, [], [], [(0, [1, 0]), (1, [7, 1, 0]), (2, [4]), (3, [10]), (4, [4]), (5, [4])]⟩
theorem cx59_P : cx59.P = Try.prog := rfl
theorem cx59_l0 : lookL 0 cx59.lv = some [1, 0] := rfl
theorem cx59_l1 : lookL 1 cx59.lv = some [7, 1, 0] := rfl
theorem cx59_l2 : lookL 2 cx59.lv = some [4] := rfl
theorem cx59_l3 : lookL 3 cx59.lv = some [10] := rfl
theorem cx59_l4 : lookL 4 cx59.lv = some [4] := rfl
theorem cx59_l5 : lookL 5 cx59.lv = some [4] := rfl
theorem cx59_pu : cx59.pu = [] := rfl
theorem cx59_ok : okc cx59 Try.f59.ntmps (Try.f59.body.getD .skip) = true := by kernel_rfl
theorem enter59 {args : List AV} {H : Hp} {n : Nat} {Q : AV → Hp → Nat → Prop} (h : args.length ≤ 11 ∧ Ev cx59 ⟨11, n, none, 59⟩ (Try.f59.body.getD .skip) ⟨argT 0 args, H, n⟩ (.top Try.f59.results.toList Q)) : callA Try.prog 59 args H n Q :=
  callA_ev (cx := cx59) puOk_nil (f := 59) (fn := Try.f59) Try.func59 rfl (by kernel_rfl) h.1 cx59_ok h.2
noncomputable def cx35 : Cx := ⟨Try.prog, [], [], [(0, [3, 2]), (1, [5, 3, 2]), (2, [12, 5, 3, 2]), (3, [5, 3, 2]), (4, [19, 5, 3, 2]), (5, [5, 3, 2]), (6, [26, 5, 3, 2]), (7, [5]), (8, [4])]⟩
theorem cx35_P : cx35.P = Try.prog := rfl
theorem cx35_l0 : lookL 0 cx35.lv = some [3, 2] := rfl
theorem cx35_l1 : lookL 1 cx35.lv = some [5, 3, 2] := rfl
theorem cx35_l2 : lookL 2 cx35.lv = some [12, 5, 3, 2] := rfl
theorem cx35_l3 : lookL 3 cx35.lv = some [5, 3, 2] := rfl
theorem cx35_l4 : lookL 4 cx35.lv = some [19, 5, 3, 2] := rfl
theorem cx35_l5 : lookL 5 cx35.lv = some [5, 3, 2] := rfl
theorem cx35_l6 : lookL 6 cx35.lv = some [26, 5, 3, 2] := rfl
theorem cx35_l7 : lookL 7 cx35.lv = some [5] := rfl
theorem cx35_l8 : lookL 8 cx35.lv = some [4] := rfl
theorem cx35_pu : cx35.pu = [] := rfl
theorem cx35_ok : okc cx35 Try.f35.ntmps (Try.f35.body.getD .skip) = true := by kernel_rfl
theorem enter35 {args : List AV} {H : Hp} {n : Nat} {Q : AV → Hp → Nat → Prop} (h : args.length ≤ 33 ∧ Ev cx35 ⟨33, n, none, 35⟩ (Try.f35.body.getD .skip) ⟨argT 0 args, H, n⟩ (.top Try.f35.results.toList Q)) : callA Try.prog 35 args H n Q :=
  callA_ev (cx := cx35) puOk_nil (f := 35) (fn := Try.f35) Try.func35 rfl (by kernel_rfl) h.1 cx35_ok h.2
def cmp1 (a b : Int) : Int := if a < b then -1 else if b < a then 1 else 0
theorem cmp1_lt {a b : Int} (h : a < b) : AV.int .i64 (-1) = .int .i64 (cmp1 a b) := by unfold cmp1; rw [if_pos h]
theorem cmp1_gt {a b : Int} (h1 : ¬ a < b) (h : b < a) : AV.int .i64 1 = .int .i64 (cmp1 a b) := by unfold cmp1; rw [if_neg h1, if_pos h]
theorem cmp1_eq {a b : Int} (h1 : ¬ a < b) (h : ¬ b < a) : AV.int .i64 0 = .int .i64 (cmp1 a b) := by unfold cmp1; rw [if_neg h1, if_neg h]
theorem nan_use {x : Int} {H : Hp} {n : Nat} {Q : AV → Hp → Nat → Prop} (hq : Q (.bool false) H n) : callA Try.prog 75 [.int .i64 x] H n Q := by
  refine callA_pure ?_ rfl (by rfl) hq
  sym =>
    repeat (first (apply enter75) (apply imp_go; intro hp) (apply valK_w64; · finish (splits := 3) (ematch := 1)) (apply valK_wu8; · finish (splits := 3) (ematch := 1)) (apply valK_wu64; · finish (splits := 3) (ematch := 1)) (apply valK_w32; · finish (splits := 3) (ematch := 1)) (apply valK_wu16; · finish (splits := 3) (ematch := 1)) (apply valK_wu32; · finish (splits := 3) (ematch := 1)) (apply valK_wr) (apply valK_andR) (apply valK_quo; · finish (splits := 3) (ematch := 1)) (apply valK_quoR; · finish (splits := 3) (ematch := 1)) (apply valK_rem; · finish (splits := 3) (ematch := 1)) (apply valK_remR; · finish (splits := 3) (ematch := 1)) (apply valK_bol; · finish (splits := 3) (ematch := 1)) (apply effK_bol; · finish (splits := 3) (ematch := 1)) (apply newK_bol; · finish (splits := 3) (ematch := 1)) (apply appK_bol; · finish (splits := 3) (ematch := 1)) (apply topO_bol; · finish (splits := 3) (ematch := 1)) (apply valK_altY; · finish (splits := 3) (ematch := 1)) (apply valK_altN; · finish (splits := 3) (ematch := 1)) (apply effK_altY; · finish (splits := 3) (ematch := 1)) (apply effK_altN; · finish (splits := 3) (ematch := 1)) (apply valK_altNY; · finish (splits := 3) (ematch := 1)) (apply valK_altNN; · finish (splits := 3) (ematch := 1)) (apply valK_altS) (apply valK_altNS) (apply effK_altS) (apply appS_go) (apply brC_y; · finish (splits := 3) (ematch := 1)) (apply brC_n; · finish (splits := 3) (ematch := 1)) (apply brC_yN; · finish (splits := 3) (ematch := 1)) (apply brC_nN; · finish (splits := 3) (ematch := 1)) (apply brC_s) (apply brC_sN) (apply wantK_y; · finish (splits := 3) (ematch := 1)) (apply wantK_n; · finish (splits := 3) (ematch := 1)) (apply wantK_yN; · finish (splits := 3) (ematch := 1)) (apply wantK_nN; · finish (splits := 3) (ematch := 1)) (apply wantK_s) (apply wantK_sN) (apply rowG_y; · finish (splits := 3) (ematch := 1)) (apply rowG_n; · finish (splits := 3) (ematch := 1)) (apply rowG_yN; · finish (splits := 3) (ematch := 1)) (apply rowG_nN; · finish (splits := 3) (ematch := 1)) (apply rowG_s) (apply rowG_sN) (simp [e17Op_eq, e19Op_eq, eAbuffertile_eq, eColour_eq, eFrag_eq, eKey_eq, cx75_P, cx75_l0, cx75_l1, cx75_pu, Try.f75.eq_1, ty_arrOf_3, ty_intOf_3, ty_isInt_3, ty_notInt_3, ty_lay_3, ty_slcOf_3, ty_zeroA_3, valK_some, opE_move, opE_assign, opE_load, opE_bin, opE_un, ev_seq, ev_skip, ev_label, ev_region, ev_cond, condC_some, brC_true, brC_false, ev_block, ev_scope, ev_exit, ev_ret, nx_seq, nx_seqE, nx_seqR, nx_blk, nx_blkE, nx_blkR, nx_top, nx_topR, topO_some, evR_nil, evR_op, evR_guard, finK_reg, getT_cons, putT_some, putT_none, trimT_some, trimT_none, keepT_nil, keepT_cons, consT_some, consT_none, getT_nil, getO_tmp, getO_const, getO_func, ofC_int, ofC_bool, ofC_ptr, ofC_slc, ofC_map, ofC_fn, getOs_nil, getOs_cons, consO_some, hget_cons, wrap_lit, wrap_neg, cast_lit, toNat_lit, get_zero, get_succ, take_zero, take_succ, set_zero, set_succ, length_nil, length_cons, append_nil, nil_append, cons_append, toList_arr, bnot_true, bnot_false, band_true, band_false, beq_tt, beq_ff, beq_tf, beq_ft, beq_nat, beq_int, bne_nat, map_some, map_none, true_eq_false, false_eq_true, true_eq_true, fbody_mk, fresults_mk, getD_some, bol_true, binO_some, bin_neq, bin_beql, bin_bneq, eqO_eq, eqO_ne, bin_aeql, bin_aneq, bin_reql, bin_rneq, aggEq_some, flatL_nil, flatL_cons, appV_some, flatV_int, flatV_bool, flatV_agg, flatV_rows, bin_feql, bin_fneq, bin_nfeql, bin_nfneq, bin_peql, bin_pneq, bin_npeql, bin_npneq, size_int, size_bool, size_str, size_ptr, size_nilp, size_slc, size_nils, size_map, size_nilm, size_fn, size_nilf, size_agg, size_rows, sizeL_nil, sizeL_cons, layOK_int, layOK_bool, layOK_str, layOK_ptr, layOK_nilp, layOK_slc, layOK_nils, layOK_map, layOK_nilm, layOK_fn, layOK_nilf, layOK_agg, layOK_rows, isTup_int, isTup_bool, isTup_str, isTup_ptr, isTup_nilp, isTup_slc, isTup_nils, isTup_map, isTup_nilm, isTup_fn, isTup_nilf, isTup_agg, isTup_rows, getP_nil, getP_cons, getS_some, stepP_agg, stepP_rows, loadO_some, loadA_ptr, loadE_cel, loadE_vec, loadE_ro, chkL_some, slN_some, resF_eq, resAll_nil, resAll_cons, resOne_tmp, resOne_cell, tupO_none, tupO_one, tupO_more, argT_nil, argT_cons, lookL_cons, lookL_nil, lookP_cons, wrapO_lit, wrapO_neg, not_tf, not_ft, and_tf, alt_true, alt_false, bol_false, getS_bol, getS_alt, chkL_bol, chkL_alt, consO_bol, consO_bol2, tupO_bol, eqO_bol, bol_bol, get_mapB, get_setB, get_appB, len_map, nat_zero_add, bin_nsleql, bin_nslneq, bin_nnleql, bin_nnlneq, slN_bol, beq_str, hideH_nil, and_self, and_true, true_and, and_false, false_and]) (apply valK_bolB; · finish (splits := 3) (ematch := 1)) (apply valK_altT; · finish (splits := 3) (ematch := 1)) (apply valK_altF; · finish (splits := 3) (ematch := 1)) (apply valK_altB) (apply brC_t; · finish (splits := 3) (ematch := 1)) (apply brC_f; · finish (splits := 3) (ematch := 1)) (apply brC_sBN) (apply brC_sB) (apply wantK_t; · finish (splits := 3) (ematch := 1)) (apply wantK_f; · finish (splits := 3) (ematch := 1)) (apply wantK_sBN) (apply wantK_sB) (apply rowG_t; · finish (splits := 3) (ematch := 1)) (apply rowG_f; · finish (splits := 3) (ematch := 1)) (apply rowG_sBN) (apply rowG_sB) (intro~ hr) (tactic => first | rfl | (trace_state; exact test_fail)))
theorem cmp_use {a b : Int} {H : Hp} {n : Nat} {Q : AV → Hp → Nat → Prop} (hq : Q (.int .i64 (cmp1 a b)) H n) : callA Try.prog 72 [.int .i64 a, .int .i64 b] H n Q := by
  refine callA_pure ?_ rfl (by rfl) hq
  sym =>
    repeat (first (apply enter72) (apply nan_use) (apply imp_go; intro hp) (apply valK_w64; · finish (splits := 3) (ematch := 1)) (apply valK_wu8; · finish (splits := 3) (ematch := 1)) (apply valK_wu64; · finish (splits := 3) (ematch := 1)) (apply valK_w32; · finish (splits := 3) (ematch := 1)) (apply valK_wu16; · finish (splits := 3) (ematch := 1)) (apply valK_wu32; · finish (splits := 3) (ematch := 1)) (apply valK_wr) (apply valK_andR) (apply valK_quo; · finish (splits := 3) (ematch := 1)) (apply valK_quoR; · finish (splits := 3) (ematch := 1)) (apply valK_rem; · finish (splits := 3) (ematch := 1)) (apply valK_remR; · finish (splits := 3) (ematch := 1)) (apply valK_bol; · finish (splits := 3) (ematch := 1)) (apply effK_bol; · finish (splits := 3) (ematch := 1)) (apply newK_bol; · finish (splits := 3) (ematch := 1)) (apply appK_bol; · finish (splits := 3) (ematch := 1)) (apply topO_bol; · finish (splits := 3) (ematch := 1)) (apply valK_altY; · finish (splits := 3) (ematch := 1)) (apply valK_altN; · finish (splits := 3) (ematch := 1)) (apply effK_altY; · finish (splits := 3) (ematch := 1)) (apply effK_altN; · finish (splits := 3) (ematch := 1)) (apply valK_altNY; · finish (splits := 3) (ematch := 1)) (apply valK_altNN; · finish (splits := 3) (ematch := 1)) (apply valK_altS) (apply valK_altNS) (apply effK_altS) (apply appS_go) (apply brC_y; · finish (splits := 3) (ematch := 1)) (apply brC_n; · finish (splits := 3) (ematch := 1)) (apply brC_yN; · finish (splits := 3) (ematch := 1)) (apply brC_nN; · finish (splits := 3) (ematch := 1)) (apply brC_s) (apply brC_sN) (apply wantK_y; · finish (splits := 3) (ematch := 1)) (apply wantK_n; · finish (splits := 3) (ematch := 1)) (apply wantK_yN; · finish (splits := 3) (ematch := 1)) (apply wantK_nN; · finish (splits := 3) (ematch := 1)) (apply wantK_s) (apply wantK_sN) (apply rowG_y; · finish (splits := 3) (ematch := 1)) (apply rowG_n; · finish (splits := 3) (ematch := 1)) (apply rowG_yN; · finish (splits := 3) (ematch := 1)) (apply rowG_nN; · finish (splits := 3) (ematch := 1)) (apply rowG_s) (apply rowG_sN) (simp [e17Op_eq, e19Op_eq, eAbuffertile_eq, eColour_eq, eFrag_eq, eKey_eq, cx72_P, cx72_l0, cx72_l1, cx72_l2, cx72_l3, cx72_l4, cx72_l5, cx72_l6, cx72_l7, cx72_l8, cx72_l9, cx72_l10, cx72_l11, cx72_l12, cx72_l13, cx72_pu, Try.f72.eq_1, ty_arrOf_3, ty_intOf_3, ty_isInt_3, ty_notInt_3, ty_lay_3, ty_slcOf_3, ty_zeroA_3, valK_some, opE_move, opE_assign, opE_load, opE_bin, opE_un, callK_fn, callK_yld, callG_some, callG_none, opE_call_r, ev_seq, ev_skip, ev_label, ev_region, ev_cond, condC_some, brC_true, brC_false, ev_block, ev_scope, ev_exit, ev_ret, nx_seq, nx_seqE, nx_seqR, nx_blk, nx_blkE, nx_blkR, nx_top, nx_topR, topO_some, evR_nil, evR_op, evR_guard, finK_reg, getT_cons, putT_some, putT_none, trimT_some, trimT_none, keepT_nil, keepT_cons, consT_some, consT_none, getT_nil, getO_tmp, getO_const, getO_func, ofC_int, ofC_bool, ofC_ptr, ofC_slc, ofC_map, ofC_fn, getOs_nil, getOs_cons, consO_some, hget_cons, wrap_lit, wrap_neg, top_i64, bot_i64, bits_i64, cast_lit, toNat_lit, get_zero, get_succ, take_zero, take_succ, set_zero, set_succ, length_nil, length_cons, append_nil, nil_append, cons_append, toList_arr, bnot_true, bnot_false, band_true, band_false, beq_tt, beq_ff, beq_tf, beq_ft, beq_nat, beq_int, bne_nat, map_some, map_none, true_eq_false, false_eq_true, true_eq_true, fbody_mk, fresults_mk, getD_some, bol_true, binO_some, bin_lss, bin_gtr, size_int, size_bool, size_str, size_ptr, size_nilp, size_slc, size_nils, size_map, size_nilm, size_fn, size_yld, size_nilf, size_agg, size_rows, sizeL_nil, sizeL_cons, layOK_int, layOK_bool, layOK_str, layOK_ptr, layOK_nilp, layOK_slc, layOK_nils, layOK_map, layOK_nilm, layOK_fn, layOK_yld, layOK_nilf, layOK_agg, layOK_rows, isTup_int, isTup_bool, isTup_str, isTup_ptr, isTup_nilp, isTup_slc, isTup_nils, isTup_map, isTup_nilm, isTup_fn, isTup_yld, isTup_nilf, isTup_agg, isTup_rows, getP_nil, getP_cons, getS_some, stepP_agg, stepP_rows, loadO_some, loadA_ptr, loadE_cel, loadE_vec, loadE_ro, chkL_some, resF_eq, resAll_nil, resAll_cons, resOne_tmp, resOne_cell, tupO_none, tupO_one, tupO_more, argT_nil, argT_cons, lookU_nil, lookU_cons, lookL_cons, lookL_nil, lookP_cons, roundS_eq, wrapO_lit, wrapO_neg, not_tf, not_ft, and_tf, alt_true, alt_false, bol_false, getS_bol, getS_alt, chkL_bol, chkL_alt, consO_bol, consO_bol2, tupO_bol, bol_bol, get_mapB, get_setB, get_appB, len_map, nat_zero_add, hideH_nil, and_self, and_true, true_and, and_false, false_and]) (apply valK_bolB; · finish (splits := 3) (ematch := 1)) (apply valK_altT; · finish (splits := 3) (ematch := 1)) (apply valK_altF; · finish (splits := 3) (ematch := 1)) (apply valK_altB) (apply brC_t; · finish (splits := 3) (ematch := 1)) (apply brC_f; · finish (splits := 3) (ematch := 1)) (apply brC_sBN) (apply brC_sB) (apply wantK_t; · finish (splits := 3) (ematch := 1)) (apply wantK_f; · finish (splits := 3) (ematch := 1)) (apply wantK_sBN) (apply wantK_sB) (apply rowG_t; · finish (splits := 3) (ematch := 1)) (apply rowG_f; · finish (splits := 3) (ematch := 1)) (apply rowG_sBN) (apply rowG_sB) (intro~ hr) (tactic => first | exact cmp1_lt hp | exact cmp1_gt ‹_› hp | exact cmp1_eq ‹_› hp | (trace_state; exact test_fail)))
theorem one_use {a b : Int} {H : Hp} {n : Nat} {Q : AV → Hp → Nat → Prop} (hq : Q (.int .i64 (cmp1 a b)) H n) : callA Try.prog 59 [.int .i64 a, .int .i64 b] H n Q := by
  refine callA_pure ?_ rfl (by rfl) hq
  sym =>
    repeat (first (apply enter59) (apply imp_go; intro hp) (apply valK_w64; · finish (splits := 3) (ematch := 1)) (apply valK_wu8; · finish (splits := 3) (ematch := 1)) (apply valK_wu64; · finish (splits := 3) (ematch := 1)) (apply valK_w32; · finish (splits := 3) (ematch := 1)) (apply valK_wu16; · finish (splits := 3) (ematch := 1)) (apply valK_wu32; · finish (splits := 3) (ematch := 1)) (apply valK_wr) (apply valK_andR) (apply valK_quo; · finish (splits := 3) (ematch := 1)) (apply valK_quoR; · finish (splits := 3) (ematch := 1)) (apply valK_rem; · finish (splits := 3) (ematch := 1)) (apply valK_remR; · finish (splits := 3) (ematch := 1)) (apply valK_bol; · finish (splits := 3) (ematch := 1)) (apply effK_bol; · finish (splits := 3) (ematch := 1)) (apply newK_bol; · finish (splits := 3) (ematch := 1)) (apply appK_bol; · finish (splits := 3) (ematch := 1)) (apply topO_bol; · finish (splits := 3) (ematch := 1)) (apply valK_altY; · finish (splits := 3) (ematch := 1)) (apply valK_altN; · finish (splits := 3) (ematch := 1)) (apply effK_altY; · finish (splits := 3) (ematch := 1)) (apply effK_altN; · finish (splits := 3) (ematch := 1)) (apply valK_altNY; · finish (splits := 3) (ematch := 1)) (apply valK_altNN; · finish (splits := 3) (ematch := 1)) (apply valK_altS) (apply valK_altNS) (apply effK_altS) (apply appS_go) (apply brC_y; · finish (splits := 3) (ematch := 1)) (apply brC_n; · finish (splits := 3) (ematch := 1)) (apply brC_yN; · finish (splits := 3) (ematch := 1)) (apply brC_nN; · finish (splits := 3) (ematch := 1)) (apply brC_s) (apply brC_sN) (apply wantK_y; · finish (splits := 3) (ematch := 1)) (apply wantK_n; · finish (splits := 3) (ematch := 1)) (apply wantK_yN; · finish (splits := 3) (ematch := 1)) (apply wantK_nN; · finish (splits := 3) (ematch := 1)) (apply wantK_s) (apply wantK_sN) (apply rowG_y; · finish (splits := 3) (ematch := 1)) (apply rowG_n; · finish (splits := 3) (ematch := 1)) (apply rowG_yN; · finish (splits := 3) (ematch := 1)) (apply rowG_nN; · finish (splits := 3) (ematch := 1)) (apply rowG_s) (apply rowG_sN) (simp [e17Op_eq, e19Op_eq, eAbuffertile_eq, eColour_eq, eFrag_eq, eKey_eq, cx59_P, cx59_l0, cx59_l1, cx59_l2, cx59_l3, cx59_l4, cx59_l5, cx59_pu, Try.f59.eq_1, ty_arrOf_3, ty_intOf_3, ty_isInt_3, ty_notInt_3, ty_lay_3, ty_slcOf_3, ty_zeroA_3, valK_some, opE_move, opE_assign, opE_load, opE_bin, opE_un, ev_seq, ev_skip, ev_label, ev_region, ev_cond, condC_some, brC_true, brC_false, ev_block, ev_scope, ev_exit, ev_ret, nx_seq, nx_seqE, nx_seqR, nx_blk, nx_blkE, nx_blkR, nx_top, nx_topR, topO_some, evR_nil, evR_op, evR_guard, finK_reg, getT_cons, putT_some, putT_none, trimT_some, trimT_none, keepT_nil, keepT_cons, consT_some, consT_none, getT_nil, getO_tmp, getO_const, getO_func, ofC_int, ofC_bool, ofC_ptr, ofC_slc, ofC_map, ofC_fn, getOs_nil, getOs_cons, consO_some, hget_cons, wrap_lit, wrap_neg, top_i64, bot_i64, bits_i64, cast_lit, toNat_lit, get_zero, get_succ, take_zero, take_succ, set_zero, set_succ, length_nil, length_cons, append_nil, nil_append, cons_append, toList_arr, bnot_true, bnot_false, band_true, band_false, beq_tt, beq_ff, beq_tf, beq_ft, beq_nat, beq_int, bne_nat, map_some, map_none, true_eq_false, false_eq_true, true_eq_true, fbody_mk, fresults_mk, getD_some, bol_true, binO_some, bin_lss, bin_gtr, size_int, size_bool, size_str, size_ptr, size_nilp, size_slc, size_nils, size_map, size_nilm, size_fn, size_nilf, size_agg, size_rows, sizeL_nil, sizeL_cons, layOK_int, layOK_bool, layOK_str, layOK_ptr, layOK_nilp, layOK_slc, layOK_nils, layOK_map, layOK_nilm, layOK_fn, layOK_nilf, layOK_agg, layOK_rows, isTup_int, isTup_bool, isTup_str, isTup_ptr, isTup_nilp, isTup_slc, isTup_nils, isTup_map, isTup_nilm, isTup_fn, isTup_nilf, isTup_agg, isTup_rows, getP_nil, getP_cons, getS_some, stepP_agg, stepP_rows, loadO_some, loadA_ptr, loadE_cel, loadE_vec, loadE_ro, chkL_some, resF_eq, resAll_nil, resAll_cons, resOne_tmp, resOne_cell, tupO_none, tupO_one, tupO_more, argT_nil, argT_cons, lookL_cons, lookL_nil, lookP_cons, wrapO_lit, wrapO_neg, not_tf, not_ft, and_tf, alt_true, alt_false, bol_false, getS_bol, getS_alt, chkL_bol, chkL_alt, consO_bol, consO_bol2, tupO_bol, bol_bol, get_mapB, get_setB, get_appB, len_map, nat_zero_add, hideH_nil, and_self, and_true, true_and, and_false, false_and]) (apply valK_bolB; · finish (splits := 3) (ematch := 1)) (apply valK_altT; · finish (splits := 3) (ematch := 1)) (apply valK_altF; · finish (splits := 3) (ematch := 1)) (apply valK_altB) (apply brC_t; · finish (splits := 3) (ematch := 1)) (apply brC_f; · finish (splits := 3) (ematch := 1)) (apply brC_sBN) (apply brC_sB) (apply wantK_t; · finish (splits := 3) (ematch := 1)) (apply wantK_f; · finish (splits := 3) (ematch := 1)) (apply wantK_sBN) (apply wantK_sB) (apply rowG_t; · finish (splits := 3) (ematch := 1)) (apply rowG_f; · finish (splits := 3) (ematch := 1)) (apply rowG_sBN) (apply rowG_sB) (intro~ hr) (tactic => first | exact cmp1_lt hp | exact cmp1_gt ‹_› hp | exact cmp1_eq ‹_› hp | (trace_state; exact test_fail)))
def cmpK (a b : TKey) : Int := if ¬ cmp1 a.z b.z = 0 then cmp1 a.z b.z else if ¬ cmp1 a.draw b.draw = 0 then cmp1 a.draw b.draw else if ¬ cmp1 a.tri b.tri = 0 then cmp1 a.tri b.tri else if ¬ cmp1 a.part b.part = 0 then cmp1 a.part b.part else 0
theorem compare_use {a_z a_draw a_tri a_part b_z b_draw b_tri b_part : Int} {H : Hp} {n : Nat} {Q : AV → Hp → Nat → Prop} (hq : Q (.int .i64 (cmpK ⟨a_z, a_draw, a_tri, a_part⟩ ⟨b_z, b_draw, b_tri, b_part⟩)) H n) : callA Try.prog 66 [(.agg [.int .i64 a_z, .int .i64 a_draw, .int .i64 a_tri, .int .i64 a_part]), (.agg [.int .i64 b_z, .int .i64 b_draw, .int .i64 b_tri, .int .i64 b_part])] H n Q := by
  refine callA_pure ?_ rfl (by rfl) hq
  sym =>
    repeat (first (apply enter66) (apply enter71) (apply cmp_use) (apply loop_next) (apply imp_go; intro hp) (apply valK_w64; · finish (splits := 3) (ematch := 1)) (apply valK_wu8; · finish (splits := 3) (ematch := 1)) (apply valK_wu64; · finish (splits := 3) (ematch := 1)) (apply valK_w32; · finish (splits := 3) (ematch := 1)) (apply valK_wu16; · finish (splits := 3) (ematch := 1)) (apply valK_wu32; · finish (splits := 3) (ematch := 1)) (apply valK_wr) (apply valK_andR) (apply valK_quo; · finish (splits := 3) (ematch := 1)) (apply valK_quoR; · finish (splits := 3) (ematch := 1)) (apply valK_rem; · finish (splits := 3) (ematch := 1)) (apply valK_remR; · finish (splits := 3) (ematch := 1)) (apply valK_bol; · finish (splits := 3) (ematch := 1)) (apply effK_bol; · finish (splits := 3) (ematch := 1)) (apply newK_bol; · finish (splits := 3) (ematch := 1)) (apply appK_bol; · finish (splits := 3) (ematch := 1)) (apply topO_bol; · finish (splits := 3) (ematch := 1)) (apply valK_altY; · finish (splits := 3) (ematch := 1)) (apply valK_altN; · finish (splits := 3) (ematch := 1)) (apply effK_altY; · finish (splits := 3) (ematch := 1)) (apply effK_altN; · finish (splits := 3) (ematch := 1)) (apply valK_altNY; · finish (splits := 3) (ematch := 1)) (apply valK_altNN; · finish (splits := 3) (ematch := 1)) (apply valK_altS) (apply valK_altNS) (apply effK_altS) (apply appS_go) (apply brC_y; · finish (splits := 3) (ematch := 1)) (apply brC_n; · finish (splits := 3) (ematch := 1)) (apply brC_yN; · finish (splits := 3) (ematch := 1)) (apply brC_nN; · finish (splits := 3) (ematch := 1)) (apply brC_s) (apply brC_sN) (apply wantK_y; · finish (splits := 3) (ematch := 1)) (apply wantK_n; · finish (splits := 3) (ematch := 1)) (apply wantK_yN; · finish (splits := 3) (ematch := 1)) (apply wantK_nN; · finish (splits := 3) (ematch := 1)) (apply wantK_s) (apply wantK_sN) (apply rowG_y; · finish (splits := 3) (ematch := 1)) (apply rowG_n; · finish (splits := 3) (ematch := 1)) (apply rowG_yN; · finish (splits := 3) (ematch := 1)) (apply rowG_nN; · finish (splits := 3) (ematch := 1)) (apply rowG_s) (apply rowG_sN) (simp [e17Op_eq, e19Op_eq, eAbuffertile_eq, eColour_eq, eFrag_eq, eKey_eq, cx66_P, cx66_l0, cx66_l1, cx66_p1, cx66_pu, Try.f66.eq_1, ty_arrOf_22, ty_arrOf_3, ty_arrOf_60, ty_bytesE_22, ty_fldOf_60_0, ty_fldOf_60_1, ty_fldOf_60_2, ty_fldOf_60_3, ty_intOf_3, ty_isInt_3, ty_notInt_3, ty_lay_22, ty_lay_3, ty_lay_60, ty_notInt_22, ty_notInt_60, ty_slcOf_22, ty_slcOf_3, ty_slcOf_60, ty_zeroA_22, ty_zeroA_3, ty_zeroA_60, ty_zeroE_22, cx71_P, cx71_l0, cx71_l1, cx71_l2, cx71_l3, cx71_l4, cx71_l5, cx71_l6, cx71_l7, cx71_l8, cx71_pu, Try.f71.eq_1, valK_some, newK_some, opE_move, opE_assign, opE_load, opE_bin, opE_un, opE_fieldAddr, opE_indexAddr, opE_len, opE_alloc, opE_box, opE_buildSlice, callK_fn, callK_yld, callG_some, callG_none, opE_call_r, opE_store_w, opE_call_w, ev_seq, ev_skip, ev_label, ev_region, ev_draw, evDO_some, ev_cond, condC_some, brC_true, brC_false, ev_block, ev_scope, ev_exit, ev_ret, ev_loop, nx_seq, nx_seqE, nx_seqR, nx_blk, nx_blkE, nx_blkR, nx_loop, nx_loopE, nx_loopR, nx_inv, nx_invE, nx_invR, nx_top, nx_topR, topO_some, evR_nil, evR_op, evR_guard, evD_nil, evD_row, rowK_eff, rowK_calm, rowK_guard, rowG_tup, rowG_tt, rowG_ff, rowG_tf, rowG_ft, rowN_eq, chkA_nil, chkA_cons, chkO_some, chkW_false, sameO_some, chkW_load, chkW_len, finK_reg, finK_row, finK_calm, finN_reg, finN_row, finN_calm, nid_reg, nid_row, nid_calm, getT_cons, putT_some, putT_none, trimT_some, trimT_none, keepT_nil, keepT_cons, consT_some, consT_none, getT_nil, getO_tmp, getO_const, getO_func, ofC_int, ofC_bool, ofC_ptr, ofC_slc, ofC_map, ofC_fn, getOs_nil, getOs_cons, consO_some, wantA_none, wantA_some, wantO_tup, wantO_tt, wantO_ff, wantO_tf, wantO_ft, hget_cons, memb_nil, memb_cons, hideH_cons, showH_cons, hideH_none, showH_none, showH_nil, outs_nil, outs_cons, app_nil, nil_app, cons_app, rowOf_cons, wrap_lit, wrap_neg, top_i64, bot_i64, bits_i64, cast_lit, toNat_lit, get_zero, get_succ, take_zero, take_succ, set_zero, set_succ, length_nil, length_cons, append_nil, nil_append, cons_append, toList_arr, rep_zero, rep_succ, bnot_true, bnot_false, band_true, band_false, beq_tt, beq_ff, beq_tf, beq_ft, beq_nat, beq_int, bne_nat, map_some, map_none, true_eq_false, false_eq_true, true_eq_true, fbody_mk, fresults_mk, getD_some, bol_true, binO_some, bin_neq, bin_lss, bin_beql, bin_bneq, eqO_eq, eqO_ne, bin_aeql, bin_aneq, bin_reql, bin_rneq, aggEq_some, flatL_nil, flatL_cons, appV_some, flatV_int, flatV_bool, flatV_agg, flatV_rows, bin_feql, bin_fneq, bin_nfeql, bin_nfneq, bin_peql, bin_pneq, bin_npeql, bin_npneq, size_int, size_bool, size_str, size_ptr, size_nilp, size_slc, size_nils, size_map, size_nilm, size_fn, size_yld, size_nilf, size_agg, size_rows, sizeL_nil, sizeL_cons, layOK_int, layOK_bool, layOK_str, layOK_ptr, layOK_nilp, layOK_slc, layOK_nils, layOK_map, layOK_nilm, layOK_fn, layOK_yld, layOK_nilf, layOK_agg, layOK_rows, isTup_int, isTup_bool, isTup_str, isTup_ptr, isTup_nilp, isTup_slc, isTup_nils, isTup_map, isTup_nilm, isTup_fn, isTup_yld, isTup_nilf, isTup_agg, isTup_rows, getP_nil, getP_cons, getS_some, stepP_agg, stepP_rows, loadO_some, loadA_ptr, loadE_cel, loadE_vec, loadE_ro, chkL_some, faO_some, fa_ptr, iaO_some, newA_some, partsO_nil, partsO_cons, setA_agg, setA_rows, setC_some, setD_some, fillQ_nil, fillQ_cons, fillM_some, fitZ_some, bs_some, bsO_some, slN_some, builtO_some, len_slc, len_nils, len_rows, arN_some, resF_eq, resAll_nil, resAll_cons, resOne_tmp, resOne_cell, tupO_none, tupO_one, tupO_more, argT_nil, argT_cons, lookU_nil, lookU_cons, lookL_cons, lookL_nil, lookP_cons, roundS_eq, mbin_add, wrapO_lit, wrapO_neg, mia_ptr, mia_slc, not_tf, not_ft, and_tf, alt_true, alt_false, bol_false, getS_bol, getS_alt, chkL_bol, chkL_alt, consO_bol, consO_bol2, tupO_bol, fillM_bol, eqO_bol, bol_bol, get_mapB, get_setB, get_appB, len_map, nat_zero_add, bin_nsleql, bin_nslneq, bin_nnleql, bin_nnlneq, slN_bol, beq_str, subC_nil, subC_seq0, subC_seq1, subC_cond0, subC_cond1, subC_block, subC_scope, subC_loop, subC_ran0, subC_ran1, hideH_nil, and_self, and_true, true_and, and_false, false_and]) (apply chkW_want) (apply chkW_wantA) (apply valK_bolB; · finish (splits := 3) (ematch := 1)) (apply valK_altT; · finish (splits := 3) (ematch := 1)) (apply valK_altF; · finish (splits := 3) (ematch := 1)) (apply valK_altB) (apply brC_t; · finish (splits := 3) (ematch := 1)) (apply brC_f; · finish (splits := 3) (ematch := 1)) (apply brC_sBN) (apply brC_sB) (apply wantK_t; · finish (splits := 3) (ematch := 1)) (apply wantK_f; · finish (splits := 3) (ematch := 1)) (apply wantK_sBN) (apply wantK_sB) (apply rowG_t; · finish (splits := 3) (ematch := 1)) (apply rowG_f; · finish (splits := 3) (ematch := 1)) (apply rowG_sBN) (apply rowG_sB) (intro~ hr) (tactic => first | (simp [cmpK, *]; done) | (trace_state; exact test_fail)))
theorem rcompare_use {a_z a_draw a_tri a_part b_z b_draw b_tri b_part : Int} {H : Hp} {n : Nat} {Q : AV → Hp → Nat → Prop} (hq : Q (.int .i64 (cmpK ⟨a_z, a_draw, a_tri, a_part⟩ ⟨b_z, b_draw, b_tri, b_part⟩)) H n) : callA Try.prog 35 [(.agg [.int .i64 a_z, .int .i64 a_draw, .int .i64 a_tri, .int .i64 a_part]), (.agg [.int .i64 b_z, .int .i64 b_draw, .int .i64 b_tri, .int .i64 b_part])] H n Q := by
  refine callA_pure ?_ rfl (by rfl) hq
  sym =>
    repeat (first (apply enter35) (apply one_use) (apply imp_go; intro hp) (apply valK_w64; · finish (splits := 3) (ematch := 1)) (apply valK_wu8; · finish (splits := 3) (ematch := 1)) (apply valK_wu64; · finish (splits := 3) (ematch := 1)) (apply valK_w32; · finish (splits := 3) (ematch := 1)) (apply valK_wu16; · finish (splits := 3) (ematch := 1)) (apply valK_wu32; · finish (splits := 3) (ematch := 1)) (apply valK_wr) (apply valK_andR) (apply valK_quo; · finish (splits := 3) (ematch := 1)) (apply valK_quoR; · finish (splits := 3) (ematch := 1)) (apply valK_rem; · finish (splits := 3) (ematch := 1)) (apply valK_remR; · finish (splits := 3) (ematch := 1)) (apply valK_bol; · finish (splits := 3) (ematch := 1)) (apply effK_bol; · finish (splits := 3) (ematch := 1)) (apply newK_bol; · finish (splits := 3) (ematch := 1)) (apply appK_bol; · finish (splits := 3) (ematch := 1)) (apply topO_bol; · finish (splits := 3) (ematch := 1)) (apply valK_altY; · finish (splits := 3) (ematch := 1)) (apply valK_altN; · finish (splits := 3) (ematch := 1)) (apply effK_altY; · finish (splits := 3) (ematch := 1)) (apply effK_altN; · finish (splits := 3) (ematch := 1)) (apply valK_altNY; · finish (splits := 3) (ematch := 1)) (apply valK_altNN; · finish (splits := 3) (ematch := 1)) (apply valK_altS) (apply valK_altNS) (apply effK_altS) (apply appS_go) (apply brC_y; · finish (splits := 3) (ematch := 1)) (apply brC_n; · finish (splits := 3) (ematch := 1)) (apply brC_yN; · finish (splits := 3) (ematch := 1)) (apply brC_nN; · finish (splits := 3) (ematch := 1)) (apply brC_s) (apply brC_sN) (apply wantK_y; · finish (splits := 3) (ematch := 1)) (apply wantK_n; · finish (splits := 3) (ematch := 1)) (apply wantK_yN; · finish (splits := 3) (ematch := 1)) (apply wantK_nN; · finish (splits := 3) (ematch := 1)) (apply wantK_s) (apply wantK_sN) (apply rowG_y; · finish (splits := 3) (ematch := 1)) (apply rowG_n; · finish (splits := 3) (ematch := 1)) (apply rowG_yN; · finish (splits := 3) (ematch := 1)) (apply rowG_nN; · finish (splits := 3) (ematch := 1)) (apply rowG_s) (apply rowG_sN) (simp [e17Op_eq, e19Op_eq, eAbuffertile_eq, eColour_eq, eFrag_eq, eKey_eq, cx35_P, cx35_l0, cx35_l1, cx35_l2, cx35_l3, cx35_l4, cx35_l5, cx35_l6, cx35_l7, cx35_l8, cx35_pu, Try.f35.eq_1, ty_arrOf_3, ty_arrOf_60, ty_fldOf_60_0, ty_fldOf_60_1, ty_fldOf_60_2, ty_fldOf_60_3, ty_intOf_3, ty_isInt_3, ty_notInt_3, ty_lay_3, ty_lay_60, ty_notInt_60, ty_slcOf_3, ty_slcOf_60, ty_zeroA_3, ty_zeroA_60, valK_some, newK_some, opE_move, opE_assign, opE_load, opE_bin, opE_un, opE_fieldAddr, opE_alloc, opE_box, callK_fn, callK_yld, callG_some, callG_none, opE_call_r, ev_seq, ev_skip, ev_label, ev_region, ev_cond, condC_some, brC_true, brC_false, ev_block, ev_scope, ev_exit, ev_ret, nx_seq, nx_seqE, nx_seqR, nx_blk, nx_blkE, nx_blkR, nx_top, nx_topR, topO_some, evR_nil, evR_op, evR_guard, finK_reg, finN_reg, nid_reg, getT_cons, putT_some, putT_none, trimT_some, trimT_none, keepT_nil, keepT_cons, consT_some, consT_none, getT_nil, getO_tmp, getO_const, getO_func, ofC_int, ofC_bool, ofC_ptr, ofC_slc, ofC_map, ofC_fn, getOs_nil, getOs_cons, consO_some, hget_cons, wrap_lit, wrap_neg, top_i64, bot_i64, bits_i64, cast_lit, toNat_lit, get_zero, get_succ, take_zero, take_succ, set_zero, set_succ, length_nil, length_cons, append_nil, nil_append, cons_append, toList_arr, bnot_true, bnot_false, band_true, band_false, beq_tt, beq_ff, beq_tf, beq_ft, beq_nat, beq_int, bne_nat, map_some, map_none, true_eq_false, false_eq_true, true_eq_true, fbody_mk, fresults_mk, getD_some, bol_true, binO_some, bin_eql, bin_beql, bin_bneq, eqO_eq, eqO_ne, bin_aeql, bin_aneq, bin_reql, bin_rneq, aggEq_some, flatL_nil, flatL_cons, appV_some, flatV_int, flatV_bool, flatV_agg, flatV_rows, bin_feql, bin_fneq, bin_nfeql, bin_nfneq, bin_peql, bin_pneq, bin_npeql, bin_npneq, size_int, size_bool, size_str, size_ptr, size_nilp, size_slc, size_nils, size_map, size_nilm, size_fn, size_yld, size_nilf, size_agg, size_rows, sizeL_nil, sizeL_cons, layOK_int, layOK_bool, layOK_str, layOK_ptr, layOK_nilp, layOK_slc, layOK_nils, layOK_map, layOK_nilm, layOK_fn, layOK_yld, layOK_nilf, layOK_agg, layOK_rows, isTup_int, isTup_bool, isTup_str, isTup_ptr, isTup_nilp, isTup_slc, isTup_nils, isTup_map, isTup_nilm, isTup_fn, isTup_yld, isTup_nilf, isTup_agg, isTup_rows, getP_nil, getP_cons, getS_some, stepP_agg, stepP_rows, loadO_some, loadA_ptr, loadE_cel, loadE_vec, loadE_ro, chkL_some, faO_some, fa_ptr, newA_some, slN_some, resF_eq, resAll_nil, resAll_cons, resOne_tmp, resOne_cell, tupO_none, tupO_one, tupO_more, argT_nil, argT_cons, lookU_nil, lookU_cons, lookL_cons, lookL_nil, lookP_cons, roundS_eq, wrapO_lit, wrapO_neg, not_tf, not_ft, and_tf, alt_true, alt_false, bol_false, getS_bol, getS_alt, chkL_bol, chkL_alt, consO_bol, consO_bol2, tupO_bol, eqO_bol, bol_bol, get_mapB, get_setB, get_appB, len_map, nat_zero_add, bin_nsleql, bin_nslneq, bin_nnleql, bin_nnlneq, slN_bol, beq_str, hideH_nil, and_self, and_true, true_and, and_false, false_and]) (apply valK_bolB; · finish (splits := 3) (ematch := 1)) (apply valK_altT; · finish (splits := 3) (ematch := 1)) (apply valK_altF; · finish (splits := 3) (ematch := 1)) (apply valK_altB) (apply brC_t; · finish (splits := 3) (ematch := 1)) (apply brC_f; · finish (splits := 3) (ematch := 1)) (apply brC_sBN) (apply brC_sB) (apply wantK_t; · finish (splits := 3) (ematch := 1)) (apply wantK_f; · finish (splits := 3) (ematch := 1)) (apply wantK_sBN) (apply wantK_sB) (apply rowG_t; · finish (splits := 3) (ematch := 1)) (apply rowG_f; · finish (splits := 3) (ematch := 1)) (apply rowG_sBN) (apply rowG_sB) (intro~ hr) (tactic => first | (simp [cmpK, *]; done) | (trace_state; exact test_fail)))
-- Chapter 16: slices.Insert.
theorem ovS_ok : ∀ args H v, ovS args H = some v → PureA Try.prog 73 args v ∨ ExtA Try.prog 73 args H v :=
  ov_ext (P := Try.prog) (f := 73) (fn := Try.f73) (tS := 58) (e := 64) (tR := 4) (size := 11) Try.func73 (by kernel_rfl) (by kernel_rfl) (by kernel_rfl) (by kernel_rfl) (by kernel_rfl) (fun w => by kernel_rfl)
noncomputable def cx67 : Cx := ⟨Try.prog, [(73, ovS)], [(11, ⟨0, [⟨0, false, [], [], [], 0⟩, ⟨1, false, [], [], [], 0⟩, ⟨2, false, [], [], [], 0⟩, ⟨3, false, [1, 2], [], [], 0⟩, ⟨4, false, [0, 3], [], [], 0⟩, ⟨5, false, [], [], [], 0⟩, ⟨6, false, [], [], [], 0⟩, ⟨7, false, [5, 6], [], [], 0⟩, ⟨8, true, [4, 7], [], [], 0⟩]⟩), (15, ⟨0, [⟨0, false, [], [], [], 0⟩, ⟨1, false, [], [], [], 0⟩, ⟨2, false, [], [], [], 0⟩, ⟨3, false, [1, 2], [], [], 0⟩, ⟨4, false, [0, 3], [], [], 0⟩, ⟨5, false, [], [], [], 0⟩, ⟨6, false, [], [], [], 0⟩, ⟨7, false, [5, 6], [], [], 0⟩, ⟨8, true, [4, 7], [], [], 0⟩]⟩)], ((0, [2, 1, 0]) :: (1, [2, 1, 0]) :: (2, [7, 2, 1, 0]) :: (3, [16, 7, 2, 1, 0]) :: (4, [6]) :: (5, [8, 7, 2, 1, 0]) :: (6, [22, 8, 7, 2, 1, 0]) :: (7, [6]) :: (8, [31, 8, 7, 2, 1, 0]) :: (9, [9, 7, 2, 1, 0]) :: (10, [9, 7, 1, 0]) :: (11, [9]) :: (12, [6]) :: (13, [8, 7, 2, 1, 0]) :: (14, [68, 8, 7, 2, 1, 0]) :: (15, [2, 1, 0]) :: (16, [0]) :: (17, [6]) :: (18, [7, 1, 0]) :: (19, [0]) :: (20, [6]) :: [])⟩
theorem cx67_P : cx67.P = Try.prog := rfl
theorem cx67_l0 : lookL 0 cx67.lv = some [2, 1, 0] := rfl
theorem cx67_l1 : lookL 1 cx67.lv = some [2, 1, 0] := rfl
theorem cx67_l2 : lookL 2 cx67.lv = some [7, 2, 1, 0] := rfl
theorem cx67_l3 : lookL 3 cx67.lv = some [16, 7, 2, 1, 0] := rfl
theorem cx67_l4 : lookL 4 cx67.lv = some [6] := rfl
theorem cx67_l5 : lookL 5 cx67.lv = some [8, 7, 2, 1, 0] := rfl
theorem cx67_l6 : lookL 6 cx67.lv = some [22, 8, 7, 2, 1, 0] := rfl
theorem cx67_l7 : lookL 7 cx67.lv = some [6] := rfl
theorem cx67_l8 : lookL 8 cx67.lv = some [31, 8, 7, 2, 1, 0] := rfl
theorem cx67_l9 : lookL 9 cx67.lv = some [9, 7, 2, 1, 0] := rfl
theorem cx67_l10 : lookL 10 cx67.lv = some [9, 7, 1, 0] := rfl
theorem cx67_l11 : lookL 11 cx67.lv = some [9] := rfl
theorem cx67_l12 : lookL 12 cx67.lv = some [6] := rfl
theorem cx67_l13 : lookL 13 cx67.lv = some [8, 7, 2, 1, 0] := rfl
theorem cx67_l14 : lookL 14 cx67.lv = some [68, 8, 7, 2, 1, 0] := rfl
theorem cx67_l15 : lookL 15 cx67.lv = some [2, 1, 0] := rfl
theorem cx67_l16 : lookL 16 cx67.lv = some [0] := rfl
theorem cx67_l17 : lookL 17 cx67.lv = some [6] := rfl
theorem cx67_l18 : lookL 18 cx67.lv = some [7, 1, 0] := rfl
theorem cx67_l19 : lookL 19 cx67.lv = some [0] := rfl
theorem cx67_l20 : lookL 20 cx67.lv = some [6] := rfl
theorem cx67_p11 : lookP 11 cx67.pl = some ⟨0, [⟨0, false, [], [], [], 0⟩, ⟨1, false, [], [], [], 0⟩, ⟨2, false, [], [], [], 0⟩, ⟨3, false, [1, 2], [], [], 0⟩, ⟨4, false, [0, 3], [], [], 0⟩, ⟨5, false, [], [], [], 0⟩, ⟨6, false, [], [], [], 0⟩, ⟨7, false, [5, 6], [], [], 0⟩, ⟨8, true, [4, 7], [], [], 0⟩]⟩ := rfl
theorem cx67_p15 : lookP 15 cx67.pl = some ⟨0, [⟨0, false, [], [], [], 0⟩, ⟨1, false, [], [], [], 0⟩, ⟨2, false, [], [], [], 0⟩, ⟨3, false, [1, 2], [], [], 0⟩, ⟨4, false, [0, 3], [], [], 0⟩, ⟨5, false, [], [], [], 0⟩, ⟨6, false, [], [], [], 0⟩, ⟨7, false, [5, 6], [], [], 0⟩, ⟨8, true, [4, 7], [], [], 0⟩]⟩ := rfl
theorem cx67_u73 : lookU 73 cx67.pu = some ovS := rfl
theorem cx67_pu : cx67.pu = [(73, ovS)] := rfl
theorem cx67_ok : okc cx67 Try.f67.ntmps (Try.f67.body.getD .skip) = true := by kernel_rfl
theorem cx67_puOk : PuOk cx67 := (puOk_cons ovS_ok puOk_nil)
theorem enter67 {args : List AV} {H : Hp} {n : Nat} {Q : AV → Hp → Nat → Prop} (h : args.length ≤ 95 ∧ Ev cx67 ⟨95, n, none, 67⟩ (Try.f67.body.getD .skip) ⟨argT 0 args, H, n⟩ (.top Try.f67.results.toList Q)) : callA Try.prog 67 args H n Q :=
  callA_ev (cx := cx67) cx67_puOk (f := 67) (fn := Try.f67) Try.func67 rfl (by kernel_rfl) h.1 cx67_ok h.2
def insA (L : List TFrag) (i : Nat) (x : TFrag) : List TFrag := L.take i ++ x :: L.drop i
def zFrag : TFrag := ⟨0, 0, 0, ⟨0, 0, 0, 0⟩, ⟨0, 0, 0, 0⟩⟩
theorem ins_room {l : Nat} {p q : Prop} (h : p ∧ q ∧ l ≤ 100000) : (l + 1) * 64 ≤ 140737488355328 ∧ l + 1 ≤ 9223372036854775807 := by omega
theorem ins_a {L : List TFrag} {i : Nat} {x : TFrag} (h : (i : Int) = (L.length : Int)) : L.map eFrag ++ [eFrag x] = (insA L i x).map eFrag := by
  have e : i = L.length := by omega
  subst e
  unfold insA
  rw [List.take_length, List.drop_length, List.map_append]; rfl
theorem ins_grow {L Z Z2 Z3 : List TFrag} {i m d : Nat} {x : TFrag} {p : Prop} (h : i ≤ L.length) (hm : i + m = L.length + 1) (hd : i + d = L.length) (h1 : Z = L.take i ++ List.replicate m zFrag ∧ p) (h2 : Z2 = Z.take i ++ ([x].drop 0).take 1 ++ Z.drop (i + 1)) (h3 : Z3 = Z2.take (i + 1) ++ (L.drop i).take d ++ Z2.drop (i + 1 + d)) : Z3 = insA L i x := by
  have hl : (L.take i).length = i := by rw [List.length_take]; omega
  have hdl : (L.drop i).length = d := by rw [List.length_drop]; omega
  have e1 : Z.take i = L.take i := by
    rw [h1.1]; exact List.take_left' hl
  have e2 : Z2.take (i + 1) = L.take i ++ [x] := by
    rw [h2, e1]
    exact List.take_left' (by rw [List.length_append, hl]; rfl)
  have e3 : Z2.length = L.length + 1 := by
    rw [h2, e1, h1.1]; simp [hl]; omega
  have e4 : Z2.drop (i + 1 + d) = [] := List.drop_of_length_le (by omega)
  have e5 : (L.drop i).take d = L.drop i := List.take_of_length_le (by omega)
  rw [h3, e2, e4, e5]
  unfold insA; simp
theorem ins_in {L Z2 Z3 : List TFrag} {i d : Nat} {x : TFrag} (h : i < L.length) (hd : i + d = L.length) (h2 : Z2 = L.take (i + 1) ++ (L.drop i).take d ++ L.drop (i + 1 + d)) (h3 : Z3 = Z2.take i ++ ([x].drop 0).take 1 ++ Z2.drop (i + 1)) : Z3 = insA L i x := by
  have hl : (L.take (i + 1)).length = i + 1 := by rw [List.length_take]; omega
  have hdl : (L.drop i).length = d := by rw [List.length_drop]; omega
  have e4 : L.drop (i + 1 + d) = [] := List.drop_of_length_le (by omega)
  have e5 : (L.drop i).take d = L.drop i := List.take_of_length_le (by omega)
  have h2 : Z2 = L.take (i + 1) ++ L.drop i := by rw [h2, e4, e5, List.append_nil]
  have e1 : Z2.take i = L.take i := by
    rw [h2, List.take_append_of_le_length (by omega), List.take_take, Nat.min_eq_left (by omega)]
  have e2 : Z2.drop (i + 1) = L.drop i := by rw [h2]; exact List.drop_left' hl
  rw [h3, e1, e2]
  unfold insA; simp
theorem grow_frag {cx : Cx} {fx : Fx} {kt : Kt} {H : Hp} {n : Nat} {b : Bool} {k a i l cap cap' : Nat} {X : List TFrag} {RA : List AV} {s : Option (Bool × Nat)} {z' xv : Option AV}
    (hg : hget k H = some (.vec cap' 11 RA)) (hR : RA = X.map eFrag) (hP : cx.P = Try.prog) (h : (i ≤ X.length ∧ i ≤ l) ∧ l ≤ 100000) (hcap : (cap : Int) < (l : Int) + 1)
    (hk : ∀ (Z : List TFrag) (c2 : Nat), Imp (Z = X.take i ++ List.replicate (l + 1 - i) zFrag ∧ l + 1 ≤ c2) (FinK cx fx kt (.slc n 0 [] 11 0 0 (l + 1) c2) ((n, .vec c2 11 (Z.map eFrag)) :: H) (n + 1))) :
    AppK cx fx kt 58 (appO s z' false xv (some (.int .i64 ((l : Int) + 1 - (i : Int)))) H) (growO (some (b, 11)) (some (.agg [.int .i64 0, .int .i64 0, .int .u8 0, .agg [.int .i64 0, .int .i64 0, .int .i64 0, .int .i64 0], .agg [.int .u8 0, .int .u8 0, .int .u8 0, .int .u8 0]])) false true (some (.slc k 0 [] 11 a 0 i cap)) (some (.int .i64 ((l : Int) + 1 - (i : Int)))) H) H n := by
  obtain ⟨m, hm⟩ : ∃ m, m = l + 1 - i := ⟨_, rfl⟩
  rw [← hm] at hk
  have e : l + 1 = i + m := by omega
  rw [e] at hk
  exact appK_growZ (z := eFrag zFrag) (e := eFrag) (z0 := zFrag) (m := m) hg hR rfl rfl (by rw [hP]; exact ty_bytesE_58) (by omega) (by omega) (by omega) (by omega) hk
theorem toNat_succ (n : Nat) : ((n : Int) + 1).toNat = n + 1 := by omega
theorem ins_n {l i cap : Nat} (h : i ≤ l ∧ l ≤ cap ∧ l ≤ 100000) : (i ≤ l ∧ i ≤ l) ∧ l ≤ 100000 := by omega
theorem cpv {cx : Cx} {fx : Fx} {kt : Kt} {H : Hp} {n k a s len c cap : Nat} {X : List TFrag} {RA : List AV} {x : TFrag} (hg : hget k H = some (.vec cap 11 RA)) (hgs : hget 1 H = some (.vec 1 11 [eFrag x])) (hR : RA = X.map eFrag)
    (h1 : (s ≤ X.length ∧ s + len ≤ cap) ∧ 1 ≤ len) (hk : ∀ Z : List TFrag, Imp (Z = X.take s ++ ([x].drop 0).take 1 ++ X.drop (s + 1)) (EffK cx fx kt (some (.int .i64 (1 : Nat), hset k (.vec cap 11 (Z.map eFrag)) H)) n)) :
    EffK cx fx kt (copyA 11 (.slc k 0 [] 11 a s len c) (.slc 1 0 [] 11 0 0 1 1) H) n :=
  effK_cp (Y := [x]) (c0 := 1) hg hgs hR rfl ⟨⟨Nat.le_refl _, h1.2⟩, .inl rfl⟩ h1.1 (Nat.le_refl _) hk
theorem cps {cx : Cx} {fx : Fx} {kt : Kt} {H : Hp} {n k a s len c a2 s2 l2 c2 cap cap2 : Nat} {X Y : List TFrag} {RA SA : List AV} (hg : hget k H = some (.vec cap 11 RA)) (hgs : hget 0 H = some (.vec cap2 11 SA)) (hR : RA = X.map eFrag) (hS : SA = Y.map eFrag)
    (h1 : (s ≤ X.length ∧ s + len ≤ cap) ∧ len ≤ l2 ∧ s2 + len ≤ Y.length) (hk : ∀ Z : List TFrag, Imp (Z = X.take s ++ (Y.drop s2).take len ++ X.drop (s + len)) (EffK cx fx kt (some (.int .i64 (len : Nat), hset k (.vec cap 11 (Z.map eFrag)) H)) n)) :
    EffK cx fx kt (copyA 11 (.slc k 0 [] 11 a s len c) (.slc 0 0 [] 11 a2 s2 l2 c2) H) n :=
  effK_cp (c0 := len) hg hgs hR hS ⟨⟨h1.2.1, Nat.le_refl _⟩, .inr rfl⟩ h1.1 h1.2.2 hk
theorem ins_fin {Q : AV → Hp → Nat → Prop} {L : List TFrag} {i kv n' c : Nat} {x : TFrag} {RA : List AV} {H' : Hp} (hq : ∀ c : Nat, Imp (L.length + 1 ≤ c) (Q (.slc 2 0 [] 11 0 0 (L.length + 1) c) [(2, .vec c 11 ((insA L i x).map eFrag))] 3))
    (hg : hget kv H' = some (.vec c 11 RA)) (hR : RA = (insA L i x).map eFrag) (hc : L.length + 1 ≤ c) (hn : 2 ≤ n') : FreshV (ReidP 2 Q) (.slc kv 0 [] 11 0 0 (L.length + 1) c) H' n' := by
  subst hR
  have h1 : ¬ n' = 0 := by omega
  have h2 : ¬ n' = 1 := by omega
  have h3 : ¬ 0 = n' := by omega
  have h4 : ¬ 1 = n' := by omega
  refine ⟨kv, 11, _, c, _, rfl, hg, ?_⟩
  refine reidP_of [0, 1, n'] _ _ ?_ ?_ rfl ?_ ?_ ?_ (hq _ hc)
  · simp [ndB, memb, h1, h2, h3, h4]
  · simp [lowB, idx, List.range, List.range.loop]; omega
  all_goals simp [subT, subH, okW, getT, hget, hset, hdel, idx, AV.ren, renL, renT, Ent.ren, Ent.writes, lFrag_ren, h1, h2, h3, h4, -List.map_drop, -List.map_take]
theorem ins_s1 {l i cap : Nat} (h : i ≤ l ∧ l ≤ cap ∧ l ≤ 100000) (h1 : ¬ (i : Int) = (l : Int)) (h2 : ¬ (cap : Int) < (l : Int) + 1) : (i + 1 ≤ l ∧ i + 1 + (l + 1 - (i + 1)) ≤ cap) ∧ l + 1 - (i + 1) ≤ l + 1 - i ∧ i + (l + 1 - (i + 1)) ≤ l := by omega
theorem ins_v1 {L Z : List TFrag} {i cap c : Nat} (h : i ≤ L.length ∧ L.length ≤ cap ∧ L.length ≤ 100000) (hn : ¬ (i : Int) = (L.length : Int)) (h1 : Z = L.take i ++ List.replicate (L.length + 1 - i) zFrag ∧ L.length + 1 ≤ c) : (i ≤ Z.length ∧ i + (L.length + 1 - i) ≤ c) ∧ 1 ≤ L.length + 1 - i := by
  rw [h1.1, List.length_append, List.length_replicate, List.length_take]; omega
theorem ins_v2 {L Z : List TFrag} {i cap d : Nat} (h : i ≤ L.length ∧ L.length ≤ cap ∧ L.length ≤ 100000) (hn : ¬ (i : Int) = (L.length : Int)) (h0 : ¬ (cap : Int) < (L.length : Int) + 1) (h1 : Z = L.take (i + 1) ++ (L.drop i).take d ++ L.drop (i + 1 + d)) : (i ≤ Z.length ∧ i + (L.length + 1 - i) ≤ cap) ∧ 1 ≤ L.length + 1 - i := by
  rw [h1, List.length_append, List.length_append, List.length_take]; omega
theorem ins_s2 {L Z Z2 : List TFrag} {i cap c : Nat} {x : TFrag} (h : i ≤ L.length ∧ L.length ≤ cap ∧ L.length ≤ 100000) (hn : ¬ (i : Int) = (L.length : Int)) (h1 : Z = L.take i ++ List.replicate (L.length + 1 - i) zFrag ∧ L.length + 1 ≤ c) (h2 : Z2 = Z.take i ++ ([x].drop 0).take 1 ++ Z.drop (i + 1)) :
    (i + 1 ≤ Z2.length ∧ i + 1 + (L.length + 1 - (i + 1)) ≤ c) ∧ L.length + 1 - (i + 1) ≤ L.length - i ∧ i + (L.length + 1 - (i + 1)) ≤ L.length := by
  have e : ([x].drop 0).take 1 = [x] := rfl
  have hz : Z.length = L.length + 1 := by rw [h1.1, List.length_append, List.length_replicate, List.length_take]; omega
  rw [h2, e, List.length_append, List.length_append, List.length_take, List.length_singleton, List.length_drop]; omega
theorem ins_b {L Z Z2 Z3 : List TFrag} {i cap c : Nat} {x : TFrag} (h : i ≤ L.length ∧ L.length ≤ cap ∧ L.length ≤ 100000) (h1 : Z = L.take i ++ List.replicate (L.length + 1 - i) zFrag ∧ L.length + 1 ≤ c) (h2 : Z2 = Z.take i ++ ([x].drop 0).take 1 ++ Z.drop (i + 1)) (h3 : Z3 = Z2.take (i + 1) ++ (L.drop i).take (L.length + 1 - (i + 1)) ++ Z2.drop (i + 1 + (L.length + 1 - (i + 1)))) : Z3.map eFrag = (insA L i x).map eFrag := by
  rw [ins_grow (m := L.length + 1 - i) (d := L.length + 1 - (i + 1)) h.1 (by omega) (by omega) h1 h2 h3]
theorem ins_c {L Z2 Z3 : List TFrag} {i cap : Nat} {x : TFrag} (h : i ≤ L.length ∧ L.length ≤ cap ∧ L.length ≤ 100000) (hn : ¬ (i : Int) = (L.length : Int)) (h2 : Z2 = L.take (i + 1) ++ (L.drop i).take (L.length + 1 - (i + 1)) ++ L.drop (i + 1 + (L.length + 1 - (i + 1)))) (h3 : Z3 = Z2.take i ++ ([x].drop 0).take 1 ++ Z2.drop (i + 1)) : Z3.map eFrag = (insA L i x).map eFrag := by
  rw [ins_in (d := L.length + 1 - (i + 1)) (by omega) (by omega) h2 h3]
theorem ins_cc {l cap : Nat} (h0 : ¬ (cap : Int) < (l : Int) + 1) : l + 1 ≤ cap := by omega
theorem insert_walk {L : List TFrag} {i cap : Nat} {x : TFrag} {Q : AV → Hp → Nat → Prop} (h : i ≤ L.length ∧ L.length ≤ cap ∧ L.length ≤ 100000)
    (hq : ∀ c : Nat, Imp (L.length + 1 ≤ c) (Q (.slc 2 0 [] 11 0 0 (L.length + 1) c) [(2, .vec c 11 ((insA L i x).map eFrag))] 3)) :
    callA Try.prog 67 [.slc 0 0 [] 11 0 0 L.length cap, .int .i64 i, .slc 1 0 [] 11 0 0 1 1] [(1, .vec 1 11 [eFrag x]), (0, .vec cap 11 (L.map eFrag))] 2 Q := by
  refine callA_reid (callA_freshV ?_)
  sym =>
    repeat (first (apply enter67) (apply grow_frag; (tactic => rfl); (tactic => rfl); (tactic => rfl); (tactic => exact ins_n h); (tactic => assumption)) (apply cpv; (tactic => rfl); (tactic => rfl); (tactic => rfl); (tactic => first | exact ins_v1 h ‹_› hp | exact ins_v2 h ‹_› ‹_› hp | (trace_state; exact test_fail))) (apply cps; (tactic => rfl); (tactic => rfl); (tactic => rfl); (tactic => rfl); (tactic => first | exact ins_s1 h ‹_› ‹_› | exact ins_s2 h ‹_› ‹_› hp | (trace_state; exact test_fail))) (apply imp_go; intro hp) (apply valK_w64; · finish (splits := 3) (ematch := 1)) (apply valK_wu8; · finish (splits := 3) (ematch := 1)) (apply valK_wu64; · finish (splits := 3) (ematch := 1)) (apply valK_w32; · finish (splits := 3) (ematch := 1)) (apply valK_wu16; · finish (splits := 3) (ematch := 1)) (apply valK_wu32; · finish (splits := 3) (ematch := 1)) (apply valK_wr) (apply valK_andR) (apply valK_quo; · finish (splits := 3) (ematch := 1)) (apply valK_quoR; · finish (splits := 3) (ematch := 1)) (apply valK_rem; · finish (splits := 3) (ematch := 1)) (apply valK_remR; · finish (splits := 3) (ematch := 1)) (apply valK_bol; · finish (splits := 3) (ematch := 1)) (apply effK_bol; · finish (splits := 3) (ematch := 1)) (apply newK_bol; · finish (splits := 3) (ematch := 1)) (apply appK_bol; · finish (splits := 3) (ematch := 1)) (apply topO_bol; · finish (splits := 3) (ematch := 1)) (apply valK_altY; · finish (splits := 3) (ematch := 1)) (apply valK_altN; · finish (splits := 3) (ematch := 1)) (apply effK_altY; · finish (splits := 3) (ematch := 1)) (apply effK_altN; · finish (splits := 3) (ematch := 1)) (apply valK_altNY; · finish (splits := 3) (ematch := 1)) (apply valK_altNN; · finish (splits := 3) (ematch := 1)) (apply valK_altS) (apply valK_altNS) (apply effK_altS) (apply appS_go) (apply brC_y; · finish (splits := 3) (ematch := 1)) (apply brC_n; · finish (splits := 3) (ematch := 1)) (apply brC_yN; · finish (splits := 3) (ematch := 1)) (apply brC_nN; · finish (splits := 3) (ematch := 1)) (apply brC_s) (apply brC_sN) (apply wantK_y; · finish (splits := 3) (ematch := 1)) (apply wantK_n; · finish (splits := 3) (ematch := 1)) (apply wantK_yN; · finish (splits := 3) (ematch := 1)) (apply wantK_nN; · finish (splits := 3) (ematch := 1)) (apply wantK_s) (apply wantK_sN) (apply rowG_y; · finish (splits := 3) (ematch := 1)) (apply rowG_n; · finish (splits := 3) (ematch := 1)) (apply rowG_yN; · finish (splits := 3) (ematch := 1)) (apply rowG_nN; · finish (splits := 3) (ematch := 1)) (apply rowG_s) (apply rowG_sN) (simp [ovS_slc, ovE_vec, mv_zero, Nat.sub_zero, Int.toNat_natCast, toNat_succ, e17Op_eq, e19Op_eq, eAbuffertile_eq, eColour_eq, eKey_eq, cx67_P, cx67_l0, cx67_l1, cx67_l2, cx67_l3, cx67_l4, cx67_l5, cx67_l6, cx67_l7, cx67_l8, cx67_l9, cx67_l10, cx67_l11, cx67_l12, cx67_l13, cx67_l14, cx67_l15, cx67_l16, cx67_l17, cx67_l18, cx67_l19, cx67_l20, cx67_p11, cx67_p15, cx67_u73, cx67_pu, Try.f67.eq_1, ty_arrOf_3, ty_arrOf_58, ty_bytesE_58, ty_intOf_3, ty_isInt_3, ty_notInt_3, ty_lay_3, ty_lay_58, ty_notInt_58, ty_slcOf_3, ty_slcOf_58, ty_zeroA_3, ty_zeroA_58, ty_zeroE_58, valK_some, effK_some, opE_move, opE_assign, opE_load, opE_bin, opE_un, opE_slice, opE_len, opE_cap, callK_fn, callK_yld, callG_some, callG_none, appK_some, opE_call_r, opE_append_r, opE_store_w, opE_call_w, opE_append_w, opE_copy_r, opE_copy_w, ev_seq, ev_skip, ev_label, ev_region, ev_draw, evDO_some, ev_cond, condC_some, brC_true, brC_false, ev_block, ev_scope, ev_exit, ev_ret, nx_seq, nx_seqE, nx_seqR, nx_blk, nx_blkE, nx_blkR, nx_top, nx_topR, topO_some, evR_nil, evR_op, evR_guard, evD_nil, evD_row, rowK_eff, rowK_calm, rowK_guard, rowG_tup, rowG_tt, rowG_ff, rowG_tf, rowG_ft, rowN_eq, chkA_nil, chkA_cons, chkO_some, chkW_false, sameO_some, chkW_load, chkW_len, finK_reg, finK_row, finK_calm, getT_cons, putT_some, putT_none, trimT_some, trimT_none, keepT_nil, keepT_cons, consT_some, consT_none, getT_nil, getO_tmp, getO_const, getO_func, ofC_int, ofC_bool, ofC_ptr, ofC_slc, ofC_map, ofC_fn, getOs_nil, getOs_cons, consO_some, wantA_none, wantA_some, wantO_tup, wantO_tt, wantO_ff, wantO_tf, wantO_ft, hget_cons, hset_cons, hdel_cons, memb_nil, memb_cons, hideH_cons, showH_cons, hideH_none, showH_none, showH_nil, outs_nil, outs_cons, app_nil, nil_app, cons_app, dropO_some, dropO_none, rowOf_cons, wrap_lit, wrap_neg, top_i64, bot_i64, bits_i64, cast_lit, toNat_lit, get_zero, get_succ, take_zero, take_succ, set_zero, set_succ, length_nil, length_cons, append_nil, nil_append, cons_append, toList_arr, bnot_true, bnot_false, band_true, band_false, beq_tt, beq_ff, beq_tf, beq_ft, beq_nat, beq_int, bne_nat, map_some, map_none, true_eq_false, false_eq_true, true_eq_true, fbody_mk, fresults_mk, getD_some, bol_true, binO_some, bin_eql, bin_gtr, bin_beql, bin_bneq, eqO_eq, eqO_ne, bin_aeql, bin_aneq, bin_reql, bin_rneq, aggEq_some, flatL_nil, flatL_cons, appV_some, flatV_int, flatV_bool, flatV_agg, flatV_rows, bin_feql, bin_fneq, bin_nfeql, bin_nfneq, bin_peql, bin_pneq, bin_npeql, bin_npneq, unO_some, un_not, size_int, size_bool, size_str, size_ptr, size_nilp, size_slc, size_nils, size_map, size_nilm, size_fn, size_yld, size_nilf, size_agg, size_rows, sizeL_nil, sizeL_cons, layOK_int, layOK_bool, layOK_str, layOK_ptr, layOK_nilp, layOK_slc, layOK_nils, layOK_map, layOK_nilm, layOK_fn, layOK_yld, layOK_nilf, layOK_agg, layOK_rows, isTup_int, isTup_bool, isTup_str, isTup_ptr, isTup_nilp, isTup_slc, isTup_nils, isTup_map, isTup_nilm, isTup_fn, isTup_yld, isTup_nilf, isTup_agg, isTup_rows, getP_nil, getP_cons, getS_some, stepP_agg, stepP_rows, loadO_some, loadA_ptr, loadE_cel, loadE_vec, loadE_ro, chkL_some, fitZ_some, sliceO_some, slice_slc, slO_some, slice_nils, slN_some, slice_ptr, slA_some, cutA_some, cutN_some, sliceB_none, sliceB_hi, sbH_some, sbL_none, sbL_some, sbX_some, builtO_some, len_slc, len_nils, cap_slc, len_rows, arN_some, appO_some, apO_some, own_nils, own_slc, more_nils, more_slc, resF_eq, resAll_nil, resAll_cons, resOne_tmp, resOne_cell, tupO_none, tupO_one, tupO_more, argT_nil, argT_cons, lookU_nil, lookU_cons, lookL_cons, lookL_nil, lookP_cons, copyO_some, roundS_eq, mbin_add, mbin_sub, mun_neg, wrapO_lit, wrapO_neg, mbndA_int, mowO_vec, not_tf, not_ft, and_tf, not_not_b, alt_true, alt_false, bol_false, getS_bol, getS_alt, chkL_bol, chkL_alt, consO_bol, consO_bol2, tupO_bol, sbX_bol, sbH_bol, cutA_bol, cutN_bol, apO_bol, apO_bol2, eqO_bol, bol_bol, get_mapB, get_setB, get_appB, len_map, len_app, nat_zero_add, take_map, take_self, drop_zero, elemsE_vec, elemsE_ro, elemsE_cel, elemsC_rows, elemsC_bol, bin_nsleql, bin_nslneq, bin_nnleql, bin_nnlneq, slN_bol, beq_str, roomOk_eq, roomB_some, appK_none, appG_some, hideH_nil, and_self, and_true, true_and, and_false, false_and]) (apply chkW_want) (apply chkW_wantA) (apply valK_bolB; · finish (splits := 3) (ematch := 1)) (apply valK_altT; · finish (splits := 3) (ematch := 1)) (apply valK_altF; · finish (splits := 3) (ematch := 1)) (apply valK_altB) (apply brC_t; · finish (splits := 3) (ematch := 1)) (apply brC_f; · finish (splits := 3) (ematch := 1)) (apply brC_sBN) (apply brC_sB) (apply wantK_t; · finish (splits := 3) (ematch := 1)) (apply wantK_f; · finish (splits := 3) (ematch := 1)) (apply wantK_sBN) (apply wantK_sB) (apply rowG_t; · finish (splits := 3) (ematch := 1)) (apply rowG_f; · finish (splits := 3) (ematch := 1)) (apply rowG_sBN) (apply rowG_sB) (intro~ hr) (tactic => first | exact ins_room h | exact ins_fin hq rfl (ins_a ‹_›) hp (by decide) | exact ins_fin hq rfl (ins_b h ‹_› ‹_› hp) (‹_ ∧ _ + 1 ≤ _› : _ ∧ _).2 (by decide) | exact ins_fin hq rfl (ins_c h ‹¬ _ = _› ‹_› hp) (ins_cc ‹¬ _ < _›) (by decide) | (trace_state; exact test_fail)))
-- Chapter 16: a list of things: Put.
theorem insert_use {k j i cap : Nat} {L : List TFrag} {x : TFrag} {H : Hp} {n : Nat} {Q : AV → Hp → Nat → Prop} (hk : hget k H = some (.vec cap 11 (L.map eFrag))) (hj : hget j H = some (.vec 1 11 [eFrag x])) (hn : (k < n ∧ j < n) ∧ (k = j) = False) (h : i ≤ L.length ∧ L.length ≤ cap ∧ L.length ≤ 100000)
    (hq : ∀ c : Nat, Imp (L.length + 1 ≤ c) (Q (.slc n 0 [] 11 0 0 (L.length + 1) c) ((n, .vec c 11 ((insA L i x).map eFrag)) :: hideH [j, k] H) (n + 1))) :
    callA Try.prog 67 [.slc k 0 [] 11 0 0 L.length cap, .int .i64 i, .slc j 0 [] 11 0 0 1 1] H n Q := by
  have hne : ¬ k = j := by rw [hn.2]; exact id
  have hne2 : ¬ j = k := fun e => hne e.symm
  refine callA_use (H0 := [(1, .vec 1 11 [eFrag x]), (0, .vec cap 11 (L.map eFrag))]) (m := 2) (insert_walk (i := i) (cap := cap) (Q := fun v H1 n1 => ∃ c, L.length + 1 ≤ c ∧ v = .slc 2 0 [] 11 0 0 (L.length + 1) c ∧ H1 = [(2, .vec c 11 ((insA L i x).map eFrag))] ∧ n1 = 3) h (fun c hc => ⟨c, hc, rfl, rfl, rfl⟩)) [k, j] rfl (by simp [hne]) (by simpa using hn.1) (by simp [keysB]) (by rfl) ?_ ?_
  · simp [subH, idx, Ent.ren, hk, hj, lFrag_ren, renL, eFrag_ren]
  · rintro v H1 m1 hm1 ⟨c, hc, rfl, rfl, rfl⟩
    have := hq c hc
    simpa [idx, AV.ren, renL, renH, Ent.ren, lFrag_ren, keysB] using this
/-- A function that answers a fragment's key. -/
def OfP (g : FuncId) : Prop := ∀ (x : TFrag) (H : Hp) (n : Nat) (Q : AV → Hp → Nat → Prop), Q (.agg [.int .i64 x.key.z, .int .i64 x.key.draw, .int .i64 x.key.tri, .int .i64 x.key.part]) H n → callA Try.prog g [eFrag x] H n Q
theorem of_go {g : FuncId} {x : TFrag} {H : Hp} {n : Nat} {Q : AV → Hp → Nat → Prop} (h : OfP g) (hq : Q (.agg [.int .i64 x.key.z, .int .i64 x.key.draw, .int .i64 x.key.tri, .int .i64 x.key.part]) H n) : callA Try.prog g [eFrag x] H n Q := h x H n Q hq
noncomputable def cx55 : Cx := ⟨Try.prog, [], [], [(0, [2, 1]), (1, [2])]⟩
theorem cx55_P : cx55.P = Try.prog := rfl
theorem cx55_l0 : lookL 0 cx55.lv = some [2, 1] := rfl
theorem cx55_l1 : lookL 1 cx55.lv = some [2] := rfl
theorem cx55_pu : cx55.pu = [] := rfl
theorem cx55_ok : okc cx55 Try.f55.ntmps (Try.f55.body.getD .skip) = true := by kernel_rfl
theorem enter55 {args : List AV} {H : Hp} {n : Nat} {Q : AV → Hp → Nat → Prop} (h : args.length ≤ 5 ∧ Ev cx55 ⟨5, n, none, 55⟩ (Try.f55.body.getD .skip) ⟨argT 0 args, H, n⟩ (.top Try.f55.results.toList Q)) : callA Try.prog 55 args H n Q :=
  callA_ev (cx := cx55) puOk_nil (f := 55) (fn := Try.f55) Try.func55 rfl (by kernel_rfl) h.1 cx55_ok h.2
theorem of_ok : OfP 55 := by
  intro x H n Q hq
  refine callA_pure ?_ rfl (by rfl) hq
  sym =>
    repeat (first (apply enter55) (apply imp_go; intro hp) (apply valK_w64; · finish (splits := 3) (ematch := 1)) (apply valK_wu8; · finish (splits := 3) (ematch := 1)) (apply valK_wu64; · finish (splits := 3) (ematch := 1)) (apply valK_w32; · finish (splits := 3) (ematch := 1)) (apply valK_wu16; · finish (splits := 3) (ematch := 1)) (apply valK_wu32; · finish (splits := 3) (ematch := 1)) (apply valK_wr) (apply valK_andR) (apply valK_quo; · finish (splits := 3) (ematch := 1)) (apply valK_quoR; · finish (splits := 3) (ematch := 1)) (apply valK_rem; · finish (splits := 3) (ematch := 1)) (apply valK_remR; · finish (splits := 3) (ematch := 1)) (apply valK_bol; · finish (splits := 3) (ematch := 1)) (apply effK_bol; · finish (splits := 3) (ematch := 1)) (apply newK_bol; · finish (splits := 3) (ematch := 1)) (apply appK_bol; · finish (splits := 3) (ematch := 1)) (apply topO_bol; · finish (splits := 3) (ematch := 1)) (apply valK_altY; · finish (splits := 3) (ematch := 1)) (apply valK_altN; · finish (splits := 3) (ematch := 1)) (apply effK_altY; · finish (splits := 3) (ematch := 1)) (apply effK_altN; · finish (splits := 3) (ematch := 1)) (apply valK_altNY; · finish (splits := 3) (ematch := 1)) (apply valK_altNN; · finish (splits := 3) (ematch := 1)) (apply valK_altS) (apply valK_altNS) (apply effK_altS) (apply appS_go) (apply brC_y; · finish (splits := 3) (ematch := 1)) (apply brC_n; · finish (splits := 3) (ematch := 1)) (apply brC_yN; · finish (splits := 3) (ematch := 1)) (apply brC_nN; · finish (splits := 3) (ematch := 1)) (apply brC_s) (apply brC_sN) (apply wantK_y; · finish (splits := 3) (ematch := 1)) (apply wantK_n; · finish (splits := 3) (ematch := 1)) (apply wantK_yN; · finish (splits := 3) (ematch := 1)) (apply wantK_nN; · finish (splits := 3) (ematch := 1)) (apply wantK_s) (apply wantK_sN) (apply rowG_y; · finish (splits := 3) (ematch := 1)) (apply rowG_n; · finish (splits := 3) (ematch := 1)) (apply rowG_yN; · finish (splits := 3) (ematch := 1)) (apply rowG_nN; · finish (splits := 3) (ematch := 1)) (apply rowG_s) (apply rowG_sN) (simp [e17Op_eq, e19Op_eq, eAbuffertile_eq, eColour_eq, eFrag_eq, eKey_eq, cx55_P, cx55_l0, cx55_l1, cx55_pu, Try.f55.eq_1, ty_arrOf_60, ty_arrOf_64, ty_eqTy_64, ty_fldOf_60_0, ty_fldOf_60_1, ty_fldOf_60_2, ty_fldOf_60_3, ty_fldOf_64_0, ty_fldOf_64_1, ty_fldOf_64_2, ty_fldOf_64_3, ty_lay_60, ty_lay_64, ty_notInt_60, ty_notInt_64, ty_placesOf_64, ty_slcOf_60, ty_slcOf_64, ty_zeroA_60, ty_zeroA_64, valK_some, newK_some, effK_some, opE_move, opE_assign, opE_load, opE_bin, opE_un, opE_fieldAddr, opE_alloc, opE_box, opE_store_r, ev_seq, ev_skip, ev_label, ev_region, ev_cond, condC_some, brC_true, brC_false, ev_block, ev_scope, ev_exit, ev_ret, nx_seq, nx_seqE, nx_seqR, nx_blk, nx_blkE, nx_blkR, nx_top, nx_topR, topO_some, evR_nil, evR_op, evR_guard, finK_reg, finN_reg, nid_reg, getT_cons, putT_some, putT_none, trimT_some, trimT_none, keepT_nil, keepT_cons, consT_some, consT_none, getT_nil, getO_tmp, getO_const, getO_func, ofC_int, ofC_bool, ofC_ptr, ofC_slc, ofC_map, ofC_fn, getOs_nil, getOs_cons, consO_some, hget_cons, hset_cons, wrap_lit, wrap_neg, cast_lit, toNat_lit, get_zero, get_succ, take_zero, take_succ, set_zero, set_succ, length_nil, length_cons, length_set, append_nil, nil_append, cons_append, toList_arr, bnot_true, bnot_false, band_true, band_false, beq_tt, beq_ff, beq_tf, beq_ft, beq_nat, beq_int, bne_nat, map_some, map_none, true_eq_false, false_eq_true, true_eq_true, fbody_mk, fresults_mk, getD_some, bol_true, binO_some, size_int, size_bool, size_str, size_ptr, size_nilp, size_slc, size_nils, size_map, size_nilm, size_fn, size_nilf, size_agg, size_rows, sizeL_nil, sizeL_cons, layOK_int, layOK_bool, layOK_str, layOK_ptr, layOK_nilp, layOK_slc, layOK_nils, layOK_map, layOK_nilm, layOK_fn, layOK_nilf, layOK_agg, layOK_rows, isTup_int, isTup_bool, isTup_str, isTup_ptr, isTup_nilp, isTup_slc, isTup_nils, isTup_map, isTup_nilm, isTup_fn, isTup_nilf, isTup_agg, isTup_rows, getP_nil, getP_cons, getS_some, stepP_agg, stepP_rows, putP_nil, putP_cons, putS_some, putU_some, setS_agg, setS_rows, loadO_some, loadA_ptr, loadE_cel, loadE_vec, loadE_ro, chkL_some, storeO_some, stH_some, storeA_ptr, storeE_cel, storeE_vec, storeB_cel, faO_some, fa_ptr, newA_some, resF_eq, resAll_nil, resAll_cons, resOne_tmp, resOne_cell, tupO_none, tupO_one, tupO_more, argT_nil, argT_cons, lookL_cons, lookL_nil, lookP_cons, wrapO_lit, wrapO_neg, mstoreB_vec, len_set, not_tf, not_ft, and_tf, alt_true, alt_false, bol_false, getS_bol, getS_alt, chkL_bol, chkL_alt, putS_bol, putS_alt, putU_bol, putU_alt, storeB_bol, storeB_alt, stH_bol, stH_alt, consO_bol, consO_bol2, tupO_bol, bol_bol, get_mapB, get_setB, get_appB, len_map, nat_zero_add, hideH_nil, and_self, and_true, true_and, and_false, false_and]) (apply valK_bolB; · finish (splits := 3) (ematch := 1)) (apply valK_altT; · finish (splits := 3) (ematch := 1)) (apply valK_altF; · finish (splits := 3) (ematch := 1)) (apply valK_altB) (apply brC_t; · finish (splits := 3) (ematch := 1)) (apply brC_f; · finish (splits := 3) (ematch := 1)) (apply brC_sBN) (apply brC_sB) (apply wantK_t; · finish (splits := 3) (ematch := 1)) (apply wantK_f; · finish (splits := 3) (ematch := 1)) (apply wantK_sBN) (apply wantK_sB) (apply rowG_t; · finish (splits := 3) (ematch := 1)) (apply rowG_f; · finish (splits := 3) (ematch := 1)) (apply rowG_sBN) (apply rowG_sB) (intro~ hr) (tactic => first | rfl | (trace_state; exact test_fail)))
noncomputable def cx56 : Cx := ⟨Try.prog, [], [(1, ⟨1, [⟨0, false, [], [], [], 0⟩, ⟨1, false, [0], [], [], 0⟩, ⟨2, false, [1], [], [], 0⟩, ⟨3, false, [2], [], [0], 0⟩, ⟨4, false, [], [], [0], 0⟩, ⟨6, false, [], [], [], 0⟩, ⟨5, true, [3, 4], [], [0], 0⟩, ⟨7, true, [3, 4, 5, 6], [], [], 0⟩]⟩), (3, ⟨0, (⟨0, false, [], [], [], 0⟩ :: ⟨1, false, [0], [], [], 0⟩ :: ⟨2, false, [1], [], [], 0⟩ :: ⟨3, false, [2], [], [], 0⟩ :: ⟨4, false, [2, 3], [], [], 0⟩ :: ⟨5, false, [2, 4], [], [], 0⟩ :: ⟨6, false, [2, 5], [], [], 0⟩ :: ⟨7, false, [2], [], [], 0⟩ :: ⟨8, false, [2, 7], [], [], 0⟩ :: ⟨9, false, [2, 8], [], [], 0⟩ :: ⟨10, false, [2, 9], [], [], 0⟩ :: ⟨11, false, [2], [], [], 0⟩ :: ⟨12, false, [2, 11], [], [], 0⟩ :: ⟨13, false, [2, 10, 12], [], [], 0⟩ :: ⟨14, false, [2, 10, 13], [], [], 0⟩ :: ⟨16, false, [2], [], [], 0⟩ :: ⟨15, true, [2, 6, 10, 14], [16], [], 0⟩ :: ⟨17, true, [2, 6, 10, 14, 15, 16], [], [], 0⟩ :: ⟨18, false, [2, 15, 17], [], [], 0⟩ :: ⟨19, false, [2, 15, 17, 18], [], [], 0⟩ :: [])⟩), (5, ⟨1, [⟨0, false, [], [], [], 0⟩, ⟨1, false, [], [], [], 0⟩, ⟨2, false, [1], [], [], 0⟩, ⟨3, false, [2], [], [], 0⟩, ⟨4, false, [3], [], [0], 0⟩, ⟨5, false, [], [], [], 0⟩, ⟨6, false, [], [], [0], 0⟩, ⟨7, false, [6], [], [], 0⟩, ⟨8, true, [4, 5, 6, 7], [], [], 0⟩, ⟨9, false, [0, 8], [], [], 0⟩, ⟨10, false, [8, 9], [], [], 0⟩, ⟨11, true, [4, 6, 7, 8, 10], [], [], 0⟩]⟩)], [(0, [3, 0]), (1, [4, 3, 0]), (2, [5, 4, 3, 0]), (3, [36, 5, 4, 3, 0]), (4, [5, 4, 3, 0]), (5, [])]⟩
theorem cx56_P : cx56.P = Try.prog := rfl
theorem cx56_l0 : lookL 0 cx56.lv = some [3, 0] := rfl
theorem cx56_l1 : lookL 1 cx56.lv = some [4, 3, 0] := rfl
theorem cx56_l2 : lookL 2 cx56.lv = some [5, 4, 3, 0] := rfl
theorem cx56_l3 : lookL 3 cx56.lv = some [36, 5, 4, 3, 0] := rfl
theorem cx56_l4 : lookL 4 cx56.lv = some [5, 4, 3, 0] := rfl
theorem cx56_l5 : lookL 5 cx56.lv = some [] := rfl
theorem cx56_p1 : lookP 1 cx56.pl = some ⟨1, [⟨0, false, [], [], [], 0⟩, ⟨1, false, [0], [], [], 0⟩, ⟨2, false, [1], [], [], 0⟩, ⟨3, false, [2], [], [0], 0⟩, ⟨4, false, [], [], [0], 0⟩, ⟨6, false, [], [], [], 0⟩, ⟨5, true, [3, 4], [], [0], 0⟩, ⟨7, true, [3, 4, 5, 6], [], [], 0⟩]⟩ := rfl
theorem cx56_p3 : lookP 3 cx56.pl = some ⟨0, (⟨0, false, [], [], [], 0⟩ :: ⟨1, false, [0], [], [], 0⟩ :: ⟨2, false, [1], [], [], 0⟩ :: ⟨3, false, [2], [], [], 0⟩ :: ⟨4, false, [2, 3], [], [], 0⟩ :: ⟨5, false, [2, 4], [], [], 0⟩ :: ⟨6, false, [2, 5], [], [], 0⟩ :: ⟨7, false, [2], [], [], 0⟩ :: ⟨8, false, [2, 7], [], [], 0⟩ :: ⟨9, false, [2, 8], [], [], 0⟩ :: ⟨10, false, [2, 9], [], [], 0⟩ :: ⟨11, false, [2], [], [], 0⟩ :: ⟨12, false, [2, 11], [], [], 0⟩ :: ⟨13, false, [2, 10, 12], [], [], 0⟩ :: ⟨14, false, [2, 10, 13], [], [], 0⟩ :: ⟨16, false, [2], [], [], 0⟩ :: ⟨15, true, [2, 6, 10, 14], [16], [], 0⟩ :: ⟨17, true, [2, 6, 10, 14, 15, 16], [], [], 0⟩ :: ⟨18, false, [2, 15, 17], [], [], 0⟩ :: ⟨19, false, [2, 15, 17, 18], [], [], 0⟩ :: [])⟩ := rfl
theorem cx56_p5 : lookP 5 cx56.pl = some ⟨1, [⟨0, false, [], [], [], 0⟩, ⟨1, false, [], [], [], 0⟩, ⟨2, false, [1], [], [], 0⟩, ⟨3, false, [2], [], [], 0⟩, ⟨4, false, [3], [], [0], 0⟩, ⟨5, false, [], [], [], 0⟩, ⟨6, false, [], [], [0], 0⟩, ⟨7, false, [6], [], [], 0⟩, ⟨8, true, [4, 5, 6, 7], [], [], 0⟩, ⟨9, false, [0, 8], [], [], 0⟩, ⟨10, false, [8, 9], [], [], 0⟩, ⟨11, true, [4, 6, 7, 8, 10], [], [], 0⟩]⟩ := rfl
theorem cx56_pu : cx56.pu = [] := rfl
theorem cx56_ok : okc cx56 Try.f56.ntmps (Try.f56.body.getD .skip) = true := by kernel_rfl
theorem enter56 {args : List AV} {H : Hp} {n : Nat} {Q : AV → Hp → Nat → Prop} (h : args.length ≤ 50 ∧ Ev cx56 ⟨50, n, none, 56⟩ (Try.f56.body.getD .skip) ⟨argT 0 args, H, n⟩ (.top Try.f56.results.toList Q)) : callA Try.prog 56 args H n Q :=
  callA_ev (cx := cx56) puOk_nil (f := 56) (fn := Try.f56) Try.func56 rfl (by kernel_rfl) h.1 cx56_ok h.2
/-- Where a thing goes. -/
def scan (L : List TFrag) (k : TKey) : Nat → Nat
  | 0 => 0
  | i + 1 => if cmpK (L.getD i default).key k < 0 then scan L k i else i + 1
def putK (L : List TFrag) (x : TFrag) : List TFrag := insA L (scan L x.key L.length) x
theorem layOK_frag (x : TFrag) : layOK (some (true, 11)) (eFrag x) = true := rfl
def scInv (L : List TFrag) (k : TKey) (a : Nat) : Prop := a ≤ L.length ∧ scan L k a = scan L k L.length
theorem sc_cases (a : Nat) : (¬ 0 < (a : Int) ∧ (a : Int) - 1 = -1 ∧ a = 0) ∨ ∃ j : Nat, 0 < (a : Int) ∧ (a : Int) - 1 = (j : Int) ∧ a = j + 1 := by
  by_cases h : a = 0
  · exact .inl ⟨by omega, by omega, h⟩
  · exact .inr ⟨a - 1, by omega, by omega, by omega⟩
theorem sc_next {L : List TFrag} {k : TKey} {a j : Nat} (hi : scInv L k a) (e : a = j + 1) (h : cmpK (L.getD j default).key k < 0) : scInv L k j ∧ j < a := by
  subst e
  refine ⟨⟨by have := hi.1; omega, ?_⟩, by omega⟩
  rw [← hi.2]
  show scan L k j = if _ then _ else _
  rw [if_pos h]
theorem sc_end {L : List TFrag} {x : TFrag} {a j : Nat} (hi : scInv L x.key a) (e : a = j + 1) (h : ¬ cmpK (L.getD j default).key x.key < 0) : insA L a x = putK L x := by
  unfold putK
  rw [← hi.2, e]
  show _ = insA L (if _ then _ else _) x
  rw [if_neg h]
theorem sc_zero {L : List TFrag} {x : TFrag} {a : Nat} (hi : scInv L x.key a) (e : a = 0) : insA L a x = putK L x := by
  unfold putK
  rw [← hi.2, e]; rfl
theorem sc_lt {L : List TFrag} {k : TKey} {a j : Nat} (hi : scInv L k a) (e : a = j + 1) : j < L.length := by have := hi.1; omega
theorem loop_here {cx : Cx} {fx : Fx} {c : Code} {k : Kd} {st : St} (h : LoopS cx fx c st k) : LoopS cx fx c st k := h
theorem put_walk {g : FuncId} {L : List TFrag} {cap : Nat} {x : TFrag} {Q : AV → Hp → Nat → Prop} (hof : OfP g) (h : L.length ≤ cap ∧ L.length ≤ 100000)
    (hq : ∀ c : Nat, Imp (L.length + 1 ≤ c) (Q (.tup []) [(2, .vec c 11 ((putK L x).map eFrag)), (0, .cel (.agg [.fn (.func g) [] [], .slc 2 0 [] 11 0 0 (L.length + 1) c]))] 3)) :
    callA Try.prog 56 [.ptr 0 0 [], eFrag x] [(1, .vec cap 11 (L.map eFrag)), (0, .cel (.agg [.fn (.func g) [] [], .slc 1 0 [] 11 0 0 L.length cap]))] 2 Q := by
  refine callA_reid ?_
  sym =>
    repeat (first (apply enter56) (apply of_go; (tactic => exact hof)) (apply compare_use) (apply loop_here; (tactic => (refine loop_par (fun a : Nat => (⟨[(5, .int .i64 a), (4, .ptr 3 0 []), (3, .ptr 2 0 []), (0, .ptr 0 0 [])], [(2, .cel (eFrag x)), (1, .vec cap 11 (L.map eFrag)), (0, .cel (.agg [.fn (.func g) [] [], .slc 1 0 [] 11 0 0 L.length cap])), (3, .cel (.agg [.int .i64 x.key.z, .int .i64 x.key.draw, .int .i64 x.key.tri, .int .i64 x.key.part]))], 4⟩ : St)) (scInv L x.key) (fun a => a) ?_ L.length ⟨Nat.le_refl _, rfl⟩; intro a hi J hJ; have hal := hi.1; obtain ⟨h0, e1, e2⟩ | ⟨j, h0, e1, e2⟩ := sc_cases a; all_goals (show Ev _ _ _ _ _; sym => repeat (first (apply enter56) (apply of_go; (tactic => exact hof)) (apply compare_use) (apply insert_use; (tactic => rfl); (tactic => rfl); (tactic => decide); (tactic => exact ⟨hi.1, h⟩)) (apply imp_go; intro hp) (apply valK_w64; · finish (splits := 3) (ematch := 1)) (apply valK_wu8; · finish (splits := 3) (ematch := 1)) (apply valK_wu64; · finish (splits := 3) (ematch := 1)) (apply valK_w32; · finish (splits := 3) (ematch := 1)) (apply valK_wu16; · finish (splits := 3) (ematch := 1)) (apply valK_wu32; · finish (splits := 3) (ematch := 1)) (apply valK_wr) (apply valK_andR) (apply valK_quo; · finish (splits := 3) (ematch := 1)) (apply valK_quoR; · finish (splits := 3) (ematch := 1)) (apply valK_rem; · finish (splits := 3) (ematch := 1)) (apply valK_remR; · finish (splits := 3) (ematch := 1)) (apply valK_bol; · finish (splits := 3) (ematch := 1)) (apply effK_bol; · finish (splits := 3) (ematch := 1)) (apply newK_bol; · finish (splits := 3) (ematch := 1)) (apply appK_bol; · finish (splits := 3) (ematch := 1)) (apply topO_bol; · finish (splits := 3) (ematch := 1)) (apply valK_altY; · finish (splits := 3) (ematch := 1)) (apply valK_altN; · finish (splits := 3) (ematch := 1)) (apply effK_altY; · finish (splits := 3) (ematch := 1)) (apply effK_altN; · finish (splits := 3) (ematch := 1)) (apply valK_altNY; · finish (splits := 3) (ematch := 1)) (apply valK_altNN; · finish (splits := 3) (ematch := 1)) (apply valK_altS) (apply valK_altNS) (apply effK_altS) (apply appS_go) (apply brC_y; · finish (splits := 3) (ematch := 1)) (apply brC_n; · finish (splits := 3) (ematch := 1)) (apply brC_yN; · finish (splits := 3) (ematch := 1)) (apply brC_nN; · finish (splits := 3) (ematch := 1)) (apply brC_s) (apply brC_sN) (apply wantK_y; · finish (splits := 3) (ematch := 1)) (apply wantK_n; · finish (splits := 3) (ematch := 1)) (apply wantK_yN; · finish (splits := 3) (ematch := 1)) (apply wantK_nN; · finish (splits := 3) (ematch := 1)) (apply wantK_s) (apply wantK_sN) (apply rowG_y; · finish (splits := 3) (ematch := 1)) (apply rowG_n; · finish (splits := 3) (ematch := 1)) (apply rowG_yN; · finish (splits := 3) (ematch := 1)) (apply rowG_nN; · finish (splits := 3) (ematch := 1)) (apply rowG_s) (apply rowG_sN) (simp [e1, Int.toNat_natCast, eFrag_size, eFrag_tup, layOK_frag, e17Op_eq, e19Op_eq, eAbuffertile_eq, eColour_eq, eKey_eq, cx56_P, cx56_l0, cx56_l1, cx56_l2, cx56_l3, cx56_l4, cx56_l5, cx56_p1, cx56_p3, cx56_p5, cx56_pu, Try.f56.eq_1, ty_arrOf_112, ty_arrOf_3, ty_arrOf_58, ty_arrOf_60, ty_arrOf_64, ty_bytesE_58, ty_eqTy_64, ty_fldOf_127_0, ty_fldOf_127_1, ty_fldOf_60_0, ty_fldOf_60_1, ty_fldOf_60_2, ty_fldOf_60_3, ty_fldOf_64_0, ty_fldOf_64_1, ty_fldOf_64_2, ty_fldOf_64_3, ty_intOf_3, ty_isInt_3, ty_notInt_3, ty_lay_112, ty_lay_3, ty_lay_58, ty_lay_60, ty_lay_64, ty_notInt_112, ty_notInt_58, ty_notInt_60, ty_notInt_64, ty_placesOf_127, ty_placesOf_64, ty_slcOf_112, ty_slcOf_3, ty_slcOf_58, ty_slcOf_60, ty_slcOf_64, ty_zeroA_127, ty_zeroA_3, ty_zeroA_58, ty_zeroA_60, ty_zeroA_64, ty_zeroE_58, valK_some, newK_some, effK_some, opE_move, opE_assign, opE_pick, opE_load, opE_nilCheck, opE_bin, opE_un, opE_fieldAddr, opE_indexAddr, opE_len, opE_alloc, opE_box, opE_buildSlice, callK_fn, callK_yld, callG_some, callG_none, opE_store_r, opE_call_r, opE_store_w, opE_call_w, ev_seq, ev_skip, ev_label, ev_region, ev_draw, evDO_some, ev_cond, condC_some, brC_true, brC_false, ev_block, ev_scope, ev_exit, ev_ret, ev_loop, nx_seq, nx_seqE, nx_seqR, nx_blk, nx_blkE, nx_blkR, nx_loop, nx_loopE, nx_loopR, nx_inv, nx_invE, nx_invR, nx_top, nx_topR, topO_some, evR_nil, wantK_tup, wantK_tt, wantK_ff, wantK_tf, wantK_ft, evR_op, evR_guard, evD_nil, evD_row, rowK_eff, rowK_calm, rowK_guard, rowG_tup, rowG_tt, rowG_ff, rowG_tf, rowG_ft, rowN_eq, chkA_nil, chkA_cons, chkO_some, chkW_false, sameO_some, chkW_load, chkW_len, finK_reg, finK_row, finK_calm, finN_reg, finN_row, finN_calm, nid_reg, nid_row, nid_calm, getT_cons, putT_some, putT_none, trimT_some, trimT_none, keepT_nil, keepT_cons, consT_some, consT_none, getT_nil, getO_tmp, getO_const, getO_func, ofC_int, ofC_bool, ofC_ptr, ofC_slc, ofC_map, ofC_fn, getOs_nil, getOs_cons, consO_some, guardT_eq, guardO_some, wantA_none, wantA_some, wantO_tup, wantO_tt, wantO_ff, wantO_tf, wantO_ft, hget_cons, hset_cons, memb_nil, memb_cons, hideH_cons, showH_cons, hideH_none, showH_none, showH_nil, outs_nil, outs_cons, app_nil, nil_app, cons_app, rowOf_cons, wrap_lit, wrap_neg, top_i64, bot_i64, bits_i64, cast_lit, toNat_lit, get_zero, get_succ, take_zero, take_succ, set_zero, set_succ, length_nil, length_cons, length_set, append_nil, nil_append, cons_append, toList_arr, rep_zero, rep_succ, bnot_true, bnot_false, band_true, band_false, beq_tt, beq_ff, beq_tf, beq_ft, beq_nat, beq_int, bne_nat, map_some, map_none, true_eq_false, false_eq_true, true_eq_true, fbody_mk, fresults_mk, getD_some, bol_true, binO_some, bin_lss, bin_gtr, pickA_true, pickA_false, nilO_some, nilA_ptr, nilA_fn, nilA_yld, nilA_map, nilA_slc, size_int, size_bool, size_str, size_ptr, size_nilp, size_slc, size_nils, size_map, size_nilm, size_fn, size_yld, size_nilf, size_agg, size_rows, sizeL_nil, sizeL_cons, layOK_int, layOK_bool, layOK_str, layOK_ptr, layOK_nilp, layOK_slc, layOK_nils, layOK_map, layOK_nilm, layOK_fn, layOK_yld, layOK_nilf, layOK_agg, layOK_rows, isTup_int, isTup_bool, isTup_str, isTup_ptr, isTup_nilp, isTup_slc, isTup_nils, isTup_map, isTup_nilm, isTup_fn, isTup_yld, isTup_nilf, isTup_agg, isTup_rows, getP_nil, getP_cons, getS_some, stepP_agg, stepP_rows, putP_nil, putP_cons, putS_some, putU_some, setS_agg, setS_rows, loadO_some, loadA_ptr, loadE_cel, loadE_vec, loadE_ro, chkL_some, storeO_some, stH_some, storeA_ptr, storeE_cel, storeE_vec, storeB_cel, faO_some, fa_ptr, iaO_some, newA_some, partsO_nil, partsO_cons, setA_agg, setA_rows, setC_some, setD_some, fillQ_nil, fillQ_cons, fillM_some, fitZ_some, bs_some, bsO_some, slN_some, builtO_some, len_slc, len_nils, len_rows, arN_some, resF_eq, resAll_nil, resAll_cons, resOne_tmp, resOne_cell, tupO_none, tupO_one, tupO_more, argT_nil, argT_cons, lookU_nil, lookU_cons, lookL_cons, lookL_nil, lookP_cons, roundS_eq, mbin_sub, wrapO_lit, wrapO_neg, mia_ptr, mia_slc, mstoreB_vec, len_set, not_tf, not_ft, and_tf, alt_true, alt_false, pick_alt, bol_false, getS_bol, getS_alt, chkL_bol, chkL_alt, putS_bol, putS_alt, putU_bol, putU_alt, storeB_bol, storeB_alt, stH_bol, stH_alt, consO_bol, consO_bol2, tupO_bol, fillM_bol, bol_bol, get_mapB, get_setB, get_appB, len_map, nat_zero_add, slN_bol, subC_nil, subC_seq0, subC_seq1, subC_cond0, subC_cond1, subC_block, subC_scope, subC_loop, subC_ran0, subC_ran1, hideH_nil, and_self, and_true, true_and, and_false, false_and]) (apply chkW_want) (apply chkW_wantA) (apply valK_bolB; · finish (splits := 3) (ematch := 1)) (apply valK_altT; · finish (splits := 3) (ematch := 1)) (apply valK_altF; · finish (splits := 3) (ematch := 1)) (apply valK_altB) (apply brC_t; · finish (splits := 3) (ematch := 1)) (apply brC_f; · finish (splits := 3) (ematch := 1)) (apply brC_sBN) (apply brC_sB) (apply wantK_t; · finish (splits := 3) (ematch := 1)) (apply wantK_f; · finish (splits := 3) (ematch := 1)) (apply wantK_sBN) (apply wantK_sB) (apply rowG_t; · finish (splits := 3) (ematch := 1)) (apply rowG_f; · finish (splits := 3) (ematch := 1)) (apply rowG_sBN) (apply rowG_sB) (intro~ hr) (tactic => first | exact back_same hJ j rfl rfl rfl rfl (sc_next hi e2 hp).1 (sc_next hi e2 hp).2 | (rw [sc_zero hi e2]; refine reidP_of [0, 1, 5] _ _ rfl rfl rfl ?_ ?_ ?_ (hq _ hp) <;> simp [subT, subH, okW, getT, hget, hset, hdel, idx, AV.ren, renL, renT, Ent.ren, Ent.writes, renL_app, lFrag_ren, eFrag_ren, -List.map_drop, -List.map_take]; done) | (rw [sc_end hi e2 ‹_›]; refine reidP_of [0, 1, 5] _ _ rfl rfl rfl ?_ ?_ ?_ (hq _ hp) <;> simp [subT, subH, okW, getT, hget, hset, hdel, idx, AV.ren, renL, renT, Ent.ren, Ent.writes, renL_app, lFrag_ren, eFrag_ren, -List.map_drop, -List.map_take]; done) | (trace_state; exact test_fail))))))) (apply imp_go; intro hp) (apply valK_w64; · finish (splits := 3) (ematch := 1)) (apply valK_wu8; · finish (splits := 3) (ematch := 1)) (apply valK_wu64; · finish (splits := 3) (ematch := 1)) (apply valK_w32; · finish (splits := 3) (ematch := 1)) (apply valK_wu16; · finish (splits := 3) (ematch := 1)) (apply valK_wu32; · finish (splits := 3) (ematch := 1)) (apply valK_wr) (apply valK_andR) (apply valK_quo; · finish (splits := 3) (ematch := 1)) (apply valK_quoR; · finish (splits := 3) (ematch := 1)) (apply valK_rem; · finish (splits := 3) (ematch := 1)) (apply valK_remR; · finish (splits := 3) (ematch := 1)) (apply valK_bol; · finish (splits := 3) (ematch := 1)) (apply effK_bol; · finish (splits := 3) (ematch := 1)) (apply newK_bol; · finish (splits := 3) (ematch := 1)) (apply appK_bol; · finish (splits := 3) (ematch := 1)) (apply topO_bol; · finish (splits := 3) (ematch := 1)) (apply valK_altY; · finish (splits := 3) (ematch := 1)) (apply valK_altN; · finish (splits := 3) (ematch := 1)) (apply effK_altY; · finish (splits := 3) (ematch := 1)) (apply effK_altN; · finish (splits := 3) (ematch := 1)) (apply valK_altNY; · finish (splits := 3) (ematch := 1)) (apply valK_altNN; · finish (splits := 3) (ematch := 1)) (apply valK_altS) (apply valK_altNS) (apply effK_altS) (apply appS_go) (apply brC_y; · finish (splits := 3) (ematch := 1)) (apply brC_n; · finish (splits := 3) (ematch := 1)) (apply brC_yN; · finish (splits := 3) (ematch := 1)) (apply brC_nN; · finish (splits := 3) (ematch := 1)) (apply brC_s) (apply brC_sN) (apply wantK_y; · finish (splits := 3) (ematch := 1)) (apply wantK_n; · finish (splits := 3) (ematch := 1)) (apply wantK_yN; · finish (splits := 3) (ematch := 1)) (apply wantK_nN; · finish (splits := 3) (ematch := 1)) (apply wantK_s) (apply wantK_sN) (apply rowG_y; · finish (splits := 3) (ematch := 1)) (apply rowG_n; · finish (splits := 3) (ematch := 1)) (apply rowG_yN; · finish (splits := 3) (ematch := 1)) (apply rowG_nN; · finish (splits := 3) (ematch := 1)) (apply rowG_s) (apply rowG_sN) (simp [eFrag_size, eFrag_tup, layOK_frag, e17Op_eq, e19Op_eq, eAbuffertile_eq, eColour_eq, eKey_eq, cx56_P, cx56_l0, cx56_l1, cx56_l2, cx56_l3, cx56_l4, cx56_l5, cx56_p1, cx56_p3, cx56_p5, cx56_pu, Try.f56.eq_1, ty_arrOf_112, ty_arrOf_3, ty_arrOf_58, ty_arrOf_60, ty_arrOf_64, ty_bytesE_58, ty_eqTy_64, ty_fldOf_127_0, ty_fldOf_127_1, ty_fldOf_60_0, ty_fldOf_60_1, ty_fldOf_60_2, ty_fldOf_60_3, ty_fldOf_64_0, ty_fldOf_64_1, ty_fldOf_64_2, ty_fldOf_64_3, ty_intOf_3, ty_isInt_3, ty_notInt_3, ty_lay_112, ty_lay_3, ty_lay_58, ty_lay_60, ty_lay_64, ty_notInt_112, ty_notInt_58, ty_notInt_60, ty_notInt_64, ty_placesOf_127, ty_placesOf_64, ty_slcOf_112, ty_slcOf_3, ty_slcOf_58, ty_slcOf_60, ty_slcOf_64, ty_zeroA_127, ty_zeroA_3, ty_zeroA_58, ty_zeroA_60, ty_zeroA_64, ty_zeroE_58, valK_some, newK_some, effK_some, opE_move, opE_assign, opE_pick, opE_load, opE_nilCheck, opE_bin, opE_un, opE_fieldAddr, opE_indexAddr, opE_len, opE_alloc, opE_box, opE_buildSlice, callK_fn, callK_yld, callG_some, callG_none, opE_store_r, opE_call_r, opE_store_w, opE_call_w, ev_seq, ev_skip, ev_label, ev_region, ev_draw, evDO_some, ev_cond, condC_some, brC_true, brC_false, ev_block, ev_scope, ev_exit, ev_ret, ev_loop, nx_seq, nx_seqE, nx_seqR, nx_blk, nx_blkE, nx_blkR, nx_loop, nx_loopE, nx_loopR, nx_inv, nx_invE, nx_invR, nx_top, nx_topR, topO_some, evR_nil, wantK_tup, wantK_tt, wantK_ff, wantK_tf, wantK_ft, evR_op, evR_guard, evD_nil, evD_row, rowK_eff, rowK_calm, rowK_guard, rowG_tup, rowG_tt, rowG_ff, rowG_tf, rowG_ft, rowN_eq, chkA_nil, chkA_cons, chkO_some, chkW_false, sameO_some, chkW_load, chkW_len, finK_reg, finK_row, finK_calm, finN_reg, finN_row, finN_calm, nid_reg, nid_row, nid_calm, getT_cons, putT_some, putT_none, trimT_some, trimT_none, keepT_nil, keepT_cons, consT_some, consT_none, getT_nil, getO_tmp, getO_const, getO_func, ofC_int, ofC_bool, ofC_ptr, ofC_slc, ofC_map, ofC_fn, getOs_nil, getOs_cons, consO_some, guardT_eq, guardO_some, wantA_none, wantA_some, wantO_tup, wantO_tt, wantO_ff, wantO_tf, wantO_ft, hget_cons, hset_cons, memb_nil, memb_cons, hideH_cons, showH_cons, hideH_none, showH_none, showH_nil, outs_nil, outs_cons, app_nil, nil_app, cons_app, rowOf_cons, wrap_lit, wrap_neg, top_i64, bot_i64, bits_i64, cast_lit, toNat_lit, get_zero, get_succ, take_zero, take_succ, set_zero, set_succ, length_nil, length_cons, length_set, append_nil, nil_append, cons_append, toList_arr, rep_zero, rep_succ, bnot_true, bnot_false, band_true, band_false, beq_tt, beq_ff, beq_tf, beq_ft, beq_nat, beq_int, bne_nat, map_some, map_none, true_eq_false, false_eq_true, true_eq_true, fbody_mk, fresults_mk, getD_some, bol_true, binO_some, bin_lss, bin_gtr, pickA_true, pickA_false, nilO_some, nilA_ptr, nilA_fn, nilA_yld, nilA_map, nilA_slc, size_int, size_bool, size_str, size_ptr, size_nilp, size_slc, size_nils, size_map, size_nilm, size_fn, size_yld, size_nilf, size_agg, size_rows, sizeL_nil, sizeL_cons, layOK_int, layOK_bool, layOK_str, layOK_ptr, layOK_nilp, layOK_slc, layOK_nils, layOK_map, layOK_nilm, layOK_fn, layOK_yld, layOK_nilf, layOK_agg, layOK_rows, isTup_int, isTup_bool, isTup_str, isTup_ptr, isTup_nilp, isTup_slc, isTup_nils, isTup_map, isTup_nilm, isTup_fn, isTup_yld, isTup_nilf, isTup_agg, isTup_rows, getP_nil, getP_cons, getS_some, stepP_agg, stepP_rows, putP_nil, putP_cons, putS_some, putU_some, setS_agg, setS_rows, loadO_some, loadA_ptr, loadE_cel, loadE_vec, loadE_ro, chkL_some, storeO_some, stH_some, storeA_ptr, storeE_cel, storeE_vec, storeB_cel, faO_some, fa_ptr, iaO_some, newA_some, partsO_nil, partsO_cons, setA_agg, setA_rows, setC_some, setD_some, fillQ_nil, fillQ_cons, fillM_some, fitZ_some, bs_some, bsO_some, slN_some, builtO_some, len_slc, len_nils, len_rows, arN_some, resF_eq, resAll_nil, resAll_cons, resOne_tmp, resOne_cell, tupO_none, tupO_one, tupO_more, argT_nil, argT_cons, lookU_nil, lookU_cons, lookL_cons, lookL_nil, lookP_cons, roundS_eq, mbin_sub, wrapO_lit, wrapO_neg, mia_ptr, mia_slc, mstoreB_vec, len_set, not_tf, not_ft, and_tf, alt_true, alt_false, pick_alt, bol_false, getS_bol, getS_alt, chkL_bol, chkL_alt, putS_bol, putS_alt, putU_bol, putU_alt, storeB_bol, storeB_alt, stH_bol, stH_alt, consO_bol, consO_bol2, tupO_bol, fillM_bol, bol_bol, get_mapB, get_setB, get_appB, len_map, nat_zero_add, slN_bol, subC_nil, subC_seq0, subC_seq1, subC_cond0, subC_cond1, subC_block, subC_scope, subC_loop, subC_ran0, subC_ran1, hideH_nil, and_self, and_true, true_and, and_false, false_and]) (apply chkW_want) (apply chkW_wantA) (apply valK_bolB; · finish (splits := 3) (ematch := 1)) (apply valK_altT; · finish (splits := 3) (ematch := 1)) (apply valK_altF; · finish (splits := 3) (ematch := 1)) (apply valK_altB) (apply brC_t; · finish (splits := 3) (ematch := 1)) (apply brC_f; · finish (splits := 3) (ematch := 1)) (apply brC_sBN) (apply brC_sB) (apply wantK_t; · finish (splits := 3) (ematch := 1)) (apply wantK_f; · finish (splits := 3) (ematch := 1)) (apply wantK_sBN) (apply wantK_sB) (apply rowG_t; · finish (splits := 3) (ematch := 1)) (apply rowG_f; · finish (splits := 3) (ematch := 1)) (apply rowG_sBN) (apply rowG_sB) (intro~ hr) (tactic => (trace_state; exact test_fail)))
theorem put_use {g : FuncId} {k r cap : Nat} {L : List TFrag} {x : TFrag} {H : Hp} {n : Nat} {Q : AV → Hp → Nat → Prop} (hk : hget k H = some (.cel (.agg [.fn (.func g) [] [], .slc r 0 [] 11 0 0 L.length cap]))) (hr : hget r H = some (.vec cap 11 (L.map eFrag))) (hof : OfP g) (hn : (k < n ∧ r < n) ∧ (k = r) = False) (h : L.length ≤ cap ∧ L.length ≤ 100000)
    (hq : ∀ c : Nat, Imp (L.length + 1 ≤ c) (Q (.tup []) ((n, .vec c 11 ((putK L x).map eFrag)) :: (k, .cel (.agg [.fn (.func g) [] [], .slc n 0 [] 11 0 0 (L.length + 1) c])) :: hideH [r, k] H) (n + 1))) :
    callA Try.prog 56 [.ptr k 0 [], eFrag x] H n Q := by
  have hne : ¬ k = r := by rw [hn.2]; exact id
  have hne2 : ¬ r = k := fun e => hne e.symm
  refine callA_use (H0 := [(1, .vec cap 11 (L.map eFrag)), (0, .cel (.agg [.fn (.func g) [] [], .slc 1 0 [] 11 0 0 L.length cap]))]) (m := 2) (put_walk (x := x) (Q := fun v H1 n1 => ∃ c, L.length + 1 ≤ c ∧ v = .tup [] ∧ H1 = [(2, .vec c 11 ((putK L x).map eFrag)), (0, .cel (.agg [.fn (.func g) [] [], .slc 2 0 [] 11 0 0 (L.length + 1) c]))] ∧ n1 = 3) hof h (fun c hc => ⟨c, hc, rfl, rfl, rfl⟩)) [k, r] rfl (by simp [hne]) (by simpa using hn.1) (by simp [keysB]) (by simp [renL, AV.ren, idx, eFrag_ren]) ?_ ?_
  · simp [subH, idx, Ent.ren, AV.ren, hk, hr, lFrag_ren, renL, eFrag_ren]
  · rintro v H1 m1 hm1 ⟨c, hc, rfl, rfl, rfl⟩
    have := hq c hc
    simpa [idx, AV.ren, renL, renH, Ent.ren, lFrag_ren, keysB] using this
-- Chapter 19: a list of things: New, Clone (turned from chapter 16).
noncomputable def cx70 : Cx := ⟨Try.prog, [], [], [(0, [0]), (1, [4, 0]), (2, [2]), (3, [2])]⟩
theorem cx70_P : cx70.P = Try.prog := rfl
theorem cx70_l0 : lookL 0 cx70.lv = some [0] := rfl
theorem cx70_l1 : lookL 1 cx70.lv = some [4, 0] := rfl
theorem cx70_l2 : lookL 2 cx70.lv = some [2] := rfl
theorem cx70_l3 : lookL 3 cx70.lv = some [2] := rfl
theorem cx70_pu : cx70.pu = [] := rfl
theorem cx70_ok : okc cx70 Try.f70.ntmps (Try.f70.body.getD .skip) = true := by kernel_rfl
theorem enter70 {args : List AV} {H : Hp} {n : Nat} {Q : AV → Hp → Nat → Prop} (h : args.length ≤ 8 ∧ Ev cx70 ⟨8, n, none, 70⟩ (Try.f70.body.getD .skip) ⟨argT 0 args, H, n⟩ (.top Try.f70.results.toList Q)) : callA Try.prog 70 args H n Q :=
  callA_ev (cx := cx70) puOk_nil (f := 70) (fn := Try.f70) Try.func70 rfl (by kernel_rfl) h.1 cx70_ok h.2
theorem cloneN_use {H : Hp} {n : Nat} {Q : AV → Hp → Nat → Prop} (hq : Q (.slc (n + 1) 0 [] 11 0 0 0 0) ((n + 1, .vec 0 11 []) :: H) (n + 2)) : callA Try.prog 70 [.nils] H n Q := by
  refine callA_nilV 11 ?_
  sym =>
    repeat (first (apply enter70) (apply imp_go; intro hp) (apply valK_w64; · finish (splits := 3) (ematch := 1)) (apply valK_wu8; · finish (splits := 3) (ematch := 1)) (apply valK_wu64; · finish (splits := 3) (ematch := 1)) (apply valK_w32; · finish (splits := 3) (ematch := 1)) (apply valK_wu16; · finish (splits := 3) (ematch := 1)) (apply valK_wu32; · finish (splits := 3) (ematch := 1)) (apply valK_wr) (apply valK_andR) (apply valK_quo; · finish (splits := 3) (ematch := 1)) (apply valK_quoR; · finish (splits := 3) (ematch := 1)) (apply valK_rem; · finish (splits := 3) (ematch := 1)) (apply valK_remR; · finish (splits := 3) (ematch := 1)) (apply valK_bol; · finish (splits := 3) (ematch := 1)) (apply effK_bol; · finish (splits := 3) (ematch := 1)) (apply newK_bol; · finish (splits := 3) (ematch := 1)) (apply appK_bol; · finish (splits := 3) (ematch := 1)) (apply topO_bol; · finish (splits := 3) (ematch := 1)) (apply valK_altY; · finish (splits := 3) (ematch := 1)) (apply valK_altN; · finish (splits := 3) (ematch := 1)) (apply effK_altY; · finish (splits := 3) (ematch := 1)) (apply effK_altN; · finish (splits := 3) (ematch := 1)) (apply valK_altNY; · finish (splits := 3) (ematch := 1)) (apply valK_altNN; · finish (splits := 3) (ematch := 1)) (apply valK_altS) (apply valK_altNS) (apply effK_altS) (apply appS_go) (apply brC_y; · finish (splits := 3) (ematch := 1)) (apply brC_n; · finish (splits := 3) (ematch := 1)) (apply brC_yN; · finish (splits := 3) (ematch := 1)) (apply brC_nN; · finish (splits := 3) (ematch := 1)) (apply brC_s) (apply brC_sN) (apply wantK_y; · finish (splits := 3) (ematch := 1)) (apply wantK_n; · finish (splits := 3) (ematch := 1)) (apply wantK_yN; · finish (splits := 3) (ematch := 1)) (apply wantK_nN; · finish (splits := 3) (ematch := 1)) (apply wantK_s) (apply wantK_sN) (apply rowG_y; · finish (splits := 3) (ematch := 1)) (apply rowG_n; · finish (splits := 3) (ematch := 1)) (apply rowG_yN; · finish (splits := 3) (ematch := 1)) (apply rowG_nN; · finish (splits := 3) (ematch := 1)) (apply rowG_s) (apply rowG_sN) (simp [e17Op_eq, e19Op_eq, eAbuffertile_eq, eColour_eq, eKey_eq, cx70_P, cx70_l0, cx70_l1, cx70_l2, cx70_l3, cx70_pu, Try.f70.eq_1, ty_arrOf_58, ty_bytesE_58, ty_lay_58, ty_notInt_58, ty_slcOf_58, ty_zeroA_58, ty_zeroE_58, valK_some, newK_some, opE_move, opE_assign, opE_load, opE_bin, opE_un, opE_buildSlice, appK_some, opE_append_r, ev_seq, ev_skip, ev_label, ev_region, ev_cond, condC_some, brC_true, brC_false, ev_block, ev_scope, ev_exit, ev_ret, nx_seq, nx_seqE, nx_seqR, nx_blk, nx_blkE, nx_blkR, nx_top, nx_topR, topO_some, evR_nil, evR_op, evR_guard, finK_reg, finN_reg, nid_reg, getT_cons, putT_some, putT_none, trimT_some, trimT_none, keepT_nil, keepT_cons, consT_some, consT_none, getT_nil, getO_tmp, getO_const, getO_func, ofC_int, ofC_bool, ofC_ptr, ofC_slc, ofC_map, ofC_fn, getOs_nil, getOs_cons, consO_some, hget_cons, hdel_cons, dropO_some, dropO_none, wrap_lit, wrap_neg, cast_lit, toNat_lit, get_zero, get_succ, take_zero, take_succ, set_zero, set_succ, length_nil, length_cons, append_nil, nil_append, cons_append, toList_arr, rep_zero, rep_succ, bnot_true, bnot_false, band_true, band_false, beq_tt, beq_ff, beq_tf, beq_ft, beq_nat, beq_int, bne_nat, map_some, map_none, true_eq_false, false_eq_true, true_eq_true, fbody_mk, fresults_mk, getD_some, bol_true, binO_some, bin_eql, bin_beql, bin_bneq, eqO_eq, eqO_ne, bin_aeql, bin_aneq, bin_reql, bin_rneq, aggEq_some, flatL_nil, flatL_cons, appV_some, flatV_int, flatV_bool, flatV_agg, flatV_rows, bin_feql, bin_fneq, bin_nfeql, bin_nfneq, bin_peql, bin_pneq, bin_npeql, bin_npneq, size_int, size_bool, size_str, size_ptr, size_nilp, size_slc, size_nils, size_map, size_nilm, size_fn, size_nilf, size_agg, size_rows, sizeL_nil, sizeL_cons, layOK_int, layOK_bool, layOK_str, layOK_ptr, layOK_nilp, layOK_slc, layOK_nils, layOK_map, layOK_nilm, layOK_fn, layOK_nilf, layOK_agg, layOK_rows, isTup_int, isTup_bool, isTup_str, isTup_ptr, isTup_nilp, isTup_slc, isTup_nils, isTup_map, isTup_nilm, isTup_fn, isTup_nilf, isTup_agg, isTup_rows, getP_nil, getP_cons, getS_some, stepP_agg, stepP_rows, loadO_some, loadA_ptr, loadE_cel, loadE_vec, loadE_ro, chkL_some, partsO_nil, partsO_cons, setA_agg, setA_rows, setC_some, setD_some, fillQ_nil, fillQ_cons, fillM_some, fitZ_some, bs_some, bsO_some, slN_some, appO_some, apO_some, own_nils, own_slc, more_nils, more_slc, resF_eq, resAll_nil, resAll_cons, resOne_tmp, resOne_cell, tupO_none, tupO_one, tupO_more, argT_nil, argT_cons, lookL_cons, lookL_nil, lookP_cons, wrapO_lit, wrapO_neg, mowO_vec, not_tf, not_ft, and_tf, alt_true, alt_false, bol_false, getS_bol, getS_alt, chkL_bol, chkL_alt, consO_bol, consO_bol2, tupO_bol, apO_bol, apO_bol2, fillM_bol, eqO_bol, bol_bol, get_mapB, get_setB, get_appB, len_map, len_app, nat_zero_add, take_map, take_self, drop_zero, elemsE_vec, elemsE_ro, elemsE_cel, elemsC_rows, elemsC_bol, bin_nsleql, bin_nslneq, bin_nnleql, bin_nnlneq, slN_bol, beq_str, roomOk_eq, roomB_some, appK_none, appG_some, hideH_nil, and_self, and_true, true_and, and_false, false_and]) (apply valK_bolB; · finish (splits := 3) (ematch := 1)) (apply valK_altT; · finish (splits := 3) (ematch := 1)) (apply valK_altF; · finish (splits := 3) (ematch := 1)) (apply valK_altB) (apply brC_t; · finish (splits := 3) (ematch := 1)) (apply brC_f; · finish (splits := 3) (ematch := 1)) (apply brC_sBN) (apply brC_sB) (apply wantK_t; · finish (splits := 3) (ematch := 1)) (apply wantK_f; · finish (splits := 3) (ematch := 1)) (apply wantK_sBN) (apply wantK_sB) (apply rowG_t; · finish (splits := 3) (ematch := 1)) (apply rowG_f; · finish (splits := 3) (ematch := 1)) (apply rowG_sBN) (apply rowG_sB) (intro~ hr) (tactic => exact hq))
theorem clone_len {m : Nat} (h : m ≤ 1000000) : m * 64 ≤ 140737488355328 ∧ m ≤ 9223372036854775807 := by omega
theorem clone1_use {k s a len cap : Nat} {W : List TFrag} {H : Hp} {n : Nat} {Q : AV → Hp → Nat → Prop} (h0 : elemsE (hget k H) 0 [] s len 11 = some (W.map eFrag)) (hl : W.length ≤ 1000000) (hk : (k = n) = False) (hn : cap ≠ 0 ∨ s ≠ 0) (hq : ∀ c, Imp (W.length ≤ c) (Q (.slc (n + 1) 0 [] 11 0 0 W.length c) ((n + 1, .vec c 11 (W.map eFrag)) :: H) (n + 2))) : callA Try.prog 70 [.slc k 0 [] 11 a s len cap] H n Q := by
  sym =>
    repeat (first (apply enter70) (apply imp_go; intro hp) (apply valK_w64; · finish (splits := 3) (ematch := 1)) (apply valK_wu8; · finish (splits := 3) (ematch := 1)) (apply valK_wu64; · finish (splits := 3) (ematch := 1)) (apply valK_w32; · finish (splits := 3) (ematch := 1)) (apply valK_wu16; · finish (splits := 3) (ematch := 1)) (apply valK_wu32; · finish (splits := 3) (ematch := 1)) (apply valK_wr) (apply valK_andR) (apply valK_quo; · finish (splits := 3) (ematch := 1)) (apply valK_quoR; · finish (splits := 3) (ematch := 1)) (apply valK_rem; · finish (splits := 3) (ematch := 1)) (apply valK_remR; · finish (splits := 3) (ematch := 1)) (apply valK_bol; · finish (splits := 3) (ematch := 1)) (apply effK_bol; · finish (splits := 3) (ematch := 1)) (apply newK_bol; · finish (splits := 3) (ematch := 1)) (apply appK_bol; · finish (splits := 3) (ematch := 1)) (apply topO_bol; · finish (splits := 3) (ematch := 1)) (apply valK_altY; · finish (splits := 3) (ematch := 1)) (apply valK_altN; · finish (splits := 3) (ematch := 1)) (apply effK_altY; · finish (splits := 3) (ematch := 1)) (apply effK_altN; · finish (splits := 3) (ematch := 1)) (apply valK_altNY; · finish (splits := 3) (ematch := 1)) (apply valK_altNN; · finish (splits := 3) (ematch := 1)) (apply valK_altS) (apply valK_altNS) (apply effK_altS) (apply appS_go) (apply brC_y; · finish (splits := 3) (ematch := 1)) (apply brC_n; · finish (splits := 3) (ematch := 1)) (apply brC_yN; · finish (splits := 3) (ematch := 1)) (apply brC_nN; · finish (splits := 3) (ematch := 1)) (apply brC_s) (apply brC_sN) (apply wantK_y; · finish (splits := 3) (ematch := 1)) (apply wantK_n; · finish (splits := 3) (ematch := 1)) (apply wantK_yN; · finish (splits := 3) (ematch := 1)) (apply wantK_nN; · finish (splits := 3) (ematch := 1)) (apply wantK_s) (apply wantK_sN) (apply rowG_y; · finish (splits := 3) (ematch := 1)) (apply rowG_n; · finish (splits := 3) (ematch := 1)) (apply rowG_yN; · finish (splits := 3) (ematch := 1)) (apply rowG_nN; · finish (splits := 3) (ematch := 1)) (apply rowG_s) (apply rowG_sN) (simp [h0, hk, e17Op_eq, e19Op_eq, eAbuffertile_eq, eColour_eq, eKey_eq, cx70_P, cx70_l0, cx70_l1, cx70_l2, cx70_l3, cx70_pu, Try.f70.eq_1, ty_arrOf_58, ty_bytesE_58, ty_lay_58, ty_notInt_58, ty_slcOf_58, ty_zeroA_58, ty_zeroE_58, valK_some, newK_some, opE_move, opE_assign, opE_load, opE_bin, opE_un, opE_buildSlice, appK_some, opE_append_r, ev_seq, ev_skip, ev_label, ev_region, ev_cond, condC_some, brC_true, brC_false, ev_block, ev_scope, ev_exit, ev_ret, nx_seq, nx_seqE, nx_seqR, nx_blk, nx_blkE, nx_blkR, nx_top, nx_topR, topO_some, evR_nil, evR_op, evR_guard, finK_reg, finN_reg, nid_reg, getT_cons, putT_some, putT_none, trimT_some, trimT_none, keepT_nil, keepT_cons, consT_some, consT_none, getT_nil, getO_tmp, getO_const, getO_func, ofC_int, ofC_bool, ofC_ptr, ofC_slc, ofC_map, ofC_fn, getOs_nil, getOs_cons, consO_some, hget_cons, hdel_cons, dropO_some, dropO_none, wrap_lit, wrap_neg, cast_lit, toNat_lit, get_zero, get_succ, take_zero, take_succ, set_zero, set_succ, length_nil, length_cons, append_nil, nil_append, cons_append, toList_arr, rep_zero, rep_succ, bnot_true, bnot_false, band_true, band_false, beq_tt, beq_ff, beq_tf, beq_ft, beq_nat, beq_int, bne_nat, map_some, map_none, true_eq_false, false_eq_true, true_eq_true, fbody_mk, fresults_mk, getD_some, bol_true, binO_some, bin_eql, bin_beql, bin_bneq, eqO_eq, eqO_ne, bin_aeql, bin_aneq, bin_reql, bin_rneq, aggEq_some, flatL_nil, flatL_cons, appV_some, flatV_int, flatV_bool, flatV_agg, flatV_rows, bin_feql, bin_fneq, bin_nfeql, bin_nfneq, bin_peql, bin_pneq, bin_npeql, bin_npneq, size_int, size_bool, size_str, size_ptr, size_nilp, size_slc, size_nils, size_map, size_nilm, size_fn, size_nilf, size_agg, size_rows, sizeL_nil, sizeL_cons, layOK_int, layOK_bool, layOK_str, layOK_ptr, layOK_nilp, layOK_slc, layOK_nils, layOK_map, layOK_nilm, layOK_fn, layOK_nilf, layOK_agg, layOK_rows, isTup_int, isTup_bool, isTup_str, isTup_ptr, isTup_nilp, isTup_slc, isTup_nils, isTup_map, isTup_nilm, isTup_fn, isTup_nilf, isTup_agg, isTup_rows, getP_nil, getP_cons, getS_some, stepP_agg, stepP_rows, loadO_some, loadA_ptr, loadE_cel, loadE_vec, loadE_ro, chkL_some, partsO_nil, partsO_cons, setA_agg, setA_rows, setC_some, setD_some, fillQ_nil, fillQ_cons, fillM_some, fitZ_some, bs_some, bsO_some, slN_some, appO_some, apO_some, own_nils, own_slc, more_nils, more_slc, resF_eq, resAll_nil, resAll_cons, resOne_tmp, resOne_cell, tupO_none, tupO_one, tupO_more, argT_nil, argT_cons, lookL_cons, lookL_nil, lookP_cons, wrapO_lit, wrapO_neg, mowO_vec, not_tf, not_ft, and_tf, alt_true, alt_false, bol_false, getS_bol, getS_alt, chkL_bol, chkL_alt, consO_bol, consO_bol2, tupO_bol, apO_bol, apO_bol2, fillM_bol, eqO_bol, bol_bol, get_mapB, get_setB, get_appB, len_map, len_app, nat_zero_add, take_map, take_self, drop_zero, elemsE_vec, elemsE_ro, elemsE_cel, elemsC_rows, elemsC_bol, bin_nsleql, bin_nslneq, bin_nnleql, bin_nnlneq, slN_bol, beq_str, roomOk_eq, roomB_some, appK_none, appG_some, hideH_nil, and_self, and_true, true_and, and_false, false_and]) (apply valK_bolB; · finish (splits := 3) (ematch := 1)) (apply valK_altT; · finish (splits := 3) (ematch := 1)) (apply valK_altF; · finish (splits := 3) (ematch := 1)) (apply valK_altB) (apply brC_t; · finish (splits := 3) (ematch := 1)) (apply brC_f; · finish (splits := 3) (ematch := 1)) (apply brC_sBN) (apply brC_sB) (apply wantK_t; · finish (splits := 3) (ematch := 1)) (apply wantK_f; · finish (splits := 3) (ematch := 1)) (apply wantK_sBN) (apply wantK_sB) (apply rowG_t; · finish (splits := 3) (ematch := 1)) (apply rowG_f; · finish (splits := 3) (ematch := 1)) (apply rowG_sBN) (apply rowG_sB) (intro~ hr) (tactic => first | exact hq _ hp | exact clone_len hl))
theorem elems_0 {e : Option Ent} {s : Nat} {W : List TFrag} (h : elemsE e 0 [] s 0 11 = some (W.map eFrag)) : W = [] ∧ ∀ s', elemsE e 0 [] s' 0 11 = some ([].map eFrag) := by
  unfold elemsE elemsC at h
  split at h
  · rename_i sz l he
    split at h
    · rename_i hsz
      split at h
      · cases W with
        | nil => exact ⟨rfl, fun s' => by unfold elemsE elemsC; rw [he]; simp [hsz]⟩
        | cons x r => simp at h
      · cases h
    · cases h
  · cases h
/-- **slices.Clone** of bytes. -/
theorem clone_use {k s a len cap : Nat} {W : List TFrag} {H : Hp} {n : Nat} {Q : AV → Hp → Nat → Prop} (h0 : elemsE (hget k H) 0 [] s len 11 = some (W.map eFrag)) (hl : W.length ≤ 1000000) (hk : (k = n) = False) (hn : len ≤ cap ∧ (cap = 0 → s = 0 → a = 0)) (hq : ∀ c, Imp (W.length ≤ c) (Q (.slc (n + 1) 0 [] 11 0 0 W.length c) ((n + 1, .vec c 11 (W.map eFrag)) :: H) (n + 2))) : callA Try.prog 70 [.slc k 0 [] 11 a s len cap] H n Q := by
  by_cases h : cap ≠ 0 ∨ s ≠ 0
  · exact clone1_use h0 hl hk h hq
  · have hc : cap = 0 := by omega
    have hs : s = 0 := by omega
    have hlen : len = 0 := by omega
    have ha := hn.2 hc hs
    subst hc hs hlen
    obtain ⟨rfl, h2⟩ := elems_0 h0
    refine callA_split (cloneN_use (hq 0 (Nat.le_refl 0))) (clone1_use (W := []) (h2 1) (Nat.zero_le _) hk (by omega) hq) a ha
noncomputable def cx54 : Cx := ⟨Try.prog, [], [], [(0, [0]), (1, [2])]⟩
theorem cx54_P : cx54.P = Try.prog := rfl
theorem cx54_l0 : lookL 0 cx54.lv = some [0] := rfl
theorem cx54_l1 : lookL 1 cx54.lv = some [2] := rfl
theorem cx54_pu : cx54.pu = [] := rfl
theorem cx54_ok : okc cx54 Try.f54.ntmps (Try.f54.body.getD .skip) = true := by kernel_rfl
theorem enter54 {args : List AV} {H : Hp} {n : Nat} {Q : AV → Hp → Nat → Prop} (h : args.length ≤ 6 ∧ Ev cx54 ⟨6, n, none, 54⟩ (Try.f54.body.getD .skip) ⟨argT 0 args, H, n⟩ (.top Try.f54.results.toList Q)) : callA Try.prog 54 args H n Q :=
  callA_ev (cx := cx54) puOk_nil (f := 54) (fn := Try.f54) Try.func54 rfl (by kernel_rfl) h.1 cx54_ok h.2
theorem knew_walk {g : FuncId} {Q : AV → Hp → Nat → Prop} (hq : Q (.ptr 0 0 []) [(1, .vec 0 11 []), (0, .cel (.agg [.fn (.func g) [] [], .slc 1 0 [] 11 0 0 0 0]))] 2) : callA Try.prog 54 [.fn (.func g) [] []] [] 0 Q := by
  refine callA_nil 0 11 [.fld 1 1] ?_
  sym =>
    repeat (first (apply enter54) (apply imp_go; intro hp) (apply valK_w64; · finish (splits := 3) (ematch := 1)) (apply valK_wu8; · finish (splits := 3) (ematch := 1)) (apply valK_wu64; · finish (splits := 3) (ematch := 1)) (apply valK_w32; · finish (splits := 3) (ematch := 1)) (apply valK_wu16; · finish (splits := 3) (ematch := 1)) (apply valK_wu32; · finish (splits := 3) (ematch := 1)) (apply valK_wr) (apply valK_andR) (apply valK_quo; · finish (splits := 3) (ematch := 1)) (apply valK_quoR; · finish (splits := 3) (ematch := 1)) (apply valK_rem; · finish (splits := 3) (ematch := 1)) (apply valK_remR; · finish (splits := 3) (ematch := 1)) (apply valK_bol; · finish (splits := 3) (ematch := 1)) (apply effK_bol; · finish (splits := 3) (ematch := 1)) (apply newK_bol; · finish (splits := 3) (ematch := 1)) (apply appK_bol; · finish (splits := 3) (ematch := 1)) (apply topO_bol; · finish (splits := 3) (ematch := 1)) (apply valK_altY; · finish (splits := 3) (ematch := 1)) (apply valK_altN; · finish (splits := 3) (ematch := 1)) (apply effK_altY; · finish (splits := 3) (ematch := 1)) (apply effK_altN; · finish (splits := 3) (ematch := 1)) (apply valK_altNY; · finish (splits := 3) (ematch := 1)) (apply valK_altNN; · finish (splits := 3) (ematch := 1)) (apply valK_altS) (apply valK_altNS) (apply effK_altS) (apply appS_go) (apply brC_y; · finish (splits := 3) (ematch := 1)) (apply brC_n; · finish (splits := 3) (ematch := 1)) (apply brC_yN; · finish (splits := 3) (ematch := 1)) (apply brC_nN; · finish (splits := 3) (ematch := 1)) (apply brC_s) (apply brC_sN) (apply wantK_y; · finish (splits := 3) (ematch := 1)) (apply wantK_n; · finish (splits := 3) (ematch := 1)) (apply wantK_yN; · finish (splits := 3) (ematch := 1)) (apply wantK_nN; · finish (splits := 3) (ematch := 1)) (apply wantK_s) (apply wantK_sN) (apply rowG_y; · finish (splits := 3) (ematch := 1)) (apply rowG_n; · finish (splits := 3) (ematch := 1)) (apply rowG_yN; · finish (splits := 3) (ematch := 1)) (apply rowG_nN; · finish (splits := 3) (ematch := 1)) (apply rowG_s) (apply rowG_sN) (simp [e17Op_eq, e19Op_eq, eAbuffertile_eq, eColour_eq, eFrag_eq, eKey_eq, cx54_P, cx54_l0, cx54_l1, cx54_pu, Try.f54.eq_1, ty_fldOf_127_0, ty_fldOf_127_1, ty_placesOf_127, ty_zeroA_127, valK_some, newK_some, opE_move, opE_assign, opE_build, opE_load, opE_bin, opE_un, opE_alloc, opE_box, ev_seq, ev_skip, ev_label, ev_region, ev_cond, condC_some, brC_true, brC_false, ev_block, ev_scope, ev_exit, ev_ret, nx_seq, nx_seqE, nx_seqR, nx_blk, nx_blkE, nx_blkR, nx_top, nx_topR, topO_some, evR_nil, evR_op, evR_guard, finK_reg, finN_reg, nid_reg, getT_cons, putT_some, putT_none, trimT_some, trimT_none, keepT_nil, keepT_cons, consT_some, consT_none, getT_nil, getO_tmp, getO_const, getO_func, ofC_int, ofC_bool, ofC_ptr, ofC_slc, ofC_map, ofC_fn, getOs_nil, getOs_cons, consO_some, hget_cons, wrap_lit, wrap_neg, cast_lit, toNat_lit, get_zero, get_succ, take_zero, take_succ, set_zero, set_succ, length_nil, length_cons, append_nil, nil_append, cons_append, toList_arr, bnot_true, bnot_false, band_true, band_false, beq_tt, beq_ff, beq_tf, beq_ft, beq_nat, beq_int, bne_nat, map_some, map_none, true_eq_false, false_eq_true, true_eq_true, fbody_mk, fresults_mk, getD_some, bol_true, binO_some, size_int, size_bool, size_str, size_ptr, size_nilp, size_slc, size_nils, size_map, size_nilm, size_fn, size_nilf, size_agg, size_rows, sizeL_nil, sizeL_cons, layOK_int, layOK_bool, layOK_str, layOK_ptr, layOK_nilp, layOK_slc, layOK_nils, layOK_map, layOK_nilm, layOK_fn, layOK_nilf, layOK_agg, layOK_rows, isTup_int, isTup_bool, isTup_str, isTup_ptr, isTup_nilp, isTup_slc, isTup_nils, isTup_map, isTup_nilm, isTup_fn, isTup_nilf, isTup_agg, isTup_rows, getP_nil, getP_cons, getS_some, stepP_agg, stepP_rows, loadO_some, loadA_ptr, loadE_cel, loadE_vec, loadE_ro, chkL_some, newA_some, partsO_nil, partsO_cons, buildA_some, fillP_nil, fillP_cons, fillN_some, setA_agg, setA_rows, setC_some, setD_some, resF_eq, resAll_nil, resAll_cons, resOne_tmp, resOne_cell, tupO_none, tupO_one, tupO_more, argT_nil, argT_cons, lookL_cons, lookL_nil, lookP_cons, wrapO_lit, wrapO_neg, not_tf, not_ft, and_tf, alt_true, alt_false, bol_false, getS_bol, getS_alt, chkL_bol, chkL_alt, consO_bol, consO_bol2, tupO_bol, fillN_bol, bol_bol, get_mapB, get_setB, get_appB, len_map, nat_zero_add, hideH_nil, and_self, and_true, true_and, and_false, false_and]) (apply valK_bolB; · finish (splits := 3) (ematch := 1)) (apply valK_altT; · finish (splits := 3) (ematch := 1)) (apply valK_altF; · finish (splits := 3) (ematch := 1)) (apply valK_altB) (apply brC_t; · finish (splits := 3) (ematch := 1)) (apply brC_f; · finish (splits := 3) (ematch := 1)) (apply brC_sBN) (apply brC_sB) (apply wantK_t; · finish (splits := 3) (ematch := 1)) (apply wantK_f; · finish (splits := 3) (ematch := 1)) (apply wantK_sBN) (apply wantK_sB) (apply rowG_t; · finish (splits := 3) (ematch := 1)) (apply rowG_f; · finish (splits := 3) (ematch := 1)) (apply rowG_sBN) (apply rowG_sB) (intro~ hr) (tactic => first | exact ⟨_, _, rfl, rfl, rfl, hq⟩ | (trace_state; exact test_fail)))
theorem knew_use {g : FuncId} {H : Hp} {n : Nat} {Q : AV → Hp → Nat → Prop} (hq : Q (.ptr n 0 []) ((n + 1, .vec 0 11 []) :: (n, .cel (.agg [.fn (.func g) [] [], .slc (n + 1) 0 [] 11 0 0 0 0])) :: H) (n + 2)) : callA Try.prog 54 [.fn (.func g) [] []] H n Q := by
  refine callA_use (H0 := []) (m := 0) (knew_walk (g := g) (Q := fun v H1 n1 => v = .ptr 0 0 [] ∧ H1 = [(1, .vec 0 11 []), (0, .cel (.agg [.fn (.func g) [] [], .slc 1 0 [] 11 0 0 0 0]))] ∧ n1 = 2) ⟨rfl, rfl, rfl⟩) [] rfl (by simp) rfl (by simp [keysB]) (by rfl) trivial ?_
  rintro v H1 m1 hm1 ⟨rfl, rfl, rfl⟩
  simpa [idx, AV.ren, renL, renH, Ent.ren, hideH_nil, keysB] using hq
noncomputable def cx58 : Cx := ⟨Try.prog, [], [], [(0, [1]), (1, [2])]⟩
theorem cx58_P : cx58.P = Try.prog := rfl
theorem cx58_l0 : lookL 0 cx58.lv = some [1] := rfl
theorem cx58_l1 : lookL 1 cx58.lv = some [2] := rfl
theorem cx58_pu : cx58.pu = [] := rfl
theorem cx58_ok : okc cx58 Try.f58.ntmps (Try.f58.body.getD .skip) = true := by kernel_rfl
theorem enter58 {args : List AV} {H : Hp} {n : Nat} {Q : AV → Hp → Nat → Prop} (h : args.length ≤ 4 ∧ Ev cx58 ⟨4, n, none, 58⟩ (Try.f58.body.getD .skip) ⟨argT 0 args, H, n⟩ (.top Try.f58.results.toList Q)) : callA Try.prog 58 args H n Q :=
  callA_ev (cx := cx58) puOk_nil (f := 58) (fn := Try.f58) Try.func58 rfl (by kernel_rfl) h.1 cx58_ok h.2
noncomputable def cx69 : Cx := ⟨Try.prog, [], [], [(0, [11, 10, 9, 0]), (1, [12, 11, 10, 9, 0]), (2, [11, 10, 9, 4, 0]), (3, [18, 11, 10, 9, 0]), (4, [11, 10, 9, 0])]⟩
theorem cx69_P : cx69.P = Try.prog := rfl
theorem cx69_l0 : lookL 0 cx69.lv = some [11, 10, 9, 0] := rfl
theorem cx69_l1 : lookL 1 cx69.lv = some [12, 11, 10, 9, 0] := rfl
theorem cx69_l2 : lookL 2 cx69.lv = some [11, 10, 9, 4, 0] := rfl
theorem cx69_l3 : lookL 3 cx69.lv = some [18, 11, 10, 9, 0] := rfl
theorem cx69_l4 : lookL 4 cx69.lv = some [11, 10, 9, 0] := rfl
theorem cx69_pu : cx69.pu = [] := rfl
theorem cx69_ok : okc cx69 Try.f69.ntmps (Try.f69.body.getD .skip) = true := by kernel_rfl
theorem enter69 {args : List AV} {H : Hp} {n : Nat} {Q : AV → Hp → Nat → Prop} (h : args.length ≤ 20 ∧ Ev cx69 ⟨20, n, none, 69⟩ (Try.f69.body.getD .skip) ⟨argT 0 args, H, n⟩ (.top Try.f69.results.toList Q)) : callA Try.prog 69 args H n Q :=
  callA_ev (cx := cx69) puOk_nil (f := 69) (fn := Try.f69) Try.func69 rfl (by kernel_rfl) h.1 cx69_ok h.2
theorem clonef_use {k cap cap' : Nat} {L : List TFrag} {H : Hp} {n : Nat} {Q : AV → Hp → Nat → Prop} (h0 : hget k H = some (.vec cap' 11 (L.map eFrag))) (hl : L.length ≤ cap ∧ L.length ≤ 100000) (hk : (k = n) = False) (hq : ∀ c, Imp (L.length ≤ c) (Q (.slc (n + 1) 0 [] 11 0 0 L.length c) ((n + 1, .vec c 11 (L.map eFrag)) :: H) (n + 2))) : callA Try.prog 70 [.slc k 0 [] 11 0 0 L.length cap] H n Q := by
  refine clone_use ?_ (by omega) hk ⟨hl.1, fun _ _ => rfl⟩ hq
  rw [h0, elemsE_vec, if_pos rfl, if_pos (.inl (by rw [List.length_map]; omega)), bol_true, List.drop_zero, List.take_of_length_le (by rw [List.length_map]; exact Nat.le_refl _)]
def rOf {a c : Nat} (h : a ≤ c) : Nat := c
-- Chapters 16 and 19, plain laws: the order of keys; things that are put in.
/-- One of -1, 0, 1, and an order. -/
structure IsOrd {T : Type} (f : T → T → Int) : Prop where
  rng : ∀ a b, f a b = -1 ∨ f a b = 0 ∨ f a b = 1
  anti : ∀ a b, f b a = - f a b
  eqL : ∀ a b c, f a b = 0 → f a c = f b c
  tr : ∀ a b c, f a b < 0 → f b c < 0 → f a c < 0
theorem cmp1_ord : IsOrd cmp1 where
  rng a b := by
    unfold cmp1; split
    · omega
    · split <;> omega
  anti a b := by unfold cmp1; split <;> split <;> (try split) <;> omega
  eqL a b c h := by
    have e : a = b := by
      unfold cmp1 at h
      split at h
      · cases h
      · split at h
        · cases h
        · omega
    rw [e]
  tr a b c h1 h2 := by
    have e1 : a < b := by
      unfold cmp1 at h1
      split at h1
      · assumption
      · split at h1 <;> omega
    have e2 : b < c := by
      unfold cmp1 at h2
      split at h2
      · assumption
      · split at h2 <;> omega
    unfold cmp1; rw [if_pos (by omega)]; decide
theorem ord_on {T U : Type} {f : U → U → Int} (h : IsOrd f) (g : T → U) : IsOrd fun a b => f (g a) (g b) :=
  ⟨fun a b => h.rng _ _, fun a b => h.anti _ _, fun a b c => h.eqL _ _ _, fun a b c => h.tr _ _ _⟩
def lex2 {T : Type} (f g : T → T → Int) (a b : T) : Int := if ¬ f a b = 0 then f a b else g a b
theorem eqR {T : Type} {f : T → T → Int} (h : IsOrd f) {a b c : T} (e : f b c = 0) : f a c = f a b := by
  have := h.eqL b c a e
  have := h.anti a b
  have := h.anti a c
  omega
theorem lex_ord {T : Type} {f g : T → T → Int} (hf : IsOrd f) (hg : IsOrd g) : IsOrd (lex2 f g) where
  rng a b := by unfold lex2; split; exact hf.rng a b; exact hg.rng a b
  anti a b := by
    have := hf.anti a b
    have := hg.anti a b
    unfold lex2; split <;> split <;> omega
  eqL a b c h := by
    unfold lex2 at h
    split at h
    · contradiction
    · rename_i h0
      have e0 : f a b = 0 := by omega
      unfold lex2
      rw [hf.eqL a b c e0, hg.eqL a b c h]
  tr a b c h1 h2 := by
    unfold lex2 at h1 h2 ⊢
    by_cases e1 : f a b = 0
    · rw [if_neg (by simpa using e1)] at h1
      have e3 := hf.eqL a b c e1
      by_cases e2 : f b c = 0
      · rw [if_neg (by simpa using e2)] at h2
        rw [if_neg (by omega)]
        exact hg.tr a b c h1 h2
      · rw [if_pos e2] at h2
        rw [if_pos (by omega)]; omega
    · rw [if_pos e1] at h1
      by_cases e2 : f b c = 0
      · have := eqR hf (a := a) e2
        rw [if_pos (by omega)]; omega
      · rw [if_pos e2] at h2
        have := hf.tr a b c h1 h2
        rw [if_pos (by omega)]; exact this
theorem cmpK_lex (a b : TKey) : cmpK a b = lex2 (fun a b => cmp1 a.z b.z) (lex2 (fun a b => cmp1 a.draw b.draw) (lex2 (fun a b => cmp1 a.tri b.tri) (fun a b => cmp1 a.part b.part))) a b := by
  unfold cmpK lex2
  by_cases h : cmp1 a.part b.part = 0 <;> simp [h]
theorem cmpK_ord : IsOrd cmpK := by
  have e : cmpK = lex2 (fun a b => cmp1 a.z b.z) (lex2 (fun a b => cmp1 a.draw b.draw) (lex2 (fun a b => cmp1 a.tri b.tri) (fun a b => cmp1 a.part b.part))) := by
    funext a b; exact cmpK_lex a b
  rw [e]
  exact lex_ord (ord_on cmp1_ord _) (lex_ord (ord_on cmp1_ord _) (lex_ord (ord_on cmp1_ord _) (ord_on cmp1_ord _)))
theorem cmp1_zero {a b : Int} (h : cmp1 a b = 0) : a = b := by
  unfold cmp1 at h
  split at h
  · cases h
  · split at h
    · cases h
    · omega
theorem cmp1_refl (a : Int) : cmp1 a a = 0 := by unfold cmp1; simp
theorem cmpK_zero {a b : TKey} (h : cmpK a b = 0) : a = b := by
  unfold cmpK at h
  split at h
  · contradiction
  · split at h
    · contradiction
    · split at h
      · contradiction
      · split at h
        · contradiction
        · rename_i h1 h2 h3 h4
          have e1 := cmp1_zero (Decidable.not_not.1 h1)
          have e2 := cmp1_zero (Decidable.not_not.1 h2)
          have e3 := cmp1_zero (Decidable.not_not.1 h3)
          have e4 := cmp1_zero (Decidable.not_not.1 h4)
          cases a; cases b
          simp_all
theorem cmpK_refl (a : TKey) : cmpK a a = 0 := by unfold cmpK; simp [cmp1_refl]
theorem cmpK_z {a b : TKey} (h : ¬ a.z = b.z) : cmpK a b = cmp1 a.z b.z := by
  unfold cmpK; rw [if_pos (fun e => h (cmp1_zero e))]
/-- The farthest first. -/
def sortedK : List TFrag → Prop
  | [] => True
  | y :: l => (∀ z, z ∈ l → ¬ cmpK y.key z.key < 0) ∧ sortedK l
/-- The document's way to put one in. -/
def rput : List TFrag → TFrag → List TFrag
  | [], x => [x]
  | y :: l, x => if cmpK y.key x.key < 0 then x :: y :: l else y :: rput l x
theorem rput_mem {x z : TFrag} : ∀ {l : List TFrag}, z ∈ rput l x ↔ z = x ∨ z ∈ l
  | [] => by simp [rput]
  | y :: l => by
    unfold rput
    split
    · simp
    · rw [List.mem_cons, rput_mem, List.mem_cons]; constructor <;> (intro h; rcases h with h | h | h <;> simp [h])
theorem sorted_rput {x : TFrag} : ∀ {l : List TFrag}, sortedK l → sortedK (rput l x)
  | [], _ => ⟨fun z hz => by simp at hz, trivial⟩
  | y :: l, h => by
    unfold rput
    split
    · rename_i hp
      refine ⟨fun z hz => ?_, h⟩
      have h1 := cmpK_ord.anti y.key x.key
      rcases List.mem_cons.1 hz with rfl | hz
      · omega
      · intro hc
        have h2 := cmpK_ord.tr _ _ _ hp hc
        exact h.1 z hz h2
    · rename_i hp
      refine ⟨fun z hz => ?_, sorted_rput h.2⟩
      rcases rput_mem.1 hz with rfl | hz
      · exact hp
      · exact h.1 z hz
/-- Behind the first one that is nearer all are. -/
theorem scan_all {L : List TFrag} {k : TKey} : ∀ n, (∀ i, i < n → ¬ cmpK (L.getD i default).key k < 0) → scan L k n = n
  | 0, _ => rfl
  | n + 1, h => by
    show (if _ then _ else _) = _
    rw [if_neg (h n (Nat.lt_succ_self n))]
theorem scan_to {L : List TFrag} {k : TKey} {m : Nat} : ∀ n, m ≤ n → (∀ i, m ≤ i → i < n → cmpK (L.getD i default).key k < 0) → scan L k n = scan L k m
  | 0, h, _ => by rw [Nat.le_zero.1 h]
  | n + 1, h, hp => by
    by_cases e : m = n + 1
    · rw [e]
    · show (if _ then _ else _) = _
      rw [if_pos (hp n (by omega) (Nat.lt_succ_self n)), scan_to n (by omega) (fun i h1 h2 => hp i h1 (by omega))]
theorem scan_cons {y : TFrag} {L : List TFrag} {k : TKey} (h : ¬ cmpK y.key k < 0) : ∀ n, scan (y :: L) k (n + 1) = scan L k n + 1
  | 0 => by
    show (if cmpK y.key k < 0 then _ else _) = _
    rw [if_neg h]; rfl
  | n + 1 => by
    show (if cmpK (L.getD n default).key k < 0 then scan (y :: L) k (n + 1) else n + 1 + 1) = (if cmpK (L.getD n default).key k < 0 then scan L k n else n + 1) + 1
    split
    · exact scan_cons h n
    · rfl
theorem putK_rput {x : TFrag} : ∀ {L : List TFrag}, sortedK L → putK L x = rput L x
  | [], _ => rfl
  | y :: l, h => by
    unfold rput
    by_cases hp : cmpK y.key x.key < 0
    · rw [if_pos hp]
      have : scan (y :: l) x.key (y :: l).length = 0 := by
        refine scan_to _ (Nat.zero_le _) (fun i _ hi => ?_)
        cases i with
        | zero => exact hp
        | succ i =>
          have hi : i < l.length := by simpa using hi
          show cmpK (l.getD i default).key x.key < 0
          have hm : l.getD i default ∈ l := by
            rw [List.getD_eq_getElem?_getD, List.getElem?_eq_getElem hi]; exact List.getElem_mem hi
          have h1 := h.1 _ hm
          have h2 := cmpK_ord.rng y.key (l.getD i default).key
          have h3 := cmpK_ord.anti y.key (l.getD i default).key
          by_cases h4 : cmpK y.key (l.getD i default).key = 0
          · have := cmpK_ord.eqL _ _ x.key h4
            omega
          · exact cmpK_ord.tr _ _ _ (by omega : cmpK (l.getD i default).key y.key < 0) hp
      unfold putK
      rw [this]; rfl
    · rw [if_neg hp, ← putK_rput h.2]
      unfold putK
      rw [List.length_cons, scan_cons hp]
      unfold insA
      rw [List.take_succ_cons, List.drop_succ_cons]; rfl
/-- Things, put in one by one. -/
def farK (l : List TFrag) : List TFrag := l.foldl putK []
theorem putK_len (L : List TFrag) (x : TFrag) : (putK L x).length = L.length + 1 := by
  have : ∀ n, scan L x.key n ≤ n := by
    intro n
    induction n with
    | zero => exact Nat.le_refl _
    | succ n ih =>
      show (if _ then _ else _) ≤ _
      split
      · omega
      · exact Nat.le_refl _
  have h := this L.length
  unfold putK insA
  rw [List.length_append, List.length_take, List.length_cons, List.length_drop]; omega
theorem farK_snoc (l : List TFrag) (x : TFrag) : farK (l ++ [x]) = putK (farK l) x := by unfold farK; rw [List.foldl_append]; rfl
theorem fold_sorted : ∀ (l A : List TFrag), sortedK A → sortedK (l.foldl putK A) ∧ (l.foldl putK A).length = A.length + l.length
  | [], A, h => ⟨h, rfl⟩
  | x :: l, A, h => by
    have h1 := fold_sorted l (putK A x) (by rw [putK_rput h]; exact sorted_rput h)
    rw [List.foldl_cons]
    refine ⟨h1.1, ?_⟩
    rw [h1.2, putK_len, List.length_cons]; omega
theorem farK_sorted (l : List TFrag) : sortedK (farK l) ∧ (farK l).length = l.length := by
  have := fold_sorted l [] trivial
  refine ⟨this.1, ?_⟩
  have h := this.2
  rw [List.length_nil, Nat.zero_add] at h
  exact h
theorem farK_len (l : List TFrag) : (farK l).length = l.length := (farK_sorted l).2
theorem farK_next {l : List TFrag} {i : Nat} (h : i < l.length) : farK (l.take (i + 1)) = putK (farK (l.take i)) (l.getD i default) := by
  rw [← farK_snoc, List.take_add_one, List.getD_eq_getElem?_getD, List.getElem?_eq_getElem h]; rfl
end Go.Proofs.Ytbkmhkeihbgcfaa
