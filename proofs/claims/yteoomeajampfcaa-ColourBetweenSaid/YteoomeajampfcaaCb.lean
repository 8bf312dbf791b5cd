/-
  Chapter 2: colours.
-/
import Derived.Test.YteoomeajampfcaaCa
set_option linter.unusedVariables false
set_option maxRecDepth 10000
namespace Go.Proofs.Yteoomeajampfcaa
open Go.Y

def col (r g b a : Int) : AV := .agg [.int .u8 r, .int .u8 g, .int .u8 b, .int .u8 a]
theorem col_eq (r g b a : Int) : col r g b a = .agg [.int .u8 r, .int .u8 g, .int .u8 b, .int .u8 a] := rfl
theorem wbyt {x : Int} (h : byt x) : IntKind.wrap .i64 x = x := by unfold byt at h; exact wrap64 (by omega)
theorem mul_byt {x y : Int} (h : byt x) (k : byt y) : 0 ≤ x * y ∧ x * y ≤ 65025 := by
  unfold byt at h k
  refine ⟨Int.mul_nonneg h.1 k.1, ?_⟩
  have h1 := Int.mul_le_mul_of_nonneg_right h.2 k.1
  have h2 := Int.mul_le_mul_of_nonneg_left k.2 (show (0 : Int) ≤ 255 by omega)
  omega
theorem byt_left {a : Int} (h : byt a) : byt (255 - a) := by unfold byt at *; omega

noncomputable def cx25 : Cx := ⟨Try.prog, [(26, s26), (37, s37)], [], [(0, [2, 0]), (1, [5])]⟩
theorem cx25_P : cx25.P = Try.prog := rfl
theorem cx25_l0 : lookL 0 cx25.lv = some [2, 0] := rfl
theorem cx25_l1 : lookL 1 cx25.lv = some [5] := rfl
theorem cx25_u26 : lookU 26 cx25.pu = some s26 := rfl
theorem cx25_u37 : lookU 37 cx25.pu = some s37 := rfl
theorem cx25_pu : cx25.pu = [(26, s26), (37, s37)] := rfl
theorem cx25_ok : okc cx25 Try.f25.ntmps (Try.f25.body.getD .skip) = true := by kernel_rfl
theorem cx25_puOk : PuOk cx25 := (puOk_cons s26_ok (puOk_cons s37_ok puOk_nil))
theorem enter25 {args : List AV} {H : Hp} {n : Nat} {Q : AV → Hp → Nat → Prop} (h : args.length ≤ 12 ∧ Ev cx25 ⟨12, n, none, 25⟩ (Try.f25.body.getD .skip) ⟨argT 0 args, H, n⟩ (.top Try.f25.results.toList Q)) : callA Try.prog 25 args H n Q :=
  callA_ev (cx := cx25) cx25_puOk (f := 25) (fn := Try.f25) Try.func25 rfl (by kernel_rfl) h.1 cx25_ok h.2
noncomputable def cx36 : Cx := ⟨Try.prog, [(26, s26), (37, s37)], [], [(0, [2, 1, 0]), (1, [5])]⟩
theorem cx36_P : cx36.P = Try.prog := rfl
theorem cx36_l0 : lookL 0 cx36.lv = some [2, 1, 0] := rfl
theorem cx36_l1 : lookL 1 cx36.lv = some [5] := rfl
theorem cx36_u26 : lookU 26 cx36.pu = some s26 := rfl
theorem cx36_u37 : lookU 37 cx36.pu = some s37 := rfl
theorem cx36_pu : cx36.pu = [(26, s26), (37, s37)] := rfl
theorem cx36_ok : okc cx36 Try.f36.ntmps (Try.f36.body.getD .skip) = true := by kernel_rfl
theorem cx36_puOk : PuOk cx36 := (puOk_cons s26_ok (puOk_cons s37_ok puOk_nil))
theorem enter36 {args : List AV} {H : Hp} {n : Nat} {Q : AV → Hp → Nat → Prop} (h : args.length ≤ 13 ∧ Ev cx36 ⟨13, n, none, 36⟩ (Try.f36.body.getD .skip) ⟨argT 0 args, H, n⟩ (.top Try.f36.results.toList Q)) : callA Try.prog 36 args H n Q :=
  callA_ev (cx := cx36) cx36_puOk (f := 36) (fn := Try.f36) Try.func36 rfl (by kernel_rfl) h.1 cx36_ok h.2
noncomputable def cx23 : Cx := ⟨Try.prog, [(26, s26), (37, s37)], [(2, ⟨0, [⟨0, false, [], [], [], 0⟩, ⟨1, false, [], [], [], 0⟩, ⟨2, false, [1], [], [], 0⟩, ⟨3, false, [], [], [], 0⟩, ⟨4, false, [3], [], [], 0⟩, ⟨6, false, [], [], [], 0⟩, ⟨7, false, [], [], [], 0⟩, ⟨8, false, [7], [], [], 0⟩, ⟨9, false, [], [], [], 0⟩, ⟨10, false, [9], [], [], 0⟩, ⟨12, false, [], [], [], 0⟩, ⟨13, false, [], [], [], 0⟩, ⟨14, false, [13], [], [], 0⟩, ⟨15, false, [], [], [], 0⟩, ⟨16, false, [15], [], [], 0⟩, ⟨18, false, [], [], [], 0⟩, ⟨19, false, [], [], [], 0⟩, ⟨20, false, [19], [], [], 0⟩, ⟨21, false, [], [], [], 0⟩, ⟨22, false, [21], [], [], 0⟩, ⟨5, true, [0, 2, 4], [8, 10, 14, 16, 20, 22], [], 0⟩, ⟨11, true, [2, 4, 5, 6, 8, 10], [14, 16, 20, 22], [], 0⟩, ⟨17, true, [2, 4, 5, 8, 10, 11, 12, 14, 16], [20, 22], [], 0⟩, ⟨23, true, [2, 4, 5, 8, 10, 11, 14, 16, 17, 18, 20, 22], [], [], 0⟩, ⟨24, false, [5, 11, 17, 23], [], [], 0⟩, ⟨25, true, [2, 4, 5, 8, 10, 11, 14, 16, 17, 20, 22, 23, 24], [], [], 0⟩]⟩)], [(0, [6, 5, 4, 3]), (1, [7, 6, 4, 3]), (2, [6])]⟩
theorem cx23_P : cx23.P = Try.prog := rfl
theorem cx23_l0 : lookL 0 cx23.lv = some [6, 5, 4, 3] := rfl
theorem cx23_l1 : lookL 1 cx23.lv = some [7, 6, 4, 3] := rfl
theorem cx23_l2 : lookL 2 cx23.lv = some [6] := rfl
theorem cx23_p2 : lookP 2 cx23.pl = some ⟨0, [⟨0, false, [], [], [], 0⟩, ⟨1, false, [], [], [], 0⟩, ⟨2, false, [1], [], [], 0⟩, ⟨3, false, [], [], [], 0⟩, ⟨4, false, [3], [], [], 0⟩, ⟨6, false, [], [], [], 0⟩, ⟨7, false, [], [], [], 0⟩, ⟨8, false, [7], [], [], 0⟩, ⟨9, false, [], [], [], 0⟩, ⟨10, false, [9], [], [], 0⟩, ⟨12, false, [], [], [], 0⟩, ⟨13, false, [], [], [], 0⟩, ⟨14, false, [13], [], [], 0⟩, ⟨15, false, [], [], [], 0⟩, ⟨16, false, [15], [], [], 0⟩, ⟨18, false, [], [], [], 0⟩, ⟨19, false, [], [], [], 0⟩, ⟨20, false, [19], [], [], 0⟩, ⟨21, false, [], [], [], 0⟩, ⟨22, false, [21], [], [], 0⟩, ⟨5, true, [0, 2, 4], [8, 10, 14, 16, 20, 22], [], 0⟩, ⟨11, true, [2, 4, 5, 6, 8, 10], [14, 16, 20, 22], [], 0⟩, ⟨17, true, [2, 4, 5, 8, 10, 11, 12, 14, 16], [20, 22], [], 0⟩, ⟨23, true, [2, 4, 5, 8, 10, 11, 14, 16, 17, 18, 20, 22], [], [], 0⟩, ⟨24, false, [5, 11, 17, 23], [], [], 0⟩, ⟨25, true, [2, 4, 5, 8, 10, 11, 14, 16, 17, 20, 22, 23, 24], [], [], 0⟩]⟩ := rfl
theorem cx23_u26 : lookU 26 cx23.pu = some s26 := rfl
theorem cx23_u37 : lookU 37 cx23.pu = some s37 := rfl
theorem cx23_pu : cx23.pu = [(26, s26), (37, s37)] := rfl
theorem cx23_ok : okc cx23 Try.f23.ntmps (Try.f23.body.getD .skip) = true := by kernel_rfl
theorem cx23_puOk : PuOk cx23 := (puOk_cons s26_ok (puOk_cons s37_ok puOk_nil))
theorem enter23 {args : List AV} {H : Hp} {n : Nat} {Q : AV → Hp → Nat → Prop} (h : args.length ≤ 34 ∧ Ev cx23 ⟨34, n, none, 23⟩ (Try.f23.body.getD .skip) ⟨argT 0 args, H, n⟩ (.top Try.f23.results.toList Q)) : callA Try.prog 23 args H n Q :=
  callA_ev (cx := cx23) cx23_puOk (f := 23) (fn := Try.f23) Try.func23 rfl (by kernel_rfl) h.1 cx23_ok h.2
noncomputable def cx11 : Cx := ⟨Try.prog, [(26, s26), (37, s37)], [], [(0, [2, 1]), (1, [3, 2, 1]), (2, [3, 2]), (3, [2])]⟩
theorem cx11_P : cx11.P = Try.prog := rfl
theorem cx11_l0 : lookL 0 cx11.lv = some [2, 1] := rfl
theorem cx11_l1 : lookL 1 cx11.lv = some [3, 2, 1] := rfl
theorem cx11_l2 : lookL 2 cx11.lv = some [3, 2] := rfl
theorem cx11_l3 : lookL 3 cx11.lv = some [2] := rfl
theorem cx11_u26 : lookU 26 cx11.pu = some s26 := rfl
theorem cx11_u37 : lookU 37 cx11.pu = some s37 := rfl
theorem cx11_pu : cx11.pu = [(26, s26), (37, s37)] := rfl
theorem cx11_ok : okc cx11 Try.f11.ntmps (Try.f11.body.getD .skip) = true := by kernel_rfl
theorem cx11_puOk : PuOk cx11 := (puOk_cons s26_ok (puOk_cons s37_ok puOk_nil))
theorem enter11 {args : List AV} {H : Hp} {n : Nat} {Q : AV → Hp → Nat → Prop} (h : args.length ≤ 12 ∧ Ev cx11 ⟨12, n, none, 11⟩ (Try.f11.body.getD .skip) ⟨argT 0 args, H, n⟩ (.top Try.f11.results.toList Q)) : callA Try.prog 11 args H n Q :=
  callA_ev (cx := cx11) cx11_puOk (f := 11) (fn := Try.f11) Try.func11 rfl (by kernel_rfl) h.1 cx11_ok h.2
noncomputable def cx27 : Cx := ⟨Try.prog, [(26, s26), (37, s37)], [], [(0, [2, 1, 0]), (1, [5])]⟩
theorem cx27_P : cx27.P = Try.prog := rfl
theorem cx27_l0 : lookL 0 cx27.lv = some [2, 1, 0] := rfl
theorem cx27_l1 : lookL 1 cx27.lv = some [5] := rfl
theorem cx27_u26 : lookU 26 cx27.pu = some s26 := rfl
theorem cx27_u37 : lookU 37 cx27.pu = some s37 := rfl
theorem cx27_pu : cx27.pu = [(26, s26), (37, s37)] := rfl
theorem cx27_ok : okc cx27 Try.f27.ntmps (Try.f27.body.getD .skip) = true := by kernel_rfl
theorem cx27_puOk : PuOk cx27 := (puOk_cons s26_ok (puOk_cons s37_ok puOk_nil))
theorem enter27 {args : List AV} {H : Hp} {n : Nat} {Q : AV → Hp → Nat → Prop} (h : args.length ≤ 12 ∧ Ev cx27 ⟨12, n, none, 27⟩ (Try.f27.body.getD .skip) ⟨argT 0 args, H, n⟩ (.top Try.f27.results.toList Q)) : callA Try.prog 27 args H n Q :=
  callA_ev (cx := cx27) cx27_puOk (f := 27) (fn := Try.f27) Try.func27 rfl (by kernel_rfl) h.1 cx27_ok h.2
noncomputable def cx14 : Cx := ⟨Try.prog, [(26, s26), (37, s37)], [], [(0, [4, 3, 2]), (1, [5, 4, 3, 2]), (2, [4])]⟩
theorem cx14_P : cx14.P = Try.prog := rfl
theorem cx14_l0 : lookL 0 cx14.lv = some [4, 3, 2] := rfl
theorem cx14_l1 : lookL 1 cx14.lv = some [5, 4, 3, 2] := rfl
theorem cx14_l2 : lookL 2 cx14.lv = some [4] := rfl
theorem cx14_u26 : lookU 26 cx14.pu = some s26 := rfl
theorem cx14_u37 : lookU 37 cx14.pu = some s37 := rfl
theorem cx14_pu : cx14.pu = [(26, s26), (37, s37)] := rfl
theorem cx14_ok : okc cx14 Try.f14.ntmps (Try.f14.body.getD .skip) = true := by kernel_rfl
theorem cx14_puOk : PuOk cx14 := (puOk_cons s26_ok (puOk_cons s37_ok puOk_nil))
theorem enter14 {args : List AV} {H : Hp} {n : Nat} {Q : AV → Hp → Nat → Prop} (h : args.length ≤ 14 ∧ Ev cx14 ⟨14, n, none, 14⟩ (Try.f14.body.getD .skip) ⟨argT 0 args, H, n⟩ (.top Try.f14.results.toList Q)) : callA Try.prog 14 args H n Q :=
  callA_ev (cx := cx14) cx14_puOk (f := 14) (fn := Try.f14) Try.func14 rfl (by kernel_rfl) h.1 cx14_ok h.2
noncomputable def cx24 : Cx := ⟨Try.prog, [(26, s26), (37, s37)], [], [(0, [2, 1, 0]), (1, [5])]⟩
theorem cx24_P : cx24.P = Try.prog := rfl
theorem cx24_l0 : lookL 0 cx24.lv = some [2, 1, 0] := rfl
theorem cx24_l1 : lookL 1 cx24.lv = some [5] := rfl
theorem cx24_u26 : lookU 26 cx24.pu = some s26 := rfl
theorem cx24_u37 : lookU 37 cx24.pu = some s37 := rfl
theorem cx24_pu : cx24.pu = [(26, s26), (37, s37)] := rfl
theorem cx24_ok : okc cx24 Try.f24.ntmps (Try.f24.body.getD .skip) = true := by kernel_rfl
theorem cx24_puOk : PuOk cx24 := (puOk_cons s26_ok (puOk_cons s37_ok puOk_nil))
theorem enter24 {args : List AV} {H : Hp} {n : Nat} {Q : AV → Hp → Nat → Prop} (h : args.length ≤ 16 ∧ Ev cx24 ⟨16, n, none, 24⟩ (Try.f24.body.getD .skip) ⟨argT 0 args, H, n⟩ (.top Try.f24.results.toList Q)) : callA Try.prog 24 args H n Q :=
  callA_ev (cx := cx24) cx24_puOk (f := 24) (fn := Try.f24) Try.func24 rfl (by kernel_rfl) h.1 cx24_ok h.2
noncomputable def cx10 : Cx := ⟨Try.prog, [(26, s26), (37, s37)], [], [(0, [6, 5, 4, 3]), (1, [6, 5, 4, 3]), (2, [6])]⟩
theorem cx10_P : cx10.P = Try.prog := rfl
theorem cx10_l0 : lookL 0 cx10.lv = some [6, 5, 4, 3] := rfl
theorem cx10_l1 : lookL 1 cx10.lv = some [6, 5, 4, 3] := rfl
theorem cx10_l2 : lookL 2 cx10.lv = some [6] := rfl
theorem cx10_u26 : lookU 26 cx10.pu = some s26 := rfl
theorem cx10_u37 : lookU 37 cx10.pu = some s37 := rfl
theorem cx10_pu : cx10.pu = [(26, s26), (37, s37)] := rfl
theorem cx10_ok : okc cx10 Try.f10.ntmps (Try.f10.body.getD .skip) = true := by kernel_rfl
theorem cx10_puOk : PuOk cx10 := (puOk_cons s26_ok (puOk_cons s37_ok puOk_nil))
theorem enter10 {args : List AV} {H : Hp} {n : Nat} {Q : AV → Hp → Nat → Prop} (h : args.length ≤ 14 ∧ Ev cx10 ⟨14, n, none, 10⟩ (Try.f10.body.getD .skip) ⟨argT 0 args, H, n⟩ (.top Try.f10.results.toList Q)) : callA Try.prog 10 args H n Q :=
  callA_ev (cx := cx10) cx10_puOk (f := 10) (fn := Try.f10) Try.func10 rfl (by kernel_rfl) h.1 cx10_ok h.2

def preP (x a : Int) : Int := sat (div255 (x * a))
theorem pre_walk (r g b a : Int) (h1 : IntKind.wrap .i64 r = r) (h2 : IntKind.wrap .i64 g = g) (h3 : IntKind.wrap .i64 b = b) (h4 : IntKind.wrap .i64 a = a)
    (k1 : IntKind.wrap .i64 (r * a) = r * a) (k2 : IntKind.wrap .i64 (g * a) = g * a) (k3 : IntKind.wrap .i64 (b * a) = b * a) :
    callA Try.prog 11 [col r g b a] [] 0 fun v' H' n' => v' = col (preP r a) (preP g a) (preP b a) a := by
  sym =>
    repeat (first (simp [h1, h2, h3, h4, k1, k2, k3, col_eq, s26_eq, s37_eq, cx11_P, cx11_l0, cx11_l1, cx11_l2, cx11_l3, cx11_u26, cx11_u37, cx11_pu, Try.f11.eq_1, ty_arrOf_23, ty_arrOf_44, ty_arrOf_5, ty_eqTy_23, ty_fldOf_23_0, ty_fldOf_23_1, ty_fldOf_23_2, ty_fldOf_23_3, ty_hasTy_5, ty_intOf_5, ty_lay_23, ty_lay_44, ty_lay_5, ty_notInt_23, ty_notInt_44, ty_placesOf_23, ty_slcOf_23, ty_slcOf_44, ty_slcOf_5, ty_zeroA_23, cx23_P, cx23_l0, cx23_l1, cx23_l2, cx23_p2, cx23_u26, cx23_u37, cx23_pu, Try.f23.eq_1, cx36_P, cx36_l0, cx36_l1, cx36_u26, cx36_u37, cx36_pu, Try.f36.eq_1, ty_arrOf_3, ty_hasTy_3, ty_intOf_3, ty_lay_3, ty_slcOf_3, ty_zeroA_3, cx25_P, cx25_l0, cx25_l1, cx25_u26, cx25_u37, cx25_pu, Try.f25.eq_1, valK_some, newK_some, effK_some, opE_move, opE_assign, opE_pick, opE_build, opE_load, opE_nilCheck, opE_bin, opE_un, opE_conv, opE_makeFunc, opE_slice, opE_fieldAddr, opE_field, opE_indexAddr, opE_index, opE_extract, opE_len, opE_cap, opE_min, opE_max, opE_alloc, opE_box, opE_buildSlice, opE_makeMap, opE_makeSlice, callK_fn, callK_yld, callG_some, callG_none, appK_some, opE_store_r, opE_call_r, opE_append_r, opE_store_w, opE_call_w, opE_append_w, ev_seq, ev_skip, ev_label, ev_region, ev_draw, evDO_some, ev_cond, condC_some, brC_true, brC_false, ev_block, ev_scope, ev_exit, ev_ret, ev_loop, ev_range, nx_seq, nx_seqE, nx_seqR, nx_blk, nx_blkE, nx_blkR, nx_loop, nx_loopE, nx_loopR, nx_inv, nx_invE, nx_invR, nx_top, nx_topR, topO_some, nx_rnd, nx_rndE, nx_rndR, rndO_some, nx_bgn, bgnO_some, evR_nil, wantK_tup, wantK_tt, wantK_ff, wantK_tf, wantK_ft, evR_op, evR_guard, evD_nil, evD_row, rowK_eff, rowK_calm, rowK_guard, rowG_tup, rowG_tt, rowG_ff, rowG_tf, rowG_ft, rowN_eq, chkA_nil, chkA_cons, chkO_some, chkW_false, sameO_some, chkW_load, chkW_len, finK_reg, finK_row, finK_calm, finN_reg, finN_row, finN_calm, nid_reg, nid_row, nid_calm, getT_cons, putT_some, putT_none, trimT_some, trimT_none, keepT_nil, keepT_cons, consT_some, consT_none, getT_nil, getO_tmp, getO_const, getO_func, ofC_int, ofC_bool, ofC_ptr, ofC_slc, ofC_map, ofC_fn, getOs_nil, getOs_cons, consO_some, guardT_eq, guardO_some, wantA_none, wantA_some, wantO_tup, wantO_tt, wantO_ff, wantO_tf, wantO_ft, hget_cons, hset_cons, hdel_cons, memb_nil, memb_cons, hideH_cons, showH_cons, hideH_none, showH_none, showH_nil, outs_nil, outs_cons, app_nil, nil_app, cons_app, dropO_some, dropO_none, rowOf_cons, wrap_lit, wrap_neg, top_i8, bot_i8, top_i16, bot_i16, top_i32, bot_i32, top_i64, bot_i64, top_u8, bot_u8, top_u16, bot_u16, top_u32, bot_u32, top_u64, bot_u64, bits_i8, bits_u8, bits_i16, bits_u16, bits_i32, bits_u32, bits_i64, bits_u64, cast_lit, toNat_lit, get_zero, get_succ, take_zero, take_succ, set_zero, set_succ, length_nil, length_cons, length_set, append_nil, nil_append, cons_append, toList_arr, rep_zero, rep_succ, bnot_true, bnot_false, band_true, band_false, beq_tt, beq_ff, beq_tf, beq_ft, beq_nat, beq_int, bne_nat, map_some, map_none, true_eq_false, false_eq_true, true_eq_true, fbody_mk, fresults_mk, getD_some, bol_true, binO_some, bin_add, bin_sub, bin_mul, quo_lit, quo_neg, rem_lit, rem_neg, shr_lit, bin_quo, bin_rem, bin_eql, bin_neq, bin_lss, bin_leq, bin_gtr, bin_geq, bin_and, bin_or, bin_xor, bin_andNot, bin_shl, bin_shr, bin_beql, bin_bneq, bin_seql, bin_sneq, eqO_eq, eqO_ne, bin_aeql, bin_aneq, bin_reql, bin_rneq, aggEq_some, flatL_nil, flatL_cons, appV_some, flatV_int, flatV_bool, flatV_agg, flatV_rows, bin_feql, bin_fneq, bin_nfeql, bin_nfneq, bin_peql, bin_pneq, bin_npeql, bin_npneq, unO_some, un_not, un_neg, convO_some, conv_int, cvI_some, pickA_true, pickA_false, nilO_some, nilA_ptr, nilA_fn, nilA_yld, nilA_map, nilA_slc, exO_some, ext_tup, mkFnO_some, size_int, size_bool, size_str, size_ptr, size_nilp, size_slc, size_nils, size_map, size_nilm, size_fn, size_yld, size_nilf, size_agg, size_rows, sizeL_nil, sizeL_cons, layOK_int, layOK_bool, layOK_str, layOK_ptr, layOK_nilp, layOK_slc, layOK_nils, layOK_map, layOK_nilm, layOK_fn, layOK_yld, layOK_nilf, layOK_agg, layOK_rows, isTup_int, isTup_bool, isTup_str, isTup_ptr, isTup_nilp, isTup_slc, isTup_nils, isTup_map, isTup_nilm, isTup_fn, isTup_yld, isTup_nilf, isTup_agg, isTup_rows, getP_nil, getP_cons, getS_some, stepP_agg, stepP_rows, putP_nil, putP_cons, putS_some, putU_some, setS_agg, setS_rows, loadO_some, loadA_ptr, loadE_cel, loadE_vec, loadE_ro, chkL_some, storeO_some, stH_some, storeA_ptr, storeE_cel, storeE_vec, storeB_cel, storeB_vec, faO_some, fa_ptr, fdO_some, lkO_some, fd_agg, iaO_some, ia_ptr, ia_slc, ixO_some, ix_rows, ix_str, chO_some, newA_some, partsO_nil, partsO_cons, buildA_some, fillP_nil, fillP_cons, fillN_some, setA_agg, setA_rows, setC_some, setD_some, fillQ_nil, fillQ_cons, fillM_some, fitZ_some, bs_some, bsO_some, msO_some, sliceO_some, slice_slc, slO_some, slice_nils, slN_some, slice_ptr, slA_some, cutA_some, cutN_some, cutS_some, sliceB_none, sliceB_hi, sbH_some, sbL_none, sbL_some, sbX_some, bndA_int, mv_eq, builtO_some, len_slc, len_nils, cap_slc, len_str, len_rows, arN_some, min_two, max_two, appO_some, apO_some, own_nils, own_slc, owO_vec, more_nils, more_slc, resF_eq, resAll_nil, resAll_cons, resOne_tmp, resOne_cell, tupO_none, tupO_one, tupO_more, setLp_eq, setLO_some, putPs_nil, putPs_cons, argT_nil, argT_cons, lookU_nil, lookU_cons, lookL_cons, lookL_nil, lookP_cons, hideH_nil, and_self, and_true, true_and, and_false, false_and]) (apply enter11) (apply enter23) (apply enter36) (apply enter25))
    tactic => rfl
def s11 : List AV → Option AV
  | [.agg [.int .u8 r, .int .u8 g, .int .u8 b, .int .u8 a]] => if byt r ∧ byt g ∧ byt b ∧ byt a then some (col (preP r a) (preP g a) (preP b a) a) else none
  | _ => none
theorem s11_eq (r g b a : Int) : s11 [.agg [.int .u8 r, .int .u8 g, .int .u8 b, .int .u8 a]] = if byt r ∧ byt g ∧ byt b ∧ byt a then some (col (preP r a) (preP g a) (preP b a) a) else none := rfl
theorem s11_ok : ∀ args v, s11 args = some v → PureA Try.prog 11 args v := by
  intro args v h
  unfold s11 at h
  split at h
  · split at h
    · rename_i hh
      obtain ⟨h1, h2, h3, h4⟩ := hh
      cases h
      have w : ∀ {x y : Int}, byt x → byt y → IntKind.wrap .i64 (x * y) = x * y := fun h k => wrap64 (by have := mul_byt h k; omega)
      exact pure_of (pre_walk _ _ _ _ (wbyt h1) (wbyt h2) (wbyt h3) (wbyt h4) (w h1 h4) (w h2 h4) (w h3 h4)) rfl rfl
    · cases h
  · cases h

def overP (x y a : Int) : Int := sat (x + div255 (y * (255 - a)))
theorem over_walk (r g b a r' g' b' a' : Int) (h1 : IntKind.wrap .i64 r = r) (h2 : IntKind.wrap .i64 g = g) (h3 : IntKind.wrap .i64 b = b) (h4 : IntKind.wrap .i64 a = a)
    (h5 : IntKind.wrap .i64 r' = r') (h6 : IntKind.wrap .i64 g' = g') (h7 : IntKind.wrap .i64 b' = b') (h8 : IntKind.wrap .i64 a' = a') (k0 : IntKind.wrap .i64 (255 - a) = 255 - a)
    (k1 : IntKind.wrap .i64 (r' * (255 - a)) = r' * (255 - a)) (k2 : IntKind.wrap .i64 (g' * (255 - a)) = g' * (255 - a)) (k3 : IntKind.wrap .i64 (b' * (255 - a)) = b' * (255 - a)) (k4 : IntKind.wrap .i64 (a' * (255 - a)) = a' * (255 - a))
    (l1 : IntKind.wrap .i64 (r + div255 (r' * (255 - a))) = r + div255 (r' * (255 - a))) (l2 : IntKind.wrap .i64 (g + div255 (g' * (255 - a))) = g + div255 (g' * (255 - a)))
    (l3 : IntKind.wrap .i64 (b + div255 (b' * (255 - a))) = b + div255 (b' * (255 - a))) (l4 : IntKind.wrap .i64 (a + div255 (a' * (255 - a))) = a + div255 (a' * (255 - a))) :
    callA Try.prog 14 [col r g b a, col r' g' b' a'] [] 0 fun v' H' n' => v' = col (overP r r' a) (overP g g' a) (overP b b' a) (overP a a' a) := by
  sym =>
    repeat (first (simp [h1, h2, h3, h4, h5, h6, h7, h8, k0, k1, k2, k3, k4, l1, l2, l3, l4, col_eq, s26_eq, s37_eq, cx14_P, cx14_l0, cx14_l1, cx14_l2, cx14_u26, cx14_u37, cx14_pu, Try.f14.eq_1, ty_arrOf_23, ty_arrOf_3, ty_arrOf_44, ty_arrOf_5, ty_eqTy_23, ty_fldOf_23_0, ty_fldOf_23_1, ty_fldOf_23_2, ty_fldOf_23_3, ty_hasTy_3, ty_hasTy_5, ty_intOf_3, ty_intOf_5, ty_lay_23, ty_lay_3, ty_lay_44, ty_lay_5, ty_notInt_23, ty_notInt_44, ty_placesOf_23, ty_slcOf_23, ty_slcOf_3, ty_slcOf_44, ty_slcOf_5, ty_zeroA_23, ty_zeroA_3, cx23_P, cx23_l0, cx23_l1, cx23_l2, cx23_p2, cx23_u26, cx23_u37, cx23_pu, Try.f23.eq_1, cx36_P, cx36_l0, cx36_l1, cx36_u26, cx36_u37, cx36_pu, Try.f36.eq_1, cx27_P, cx27_l0, cx27_l1, cx27_u26, cx27_u37, cx27_pu, Try.f27.eq_1, valK_some, newK_some, effK_some, opE_move, opE_assign, opE_pick, opE_build, opE_load, opE_nilCheck, opE_bin, opE_un, opE_conv, opE_makeFunc, opE_slice, opE_fieldAddr, opE_field, opE_indexAddr, opE_index, opE_extract, opE_len, opE_cap, opE_min, opE_max, opE_alloc, opE_box, opE_buildSlice, opE_makeMap, opE_makeSlice, callK_fn, callK_yld, callG_some, callG_none, appK_some, opE_store_r, opE_call_r, opE_append_r, opE_store_w, opE_call_w, opE_append_w, ev_seq, ev_skip, ev_label, ev_region, ev_draw, evDO_some, ev_cond, condC_some, brC_true, brC_false, ev_block, ev_scope, ev_exit, ev_ret, ev_loop, ev_range, nx_seq, nx_seqE, nx_seqR, nx_blk, nx_blkE, nx_blkR, nx_loop, nx_loopE, nx_loopR, nx_inv, nx_invE, nx_invR, nx_top, nx_topR, topO_some, nx_rnd, nx_rndE, nx_rndR, rndO_some, nx_bgn, bgnO_some, evR_nil, wantK_tup, wantK_tt, wantK_ff, wantK_tf, wantK_ft, evR_op, evR_guard, evD_nil, evD_row, rowK_eff, rowK_calm, rowK_guard, rowG_tup, rowG_tt, rowG_ff, rowG_tf, rowG_ft, rowN_eq, chkA_nil, chkA_cons, chkO_some, chkW_false, sameO_some, chkW_load, chkW_len, finK_reg, finK_row, finK_calm, finN_reg, finN_row, finN_calm, nid_reg, nid_row, nid_calm, getT_cons, putT_some, putT_none, trimT_some, trimT_none, keepT_nil, keepT_cons, consT_some, consT_none, getT_nil, getO_tmp, getO_const, getO_func, ofC_int, ofC_bool, ofC_ptr, ofC_slc, ofC_map, ofC_fn, getOs_nil, getOs_cons, consO_some, guardT_eq, guardO_some, wantA_none, wantA_some, wantO_tup, wantO_tt, wantO_ff, wantO_tf, wantO_ft, hget_cons, hset_cons, hdel_cons, memb_nil, memb_cons, hideH_cons, showH_cons, hideH_none, showH_none, showH_nil, outs_nil, outs_cons, app_nil, nil_app, cons_app, dropO_some, dropO_none, rowOf_cons, wrap_lit, wrap_neg, top_i8, bot_i8, top_i16, bot_i16, top_i32, bot_i32, top_i64, bot_i64, top_u8, bot_u8, top_u16, bot_u16, top_u32, bot_u32, top_u64, bot_u64, bits_i8, bits_u8, bits_i16, bits_u16, bits_i32, bits_u32, bits_i64, bits_u64, cast_lit, toNat_lit, get_zero, get_succ, take_zero, take_succ, set_zero, set_succ, length_nil, length_cons, length_set, append_nil, nil_append, cons_append, toList_arr, rep_zero, rep_succ, bnot_true, bnot_false, band_true, band_false, beq_tt, beq_ff, beq_tf, beq_ft, beq_nat, beq_int, bne_nat, map_some, map_none, true_eq_false, false_eq_true, true_eq_true, fbody_mk, fresults_mk, getD_some, bol_true, binO_some, bin_add, bin_sub, bin_mul, quo_lit, quo_neg, rem_lit, rem_neg, shr_lit, bin_quo, bin_rem, bin_eql, bin_neq, bin_lss, bin_leq, bin_gtr, bin_geq, bin_and, bin_or, bin_xor, bin_andNot, bin_shl, bin_shr, bin_beql, bin_bneq, bin_seql, bin_sneq, eqO_eq, eqO_ne, bin_aeql, bin_aneq, bin_reql, bin_rneq, aggEq_some, flatL_nil, flatL_cons, appV_some, flatV_int, flatV_bool, flatV_agg, flatV_rows, bin_feql, bin_fneq, bin_nfeql, bin_nfneq, bin_peql, bin_pneq, bin_npeql, bin_npneq, unO_some, un_not, un_neg, convO_some, conv_int, cvI_some, pickA_true, pickA_false, nilO_some, nilA_ptr, nilA_fn, nilA_yld, nilA_map, nilA_slc, exO_some, ext_tup, mkFnO_some, size_int, size_bool, size_str, size_ptr, size_nilp, size_slc, size_nils, size_map, size_nilm, size_fn, size_yld, size_nilf, size_agg, size_rows, sizeL_nil, sizeL_cons, layOK_int, layOK_bool, layOK_str, layOK_ptr, layOK_nilp, layOK_slc, layOK_nils, layOK_map, layOK_nilm, layOK_fn, layOK_yld, layOK_nilf, layOK_agg, layOK_rows, isTup_int, isTup_bool, isTup_str, isTup_ptr, isTup_nilp, isTup_slc, isTup_nils, isTup_map, isTup_nilm, isTup_fn, isTup_yld, isTup_nilf, isTup_agg, isTup_rows, getP_nil, getP_cons, getS_some, stepP_agg, stepP_rows, putP_nil, putP_cons, putS_some, putU_some, setS_agg, setS_rows, loadO_some, loadA_ptr, loadE_cel, loadE_vec, loadE_ro, chkL_some, storeO_some, stH_some, storeA_ptr, storeE_cel, storeE_vec, storeB_cel, storeB_vec, faO_some, fa_ptr, fdO_some, lkO_some, fd_agg, iaO_some, ia_ptr, ia_slc, ixO_some, ix_rows, ix_str, chO_some, newA_some, partsO_nil, partsO_cons, buildA_some, fillP_nil, fillP_cons, fillN_some, setA_agg, setA_rows, setC_some, setD_some, fillQ_nil, fillQ_cons, fillM_some, fitZ_some, bs_some, bsO_some, msO_some, sliceO_some, slice_slc, slO_some, slice_nils, slN_some, slice_ptr, slA_some, cutA_some, cutN_some, cutS_some, sliceB_none, sliceB_hi, sbH_some, sbL_none, sbL_some, sbX_some, bndA_int, mv_eq, builtO_some, len_slc, len_nils, cap_slc, len_str, len_rows, arN_some, min_two, max_two, appO_some, apO_some, own_nils, own_slc, owO_vec, more_nils, more_slc, resF_eq, resAll_nil, resAll_cons, resOne_tmp, resOne_cell, tupO_none, tupO_one, tupO_more, setLp_eq, setLO_some, putPs_nil, putPs_cons, argT_nil, argT_cons, lookU_nil, lookU_cons, lookL_cons, lookL_nil, lookP_cons, hideH_nil, and_self, and_true, true_and, and_false, false_and]) (apply enter14) (apply enter23) (apply enter36) (apply enter27))
    tactic => rfl
def s14 : List AV → Option AV
  | [.agg [.int .u8 r, .int .u8 g, .int .u8 b, .int .u8 a], .agg [.int .u8 r', .int .u8 g', .int .u8 b', .int .u8 a']] => if (byt r ∧ byt g ∧ byt b ∧ byt a) ∧ byt r' ∧ byt g' ∧ byt b' ∧ byt a' then some (col (overP r r' a) (overP g g' a) (overP b b' a) (overP a a' a)) else none
  | _ => none
theorem s14_eq (r g b a r' g' b' a' : Int) : s14 [.agg [.int .u8 r, .int .u8 g, .int .u8 b, .int .u8 a], .agg [.int .u8 r', .int .u8 g', .int .u8 b', .int .u8 a']] = if (byt r ∧ byt g ∧ byt b ∧ byt a) ∧ byt r' ∧ byt g' ∧ byt b' ∧ byt a' then some (col (overP r r' a) (overP g g' a) (overP b b' a) (overP a a' a)) else none := rfl
theorem s14_ok : ∀ args v, s14 args = some v → PureA Try.prog 14 args v := by
  intro args v h
  unfold s14 at h
  split at h
  · split at h
    · rename_i hh
      obtain ⟨⟨h1, h2, h3, h4⟩, h5, h6, h7, h8⟩ := hh
      cases h
      have w : ∀ {x y : Int}, byt x → byt y → IntKind.wrap .i64 (x * y) = x * y := fun h k => wrap64 (by have := mul_byt h k; omega)
      have l : ∀ {x y : Int}, byt x → IntKind.wrap .i64 (x + div255 y) = x + div255 y := fun {x y} h => wrap64 (by have := div255_in y; unfold byt at h; omega)
      have h4' := byt_left h4
      exact pure_of (over_walk _ _ _ _ _ _ _ _ (wbyt h1) (wbyt h2) (wbyt h3) (wbyt h4) (wbyt h5) (wbyt h6) (wbyt h7) (wbyt h8) (wbyt h4') (w h5 h4') (w h6 h4') (w h7 h4') (w h8 h4') (l h1) (l h2) (l h3) (l h4)) rfl rfl
    · cases h
  · cases h

def mixQ (x y t : Int) : Int := (x * (256 - t) + y * t + 128).tdiv 256
def mixP (x y t : Int) : Int := sat (mixQ x y t)
theorem mix_walk (r g b a r' g' b' a' t : Int) (h1 : IntKind.wrap .i64 r = r) (h2 : IntKind.wrap .i64 g = g) (h3 : IntKind.wrap .i64 b = b) (h4 : IntKind.wrap .i64 a = a)
    (h5 : IntKind.wrap .i64 r' = r') (h6 : IntKind.wrap .i64 g' = g') (h7 : IntKind.wrap .i64 b' = b') (h8 : IntKind.wrap .i64 a' = a') (t' : Int) (ht : (if 256 < (if t < 0 then 0 else t) then 256 else if t < 0 then 0 else t) = t')
    (k0 : IntKind.wrap .i64 (256 - t') = 256 - t') (k : ∀ x y : Int, byt x → byt y → IntKind.wrap .i64 (IntKind.wrap .i64 ((IntKind.wrap .i64 ((IntKind.wrap .i64 (x * (256 - t'))) + (IntKind.wrap .i64 (y * t')))) + 128) |>.tdiv 256) = mixQ x y t')
    (b1 : byt r) (b2 : byt g) (b3 : byt b) (b4 : byt a) (c1 : byt r') (c2 : byt g') (c3 : byt b') (c4 : byt a') :
    callA Try.prog 10 [col r g b a, col r' g' b' a', .int .i64 t] [] 0 fun v' H' n' => v' = col (mixP r r' t') (mixP g g' t') (mixP b b' t') (mixP a a' t') := by
  sym =>
    repeat (first (simp [h1, h2, h3, h4, h5, h6, h7, h8, k0, ht, col_eq, s26_eq, s37_eq, cx10_P, cx10_l0, cx10_l1, cx10_l2, cx10_u26, cx10_u37, cx10_pu, Try.f10.eq_1, ty_arrOf_23, ty_arrOf_3, ty_arrOf_44, ty_eqTy_23, ty_fldOf_23_0, ty_fldOf_23_1, ty_fldOf_23_2, ty_fldOf_23_3, ty_hasTy_3, ty_intOf_3, ty_lay_23, ty_lay_3, ty_lay_44, ty_notInt_23, ty_notInt_44, ty_placesOf_23, ty_slcOf_23, ty_slcOf_3, ty_slcOf_44, ty_zeroA_23, ty_zeroA_3, cx23_P, cx23_l0, cx23_l1, cx23_l2, cx23_p2, cx23_u26, cx23_u37, cx23_pu, Try.f23.eq_1, ty_arrOf_5, ty_hasTy_5, ty_intOf_5, ty_lay_5, ty_slcOf_5, cx36_P, cx36_l0, cx36_l1, cx36_u26, cx36_u37, cx36_pu, Try.f36.eq_1, cx24_P, cx24_l0, cx24_l1, cx24_u26, cx24_u37, cx24_pu, Try.f24.eq_1, valK_some, newK_some, effK_some, opE_move, opE_assign, opE_pick, opE_build, opE_load, opE_nilCheck, opE_bin, opE_un, opE_conv, opE_makeFunc, opE_slice, opE_fieldAddr, opE_field, opE_indexAddr, opE_index, opE_extract, opE_len, opE_cap, opE_min, opE_max, opE_alloc, opE_box, opE_buildSlice, opE_makeMap, opE_makeSlice, callK_fn, callK_yld, callG_some, callG_none, appK_some, opE_store_r, opE_call_r, opE_append_r, opE_store_w, opE_call_w, opE_append_w, ev_seq, ev_skip, ev_label, ev_region, ev_draw, evDO_some, ev_cond, condC_some, brC_true, brC_false, ev_block, ev_scope, ev_exit, ev_ret, ev_loop, ev_range, nx_seq, nx_seqE, nx_seqR, nx_blk, nx_blkE, nx_blkR, nx_loop, nx_loopE, nx_loopR, nx_inv, nx_invE, nx_invR, nx_top, nx_topR, topO_some, nx_rnd, nx_rndE, nx_rndR, rndO_some, nx_bgn, bgnO_some, evR_nil, wantK_tup, wantK_tt, wantK_ff, wantK_tf, wantK_ft, evR_op, evR_guard, evD_nil, evD_row, rowK_eff, rowK_calm, rowK_guard, rowG_tup, rowG_tt, rowG_ff, rowG_tf, rowG_ft, rowN_eq, chkA_nil, chkA_cons, chkO_some, chkW_false, sameO_some, chkW_load, chkW_len, finK_reg, finK_row, finK_calm, finN_reg, finN_row, finN_calm, nid_reg, nid_row, nid_calm, getT_cons, putT_some, putT_none, trimT_some, trimT_none, keepT_nil, keepT_cons, consT_some, consT_none, getT_nil, getO_tmp, getO_const, getO_func, ofC_int, ofC_bool, ofC_ptr, ofC_slc, ofC_map, ofC_fn, getOs_nil, getOs_cons, consO_some, guardT_eq, guardO_some, wantA_none, wantA_some, wantO_tup, wantO_tt, wantO_ff, wantO_tf, wantO_ft, hget_cons, hset_cons, hdel_cons, memb_nil, memb_cons, hideH_cons, showH_cons, hideH_none, showH_none, showH_nil, outs_nil, outs_cons, app_nil, nil_app, cons_app, dropO_some, dropO_none, rowOf_cons, wrap_lit, wrap_neg, top_i8, bot_i8, top_i16, bot_i16, top_i32, bot_i32, top_i64, bot_i64, top_u8, bot_u8, top_u16, bot_u16, top_u32, bot_u32, top_u64, bot_u64, bits_i8, bits_u8, bits_i16, bits_u16, bits_i32, bits_u32, bits_i64, bits_u64, cast_lit, toNat_lit, get_zero, get_succ, take_zero, take_succ, set_zero, set_succ, length_nil, length_cons, length_set, append_nil, nil_append, cons_append, toList_arr, rep_zero, rep_succ, bnot_true, bnot_false, band_true, band_false, beq_tt, beq_ff, beq_tf, beq_ft, beq_nat, beq_int, bne_nat, map_some, map_none, true_eq_false, false_eq_true, true_eq_true, fbody_mk, fresults_mk, getD_some, bol_true, binO_some, bin_add, bin_sub, bin_mul, quo_lit, quo_neg, rem_lit, rem_neg, shr_lit, bin_quo, bin_rem, bin_eql, bin_neq, bin_lss, bin_leq, bin_gtr, bin_geq, bin_and, bin_or, bin_xor, bin_andNot, bin_shl, bin_shr, bin_beql, bin_bneq, bin_seql, bin_sneq, eqO_eq, eqO_ne, bin_aeql, bin_aneq, bin_reql, bin_rneq, aggEq_some, flatL_nil, flatL_cons, appV_some, flatV_int, flatV_bool, flatV_agg, flatV_rows, bin_feql, bin_fneq, bin_nfeql, bin_nfneq, bin_peql, bin_pneq, bin_npeql, bin_npneq, unO_some, un_not, un_neg, convO_some, conv_int, cvI_some, pickA_true, pickA_false, nilO_some, nilA_ptr, nilA_fn, nilA_yld, nilA_map, nilA_slc, exO_some, ext_tup, mkFnO_some, size_int, size_bool, size_str, size_ptr, size_nilp, size_slc, size_nils, size_map, size_nilm, size_fn, size_yld, size_nilf, size_agg, size_rows, sizeL_nil, sizeL_cons, layOK_int, layOK_bool, layOK_str, layOK_ptr, layOK_nilp, layOK_slc, layOK_nils, layOK_map, layOK_nilm, layOK_fn, layOK_yld, layOK_nilf, layOK_agg, layOK_rows, isTup_int, isTup_bool, isTup_str, isTup_ptr, isTup_nilp, isTup_slc, isTup_nils, isTup_map, isTup_nilm, isTup_fn, isTup_yld, isTup_nilf, isTup_agg, isTup_rows, getP_nil, getP_cons, getS_some, stepP_agg, stepP_rows, putP_nil, putP_cons, putS_some, putU_some, setS_agg, setS_rows, loadO_some, loadA_ptr, loadE_cel, loadE_vec, loadE_ro, chkL_some, storeO_some, stH_some, storeA_ptr, storeE_cel, storeE_vec, storeB_cel, storeB_vec, faO_some, fa_ptr, fdO_some, lkO_some, fd_agg, iaO_some, ia_ptr, ia_slc, ixO_some, ix_rows, ix_str, chO_some, newA_some, partsO_nil, partsO_cons, buildA_some, fillP_nil, fillP_cons, fillN_some, setA_agg, setA_rows, setC_some, setD_some, fillQ_nil, fillQ_cons, fillM_some, fitZ_some, bs_some, bsO_some, msO_some, sliceO_some, slice_slc, slO_some, slice_nils, slN_some, slice_ptr, slA_some, cutA_some, cutN_some, cutS_some, sliceB_none, sliceB_hi, sbH_some, sbL_none, sbL_some, sbX_some, bndA_int, mv_eq, builtO_some, len_slc, len_nils, cap_slc, len_str, len_rows, arN_some, min_two, max_two, appO_some, apO_some, own_nils, own_slc, owO_vec, more_nils, more_slc, resF_eq, resAll_nil, resAll_cons, resOne_tmp, resOne_cell, tupO_none, tupO_one, tupO_more, setLp_eq, setLO_some, putPs_nil, putPs_cons, argT_nil, argT_cons, lookU_nil, lookU_cons, lookL_cons, lookL_nil, lookP_cons, hideH_nil, and_self, and_true, true_and, and_false, false_and]) (apply enter10) (apply enter23) (apply enter36) (apply enter24))
    tactic =>
      unfold quoI
      rw [ht, k0, k r r' b1 c1, k g g' b2 c2, k b b' b3 c3, k a a' b4 c4]
      rfl

theorem mixQ_in {x y t : Int} (hx : byt x) (hy : byt y) (ht : 0 ≤ t ∧ t ≤ 256) : 0 ≤ mixQ x y t ∧ mixQ x y t ≤ 255 ∧ (0 ≤ x * (256 - t) ∧ x * (256 - t) ≤ 65280) ∧ (0 ≤ y * t ∧ y * t ≤ 65280) := by
  unfold byt at hx hy
  have a1 := Int.mul_nonneg hx.1 (show 0 ≤ 256 - t by omega)
  have a2 := Int.mul_nonneg hy.1 ht.1
  have b1 := Int.mul_le_mul_of_nonneg_right hx.2 (show 0 ≤ 256 - t by omega)
  have b2 := Int.mul_le_mul_of_nonneg_right hy.2 ht.1
  have c : x * (256 - t) + y * t ≤ 65280 := by omega
  unfold mixQ
  rw [Int.tdiv_eq_ediv_of_nonneg (by omega)]
  omega
def s10 : List AV → Option AV
  | [.agg [.int .u8 r, .int .u8 g, .int .u8 b, .int .u8 a], .agg [.int .u8 r', .int .u8 g', .int .u8 b', .int .u8 a'], .int .i64 t] =>
    if (byt r ∧ byt g ∧ byt b ∧ byt a) ∧ byt r' ∧ byt g' ∧ byt b' ∧ byt a' then some (col (mixP r r' (clamp 0 256 t)) (mixP g g' (clamp 0 256 t)) (mixP b b' (clamp 0 256 t)) (mixP a a' (clamp 0 256 t))) else none
  | _ => none
theorem s10_eq (r g b a r' g' b' a' t : Int) : s10 [.agg [.int .u8 r, .int .u8 g, .int .u8 b, .int .u8 a], .agg [.int .u8 r', .int .u8 g', .int .u8 b', .int .u8 a'], .int .i64 t] =
    if (byt r ∧ byt g ∧ byt b ∧ byt a) ∧ byt r' ∧ byt g' ∧ byt b' ∧ byt a' then some (col (mixP r r' (clamp 0 256 t)) (mixP g g' (clamp 0 256 t)) (mixP b b' (clamp 0 256 t)) (mixP a a' (clamp 0 256 t))) else none := rfl
theorem s10_ok : ∀ args v, s10 args = some v → PureA Try.prog 10 args v := by
  intro args v h
  unfold s10 at h
  split at h
  · split at h
    · rename_i t hh
      obtain ⟨⟨h1, h2, h3, h4⟩, h5, h6, h7, h8⟩ := hh
      cases h
      have ht := clamp_in (a := 0) (b := 256) (x := t) (by omega)
      refine pure_of (mix_walk _ _ _ _ _ _ _ _ t (wbyt h1) (wbyt h2) (wbyt h3) (wbyt h4) (wbyt h5) (wbyt h6) (wbyt h7) (wbyt h8) (clamp 0 256 t) rfl (wrap64 (by omega)) (fun x y hx hy => ?_) h1 h2 h3 h4 h5 h6 h7 h8) rfl rfl
      have := mixQ_in hx hy ht
      rw [wrap64 (x := x * (256 - clamp 0 256 t)) (by omega), wrap64 (x := y * clamp 0 256 t) (by omega), wrap64 (x := x * (256 - clamp 0 256 t) + y * clamp 0 256 t) (by omega), wrap64 (x := x * (256 - clamp 0 256 t) + y * clamp 0 256 t + 128) (by omega)]
      show IntKind.wrap .i64 (mixQ x y (clamp 0 256 t)) = _
      rw [wrap64 (by omega)]
    · cases h
  · cases h

end Go.Proofs.Yteoomeajampfcaa
