/-
  Several texts in one.
-/
import Derived.Test.YtbkmhkeihbgcfaaRa
set_option linter.unusedVariables false
set_option linter.unusedSimpArgs false
set_option maxRecDepth 10000
set_option maxHeartbeats 0
namespace Go.Proofs.Ytbkmhkeihbgcfaa
open Go.Y
-- Chapter 19: the pool's functions, of fragments (turned from chapter 17).
abbrev Node := TFrag × Int × Bool
def nodeV (q : Node) : AV := .agg [eFrag q.1, .int .i64 q.2.1, .bool q.2.2]
theorem nodeV_eq (q : Node) : nodeV q = .agg [eFrag q.1, .int .i64 q.2.1, .bool q.2.2] := rfl
theorem nodeV_flat (q : Node) : flatB (nodeV q) = true := rfl
theorem nodes_ren (τ : Nat → Nat) (l : List Node) : renL τ (l.map nodeV) = l.map nodeV := renL_maps nodeV_flat τ l
structure PoolS where
  room : Int
  free : Int
  live : Int
  most : Int
  ns : List Node
def poolV (s : PoolS) (k cap : Nat) : AV := .agg [.int .i64 s.room, .int .i64 s.free, .int .i64 s.live, .int .i64 s.most, .slc k 0 [] 13 0 0 s.ns.length cap]
theorem poolV_eq (s : PoolS) (k cap : Nat) : poolV s k cap = .agg [.int .i64 s.room, .int .i64 s.free, .int .i64 s.live, .int .i64 s.most, .slc k 0 [] 13 0 0 s.ns.length cap] := rfl
def poolH (s : PoolS) (k cap : Nat) : Hp := [(k, .vec cap 13 (s.ns.map nodeV)), (0, .cel (poolV s k cap))]

noncomputable def cx48 : Cx := ⟨Try.prog, [], [], [(0, [0]), (1, [2])]⟩
theorem cx48_P : cx48.P = Try.prog := rfl
theorem cx48_l0 : lookL 0 cx48.lv = some [0] := rfl
theorem cx48_l1 : lookL 1 cx48.lv = some [2] := rfl
theorem cx48_pu : cx48.pu = [] := rfl
theorem cx48_ok : okc cx48 Try.f48.ntmps (Try.f48.body.getD .skip) = true := by kernel_rfl
theorem enter48 {args : List AV} {H : Hp} {n : Nat} {Q : AV → Hp → Nat → Prop} (h : args.length ≤ 8 ∧ Ev cx48 ⟨8, n, none, 48⟩ (Try.f48.body.getD .skip) ⟨argT 0 args, H, n⟩ (.top Try.f48.results.toList Q)) : callA Try.prog 48 args H n Q :=
  callA_ev (cx := cx48) puOk_nil (f := 48) (fn := Try.f48) Try.func48 rfl (by kernel_rfl) h.1 cx48_ok h.2
def newP (room : Int) : PoolS := ⟨if 65536 < (if room < 0 then 0 else room) then 65536 else (if room < 0 then 0 else room), -1, 0, 0, []⟩
theorem new_call (room : Int) : callA Try.prog 48 [.int .i64 room] [] 0 fun v H' n' => v = .ptr 0 0 [] ∧ H' = poolH (newP room) 1 0 ∧ n' = 2 := by
  refine callA_nil 0 13 [.fld 4 4] ?_
  sym =>
    repeat (first (apply enter48) (apply imp_go; intro hp) (apply valK_w64; · finish (splits := 3) (ematch := 1)) (apply valK_wu8; · finish (splits := 3) (ematch := 1)) (apply valK_wu64; · finish (splits := 3) (ematch := 1)) (apply valK_w32; · finish (splits := 3) (ematch := 1)) (apply valK_wu16; · finish (splits := 3) (ematch := 1)) (apply valK_wu32; · finish (splits := 3) (ematch := 1)) (apply valK_wr) (apply valK_andR) (apply valK_quo; · finish (splits := 3) (ematch := 1)) (apply valK_quoR; · finish (splits := 3) (ematch := 1)) (apply valK_rem; · finish (splits := 3) (ematch := 1)) (apply valK_remR; · finish (splits := 3) (ematch := 1)) (apply valK_bol; · finish (splits := 3) (ematch := 1)) (apply effK_bol; · finish (splits := 3) (ematch := 1)) (apply newK_bol; · finish (splits := 3) (ematch := 1)) (apply appK_bol; · finish (splits := 3) (ematch := 1)) (apply topO_bol; · finish (splits := 3) (ematch := 1)) (apply valK_altY; · finish (splits := 3) (ematch := 1)) (apply valK_altN; · finish (splits := 3) (ematch := 1)) (apply effK_altY; · finish (splits := 3) (ematch := 1)) (apply effK_altN; · finish (splits := 3) (ematch := 1)) (apply valK_altNY; · finish (splits := 3) (ematch := 1)) (apply valK_altNN; · finish (splits := 3) (ematch := 1)) (apply valK_altS) (apply valK_altNS) (apply effK_altS) (apply appS_go) (apply brC_y; · finish (splits := 3) (ematch := 1)) (apply brC_n; · finish (splits := 3) (ematch := 1)) (apply brC_yN; · finish (splits := 3) (ematch := 1)) (apply brC_nN; · finish (splits := 3) (ematch := 1)) (apply brC_s) (apply brC_sN) (apply wantK_y; · finish (splits := 3) (ematch := 1)) (apply wantK_n; · finish (splits := 3) (ematch := 1)) (apply wantK_yN; · finish (splits := 3) (ematch := 1)) (apply wantK_nN; · finish (splits := 3) (ematch := 1)) (apply wantK_s) (apply wantK_sN) (apply rowG_y; · finish (splits := 3) (ematch := 1)) (apply rowG_n; · finish (splits := 3) (ematch := 1)) (apply rowG_yN; · finish (splits := 3) (ematch := 1)) (apply rowG_nN; · finish (splits := 3) (ematch := 1)) (apply rowG_s) (apply rowG_sN) (simp [e17Op_eq, e19Op_eq, eAbuffertile_eq, eColour_eq, eFrag_eq, eKey_eq, cx48_P, cx48_l0, cx48_l1, cx48_pu, Try.f48.eq_1, ty_arrOf_3, ty_fldOf_122_0, ty_fldOf_122_1, ty_fldOf_122_2, ty_fldOf_122_3, ty_fldOf_122_4, ty_intOf_3, ty_isInt_3, ty_notInt_3, ty_lay_3, ty_placesOf_122, ty_slcOf_3, ty_zeroA_122, ty_zeroA_3, valK_some, newK_some, opE_move, opE_assign, opE_build, opE_load, opE_bin, opE_un, opE_min, opE_max, opE_alloc, opE_box, ev_seq, ev_skip, ev_label, ev_region, ev_cond, condC_some, brC_true, brC_false, ev_block, ev_scope, ev_exit, ev_ret, nx_seq, nx_seqE, nx_seqR, nx_blk, nx_blkE, nx_blkR, nx_top, nx_topR, topO_some, evR_nil, evR_op, evR_guard, finK_reg, finN_reg, nid_reg, getT_cons, putT_some, putT_none, trimT_some, trimT_none, keepT_nil, keepT_cons, consT_some, consT_none, getT_nil, getO_tmp, getO_const, getO_func, ofC_int, ofC_bool, ofC_ptr, ofC_slc, ofC_map, ofC_fn, getOs_nil, getOs_cons, consO_some, hget_cons, wrap_lit, wrap_neg, top_i64, bot_i64, bits_i64, cast_lit, toNat_lit, get_zero, get_succ, take_zero, take_succ, set_zero, set_succ, length_nil, length_cons, append_nil, nil_append, cons_append, toList_arr, bnot_true, bnot_false, band_true, band_false, beq_tt, beq_ff, beq_tf, beq_ft, beq_nat, beq_int, bne_nat, map_some, map_none, true_eq_false, false_eq_true, true_eq_true, fbody_mk, fresults_mk, getD_some, bol_true, binO_some, size_int, size_bool, size_str, size_ptr, size_nilp, size_slc, size_nils, size_map, size_nilm, size_fn, size_nilf, size_agg, size_rows, sizeL_nil, sizeL_cons, layOK_int, layOK_bool, layOK_str, layOK_ptr, layOK_nilp, layOK_slc, layOK_nils, layOK_map, layOK_nilm, layOK_fn, layOK_nilf, layOK_agg, layOK_rows, isTup_int, isTup_bool, isTup_str, isTup_ptr, isTup_nilp, isTup_slc, isTup_nils, isTup_map, isTup_nilm, isTup_fn, isTup_nilf, isTup_agg, isTup_rows, getP_nil, getP_cons, getS_some, stepP_agg, stepP_rows, loadO_some, loadA_ptr, loadE_cel, loadE_vec, loadE_ro, chkL_some, newA_some, partsO_nil, partsO_cons, buildA_some, fillP_nil, fillP_cons, fillN_some, setA_agg, setA_rows, setC_some, setD_some, builtO_some, min_two, max_two, resF_eq, resAll_nil, resAll_cons, resOne_tmp, resOne_cell, tupO_none, tupO_one, tupO_more, argT_nil, argT_cons, lookL_cons, lookL_nil, lookP_cons, wrapO_lit, wrapO_neg, not_tf, not_ft, and_tf, alt_true, alt_false, bol_false, getS_bol, getS_alt, chkL_bol, chkL_alt, consO_bol, consO_bol2, tupO_bol, fillN_bol, bol_bol, get_mapB, get_setB, get_appB, len_map, nat_zero_add, hideH_nil, and_self, and_true, true_and, and_false, false_and]) (apply valK_bolB; · finish (splits := 3) (ematch := 1)) (apply valK_altT; · finish (splits := 3) (ematch := 1)) (apply valK_altF; · finish (splits := 3) (ematch := 1)) (apply valK_altB) (apply brC_t; · finish (splits := 3) (ematch := 1)) (apply brC_f; · finish (splits := 3) (ematch := 1)) (apply brC_sBN) (apply brC_sB) (apply wantK_t; · finish (splits := 3) (ematch := 1)) (apply wantK_f; · finish (splits := 3) (ematch := 1)) (apply wantK_sBN) (apply wantK_sB) (apply rowG_t; · finish (splits := 3) (ematch := 1)) (apply rowG_f; · finish (splits := 3) (ematch := 1)) (apply rowG_sBN) (apply rowG_sB) (intro~ hr) (tactic => exact ⟨_, _, rfl, rfl, rfl, rfl, rfl, rfl⟩))

noncomputable def cx64 : Cx := ⟨Try.prog, [], [], [(0, [1, 0]), (1, [4])]⟩
theorem cx64_P : cx64.P = Try.prog := rfl
theorem cx64_l0 : lookL 0 cx64.lv = some [1, 0] := rfl
theorem cx64_l1 : lookL 1 cx64.lv = some [4] := rfl
theorem cx64_pu : cx64.pu = [] := rfl
theorem cx64_ok : okc cx64 Try.f64.ntmps (Try.f64.body.getD .skip) = true := by kernel_rfl
theorem enter64 {args : List AV} {H : Hp} {n : Nat} {Q : AV → Hp → Nat → Prop} (h : args.length ≤ 26 ∧ Ev cx64 ⟨26, n, none, 64⟩ (Try.f64.body.getD .skip) ⟨argT 0 args, H, n⟩ (.top Try.f64.results.toList Q)) : callA Try.prog 64 args H n Q :=
  callA_ev (cx := cx64) puOk_nil (f := 64) (fn := Try.f64) Try.func64 rfl (by kernel_rfl) h.1 cx64_ok h.2
def takenP (ns : List Node) (h : Int) : Bool := if 0 ≤ h ∧ h < ns.length then (ns.getD h.toNat default).2.2 else false
theorem taken_use {H : Hp} {n k m cap : Nat} {Q : AV → Hp → Nat → Prop} {s : PoolS} (h0 : hget k H = some (.cel (poolV s m cap))) (h1 : hget m H = some (.vec cap 13 (s.ns.map nodeV))) (h : Int) (hq : Q (.bool (takenP s.ns h)) H n) :
    callA Try.prog 64 [.ptr k 0 [], .int .i64 h] H n Q := by
  sym =>
    repeat (first (apply enter64) (apply imp_go; intro hp) (apply valK_w64; · finish (splits := 3) (ematch := 1)) (apply valK_wu8; · finish (splits := 3) (ematch := 1)) (apply valK_wu64; · finish (splits := 3) (ematch := 1)) (apply valK_w32; · finish (splits := 3) (ematch := 1)) (apply valK_wu16; · finish (splits := 3) (ematch := 1)) (apply valK_wu32; · finish (splits := 3) (ematch := 1)) (apply valK_wr) (apply valK_andR) (apply valK_quo; · finish (splits := 3) (ematch := 1)) (apply valK_quoR; · finish (splits := 3) (ematch := 1)) (apply valK_rem; · finish (splits := 3) (ematch := 1)) (apply valK_remR; · finish (splits := 3) (ematch := 1)) (apply valK_bol; · finish (splits := 3) (ematch := 1)) (apply effK_bol; · finish (splits := 3) (ematch := 1)) (apply newK_bol; · finish (splits := 3) (ematch := 1)) (apply appK_bol; · finish (splits := 3) (ematch := 1)) (apply topO_bol; · finish (splits := 3) (ematch := 1)) (apply valK_altY; · finish (splits := 3) (ematch := 1)) (apply valK_altN; · finish (splits := 3) (ematch := 1)) (apply effK_altY; · finish (splits := 3) (ematch := 1)) (apply effK_altN; · finish (splits := 3) (ematch := 1)) (apply valK_altNY; · finish (splits := 3) (ematch := 1)) (apply valK_altNN; · finish (splits := 3) (ematch := 1)) (apply valK_altS) (apply valK_altNS) (apply effK_altS) (apply appS_go) (apply brC_y; · finish (splits := 3) (ematch := 1)) (apply brC_n; · finish (splits := 3) (ematch := 1)) (apply brC_yN; · finish (splits := 3) (ematch := 1)) (apply brC_nN; · finish (splits := 3) (ematch := 1)) (apply brC_s) (apply brC_sN) (apply wantK_y; · finish (splits := 3) (ematch := 1)) (apply wantK_n; · finish (splits := 3) (ematch := 1)) (apply wantK_yN; · finish (splits := 3) (ematch := 1)) (apply wantK_nN; · finish (splits := 3) (ematch := 1)) (apply wantK_s) (apply wantK_sN) (apply rowG_y; · finish (splits := 3) (ematch := 1)) (apply rowG_n; · finish (splits := 3) (ematch := 1)) (apply rowG_yN; · finish (splits := 3) (ematch := 1)) (apply rowG_nN; · finish (splits := 3) (ematch := 1)) (apply rowG_s) (apply rowG_sN) (simp [eFrag_size, eFrag_tup, nodeV_eq, poolV_eq, h0, h1, e17Op_eq, e19Op_eq, eAbuffertile_eq, eColour_eq, eKey_eq, cx64_P, cx64_l0, cx64_l1, cx64_pu, Try.f64.eq_1, ty_arrOf_120, ty_arrOf_3, ty_bytesE_120, ty_fldOf_122_0, ty_fldOf_122_1, ty_fldOf_122_2, ty_fldOf_122_3, ty_fldOf_122_4, ty_fldOf_124_0, ty_fldOf_124_1, ty_fldOf_124_2, ty_intOf_3, ty_isBoolTy_4, ty_isInt_3, ty_notInt_3, ty_lay_120, ty_lay_124, ty_lay_3, ty_lay_4, ty_notInt_120, ty_placesOf_122, ty_placesOf_124, ty_slcOf_120, ty_slcOf_3, ty_zeroA_122, ty_zeroA_124, ty_zeroA_3, ty_zeroA_4, ty_zeroE_120, valK_some, opE_move, opE_assign, opE_pick, opE_load, opE_nilCheck, opE_bin, opE_un, opE_fieldAddr, opE_indexAddr, opE_len, ev_seq, ev_skip, ev_label, ev_region, ev_cond, condC_some, brC_true, brC_false, ev_block, ev_scope, ev_exit, ev_ret, nx_seq, nx_seqE, nx_seqR, nx_blk, nx_blkE, nx_blkR, nx_top, nx_topR, topO_some, evR_nil, wantK_tup, wantK_tt, wantK_ff, wantK_tf, wantK_ft, evR_op, evR_guard, finK_reg, getT_cons, putT_some, putT_none, trimT_some, trimT_none, keepT_nil, keepT_cons, consT_some, consT_none, getT_nil, getO_tmp, getO_const, getO_func, ofC_int, ofC_bool, ofC_ptr, ofC_slc, ofC_map, ofC_fn, getOs_nil, getOs_cons, consO_some, guardT_eq, guardO_some, hget_cons, wrap_lit, wrap_neg, top_i64, bot_i64, bits_i64, cast_lit, toNat_lit, get_zero, get_succ, take_zero, take_succ, set_zero, set_succ, length_nil, length_cons, append_nil, nil_append, cons_append, toList_arr, bnot_true, bnot_false, band_true, band_false, beq_tt, beq_ff, beq_tf, beq_ft, beq_nat, beq_int, bne_nat, map_some, map_none, true_eq_false, false_eq_true, true_eq_true, fbody_mk, fresults_mk, getD_some, bol_true, binO_some, bin_lss, bin_geq, pickA_true, pickA_false, nilO_some, nilA_ptr, nilA_fn, nilA_map, nilA_slc, size_int, size_bool, size_str, size_ptr, size_nilp, size_slc, size_nils, size_map, size_nilm, size_fn, size_nilf, size_agg, size_rows, sizeL_nil, sizeL_cons, layOK_int, layOK_bool, layOK_str, layOK_ptr, layOK_nilp, layOK_slc, layOK_nils, layOK_map, layOK_nilm, layOK_fn, layOK_nilf, layOK_agg, layOK_rows, isTup_int, isTup_bool, isTup_str, isTup_ptr, isTup_nilp, isTup_slc, isTup_nils, isTup_map, isTup_nilm, isTup_fn, isTup_nilf, isTup_agg, isTup_rows, getP_nil, getP_cons, getS_some, stepP_agg, stepP_rows, loadO_some, loadA_ptr, loadE_cel, loadE_vec, loadE_ro, chkL_some, faO_some, fa_ptr, iaO_some, slN_some, builtO_some, len_slc, len_nils, len_rows, arN_some, resF_eq, resAll_nil, resAll_cons, resOne_tmp, resOne_cell, tupO_none, tupO_one, tupO_more, argT_nil, argT_cons, lookL_cons, lookL_nil, lookP_cons, wrapO_lit, wrapO_neg, mia_ptr, mia_slc, not_tf, not_ft, and_tf, alt_true, alt_false, pick_alt, bol_false, getS_bol, getS_alt, chkL_bol, chkL_alt, consO_bol, consO_bol2, tupO_bol, bol_bol, get_mapB, get_setB, get_appB, len_map, nat_zero_add, slN_bol, hideH_nil, and_self, and_true, true_and, and_false, false_and]) (apply valK_bolB; · finish (splits := 3) (ematch := 1)) (apply valK_altT; · finish (splits := 3) (ematch := 1)) (apply valK_altF; · finish (splits := 3) (ematch := 1)) (apply valK_altB) (apply brC_t; · finish (splits := 3) (ematch := 1)) (apply brC_f; · finish (splits := 3) (ematch := 1)) (apply brC_sBN) (apply brC_sB) (apply wantK_t; · finish (splits := 3) (ematch := 1)) (apply wantK_f; · finish (splits := 3) (ematch := 1)) (apply wantK_sBN) (apply wantK_sB) (apply rowG_t; · finish (splits := 3) (ematch := 1)) (apply rowG_f; · finish (splits := 3) (ematch := 1)) (apply rowG_sBN) (apply rowG_sB) (intro~ hr) (tactic => (refine q_val hq ?_; simp only [takenP]; split <;> first | rfl | omega | simp_all)))


noncomputable def cx50 : Cx := ⟨Try.prog, [], [(1, ⟨0, [⟨0, false, [], [], [], 0⟩, ⟨1, false, [0], [], [], 0⟩, ⟨2, false, [1], [], [], 0⟩, ⟨3, false, [2], [], [], 0⟩, ⟨4, false, [2], [], [], 0⟩, ⟨5, true, [2, 3, 4], [], [], 0⟩, ⟨6, false, [2, 5], [], [], 0⟩, ⟨7, false, [2, 5, 6], [], [], 0⟩, ⟨8, false, [5, 7], [], [], 0⟩, ⟨9, false, [5, 8], [], [], 0⟩, ⟨10, false, [5, 8, 9], [], [], 0⟩, ⟨11, false, [5, 8, 10], [], [], 0⟩, ⟨12, false, [5, 8, 11], [], [], 0⟩, ⟨13, false, [5, 8], [], [], 0⟩, ⟨14, false, [5, 8, 13], [], [], 0⟩, ⟨15, false, [5, 8, 14], [], [], 0⟩, ⟨16, false, [5, 8, 15], [], [], 0⟩, ⟨17, false, [5, 8, 12, 16], [], [], 0⟩, ⟨18, false, [5, 8, 17], [], [], 0⟩]⟩), (8, ⟨0, [⟨0, false, [], [], [], 0⟩, ⟨1, false, [0], [], [], 0⟩, ⟨2, false, [1], [], [], 0⟩, ⟨3, false, [2], [], [], 0⟩, ⟨4, false, [], [], [], 0⟩, ⟨5, false, [], [], [], 0⟩, ⟨6, false, [], [], [], 0⟩, ⟨7, false, [5, 6], [], [], 0⟩, ⟨8, false, [3, 4], [], [], 0⟩, ⟨9, true, [3, 5, 7, 8], [], [], 0⟩]⟩), (10, ⟨0, [⟨0, false, [], [], [], 0⟩, ⟨1, false, [], [], [], 0⟩, ⟨2, false, [1], [], [], 0⟩, ⟨3, false, [2], [], [], 0⟩, ⟨4, false, [3], [], [], 0⟩, ⟨5, false, [], [], [], 0⟩, ⟨6, false, [5], [], [], 0⟩, ⟨7, false, [6], [], [], 0⟩, ⟨8, false, [7], [], [], 0⟩, ⟨9, false, [4, 8], [], [], 0⟩, ⟨10, false, [0], [], [], 0⟩, ⟨11, false, [10], [], [], 0⟩, ⟨12, true, [4, 8, 9, 11], [], [], 0⟩]⟩)], [(0, [5, 1, 0]), (1, [27, 5, 1, 0]), (2, [7, 6]), (3, [8, 5, 1, 0]), (4, [34, 8, 5, 1, 0]), (5, [8, 5, 1, 0]), (6, [8, 5, 1, 0]), (7, [8, 5, 1, 0]), (8, [8, 0]), (9, [8, 0]), (10, [8]), (11, [7, 6])]⟩
theorem cx50_P : cx50.P = Try.prog := rfl
theorem cx50_l0 : lookL 0 cx50.lv = some [5, 1, 0] := rfl
theorem cx50_l1 : lookL 1 cx50.lv = some [27, 5, 1, 0] := rfl
theorem cx50_l2 : lookL 2 cx50.lv = some [7, 6] := rfl
theorem cx50_l3 : lookL 3 cx50.lv = some [8, 5, 1, 0] := rfl
theorem cx50_l4 : lookL 4 cx50.lv = some [34, 8, 5, 1, 0] := rfl
theorem cx50_l5 : lookL 5 cx50.lv = some [8, 5, 1, 0] := rfl
theorem cx50_l6 : lookL 6 cx50.lv = some [8, 5, 1, 0] := rfl
theorem cx50_l7 : lookL 7 cx50.lv = some [8, 5, 1, 0] := rfl
theorem cx50_l8 : lookL 8 cx50.lv = some [8, 0] := rfl
theorem cx50_l9 : lookL 9 cx50.lv = some [8, 0] := rfl
theorem cx50_l10 : lookL 10 cx50.lv = some [8] := rfl
theorem cx50_l11 : lookL 11 cx50.lv = some [7, 6] := rfl
theorem cx50_p1 : lookP 1 cx50.pl = some ⟨0, [⟨0, false, [], [], [], 0⟩, ⟨1, false, [0], [], [], 0⟩, ⟨2, false, [1], [], [], 0⟩, ⟨3, false, [2], [], [], 0⟩, ⟨4, false, [2], [], [], 0⟩, ⟨5, true, [2, 3, 4], [], [], 0⟩, ⟨6, false, [2, 5], [], [], 0⟩, ⟨7, false, [2, 5, 6], [], [], 0⟩, ⟨8, false, [5, 7], [], [], 0⟩, ⟨9, false, [5, 8], [], [], 0⟩, ⟨10, false, [5, 8, 9], [], [], 0⟩, ⟨11, false, [5, 8, 10], [], [], 0⟩, ⟨12, false, [5, 8, 11], [], [], 0⟩, ⟨13, false, [5, 8], [], [], 0⟩, ⟨14, false, [5, 8, 13], [], [], 0⟩, ⟨15, false, [5, 8, 14], [], [], 0⟩, ⟨16, false, [5, 8, 15], [], [], 0⟩, ⟨17, false, [5, 8, 12, 16], [], [], 0⟩, ⟨18, false, [5, 8, 17], [], [], 0⟩]⟩ := rfl
theorem cx50_p8 : lookP 8 cx50.pl = some ⟨0, [⟨0, false, [], [], [], 0⟩, ⟨1, false, [0], [], [], 0⟩, ⟨2, false, [1], [], [], 0⟩, ⟨3, false, [2], [], [], 0⟩, ⟨4, false, [], [], [], 0⟩, ⟨5, false, [], [], [], 0⟩, ⟨6, false, [], [], [], 0⟩, ⟨7, false, [5, 6], [], [], 0⟩, ⟨8, false, [3, 4], [], [], 0⟩, ⟨9, true, [3, 5, 7, 8], [], [], 0⟩]⟩ := rfl
theorem cx50_p10 : lookP 10 cx50.pl = some ⟨0, [⟨0, false, [], [], [], 0⟩, ⟨1, false, [], [], [], 0⟩, ⟨2, false, [1], [], [], 0⟩, ⟨3, false, [2], [], [], 0⟩, ⟨4, false, [3], [], [], 0⟩, ⟨5, false, [], [], [], 0⟩, ⟨6, false, [5], [], [], 0⟩, ⟨7, false, [6], [], [], 0⟩, ⟨8, false, [7], [], [], 0⟩, ⟨9, false, [4, 8], [], [], 0⟩, ⟨10, false, [0], [], [], 0⟩, ⟨11, false, [10], [], [], 0⟩, ⟨12, true, [4, 8, 9, 11], [], [], 0⟩]⟩ := rfl
theorem cx50_pu : cx50.pu = [] := rfl
theorem cx50_ok : okc cx50 Try.f50.ntmps (Try.f50.body.getD .skip) = true := by kernel_rfl
theorem enter50 {args : List AV} {H : Hp} {n : Nat} {Q : AV → Hp → Nat → Prop} (h : args.length ≤ 90 ∧ Ev cx50 ⟨90, n, none, 50⟩ (Try.f50.body.getD .skip) ⟨argT 0 args, H, n⟩ (.top Try.f50.results.toList Q)) : callA Try.prog 50 args H n Q :=
  callA_ev (cx := cx50) puOk_nil (f := 50) (fn := Try.f50) Try.func50 rfl (by kernel_rfl) h.1 cx50_ok h.2
def pushP (s : PoolS) (h : Int) (x : TFrag) : Int × Bool × PoolS :=
  if (h ≠ -1 ∧ takenP s.ns h = false) ∨ s.live = s.room then (h, false, s)
  else if s.free = -1 then (s.ns.length, true, ⟨s.room, s.free, s.live + 1, (if s.most < s.live + 1 then s.live + 1 else s.most), s.ns ++ [(x, h, true)]⟩)
  else (s.free, true, ⟨s.room, (s.ns.getD s.free.toNat default).2.1, s.live + 1, (if s.most < s.live + 1 then s.live + 1 else s.most), s.ns.set s.free.toNat (x, h, true)⟩)
theorem push_call (s : PoolS) (cap : Nat) (h : Int) (x : TFrag) (hl : 0 ≤ s.live ∧ s.live < 70000) (hf : s.free = -1 ∨ (0 ≤ s.free ∧ s.free < s.ns.length)) (hn : s.ns.length < 70000) :
    callA Try.prog 50 [.ptr 0 0 [], .int .i64 h, eFrag x] (poolH s 1 cap) 2 fun v H' n' => ∃ cap', v = .tup [.int .i64 (pushP s h x).1, .bool (pushP s h x).2.1] ∧ H' = poolH (pushP s h x).2.2 2 cap' ∧ n' = 3 := by
  unfold poolH
  refine callA_reid (callA_fresh 0 [.fld 4 4] ?_)
  sym =>
    repeat (first (apply enter50) (apply taken_use; (tactic => rfl); (tactic => rfl)) (apply imp_go; intro hp) (apply valK_w64; · finish (splits := 3) (ematch := 1)) (apply valK_wu8; · finish (splits := 3) (ematch := 1)) (apply valK_wu64; · finish (splits := 3) (ematch := 1)) (apply valK_w32; · finish (splits := 3) (ematch := 1)) (apply valK_wu16; · finish (splits := 3) (ematch := 1)) (apply valK_wu32; · finish (splits := 3) (ematch := 1)) (apply valK_wr) (apply valK_andR) (apply valK_quo; · finish (splits := 3) (ematch := 1)) (apply valK_quoR; · finish (splits := 3) (ematch := 1)) (apply valK_rem; · finish (splits := 3) (ematch := 1)) (apply valK_remR; · finish (splits := 3) (ematch := 1)) (apply valK_bol; · finish (splits := 3) (ematch := 1)) (apply effK_bol; · finish (splits := 3) (ematch := 1)) (apply newK_bol; · finish (splits := 3) (ematch := 1)) (apply appK_bol; · finish (splits := 3) (ematch := 1)) (apply topO_bol; · finish (splits := 3) (ematch := 1)) (apply valK_altY; · finish (splits := 3) (ematch := 1)) (apply valK_altN; · finish (splits := 3) (ematch := 1)) (apply effK_altY; · finish (splits := 3) (ematch := 1)) (apply effK_altN; · finish (splits := 3) (ematch := 1)) (apply valK_altNY; · finish (splits := 3) (ematch := 1)) (apply valK_altNN; · finish (splits := 3) (ematch := 1)) (apply valK_altS) (apply valK_altNS) (apply effK_altS) (apply appS_go) (apply brC_y; · finish (splits := 3) (ematch := 1)) (apply brC_n; · finish (splits := 3) (ematch := 1)) (apply brC_yN; · finish (splits := 3) (ematch := 1)) (apply brC_nN; · finish (splits := 3) (ematch := 1)) (apply brC_s) (apply brC_sN) (apply wantK_y; · finish (splits := 3) (ematch := 1)) (apply wantK_n; · finish (splits := 3) (ematch := 1)) (apply wantK_yN; · finish (splits := 3) (ematch := 1)) (apply wantK_nN; · finish (splits := 3) (ematch := 1)) (apply wantK_s) (apply wantK_sN) (apply rowG_y; · finish (splits := 3) (ematch := 1)) (apply rowG_n; · finish (splits := 3) (ematch := 1)) (apply rowG_yN; · finish (splits := 3) (ematch := 1)) (apply rowG_nN; · finish (splits := 3) (ematch := 1)) (apply rowG_s) (apply rowG_sN) (simp [nodeV_eq, poolV_eq, eFrag_size, eFrag_tup, layOK_frag, e17Op_eq, e19Op_eq, eAbuffertile_eq, eColour_eq, eKey_eq, cx50_P, cx50_l0, cx50_l1, cx50_l2, cx50_l3, cx50_l4, cx50_l5, cx50_l6, cx50_l7, cx50_l8, cx50_l9, cx50_l10, cx50_l11, cx50_p1, cx50_p8, cx50_p10, cx50_pu, Try.f50.eq_1, ty_arrOf_120, ty_arrOf_3, ty_arrOf_64, ty_arrOf_98, ty_bytesE_120, ty_eqTy_64, ty_fldOf_122_0, ty_fldOf_122_1, ty_fldOf_122_2, ty_fldOf_122_3, ty_fldOf_122_4, ty_fldOf_124_0, ty_fldOf_124_1, ty_fldOf_124_2, ty_fldOf_64_0, ty_fldOf_64_1, ty_fldOf_64_2, ty_fldOf_64_3, ty_intOf_3, ty_isInt_3, ty_notInt_3, ty_lay_120, ty_lay_124, ty_lay_3, ty_lay_64, ty_lay_98, ty_notInt_120, ty_notInt_64, ty_notInt_98, ty_placesOf_122, ty_placesOf_124, ty_placesOf_64, ty_slcOf_120, ty_slcOf_3, ty_slcOf_64, ty_slcOf_98, ty_zeroA_122, ty_zeroA_124, ty_zeroA_3, ty_zeroA_64, ty_zeroE_120, valK_some, newK_some, effK_some, opE_move, opE_assign, opE_pick, opE_build, opE_load, opE_nilCheck, opE_bin, opE_un, opE_fieldAddr, opE_indexAddr, opE_len, opE_max, opE_alloc, opE_box, opE_buildSlice, callK_fn, callK_yld, callG_some, callG_none, appK_some, opE_store_r, opE_call_r, opE_append_r, opE_store_w, opE_call_w, opE_append_w, ev_seq, ev_skip, ev_label, ev_region, ev_draw, evDO_some, ev_cond, condC_some, brC_true, brC_false, ev_block, ev_scope, ev_exit, ev_ret, nx_seq, nx_seqE, nx_seqR, nx_blk, nx_blkE, nx_blkR, nx_top, nx_topR, topO_some, evR_nil, wantK_tup, wantK_tt, wantK_ff, wantK_tf, wantK_ft, evR_op, evR_guard, evD_nil, evD_row, rowK_eff, rowK_calm, rowK_guard, rowG_tup, rowG_tt, rowG_ff, rowG_tf, rowG_ft, rowN_eq, chkA_nil, chkA_cons, chkO_some, chkW_false, sameO_some, chkW_load, chkW_len, finK_reg, finK_row, finK_calm, finN_reg, finN_row, finN_calm, nid_reg, nid_row, nid_calm, getT_cons, putT_some, putT_none, trimT_some, trimT_none, keepT_nil, keepT_cons, consT_some, consT_none, getT_nil, getO_tmp, getO_const, getO_func, ofC_int, ofC_bool, ofC_ptr, ofC_slc, ofC_map, ofC_fn, getOs_nil, getOs_cons, consO_some, guardT_eq, guardO_some, wantA_none, wantA_some, wantO_tup, wantO_tt, wantO_ff, wantO_tf, wantO_ft, hget_cons, hset_cons, hdel_cons, memb_nil, memb_cons, hideH_cons, showH_cons, hideH_none, showH_none, showH_nil, outs_nil, outs_cons, app_nil, nil_app, cons_app, dropO_some, dropO_none, rowOf_cons, wrap_lit, wrap_neg, top_i64, bot_i64, bits_i64, cast_lit, toNat_lit, get_zero, get_succ, take_zero, take_succ, set_zero, set_succ, length_nil, length_cons, length_set, append_nil, nil_append, cons_append, toList_arr, rep_zero, rep_succ, bnot_true, bnot_false, band_true, band_false, beq_tt, beq_ff, beq_tf, beq_ft, beq_nat, beq_int, bne_nat, map_some, map_none, true_eq_false, false_eq_true, true_eq_true, fbody_mk, fresults_mk, getD_some, bol_true, binO_some, bin_eql, bin_neq, bin_beql, bin_bneq, eqO_eq, eqO_ne, bin_aeql, bin_aneq, bin_reql, bin_rneq, aggEq_some, flatL_nil, flatL_cons, appV_some, flatV_int, flatV_bool, flatV_agg, flatV_rows, bin_feql, bin_fneq, bin_nfeql, bin_nfneq, bin_peql, bin_pneq, bin_npeql, bin_npneq, unO_some, un_not, pickA_true, pickA_false, nilO_some, nilA_ptr, nilA_fn, nilA_yld, nilA_map, nilA_slc, size_int, size_bool, size_str, size_ptr, size_nilp, size_slc, size_nils, size_map, size_nilm, size_fn, size_yld, size_nilf, size_agg, size_rows, sizeL_nil, sizeL_cons, layOK_int, layOK_bool, layOK_str, layOK_ptr, layOK_nilp, layOK_slc, layOK_nils, layOK_map, layOK_nilm, layOK_fn, layOK_yld, layOK_nilf, layOK_agg, layOK_rows, isTup_int, isTup_bool, isTup_str, isTup_ptr, isTup_nilp, isTup_slc, isTup_nils, isTup_map, isTup_nilm, isTup_fn, isTup_yld, isTup_nilf, isTup_agg, isTup_rows, getP_nil, getP_cons, getS_some, stepP_agg, stepP_rows, putP_nil, putP_cons, putS_some, putU_some, setS_agg, setS_rows, loadO_some, loadA_ptr, loadE_cel, loadE_vec, loadE_ro, chkL_some, storeO_some, stH_some, storeA_ptr, storeE_cel, storeE_vec, storeB_cel, faO_some, fa_ptr, iaO_some, newA_some, partsO_nil, partsO_cons, buildA_some, fillP_nil, fillP_cons, fillN_some, setA_agg, setA_rows, setC_some, setD_some, fillQ_nil, fillQ_cons, fillM_some, fitZ_some, bs_some, bsO_some, slN_some, builtO_some, len_slc, len_nils, len_rows, arN_some, max_two, appO_some, apO_some, own_nils, own_slc, more_nils, more_slc, resF_eq, resAll_nil, resAll_cons, resOne_tmp, resOne_cell, tupO_none, tupO_one, tupO_more, argT_nil, argT_cons, lookU_nil, lookU_cons, lookL_cons, lookL_nil, lookP_cons, roundS_eq, mbin_add, mun_neg, wrapO_lit, wrapO_neg, mia_ptr, mia_slc, mstoreB_vec, mowO_vec, len_set, not_tf, not_ft, and_tf, not_not_b, alt_true, alt_false, pick_alt, bol_false, getS_bol, getS_alt, chkL_bol, chkL_alt, putS_bol, putS_alt, putU_bol, putU_alt, storeB_bol, storeB_alt, stH_bol, stH_alt, consO_bol, consO_bol2, tupO_bol, apO_bol, apO_bol2, fillN_bol, fillM_bol, eqO_bol, bol_bol, get_mapB, get_setB, get_appB, len_map, len_app, nat_zero_add, take_map, take_self, drop_zero, elemsE_vec, elemsE_ro, elemsE_cel, elemsC_rows, elemsC_bol, bin_nsleql, bin_nslneq, bin_nnleql, bin_nnlneq, slN_bol, beq_str, roomOk_eq, roomB_some, appK_none, appG_some, hideH_nil, and_self, and_true, true_and, and_false, false_and]) (apply chkW_want) (apply chkW_wantA) (apply valK_bolB; · finish (splits := 3) (ematch := 1)) (apply valK_altT; · finish (splits := 3) (ematch := 1)) (apply valK_altF; · finish (splits := 3) (ematch := 1)) (apply valK_altB) (apply brC_t; · finish (splits := 3) (ematch := 1)) (apply brC_f; · finish (splits := 3) (ematch := 1)) (apply brC_sBN) (apply brC_sB) (apply wantK_t; · finish (splits := 3) (ematch := 1)) (apply wantK_f; · finish (splits := 3) (ematch := 1)) (apply wantK_sBN) (apply wantK_sB) (apply rowG_t; · finish (splits := 3) (ematch := 1)) (apply rowG_f; · finish (splits := 3) (ematch := 1)) (apply rowG_sBN) (apply rowG_sB) (intro~ hr) (tactic => first | omega | (refine ⟨1, 13, _, _, _, _, _, by decide, rfl, rfl, rfl, rfl, ?_⟩; refine reidP_of [0, 1, 3] _ _ rfl rfl rfl ?_ ?_ ?_ ⟨cap, rfl, rfl, rfl⟩ <;> simp [subH, okW, hget, hset, hdel, idx, AV.ren, renL, Ent.ren, Ent.writes, setS, renL_set, renL_app, map_set_last, nodes_ren, nodeV, eFrag_ren, pushP, *]; done) | (refine ⟨4, 13, _, hr, _, _, _, by decide, rfl, rfl, rfl, rfl, ?_⟩; refine reidP_of [0, 1, 5] _ _ rfl rfl rfl ?_ ?_ ?_ ⟨hr, rfl, rfl, rfl⟩ <;> simp [subH, okW, hget, hset, hdel, idx, AV.ren, renL, Ent.ren, Ent.writes, setS, renL_set, renL_app, map_set_last, nodes_ren, nodeV, eFrag_ren, pushP, *])))
-- Chapter 19, plain laws: nodes, heads and chains of what was stored (the last one first).
/-- The node of a pixel that was stored last. -/
def lstR : List TFrag → Int → Int → Int
  | [], _, _ => -1
  | f :: r, x, y => if f.x = x ∧ f.y = y then (r.length : Int) else lstR r x y
def nodesR : List TFrag → List Node
  | [] => []
  | f :: r => nodesR r ++ [(f, lstR r f.x f.y, true)]
theorem lstR_cons (f : TFrag) (r : List TFrag) (x y : Int) : lstR (f :: r) x y = if f.x = x ∧ f.y = y then (r.length : Int) else lstR r x y := rfl
theorem nodesR_cons (f : TFrag) (r : List TFrag) : nodesR (f :: r) = nodesR r ++ [(f, lstR r f.x f.y, true)] := rfl
theorem nodesR_len : ∀ R, (nodesR R).length = R.length
  | [] => rfl
  | f :: r => by unfold nodesR; rw [List.length_append, nodesR_len r]; rfl
theorem lstR_rng : ∀ (R : List TFrag) (x y : Int), lstR R x y = -1 ∨ (0 ≤ lstR R x y ∧ lstR R x y < (R.length : Int))
  | [], x, y => .inl rfl
  | f :: r, x, y => by
    rw [lstR_cons]
    split
    · right; rw [List.length_cons]; omega
    · rcases lstR_rng r x y with h | h
      · exact .inl h
      · right; rw [List.length_cons]; omega
/-- The nodes of a pixel, from one on. -/
def chR : List TFrag → Int → Int → List Nat
  | [], _, _ => []
  | f :: r, x, y => if f.x = x ∧ f.y = y then r.length :: chR r x y else chR r x y
theorem chR_cons (f : TFrag) (r : List TFrag) (x y : Int) : chR (f :: r) x y = if f.x = x ∧ f.y = y then r.length :: chR r x y else chR r x y := rfl
def nG (ns : List Node) (j : Nat) : Node := ns.getD j default
def chN (ns : List Node) : Int → List Nat → Prop
  | h, [] => h = -1
  | h, j :: r => (h = (j : Int) ∧ j < ns.length ∧ (nG ns j).2.2 = true) ∧ chN ns (nG ns j).2.1 r
theorem nG_app {ns : List Node} {v : Node} {j : Nat} (h : j < ns.length) : nG (ns ++ [v]) j = nG ns j := by
  unfold nG
  rw [List.getD_eq_getElem?_getD, List.getElem?_append_left h, ← List.getD_eq_getElem?_getD]
theorem nG_last (ns : List Node) (v : Node) : nG (ns ++ [v]) ns.length = v := by
  unfold nG
  rw [List.getD_eq_getElem?_getD, List.getElem?_append_right (Nat.le_refl _), Nat.sub_self]; rfl
theorem chN_app {v : Node} : ∀ {js : List Nat} {ns : List Node} {h : Int}, chN ns h js → chN (ns ++ [v]) h js
  | [], ns, h, hc => hc
  | j :: r, ns, h, hc => by
    obtain ⟨⟨h1, h2, h3⟩, h4⟩ := hc
    refine ⟨⟨h1, by rw [List.length_append]; omega, by rw [nG_app h2]; exact h3⟩, ?_⟩
    rw [nG_app h2]; exact chN_app h4
theorem chR_ok : ∀ (R : List TFrag) (x y : Int), chN (nodesR R) (lstR R x y) (chR R x y)
  | [], x, y => rfl
  | f :: r, x, y => by
    rw [nodesR_cons, lstR_cons, chR_cons]
    by_cases h : f.x = x ∧ f.y = y
    · rw [if_pos h, if_pos h]
      have e : nG (nodesR r ++ [(f, lstR r f.x f.y, true)]) r.length = (f, lstR r f.x f.y, true) := by
        have := nG_last (nodesR r) (f, lstR r f.x f.y, true)
        rwa [nodesR_len] at this
      refine ⟨⟨rfl, by rw [List.length_append, nodesR_len]; exact Nat.lt_succ_self _, by rw [e]⟩, ?_⟩
      rw [e]
      show chN _ (lstR r f.x f.y) (chR r x y)
      rw [h.1, h.2]
      exact chN_app (chR_ok r x y)
    · rw [if_neg h, if_neg h]
      exact chN_app (chR_ok r x y)
theorem chR_lt : ∀ {R : List TFrag} {x y : Int} {j : Nat}, j ∈ chR R x y → j < R.length
  | [], x, y, j, h => by simp [chR] at h
  | f :: r, x, y, j, h => by
    rw [chR_cons] at h
    rw [List.length_cons]
    split at h
    · rcases List.mem_cons.1 h with rfl | h
      · exact Nat.lt_succ_self _
      · have := chR_lt h; omega
    · have := chR_lt h; omega
/-- What is stored of a pixel, the last one first. -/
def pixR (R : List TFrag) (x y : Int) : List TFrag := R.filter fun f => decide (f.x = x ∧ f.y = y)
theorem chR_frags : ∀ (R : List TFrag) (x y : Int), (chR R x y).map (fun j => (nG (nodesR R) j).1) = pixR R x y
  | [], x, y => rfl
  | f :: r, x, y => by
    have ih := chR_frags r x y
    have e : ∀ js : List Nat, (∀ j, j ∈ js → j < r.length) → js.map (fun j => (nG (nodesR (f :: r)) j).1) = js.map (fun j => (nG (nodesR r) j).1) := by
      intro js hj
      apply List.map_congr_left
      intro j hjm
      show (nG (nodesR r ++ [_]) j).1 = _
      rw [nG_app (by rw [nodesR_len]; exact hj j hjm)]
    rw [chR_cons]
    unfold pixR
    rw [List.filter_cons]
    by_cases h : f.x = x ∧ f.y = y
    · rw [if_pos h, if_pos (by simpa using h), List.map_cons, e _ (fun j hj => chR_lt hj), ih]
      have := nG_last (nodesR r) (f, lstR r f.x f.y, true)
      rw [nodesR_len] at this
      show (nG (nodesR r ++ [_]) r.length).1 :: _ = _
      rw [this]; rfl
    · rw [if_neg h, if_neg (by simpa using h), e _ (fun j hj => chR_lt hj), ih]; rfl
/-- The heads: a map from places. -/
structure HE where
  x : Int
  y : Int
  n : Int
def atH : List HE → Int → Int → Int
  | [], _, _ => -1
  | e :: r, x, y => if e.x = x ∧ e.y = y then e.n else atH r x y
def inH : List HE → Int → Int → Bool
  | [], _, _ => false
  | e :: r, x, y => if e.x = x ∧ e.y = y then true else inH r x y
def setH : List HE → Int → Int → Int → List HE
  | [], x, y, v => [⟨x, y, v⟩]
  | e :: r, x, y, v => if e.x = x ∧ e.y = y then ⟨x, y, v⟩ :: r else e :: setH r x y v
theorem atH_set : ∀ (M : List HE) (x y v x2 y2 : Int), atH (setH M x y v) x2 y2 = if x = x2 ∧ y = y2 then v else atH M x2 y2
  | [], x, y, v, x2, y2 => rfl
  | e :: r, x, y, v, x2, y2 => by
    unfold setH
    by_cases h : e.x = x ∧ e.y = y
    · rw [if_pos h]
      unfold atH
      by_cases h2 : x = x2 ∧ y = y2
      · rw [if_pos h2, if_pos h2]
      · rw [if_neg h2, if_neg h2, if_neg (by intro h3; apply h2; omega)]
    · rw [if_neg h]
      unfold atH
      by_cases h3 : e.x = x2 ∧ e.y = y2
      · rw [if_pos h3, if_pos h3, if_neg (by intro h2; apply h; omega)]
      · rw [if_neg h3, if_neg h3, atH_set r x y v x2 y2]
theorem atH_no : ∀ {M : List HE} {x y : Int}, inH M x y = false → atH M x y = -1
  | [], x, y, h => rfl
  | e :: r, x, y, h => by
    unfold inH at h
    unfold atH
    split at h
    · cases h
    · rename_i hn; rw [if_neg hn]; exact atH_no h
def hW (M : List HE) : List (AV × AV) := M.map fun e => (.rows 1 [.int .i64 e.x, .int .i64 e.y], .int .i64 e.n)
theorem hW_nil : hW [] = [] := rfl
theorem hW_keys : ∀ M : List HE, keyzB (some (true, 2)) (hW M) = true
  | [] => rfl
  | e :: r => by
    show ((keyO (some (true, 2)) (.rows 1 [.int .i64 e.x, .int .i64 e.y])).isSome && keyzB (some (true, 2)) (hW r)) = true
    rw [hW_keys r]; rfl
theorem findH_cons (e : HE) (r : List HE) (x y : Int) (i : Nat) : findI (some (true, 2)) [x, y] (hW (e :: r)) i = if e.x = x ∧ e.y = y then some (i, .int .i64 e.n) else findI (some (true, 2)) [x, y] (hW r) (i + 1) := by
  show (if keyO (some (true, 2)) (.rows 1 [.int .i64 e.x, .int .i64 e.y]) = some [x, y] then some (i, AV.int .i64 e.n) else findI (some (true, 2)) [x, y] (hW r) (i + 1)) = _
  by_cases h : e.x = x ∧ e.y = y
  · rw [if_pos h, if_pos (by rw [h.1, h.2]; rfl)]
  · rw [if_neg h, if_neg]
    intro h2
    have h3 : some [e.x, e.y] = some [x, y] := h2
    injection h3 with h3
    injection h3 with h3 h4
    injection h4 with h4 h5
    exact h ⟨h3, h4⟩
theorem lookH_gen : ∀ (M : List HE) (x y : Int) (i : Nat), lookOut true (.int .i64 0) (findI (some (true, 2)) [x, y] (hW M) i) = .tup [.int .i64 (if inH M x y = true then atH M x y else 0), .bool (inH M x y)]
  | [], x, y, i => rfl
  | e :: r, x, y, i => by
    rw [findH_cons]
    unfold inH atH
    by_cases h : e.x = x ∧ e.y = y
    · rw [if_pos h, if_pos h, if_pos h]; rfl
    · rw [if_neg h, if_neg h, if_neg h]; exact lookH_gen r x y (i + 1)
theorem setH_gen : ∀ (M : List HE) (x y v : Int) (i : Nat), (match findI (some (true, 2)) [x, y] (hW M) i with | some (q, _) => i ≤ q ∧ (hW M).set (q - i) (.rows 1 [.int .i64 x, .int .i64 y], .int .i64 v) = hW (setH M x y v) | none => hW M ++ [(.rows 1 [.int .i64 x, .int .i64 y], .int .i64 v)] = hW (setH M x y v))
  | [], x, y, v, i => rfl
  | e :: r, x, y, v, i => by
    rw [findH_cons]
    unfold setH
    by_cases h : e.x = x ∧ e.y = y
    · rw [if_pos h, if_pos h]
      refine ⟨Nat.le_refl _, ?_⟩
      rw [Nat.sub_self]; rfl
    · rw [if_neg h, if_neg h]
      have ih := setH_gen r x y v (i + 1)
      revert ih
      split
      · rename_i q w hq
        intro ih
        refine ⟨by omega, ?_⟩
        obtain ⟨t, rfl⟩ : ∃ t, q = i + 1 + t := ⟨q - (i + 1), by omega⟩
        have e2 := ih.2
        rw [show i + 1 + t - (i + 1) = t by omega] at e2
        rw [show i + 1 + t - i = t + 1 by omega]
        show _ :: (hW r).set t _ = _ :: hW (setH r x y v)
        rw [e2]
      · intro ih
        show _ :: (hW r ++ _) = _ :: hW (setH r x y v)
        rw [ih]
theorem hW_set (M : List HE) (x y v : Int) : setI (hW M) (.rows 1 [.int .i64 x, .int .i64 y]) (.int .i64 v) (findI (some (true, 2)) [x, y] (hW M) 0) = hW (setH M x y v) := by
  have h := setH_gen M x y v 0
  unfold setI
  revert h
  split
  · rename_i q w hq
    rw [hq]
    intro h
    rw [Nat.sub_zero] at h
    exact h.2
  · rename_i hq
    rw [hq]; exact id
theorem lookC_hW (z : AV) (M : List HE) (l : List Int) (ok : Bool) : lookC (some (true, 2)) (some z) (some (hW M)) (some l) ok = some (lookOut ok z (findI (some (true, 2)) l (hW M) 0)) := by unfold lookC; simp only [hW_keys, if_true]
theorem putC_hW (M : List HE) (l : List Int) (x y : AV) : putC (some (true, 2)) (some (hW M)) (some l) x y = some (.mp (setI (hW M) x y (findI (some (true, 2)) l (hW M) 0))) := by unfold putC; simp only [hW_keys, if_true]
theorem hW_look (M : List HE) (x y : Int) : lookOut true (.int .i64 0) (findI (some (true, 2)) [x, y] (hW M) 0) = .tup [.int .i64 (if inH M x y = true then atH M x y else 0), .bool (inH M x y)] := lookH_gen M x y 0
/-- The heads of what was stored. -/
def headR : List TFrag → List HE
  | [] => []
  | f :: r => setH (headR r) f.x f.y (r.length : Int)
theorem headR_at : ∀ (R : List TFrag) (x y : Int), atH (headR R) x y = lstR R x y
  | [], x, y => rfl
  | f :: r, x, y => by
    rw [lstR_cons]
    show atH (setH (headR r) f.x f.y (r.length : Int)) x y = _
    rw [atH_set, headR_at r x y]
-- Chapter 19, plain laws: a row that is turned about, two by two.
def rvK (n i k : Nat) : Nat := if k < i ∨ n - i ≤ k then n - 1 - k else k
/-- A row of which so many at both ends have changed places. -/
def rvL (l : List TFrag) (i : Nat) : List TFrag := (List.range l.length).map fun k => l.getD (rvK l.length i k) default
theorem rvL_len (l : List TFrag) (i : Nat) : (rvL l i).length = l.length := by unfold rvL; rw [List.length_map, List.length_range]
theorem rvL_get {l : List TFrag} {i k : Nat} (h : k < (rvL l i).length) : (rvL l i)[k] = l.getD (rvK l.length i k) default := by
  simp only [rvL, List.getElem_map, List.getElem_range]
theorem getD_get {l : List TFrag} {k : Nat} (h : k < l.length) : l.getD k default = l[k] := by
  rw [List.getD_eq_getElem?_getD, List.getElem?_eq_getElem h]; rfl
theorem rvL_zero (l : List TFrag) : rvL l 0 = l := by
  apply List.ext_getElem
  · exact rvL_len l 0
  · intro k h1 h2
    rw [rvL_get h1]
    have e : rvK l.length 0 k = k := by unfold rvK; rw [if_neg (by omega)]
    rw [e, getD_get h2]
theorem rvL_end {l : List TFrag} {i : Nat} (h : l.length ≤ 2 * i + 1) : rvL l i = l.reverse := by
  apply List.ext_getElem
  · rw [rvL_len, List.length_reverse]
  · intro k h1 h2
    rw [rvL_get h1, List.getElem_reverse]
    rw [rvL_len] at h1
    have e : rvK l.length i k = l.length - 1 - k := by
      unfold rvK
      split
      · rfl
      · omega
    rw [e, getD_get (by omega)]
theorem rvL_lo {l : List TFrag} {i : Nat} (h : i + 1 < l.length - i) : (rvL l i).getD i default = l.getD i default := by
  rw [getD_get (by rw [rvL_len]; omega), rvL_get]
  have e : rvK l.length i i = i := by unfold rvK; rw [if_neg (by omega)]
  rw [e]
theorem rvL_hi {l : List TFrag} {i : Nat} (h : i + 1 < l.length - i) : (rvL l i).getD (l.length - 1 - i) default = l.getD (l.length - 1 - i) default := by
  rw [getD_get (by rw [rvL_len]; omega), rvL_get]
  have e : rvK l.length i (l.length - 1 - i) = l.length - 1 - i := by unfold rvK; rw [if_neg (by omega)]
  rw [e]
theorem rvL_next {l : List TFrag} {i : Nat} (h : i + 1 < l.length - i) : ((rvL l i).set i (l.getD (l.length - 1 - i) default)).set (l.length - 1 - i) (l.getD i default) = rvL l (i + 1) := by
  apply List.ext_getElem
  · rw [List.length_set, List.length_set, rvL_len, rvL_len]
  · intro k h1 h2
    rw [rvL_get h2, List.getElem_set, List.getElem_set]
    rw [rvL_len] at h2
    by_cases e1 : l.length - 1 - i = k
    · rw [if_pos e1]
      have e : rvK l.length (i + 1) k = i := by unfold rvK; rw [if_pos (by omega)]; omega
      rw [e]
    · rw [if_neg e1]
      by_cases e2 : i = k
      · rw [if_pos e2]
        have e : rvK l.length (i + 1) k = l.length - 1 - i := by unfold rvK; rw [if_pos (by omega)]; omega
        rw [e]
      · rw [if_neg e2, rvL_get]
        have e : rvK l.length (i + 1) k = rvK l.length i k := by
          unfold rvK
          by_cases hc : k < i ∨ l.length - i ≤ k
          · rw [if_pos hc, if_pos (by omega)]
          · rw [if_neg hc, if_neg (by omega)]
        rw [e]
-- Chapter 19: the buffer: made, told where, put.
noncomputable def cx49 : Cx := ⟨Try.prog, [], [(1, ⟨0, (⟨0, false, [], [], [], 0⟩ :: ⟨1, false, [], [], [], 0⟩ :: ⟨2, false, [0, 1], [], [], 0⟩ :: ⟨3, false, [], [], [], 0⟩ :: ⟨4, false, [], [], [], 0⟩ :: ⟨5, false, [4], [], [], 0⟩ :: ⟨6, false, [3, 5], [], [], 0⟩ :: ⟨7, false, [5, 6], [], [], 0⟩ :: ⟨8, false, [7], [], [], 0⟩ :: ⟨9, false, [7], [], [], 0⟩ :: ⟨10, false, [7, 9], [], [], 0⟩ :: ⟨11, false, [7, 8, 10], [], [], 0⟩ :: ⟨12, false, [7, 10, 11], [], [], 0⟩ :: ⟨13, false, [5, 10, 12], [], [], 0⟩ :: ⟨14, false, [13], [], [], 0⟩ :: ⟨15, false, [13], [], [], 0⟩ :: ⟨16, false, [13, 15], [], [], 0⟩ :: ⟨17, false, [13, 14, 16], [], [], 0⟩ :: ⟨18, false, [13, 16, 17], [], [], 0⟩ :: ⟨19, false, [5, 10, 16, 18], [], [], 0⟩ :: ⟨20, false, [19], [], [], 0⟩ :: ⟨21, false, [19], [], [], 0⟩ :: ⟨22, false, [19, 21], [], [], 0⟩ :: ⟨23, false, [19, 20, 22], [], [], 0⟩ :: ⟨24, false, [19, 23], [], [], 0⟩ :: ⟨25, true, [2, 5, 10, 16], [22], [], 0⟩ :: ⟨26, false, [24, 25], [], [], 0⟩ :: [])⟩)], [(0, [6, 3, 2, 1]), (1, [7, 6])]⟩
theorem cx49_P : cx49.P = Try.prog := rfl
theorem cx49_l0 : lookL 0 cx49.lv = some [6, 3, 2, 1] := rfl
theorem cx49_l1 : lookL 1 cx49.lv = some [7, 6] := rfl
theorem cx49_p1 : lookP 1 cx49.pl = some ⟨0, (⟨0, false, [], [], [], 0⟩ :: ⟨1, false, [], [], [], 0⟩ :: ⟨2, false, [0, 1], [], [], 0⟩ :: ⟨3, false, [], [], [], 0⟩ :: ⟨4, false, [], [], [], 0⟩ :: ⟨5, false, [4], [], [], 0⟩ :: ⟨6, false, [3, 5], [], [], 0⟩ :: ⟨7, false, [5, 6], [], [], 0⟩ :: ⟨8, false, [7], [], [], 0⟩ :: ⟨9, false, [7], [], [], 0⟩ :: ⟨10, false, [7, 9], [], [], 0⟩ :: ⟨11, false, [7, 8, 10], [], [], 0⟩ :: ⟨12, false, [7, 10, 11], [], [], 0⟩ :: ⟨13, false, [5, 10, 12], [], [], 0⟩ :: ⟨14, false, [13], [], [], 0⟩ :: ⟨15, false, [13], [], [], 0⟩ :: ⟨16, false, [13, 15], [], [], 0⟩ :: ⟨17, false, [13, 14, 16], [], [], 0⟩ :: ⟨18, false, [13, 16, 17], [], [], 0⟩ :: ⟨19, false, [5, 10, 16, 18], [], [], 0⟩ :: ⟨20, false, [19], [], [], 0⟩ :: ⟨21, false, [19], [], [], 0⟩ :: ⟨22, false, [19, 21], [], [], 0⟩ :: ⟨23, false, [19, 20, 22], [], [], 0⟩ :: ⟨24, false, [19, 23], [], [], 0⟩ :: ⟨25, true, [2, 5, 10, 16], [22], [], 0⟩ :: ⟨26, false, [24, 25], [], [], 0⟩ :: [])⟩ := rfl
theorem cx49_pu : cx49.pu = [] := rfl
theorem cx49_ok : okc cx49 Try.f49.ntmps (Try.f49.body.getD .skip) = true := by kernel_rfl
theorem enter49 {args : List AV} {H : Hp} {n : Nat} {Q : AV → Hp → Nat → Prop} (h : args.length ≤ 33 ∧ Ev cx49 ⟨33, n, none, 49⟩ (Try.f49.body.getD .skip) ⟨argT 0 args, H, n⟩ (.top Try.f49.results.toList Q)) : callA Try.prog 49 args H n Q :=
  callA_ev (cx := cx49) puOk_nil (f := 49) (fn := Try.f49) Try.func49 rfl (by kernel_rfl) h.1 cx49_ok h.2
/-- A place of a tile. -/
def inT (a b c d x y : Int) : Bool := decide (a ≤ x) && (decide (x < c) && (decide (b ≤ y) && decide (y < d)))
theorem at_1 {a b c d x y : Int} (h1 : a ≤ x) (h2 : x < c) (h3 : b ≤ y) : (if y < d then true else false) = inT a b c d x y := by simp [inT, h1, h2, h3]
theorem at_2 {a b c d x y : Int} (h3 : ¬ b ≤ y) : false = inT a b c d x y := by simp [inT, h3]
theorem at_3 {a b c d x y : Int} (h2 : ¬ x < c) : false = inT a b c d x y := by simp [inT, h2]
theorem at_4 {a b c d x y : Int} (h1 : ¬ a ≤ x) : false = inT a b c d x y := by simp [inT, h1]
theorem at_t {p q : Bool} {x y : Int} (h : p = q) : AV.tup [.rows 1 [.int .i64 x, .int .i64 y], .bool p] = .tup [.rows 1 [.int .i64 x, .int .i64 y], .bool q] := by rw [h]
theorem at_use {a b c d x y : Int} {H : Hp} {n : Nat} {Q : AV → Hp → Nat → Prop} (hq : Q (.tup [.rows 1 [.int .i64 x, .int .i64 y], .bool (inT a b c d x y)]) H n) : callA Try.prog 49 [.agg [.int .i64 a, .int .i64 b, .int .i64 c, .int .i64 d], .int .i64 x, .int .i64 y] H n Q := by
  refine callA_pure ?_ rfl (by rfl) hq
  by_cases h1 : a ≤ x <;> by_cases h2 : x < c <;> by_cases h3 : b ≤ y
  all_goals
    first | have e1 := eq_false h1 | have e1 := eq_true h1
    first | have e2 := eq_false h2 | have e2 := eq_true h2
    first | have e3 := eq_false h3 | have e3 := eq_true h3
    show callA _ _ _ _ _ _
    sym =>
      repeat (first (apply enter49) (apply imp_go; intro hp) (apply valK_w64; · finish (splits := 3) (ematch := 1)) (apply valK_wu8; · finish (splits := 3) (ematch := 1)) (apply valK_wu64; · finish (splits := 3) (ematch := 1)) (apply valK_w32; · finish (splits := 3) (ematch := 1)) (apply valK_wu16; · finish (splits := 3) (ematch := 1)) (apply valK_wu32; · finish (splits := 3) (ematch := 1)) (apply valK_wr) (apply valK_andR) (apply valK_quo; · finish (splits := 3) (ematch := 1)) (apply valK_quoR; · finish (splits := 3) (ematch := 1)) (apply valK_rem; · finish (splits := 3) (ematch := 1)) (apply valK_remR; · finish (splits := 3) (ematch := 1)) (apply valK_bol; · finish (splits := 3) (ematch := 1)) (apply effK_bol; · finish (splits := 3) (ematch := 1)) (apply newK_bol; · finish (splits := 3) (ematch := 1)) (apply appK_bol; · finish (splits := 3) (ematch := 1)) (apply topO_bol; · finish (splits := 3) (ematch := 1)) (apply valK_altY; · finish (splits := 3) (ematch := 1)) (apply valK_altN; · finish (splits := 3) (ematch := 1)) (apply effK_altY; · finish (splits := 3) (ematch := 1)) (apply effK_altN; · finish (splits := 3) (ematch := 1)) (apply valK_altNY; · finish (splits := 3) (ematch := 1)) (apply valK_altNN; · finish (splits := 3) (ematch := 1)) (apply valK_altS) (apply valK_altNS) (apply effK_altS) (apply appS_go) (apply brC_y; · finish (splits := 3) (ematch := 1)) (apply brC_n; · finish (splits := 3) (ematch := 1)) (apply brC_yN; · finish (splits := 3) (ematch := 1)) (apply brC_nN; · finish (splits := 3) (ematch := 1)) (apply brC_s) (apply brC_sN) (apply wantK_y; · finish (splits := 3) (ematch := 1)) (apply wantK_n; · finish (splits := 3) (ematch := 1)) (apply wantK_yN; · finish (splits := 3) (ematch := 1)) (apply wantK_nN; · finish (splits := 3) (ematch := 1)) (apply wantK_s) (apply wantK_sN) (apply rowG_y; · finish (splits := 3) (ematch := 1)) (apply rowG_n; · finish (splits := 3) (ematch := 1)) (apply rowG_yN; · finish (splits := 3) (ematch := 1)) (apply rowG_nN; · finish (splits := 3) (ematch := 1)) (apply rowG_s) (apply rowG_sN) (simp [e1, e2, e3, e17Op_eq, e19Op_eq, eAbuffertile_eq, eColour_eq, eFrag_eq, eKey_eq, cx49_P, cx49_l0, cx49_l1, cx49_p1, cx49_pu, Try.f49.eq_1, ty_arrOf_3, ty_arrOf_37, ty_arrOf_96, ty_fldOf_96_0, ty_fldOf_96_1, ty_fldOf_96_2, ty_fldOf_96_3, ty_intOf_3, ty_isInt_3, ty_notInt_3, ty_lay_3, ty_lay_37, ty_lay_96, ty_notInt_37, ty_notInt_96, ty_placesOf_37, ty_placesOf_96, ty_slcOf_3, ty_slcOf_37, ty_slcOf_96, ty_zeroA_3, ty_zeroA_37, ty_zeroA_96, valK_some, newK_some, effK_some, opE_move, opE_assign, opE_pick, opE_build, opE_load, opE_bin, opE_un, opE_fieldAddr, opE_alloc, opE_box, opE_store_r, opE_store_w, opE_call_w, ev_seq, ev_skip, ev_label, ev_region, ev_draw, evDO_some, ev_cond, condC_some, brC_true, brC_false, ev_block, ev_scope, ev_exit, ev_ret, nx_seq, nx_seqE, nx_seqR, nx_blk, nx_blkE, nx_blkR, nx_top, nx_topR, topO_some, evR_nil, wantK_tup, wantK_tt, wantK_ff, wantK_tf, wantK_ft, evR_op, evR_guard, evD_nil, evD_row, rowK_eff, rowK_calm, rowK_guard, rowG_tup, rowG_tt, rowG_ff, rowG_tf, rowG_ft, rowN_eq, chkA_nil, chkA_cons, chkO_some, chkW_false, sameO_some, chkW_load, chkW_len, finK_reg, finK_row, finK_calm, finN_reg, finN_row, finN_calm, nid_reg, nid_row, nid_calm, getT_cons, putT_some, putT_none, trimT_some, trimT_none, keepT_nil, keepT_cons, consT_some, consT_none, getT_nil, getO_tmp, getO_const, getO_func, ofC_int, ofC_bool, ofC_ptr, ofC_slc, ofC_map, ofC_fn, getOs_nil, getOs_cons, consO_some, guardT_eq, guardO_some, wantA_none, wantA_some, wantO_tup, wantO_tt, wantO_ff, wantO_tf, wantO_ft, hget_cons, hset_cons, memb_nil, memb_cons, hideH_cons, showH_cons, hideH_none, showH_none, showH_nil, outs_nil, outs_cons, app_nil, nil_app, cons_app, rowOf_cons, wrap_lit, wrap_neg, cast_lit, toNat_lit, get_zero, get_succ, take_zero, take_succ, set_zero, set_succ, length_nil, length_cons, length_set, append_nil, nil_append, cons_append, toList_arr, bnot_true, bnot_false, band_true, band_false, beq_tt, beq_ff, beq_tf, beq_ft, beq_nat, beq_int, bne_nat, map_some, map_none, true_eq_false, false_eq_true, true_eq_true, fbody_mk, fresults_mk, getD_some, bol_true, binO_some, bin_lss, bin_geq, pickA_true, pickA_false, size_int, size_bool, size_str, size_ptr, size_nilp, size_slc, size_nils, size_map, size_nilm, size_fn, size_nilf, size_agg, size_rows, sizeL_nil, sizeL_cons, layOK_int, layOK_bool, layOK_str, layOK_ptr, layOK_nilp, layOK_slc, layOK_nils, layOK_map, layOK_nilm, layOK_fn, layOK_nilf, layOK_agg, layOK_rows, isTup_int, isTup_bool, isTup_str, isTup_ptr, isTup_nilp, isTup_slc, isTup_nils, isTup_map, isTup_nilm, isTup_fn, isTup_nilf, isTup_agg, isTup_rows, getP_nil, getP_cons, getS_some, stepP_agg, stepP_rows, putP_nil, putP_cons, putS_some, putU_some, setS_agg, setS_rows, loadO_some, loadA_ptr, loadE_cel, loadE_vec, loadE_ro, chkL_some, storeO_some, stH_some, storeA_ptr, storeE_cel, storeE_vec, storeB_cel, faO_some, fa_ptr, newA_some, partsO_nil, partsO_cons, buildA_some, fillP_nil, fillP_cons, fillN_some, setA_agg, setA_rows, setC_some, setD_some, resF_eq, resAll_nil, resAll_cons, resOne_tmp, resOne_cell, tupO_none, tupO_one, tupO_more, argT_nil, argT_cons, lookL_cons, lookL_nil, lookP_cons, wrapO_lit, wrapO_neg, mstoreB_vec, len_set, not_tf, not_ft, and_tf, alt_true, alt_false, pick_alt, bol_false, getS_bol, getS_alt, chkL_bol, chkL_alt, putS_bol, putS_alt, putU_bol, putU_alt, storeB_bol, storeB_alt, stH_bol, stH_alt, consO_bol, consO_bol2, tupO_bol, fillN_bol, bol_bol, get_mapB, get_setB, get_appB, len_map, nat_zero_add, hideH_nil, and_self, and_true, true_and, and_false, false_and]) (apply chkW_want) (apply chkW_wantA) (apply valK_bolB; · finish (splits := 3) (ematch := 1)) (apply valK_altT; · finish (splits := 3) (ematch := 1)) (apply valK_altF; · finish (splits := 3) (ematch := 1)) (apply valK_altB) (apply brC_t; · finish (splits := 3) (ematch := 1)) (apply brC_f; · finish (splits := 3) (ematch := 1)) (apply brC_sBN) (apply brC_sB) (apply wantK_t; · finish (splits := 3) (ematch := 1)) (apply wantK_f; · finish (splits := 3) (ematch := 1)) (apply wantK_sBN) (apply wantK_sB) (apply rowG_t; · finish (splits := 3) (ematch := 1)) (apply rowG_f; · finish (splits := 3) (ematch := 1)) (apply rowG_sBN) (apply rowG_sB) (intro~ hr) (tactic => first | exact at_t (at_1 h1 h2 h3) | exact at_t (at_2 h3) | exact at_t (at_3 h2) | exact at_t (at_4 h1) | (trace_state; exact test_fail)))
theorem pnew_use {room : Int} {H : Hp} {n : Nat} {Q : AV → Hp → Nat → Prop} (hq : Q (.ptr n 0 []) ((n + 1, .vec 0 13 []) :: (n, .cel (.agg [.int .i64 (newP room).room, .int .i64 (-1), .int .i64 0, .int .i64 0, .slc (n + 1) 0 [] 13 0 0 0 0])) :: H) (n + 2)) : callA Try.prog 48 [.int .i64 room] H n Q := by
  refine callA_use (new_call room) [] rfl List.nodup_nil (by simp) (by simp [keysB]) rfl trivial ?_
  rintro v H1 m1 _ ⟨rfl, rfl, rfl⟩
  have e : hideH (keysB (renH (idx [] n) [])) H = H := hideH_nil H
  rw [e]
  simpa [poolH, poolV, newP, renH, renL, AV.ren, Ent.ren, idx] using hq
noncomputable def cx31 : Cx := ⟨Try.prog, [], [], [(0, [4, 3, 2, 1, 0]), (1, [10])]⟩
theorem cx31_P : cx31.P = Try.prog := rfl
theorem cx31_l0 : lookL 0 cx31.lv = some [4, 3, 2, 1, 0] := rfl
theorem cx31_l1 : lookL 1 cx31.lv = some [10] := rfl
theorem cx31_pu : cx31.pu = [] := rfl
theorem cx31_ok : okc cx31 Try.f31.ntmps (Try.f31.body.getD .skip) = true := by kernel_rfl
theorem enter31 {args : List AV} {H : Hp} {n : Nat} {Q : AV → Hp → Nat → Prop} (h : args.length ≤ 21 ∧ Ev cx31 ⟨21, n, none, 31⟩ (Try.f31.body.getD .skip) ⟨argT 0 args, H, n⟩ (.top Try.f31.results.toList Q)) : callA Try.prog 31 args H n Q :=
  callA_ev (cx := cx31) puOk_nil (f := 31) (fn := Try.f31) Try.func31 rfl (by kernel_rfl) h.1 cx31_ok h.2
theorem new_use {a b c d room : Int} {H : Hp} {n : Nat} {Q : AV → Hp → Nat → Prop} (hq : Q (.ptr (n + 3) 0 []) ((n + 3, .cel (.agg [.agg [.int .i64 a, .int .i64 b, .int .i64 c, .int .i64 d], .map n, .ptr (n + 1) 0 [], .bool false])) :: (n + 2, .vec 0 13 []) :: (n + 1, .cel (.agg [.int .i64 (newP room).room, .int .i64 (-1), .int .i64 0, .int .i64 0, .slc (n + 2) 0 [] 13 0 0 0 0])) :: (n, .mp (hW [])) :: H) (n + 4)) : callA Try.prog 31 [.int .i64 a, .int .i64 b, .int .i64 c, .int .i64 d, .int .i64 room] H n Q := by
  sym =>
    repeat (first (apply enter31) (apply pnew_use) (apply imp_go; intro hp) (apply valK_w64; · finish (splits := 3) (ematch := 1)) (apply valK_wu8; · finish (splits := 3) (ematch := 1)) (apply valK_wu64; · finish (splits := 3) (ematch := 1)) (apply valK_w32; · finish (splits := 3) (ematch := 1)) (apply valK_wu16; · finish (splits := 3) (ematch := 1)) (apply valK_wu32; · finish (splits := 3) (ematch := 1)) (apply valK_wr) (apply valK_andR) (apply valK_quo; · finish (splits := 3) (ematch := 1)) (apply valK_quoR; · finish (splits := 3) (ematch := 1)) (apply valK_rem; · finish (splits := 3) (ematch := 1)) (apply valK_remR; · finish (splits := 3) (ematch := 1)) (apply valK_bol; · finish (splits := 3) (ematch := 1)) (apply effK_bol; · finish (splits := 3) (ematch := 1)) (apply newK_bol; · finish (splits := 3) (ematch := 1)) (apply appK_bol; · finish (splits := 3) (ematch := 1)) (apply topO_bol; · finish (splits := 3) (ematch := 1)) (apply valK_altY; · finish (splits := 3) (ematch := 1)) (apply valK_altN; · finish (splits := 3) (ematch := 1)) (apply effK_altY; · finish (splits := 3) (ematch := 1)) (apply effK_altN; · finish (splits := 3) (ematch := 1)) (apply valK_altNY; · finish (splits := 3) (ematch := 1)) (apply valK_altNN; · finish (splits := 3) (ematch := 1)) (apply valK_altS) (apply valK_altNS) (apply effK_altS) (apply appS_go) (apply brC_y; · finish (splits := 3) (ematch := 1)) (apply brC_n; · finish (splits := 3) (ematch := 1)) (apply brC_yN; · finish (splits := 3) (ematch := 1)) (apply brC_nN; · finish (splits := 3) (ematch := 1)) (apply brC_s) (apply brC_sN) (apply wantK_y; · finish (splits := 3) (ematch := 1)) (apply wantK_n; · finish (splits := 3) (ematch := 1)) (apply wantK_yN; · finish (splits := 3) (ematch := 1)) (apply wantK_nN; · finish (splits := 3) (ematch := 1)) (apply wantK_s) (apply wantK_sN) (apply rowG_y; · finish (splits := 3) (ematch := 1)) (apply rowG_n; · finish (splits := 3) (ematch := 1)) (apply rowG_yN; · finish (splits := 3) (ematch := 1)) (apply rowG_nN; · finish (splits := 3) (ematch := 1)) (apply rowG_s) (apply rowG_sN) (simp [e17Op_eq, e19Op_eq, eAbuffertile_eq, eColour_eq, eFrag_eq, eKey_eq, cx31_P, cx31_l0, cx31_l1, cx31_pu, Try.f31.eq_1, ty_arrOf_3, ty_arrOf_96, ty_fldOf_101_0, ty_fldOf_101_1, ty_fldOf_101_2, ty_fldOf_101_3, ty_fldOf_96_0, ty_fldOf_96_1, ty_fldOf_96_2, ty_fldOf_96_3, ty_hasTy_97, ty_intOf_3, ty_isInt_3, ty_notInt_3, ty_lay_3, ty_lay_96, ty_lay_97, ty_mapKT_97, ty_mapZ_97, ty_notInt_96, ty_placesOf_101, ty_placesOf_96, ty_slcOf_3, ty_slcOf_96, ty_zeroA_101, ty_zeroA_3, ty_zeroA_96, valK_some, newK_some, opE_move, opE_assign, opE_build, opE_load, opE_bin, opE_un, opE_alloc, opE_box, opE_makeMap, callK_fn, callK_yld, callG_some, callG_none, opE_call_r, ev_seq, ev_skip, ev_label, ev_region, ev_cond, condC_some, brC_true, brC_false, ev_block, ev_scope, ev_exit, ev_ret, nx_seq, nx_seqE, nx_seqR, nx_blk, nx_blkE, nx_blkR, nx_top, nx_topR, topO_some, evR_nil, evR_op, evR_guard, finK_reg, finN_reg, nid_reg, getT_cons, putT_some, putT_none, trimT_some, trimT_none, keepT_nil, keepT_cons, consT_some, consT_none, getT_nil, getO_tmp, getO_const, getO_func, ofC_int, ofC_bool, ofC_ptr, ofC_slc, ofC_map, ofC_fn, getOs_nil, getOs_cons, consO_some, hget_cons, wrap_lit, wrap_neg, cast_lit, toNat_lit, get_zero, get_succ, take_zero, take_succ, set_zero, set_succ, length_nil, length_cons, append_nil, nil_append, cons_append, toList_arr, bnot_true, bnot_false, band_true, band_false, beq_tt, beq_ff, beq_tf, beq_ft, beq_nat, beq_int, bne_nat, map_some, map_none, true_eq_false, false_eq_true, true_eq_true, fbody_mk, fresults_mk, getD_some, bol_true, binO_some, size_int, size_bool, size_str, size_ptr, size_nilp, size_slc, size_nils, size_map, size_nilm, size_fn, size_yld, size_nilf, size_agg, size_rows, sizeL_nil, sizeL_cons, layOK_int, layOK_bool, layOK_str, layOK_ptr, layOK_nilp, layOK_slc, layOK_nils, layOK_map, layOK_nilm, layOK_fn, layOK_yld, layOK_nilf, layOK_agg, layOK_rows, isTup_int, isTup_bool, isTup_str, isTup_ptr, isTup_nilp, isTup_slc, isTup_nils, isTup_map, isTup_nilm, isTup_fn, isTup_yld, isTup_nilf, isTup_agg, isTup_rows, getP_nil, getP_cons, getS_some, stepP_agg, stepP_rows, loadO_some, loadA_ptr, loadE_cel, loadE_vec, loadE_ro, chkL_some, newA_some, partsO_nil, partsO_cons, buildA_some, fillP_nil, fillP_cons, fillN_some, setA_agg, setA_rows, setC_some, setD_some, resF_eq, resAll_nil, resAll_cons, resOne_tmp, resOne_cell, tupO_none, tupO_one, tupO_more, argT_nil, argT_cons, lookU_nil, lookU_cons, lookL_cons, lookL_nil, lookP_cons, roundS_eq, wrapO_lit, wrapO_neg, not_tf, not_ft, and_tf, alt_true, alt_false, bol_false, getS_bol, getS_alt, chkL_bol, chkL_alt, consO_bol, consO_bol2, tupO_bol, fillN_bol, bol_bol, get_mapB, get_setB, get_appB, len_map, nat_zero_add, hideH_nil, and_self, and_true, true_and, and_false, false_and]) (apply valK_bolB; · finish (splits := 3) (ematch := 1)) (apply valK_altT; · finish (splits := 3) (ematch := 1)) (apply valK_altF; · finish (splits := 3) (ematch := 1)) (apply valK_altB) (apply brC_t; · finish (splits := 3) (ematch := 1)) (apply brC_f; · finish (splits := 3) (ematch := 1)) (apply brC_sBN) (apply brC_sB) (apply wantK_t; · finish (splits := 3) (ematch := 1)) (apply wantK_f; · finish (splits := 3) (ematch := 1)) (apply wantK_sBN) (apply wantK_sB) (apply rowG_t; · finish (splits := 3) (ematch := 1)) (apply rowG_f; · finish (splits := 3) (ematch := 1)) (apply rowG_sBN) (apply rowG_sB) (intro~ hr) (tactic => first | exact hq | (trace_state; exact test_fail)))
theorem nodesR_taken {R : List TFrag} {h : Int} (h0 : 0 ≤ h) (h1 : h < (R.length : Int)) : takenP (nodesR R) h = true := by
  have key : ∀ (R : List TFrag) (j : Nat), j < R.length → (nG (nodesR R) j).2.2 = true := by
    intro R
    induction R with
    | nil => intro j hj; simp at hj
    | cons f r ih =>
      intro j hj
      rw [nodesR_cons]
      by_cases e : j = r.length
      · subst e
        have := nG_last (nodesR r) (f, lstR r f.x f.y, true)
        rw [nodesR_len] at this
        rw [this]
      · rw [List.length_cons] at hj
        rw [nG_app (by rw [nodesR_len]; omega)]
        exact ih j (by omega)
  unfold takenP
  rw [if_pos ⟨h0, by rw [nodesR_len]; exact h1⟩]
  exact key R h.toNat (by omega)
theorem push_ok {R : List TFrag} {room most : Int} {f : TFrag} (hr : (R.length : Int) < room) : pushP ⟨room, -1, (R.length : Int), most, nodesR R⟩ (lstR R f.x f.y) f = ((R.length : Int), true, ⟨room, -1, (R.length : Int) + 1, (if most < (R.length : Int) + 1 then (R.length : Int) + 1 else most), nodesR (f :: R)⟩) := by
  unfold pushP
  have ht : ¬ ((lstR R f.x f.y ≠ -1 ∧ takenP (nodesR R) (lstR R f.x f.y) = false) ∨ (R.length : Int) = room) := by
    intro hc
    rcases hc with ⟨h1, h2⟩ | h1
    · rcases lstR_rng R f.x f.y with h3 | ⟨h3, h4⟩
      · exact h1 h3
      · rw [nodesR_taken h3 h4] at h2; exact Bool.noConfusion h2
    · omega
  rw [if_neg ht, nodesR_len]
  simp only [if_true]
  rfl
theorem push_no {R : List TFrag} {room most : Int} {f : TFrag} (hr : (R.length : Int) = room) : pushP ⟨room, -1, (R.length : Int), most, nodesR R⟩ (lstR R f.x f.y) f = (lstR R f.x f.y, false, ⟨room, -1, (R.length : Int), most, nodesR R⟩) := by
  unfold pushP
  rw [if_pos (.inr hr)]
theorem pushI_use {k m cap : Nat} {R : List TFrag} {room most : Int} {f : TFrag} {h : Int} {H : Hp} {n : Nat} {Q : AV → Hp → Nat → Prop} (hk : hget k H = some (.cel (.agg [.int .i64 room, .int .i64 (-1), .int .i64 (R.length : Int), .int .i64 most, .slc m 0 [] 13 0 0 R.length cap]))) (hm : hget m H = some (.vec cap 13 ((nodesR R).map nodeV))) (hlt : (k < n ∧ m < n) ∧ (k = m) = False) (hR : R.length ≤ 65536) (hh : h = lstR R f.x f.y) (hr : (R.length : Int) < room)
    (hq : ∀ c : Nat, Imp True (Q (.tup [.int .i64 (R.length : Int), .bool true]) ((n, .vec c 13 ((nodesR (f :: R)).map nodeV)) :: (k, .cel (.agg [.int .i64 room, .int .i64 (-1), .int .i64 ((R.length : Int) + 1), .int .i64 (if most < (R.length : Int) + 1 then (R.length : Int) + 1 else most), .slc n 0 [] 13 0 0 (R.length + 1) c])) :: hideH [m, k] H) (n + 1))) :
    callA Try.prog 50 [.ptr k 0 [], .int .i64 h, eFrag f] H n Q := by
  subst hh
  have ek : idx [k, m] n 0 = k := rfl
  have em : idx [k, m] n 1 = m := rfl
  have e := nodesR_len R
  have hne : ¬ k = m := by rw [hlt.2]; exact id
  refine callA_use (push_call ⟨room, -1, (R.length : Int), most, nodesR R⟩ cap (lstR R f.x f.y) f ⟨by dsimp only; omega, by dsimp only; omega⟩ (.inl rfl) (by dsimp only; rw [e]; omega)) [k, m] rfl (by simp [hne]) (by simpa using hlt.1) (by simp [keysB, poolH]) (by simp [renL, AV.ren, idx, eFrag_ren]) ?_ ?_
  · refine ⟨?_, ?_, trivial⟩
    · have := hm
      simpa [Ent.ren, em, nodes_ren] using this
    · have := hk
      simpa [Ent.ren, ek, em, poolV, AV.ren, renL, e] using this
  · rintro v H1 m1 _ ⟨c, rfl, rfl, rfl⟩
    rw [push_ok hr]
    have := hq c trivial
    have e2 := nodesR_len (f :: R)
    rw [List.length_cons] at e2
    simpa [poolH, poolV, renH, renL, AV.ren, Ent.ren, idx, keysB, nodes_ren, e2] using this
theorem pushF_use {k m cap : Nat} {R : List TFrag} {room most : Int} {f : TFrag} {h : Int} {H : Hp} {n : Nat} {Q : AV → Hp → Nat → Prop} (hk : hget k H = some (.cel (.agg [.int .i64 room, .int .i64 (-1), .int .i64 (R.length : Int), .int .i64 most, .slc m 0 [] 13 0 0 R.length cap]))) (hm : hget m H = some (.vec cap 13 ((nodesR R).map nodeV))) (hlt : (k < n ∧ m < n) ∧ (k = m) = False) (hR : R.length ≤ 65536) (hh : h = lstR R f.x f.y) (hr : (R.length : Int) = room)
    (hq : ∀ c : Nat, Imp True (Q (.tup [.int .i64 h, .bool false]) ((n, .vec c 13 ((nodesR R).map nodeV)) :: (k, .cel (.agg [.int .i64 room, .int .i64 (-1), .int .i64 (R.length : Int), .int .i64 most, .slc n 0 [] 13 0 0 R.length c])) :: hideH [m, k] H) (n + 1))) :
    callA Try.prog 50 [.ptr k 0 [], .int .i64 h, eFrag f] H n Q := by
  subst hh
  have ek : idx [k, m] n 0 = k := rfl
  have em : idx [k, m] n 1 = m := rfl
  have e := nodesR_len R
  have hne : ¬ k = m := by rw [hlt.2]; exact id
  refine callA_use (push_call ⟨room, -1, (R.length : Int), most, nodesR R⟩ cap (lstR R f.x f.y) f ⟨by dsimp only; omega, by dsimp only; omega⟩ (.inl rfl) (by dsimp only; rw [e]; omega)) [k, m] rfl (by simp [hne]) (by simpa using hlt.1) (by simp [keysB, poolH]) (by simp [renL, AV.ren, idx, eFrag_ren]) ?_ ?_
  · refine ⟨?_, ?_, trivial⟩
    · have := hm
      simpa [Ent.ren, em, nodes_ren] using this
    · have := hk
      simpa [Ent.ren, ek, em, poolV, AV.ren, renL, e] using this
  · rintro v H1 m1 _ ⟨c, rfl, rfl, rfl⟩
    rw [push_no hr]
    have := hq c trivial
    simpa [poolH, poolV, renH, renL, AV.ren, Ent.ren, idx, keysB, nodes_ren, e] using this
theorem step_x (x : TFrag) : stepP (eFrag x) (.fld 0 0) = some (.int .i64 x.x) := rfl
theorem step_y (x : TFrag) : stepP (eFrag x) (.fld 1 1) = some (.int .i64 x.y) := rfl
theorem step_m (x : TFrag) : stepP (eFrag x) (.fld 2 2) = some (.int .u8 x.mask) := rfl
noncomputable def cx51 : Cx := ⟨Try.prog, [], [(1, ⟨0, [⟨0, false, [], [], [], 0⟩, ⟨1, false, [0], [], [], 0⟩, ⟨2, false, [1], [], [], 0⟩, ⟨3, false, [2], [], [], 0⟩, ⟨4, false, [], [], [], 0⟩, ⟨5, false, [3, 4], [], [], 0⟩, ⟨6, false, [5], [], [], 0⟩, ⟨7, false, [6], [], [], 0⟩, ⟨8, false, [6], [], [], 0⟩, ⟨9, false, [7], [], [], 0⟩, ⟨10, false, [8], [], [], 0⟩]⟩)], [(0, [3, 0]), (1, [6, 5]), (2, [16, 5]), (3, [4]), (4, [4])]⟩
theorem cx51_P : cx51.P = Try.prog := rfl
theorem cx51_l0 : lookL 0 cx51.lv = some [3, 0] := rfl
theorem cx51_l1 : lookL 1 cx51.lv = some [6, 5] := rfl
theorem cx51_l2 : lookL 2 cx51.lv = some [16, 5] := rfl
theorem cx51_l3 : lookL 3 cx51.lv = some [4] := rfl
theorem cx51_l4 : lookL 4 cx51.lv = some [4] := rfl
theorem cx51_p1 : lookP 1 cx51.pl = some ⟨0, [⟨0, false, [], [], [], 0⟩, ⟨1, false, [0], [], [], 0⟩, ⟨2, false, [1], [], [], 0⟩, ⟨3, false, [2], [], [], 0⟩, ⟨4, false, [], [], [], 0⟩, ⟨5, false, [3, 4], [], [], 0⟩, ⟨6, false, [5], [], [], 0⟩, ⟨7, false, [6], [], [], 0⟩, ⟨8, false, [6], [], [], 0⟩, ⟨9, false, [7], [], [], 0⟩, ⟨10, false, [8], [], [], 0⟩]⟩ := rfl
theorem cx51_pu : cx51.pu = [] := rfl
theorem cx51_ok : okc cx51 Try.f51.ntmps (Try.f51.body.getD .skip) = true := by kernel_rfl
theorem enter51 {args : List AV} {H : Hp} {n : Nat} {Q : AV → Hp → Nat → Prop} (h : args.length ≤ 18 ∧ Ev cx51 ⟨18, n, none, 51⟩ (Try.f51.body.getD .skip) ⟨argT 0 args, H, n⟩ (.top Try.f51.results.toList Q)) : callA Try.prog 51 args H n Q :=
  callA_ev (cx := cx51) puOk_nil (f := 51) (fn := Try.f51) Try.func51 rfl (by kernel_rfl) h.1 cx51_ok h.2
noncomputable def cx32 : Cx := ⟨Try.prog, [], [(1, ⟨1, [⟨0, false, [], [], [], 0⟩, ⟨1, false, [0], [], [], 0⟩, ⟨2, false, [1], [], [], 0⟩, ⟨3, false, [2], [], [0], 0⟩, ⟨4, false, [], [], [], 0⟩, ⟨5, false, [4], [], [0], 0⟩, ⟨6, false, [], [], [], 0⟩, ⟨7, false, [6], [], [0], 0⟩, ⟨12, false, [], [], [], 0⟩, ⟨8, true, [3, 5, 7], [], [0], 0⟩, ⟨9, false, [8], [], [], 0⟩, ⟨10, false, [8, 9], [], [], 0⟩, ⟨11, false, [8, 9], [], [], 0⟩, ⟨13, true, [3, 5, 7, 8, 10, 12], [], [], 0⟩, ⟨14, false, [8, 11, 13], [], [], 0⟩]⟩), (4, ⟨0, [⟨0, false, [], [], [], 0⟩, ⟨1, false, [0], [], [], 0⟩, ⟨2, false, [1], [], [], 0⟩, ⟨3, false, [2], [], [], 0⟩, ⟨4, false, [], [], [], 0⟩, ⟨5, false, [], [], [], 0⟩, ⟨7, false, [], [], [], 0⟩, ⟨6, true, [4, 5], [3, 7], [], 0⟩, ⟨8, true, [3, 5, 6, 7], [], [], 0⟩, ⟨9, false, [6, 8], [], [], 0⟩, ⟨10, false, [6, 8, 9], [], [], 0⟩, ⟨11, false, [6, 8, 9], [], [], 0⟩, ⟨12, false, [6, 8, 10], [], [], 0⟩, ⟨13, false, [6, 8, 11], [], [], 0⟩]⟩), (8, ⟨0, [⟨0, false, [], [], [], 0⟩, ⟨1, false, [0], [], [], 0⟩, ⟨2, false, [1], [], [], 0⟩, ⟨3, false, [2], [], [], 0⟩, ⟨4, false, [], [], [], 0⟩, ⟨5, false, [], [], [], 0⟩, ⟨6, true, [3, 4, 5], [], [], 0⟩]⟩)], [(0, [3, 0]), (1, [6, 5, 3, 0]), (2, [27, 6, 5, 3, 0]), (3, [4]), (4, [8, 7, 5, 0]), (5, [42, 7, 5, 0]), (6, []), (7, [4]), (8, []), (9, [4])]⟩
theorem cx32_P : cx32.P = Try.prog := rfl
theorem cx32_l0 : lookL 0 cx32.lv = some [3, 0] := rfl
theorem cx32_l1 : lookL 1 cx32.lv = some [6, 5, 3, 0] := rfl
theorem cx32_l2 : lookL 2 cx32.lv = some [27, 6, 5, 3, 0] := rfl
theorem cx32_l3 : lookL 3 cx32.lv = some [4] := rfl
theorem cx32_l4 : lookL 4 cx32.lv = some [8, 7, 5, 0] := rfl
theorem cx32_l5 : lookL 5 cx32.lv = some [42, 7, 5, 0] := rfl
theorem cx32_l6 : lookL 6 cx32.lv = some [] := rfl
theorem cx32_l7 : lookL 7 cx32.lv = some [4] := rfl
theorem cx32_l8 : lookL 8 cx32.lv = some [] := rfl
theorem cx32_l9 : lookL 9 cx32.lv = some [4] := rfl
theorem cx32_p1 : lookP 1 cx32.pl = some ⟨1, [⟨0, false, [], [], [], 0⟩, ⟨1, false, [0], [], [], 0⟩, ⟨2, false, [1], [], [], 0⟩, ⟨3, false, [2], [], [0], 0⟩, ⟨4, false, [], [], [], 0⟩, ⟨5, false, [4], [], [0], 0⟩, ⟨6, false, [], [], [], 0⟩, ⟨7, false, [6], [], [0], 0⟩, ⟨12, false, [], [], [], 0⟩, ⟨8, true, [3, 5, 7], [], [0], 0⟩, ⟨9, false, [8], [], [], 0⟩, ⟨10, false, [8, 9], [], [], 0⟩, ⟨11, false, [8, 9], [], [], 0⟩, ⟨13, true, [3, 5, 7, 8, 10, 12], [], [], 0⟩, ⟨14, false, [8, 11, 13], [], [], 0⟩]⟩ := rfl
theorem cx32_p4 : lookP 4 cx32.pl = some ⟨0, [⟨0, false, [], [], [], 0⟩, ⟨1, false, [0], [], [], 0⟩, ⟨2, false, [1], [], [], 0⟩, ⟨3, false, [2], [], [], 0⟩, ⟨4, false, [], [], [], 0⟩, ⟨5, false, [], [], [], 0⟩, ⟨7, false, [], [], [], 0⟩, ⟨6, true, [4, 5], [3, 7], [], 0⟩, ⟨8, true, [3, 5, 6, 7], [], [], 0⟩, ⟨9, false, [6, 8], [], [], 0⟩, ⟨10, false, [6, 8, 9], [], [], 0⟩, ⟨11, false, [6, 8, 9], [], [], 0⟩, ⟨12, false, [6, 8, 10], [], [], 0⟩, ⟨13, false, [6, 8, 11], [], [], 0⟩]⟩ := rfl
theorem cx32_p8 : lookP 8 cx32.pl = some ⟨0, [⟨0, false, [], [], [], 0⟩, ⟨1, false, [0], [], [], 0⟩, ⟨2, false, [1], [], [], 0⟩, ⟨3, false, [2], [], [], 0⟩, ⟨4, false, [], [], [], 0⟩, ⟨5, false, [], [], [], 0⟩, ⟨6, true, [3, 4, 5], [], [], 0⟩]⟩ := rfl
theorem cx32_pu : cx32.pu = [] := rfl
theorem cx32_ok : okc cx32 Try.f32.ntmps (Try.f32.body.getD .skip) = true := by kernel_rfl
theorem enter32 {args : List AV} {H : Hp} {n : Nat} {Q : AV → Hp → Nat → Prop} (h : args.length ≤ 52 ∧ Ev cx32 ⟨52, n, none, 32⟩ (Try.f32.body.getD .skip) ⟨argT 0 args, H, n⟩ (.top Try.f32.results.toList Q)) : callA Try.prog 32 args H n Q :=
  callA_ev (cx := cx32) puOk_nil (f := 32) (fn := Try.f32) Try.func32 rfl (by kernel_rfl) h.1 cx32_ok h.2
/-- A buffer: its tile, what is stored (the last one first), whether it is over. -/
structure BufS where
  a : Int
  b : Int
  c : Int
  d : Int
  room : Int
  most : Int
  R : List TFrag
  ov : Bool
def mostU (m : Int) (l : Nat) : Int := if m < (l : Int) + 1 then (l : Int) + 1 else m
def putB (s : BufS) (f : TFrag) : Bool × BufS :=
  if inT s.a s.b s.c s.d f.x f.y = false then (false, s)
  else if f.mask = 0 then (true, s)
  else if (s.R.length : Int) < s.room then (true, ⟨s.a, s.b, s.c, s.d, s.room, mostU s.most s.R.length, f :: s.R, s.ov⟩)
  else (false, ⟨s.a, s.b, s.c, s.d, s.room, s.most, s.R, true⟩)
def okB (s : BufS) : Prop := (s.R.length : Int) ≤ s.room ∧ s.room ≤ 65536
def bufE (s : BufS) (km kp : Nat) : Ent := .cel (.agg [.agg [.int .i64 s.a, .int .i64 s.b, .int .i64 s.c, .int .i64 s.d], .map km, .ptr kp 0 [], .bool s.ov])
def poolE (s : BufS) (kr cap : Nat) : Ent := .cel (.agg [.int .i64 s.room, .int .i64 (-1), .int .i64 (s.R.length : Int), .int .i64 s.most, .slc kr 0 [] 13 0 0 s.R.length cap])
def rowQ (s : BufS) (cap : Nat) : Ent := .vec cap 13 ((nodesR s.R).map nodeV)
def mapN (s : BufS) : Ent := .mp (hW (headR s.R))
theorem bufE_eq (s : BufS) (km kp : Nat) : bufE s km kp = .cel (.agg [.agg [.int .i64 s.a, .int .i64 s.b, .int .i64 s.c, .int .i64 s.d], .map km, .ptr kp 0 [], .bool s.ov]) := rfl
theorem poolE_eq (s : BufS) (kr cap : Nat) : poolE s kr cap = .cel (.agg [.int .i64 s.room, .int .i64 (-1), .int .i64 (s.R.length : Int), .int .i64 s.most, .slc kr 0 [] 13 0 0 s.R.length cap]) := rfl
theorem rowQ_eq (s : BufS) (cap : Nat) : rowQ s cap = .vec cap 13 ((nodesR s.R).map nodeV) := rfl
theorem mapN_eq (s : BufS) : mapN s = .mp (hW (headR s.R)) := rfl
def bufH (s : BufS) (kr cap : Nat) : Hp := [(3, bufE s 0 1), (kr, rowQ s cap), (1, poolE s kr cap), (0, mapN s)]
theorem headR_look (R : List TFrag) (x y : Int) (h : inH (headR R) x y = true) : (if inH (headR R) x y = true then atH (headR R) x y else 0) = lstR R x y := by rw [if_pos h, headR_at]
theorem headR_none (R : List TFrag) (x y : Int) (h : inH (headR R) x y = false) : (-1 : Int) = lstR R x y := by rw [← headR_at, atH_no h]
theorem hdR_cons (f : TFrag) (R : List TFrag) : headR (f :: R) = setH (headR R) f.x f.y (R.length : Int) := rfl
theorem er_celQ (τ : Nat → Nat) (v : AV) : (Ent.cel v).ren τ = .cel (v.ren τ) := rfl
theorem er_vecQ (τ : Nat → Nat) (c sz : Nat) (l : List AV) : (Ent.vec c sz l).ren τ = .vec c sz (renL τ l) := rfl
theorem er_hW (τ : Nat → Nat) (M : List HE) : (Ent.mp (hW M)).ren τ = .mp (hW M) := by
  show Ent.mp (renM τ (hW M)) = _
  congr 1
  induction M with
  | nil => rfl
  | cons e r ih =>
    show _ :: renM τ (hW r) = _ :: hW r
    rw [ih]; rfl
theorem put_a (s : BufS) (cap : Nat) (f : TFrag) (hT : inT s.a s.b s.c s.d f.x f.y = false) : callA Try.prog 32 [.ptr 3 0 [], eFrag f] (bufH s 2 cap) 4 fun v H' n' => ∃ c, v = .bool (putB s f).1 ∧ H' = bufH (putB s f).2 4 c ∧ n' = 5 := by
  have hB : putB s f = (false, s) := by unfold putB; rw [if_pos hT]
  rw [hB]
  unfold bufH
  refine callA_reid (callA_fresh 1 [.fld 4 4] ?_)
  show callA _ _ _ _ _ _
  sym =>
    repeat (first (apply enter32) (apply enter51) (apply at_use) (apply imp_go; intro hp) (apply valK_w64; · finish (splits := 3) (ematch := 1)) (apply valK_wu8; · finish (splits := 3) (ematch := 1)) (apply valK_wu64; · finish (splits := 3) (ematch := 1)) (apply valK_w32; · finish (splits := 3) (ematch := 1)) (apply valK_wu16; · finish (splits := 3) (ematch := 1)) (apply valK_wu32; · finish (splits := 3) (ematch := 1)) (apply valK_wr) (apply valK_andR) (apply valK_quo; · finish (splits := 3) (ematch := 1)) (apply valK_quoR; · finish (splits := 3) (ematch := 1)) (apply valK_rem; · finish (splits := 3) (ematch := 1)) (apply valK_remR; · finish (splits := 3) (ematch := 1)) (apply valK_bol; · finish (splits := 3) (ematch := 1)) (apply effK_bol; · finish (splits := 3) (ematch := 1)) (apply newK_bol; · finish (splits := 3) (ematch := 1)) (apply appK_bol; · finish (splits := 3) (ematch := 1)) (apply topO_bol; · finish (splits := 3) (ematch := 1)) (apply valK_altY; · finish (splits := 3) (ematch := 1)) (apply valK_altN; · finish (splits := 3) (ematch := 1)) (apply effK_altY; · finish (splits := 3) (ematch := 1)) (apply effK_altN; · finish (splits := 3) (ematch := 1)) (apply valK_altNY; · finish (splits := 3) (ematch := 1)) (apply valK_altNN; · finish (splits := 3) (ematch := 1)) (apply valK_altS) (apply valK_altNS) (apply effK_altS) (apply appS_go) (apply brC_y; · finish (splits := 3) (ematch := 1)) (apply brC_n; · finish (splits := 3) (ematch := 1)) (apply brC_yN; · finish (splits := 3) (ematch := 1)) (apply brC_nN; · finish (splits := 3) (ematch := 1)) (apply brC_s) (apply brC_sN) (apply wantK_y; · finish (splits := 3) (ematch := 1)) (apply wantK_n; · finish (splits := 3) (ematch := 1)) (apply wantK_yN; · finish (splits := 3) (ematch := 1)) (apply wantK_nN; · finish (splits := 3) (ematch := 1)) (apply wantK_s) (apply wantK_sN) (apply rowG_y; · finish (splits := 3) (ematch := 1)) (apply rowG_n; · finish (splits := 3) (ematch := 1)) (apply rowG_yN; · finish (splits := 3) (ematch := 1)) (apply rowG_nN; · finish (splits := 3) (ematch := 1)) (apply rowG_s) (apply rowG_sN) (simp [hT, bufE_eq, poolE_eq, rowQ_eq, mapN_eq, lookC_hW, hW_look, putC_hW, hW_set, step_x, step_y, step_m, eFrag_size, eFrag_tup, layOK_frag, e17Op_eq, e19Op_eq, eAbuffertile_eq, eColour_eq, eKey_eq, cx32_P, cx32_l0, cx32_l1, cx32_l2, cx32_l3, cx32_l4, cx32_l5, cx32_l6, cx32_l7, cx32_l8, cx32_l9, cx32_p1, cx32_p4, cx32_p8, cx32_pu, Try.f32.eq_1, ty_arrOf_3, ty_arrOf_37, ty_arrOf_64, ty_arrOf_65, ty_arrOf_96, ty_arrOf_98, ty_eqTy_64, ty_fldOf_101_0, ty_fldOf_101_1, ty_fldOf_101_2, ty_fldOf_101_3, ty_fldOf_64_0, ty_fldOf_64_1, ty_fldOf_64_2, ty_fldOf_64_3, ty_fldOf_96_0, ty_fldOf_96_1, ty_fldOf_96_2, ty_fldOf_96_3, ty_hasTy_5, ty_hasTy_97, ty_intOf_3, ty_isBoolTy_4, ty_isInt_3, ty_notInt_3, ty_isPtrTy_65, ty_lay_3, ty_lay_37, ty_lay_4, ty_lay_5, ty_lay_64, ty_lay_96, ty_lay_97, ty_lay_98, ty_mapKT_97, ty_mapZ_97, ty_notInt_37, ty_notInt_64, ty_notInt_65, ty_notInt_96, ty_notInt_98, ty_placesOf_101, ty_placesOf_37, ty_placesOf_64, ty_placesOf_96, ty_slcOf_3, ty_slcOf_37, ty_slcOf_64, ty_slcOf_65, ty_slcOf_96, ty_slcOf_98, ty_zeroA_101, ty_zeroA_3, ty_zeroA_37, ty_zeroA_4, ty_zeroA_64, ty_zeroA_96, cx51_P, cx51_l0, cx51_l1, cx51_l2, cx51_l3, cx51_l4, cx51_p1, cx51_pu, Try.f51.eq_1, valK_some, newK_some, effK_some, opE_move, opE_assign, opE_pick, opE_load, opE_nilCheck, opE_bin, opE_un, opE_fieldAddr, opE_extract, opE_alloc, opE_box, callK_fn, callK_yld, callG_some, callG_none, opE_store_r, opE_call_r, opE_store_w, opE_call_w, opE_lookup, opE_upd_r, opE_upd_w, ev_seq, ev_skip, ev_label, ev_region, ev_draw, evDO_some, ev_cond, condC_some, brC_true, brC_false, ev_block, ev_scope, ev_exit, ev_ret, nx_seq, nx_seqE, nx_seqR, nx_blk, nx_blkE, nx_blkR, nx_top, nx_topR, topO_some, evR_nil, wantK_tup, wantK_tt, wantK_ff, wantK_tf, wantK_ft, evR_op, evR_guard, evD_nil, evD_row, rowK_eff, rowK_calm, rowK_guard, rowG_tup, rowG_tt, rowG_ff, rowG_tf, rowG_ft, rowN_eq, chkA_nil, chkA_cons, chkO_some, chkW_false, sameO_some, chkW_load, chkW_len, finK_reg, finK_row, finK_calm, finN_reg, finN_row, finN_calm, nid_reg, nid_row, nid_calm, getT_cons, putT_some, putT_none, trimT_some, trimT_none, keepT_nil, keepT_cons, consT_some, consT_none, getT_nil, getO_tmp, getO_const, getO_func, ofC_int, ofC_bool, ofC_ptr, ofC_slc, ofC_map, ofC_fn, getOs_nil, getOs_cons, consO_some, guardT_eq, guardO_some, wantA_none, wantA_some, wantO_tup, wantO_tt, wantO_ff, wantO_tf, wantO_ft, hget_cons, hset_cons, memb_nil, memb_cons, hideH_cons, showH_cons, hideH_none, showH_none, showH_nil, outs_nil, outs_cons, app_nil, nil_app, cons_app, rowOf_cons, wrap_lit, wrap_neg, top_i64, bot_i64, top_u8, bot_u8, bits_u8, bits_i64, cast_lit, toNat_lit, get_zero, get_succ, take_zero, take_succ, set_zero, set_succ, length_nil, length_cons, length_set, append_nil, nil_append, cons_append, toList_arr, bnot_true, bnot_false, band_true, band_false, beq_tt, beq_ff, beq_tf, beq_ft, beq_nat, beq_int, bne_nat, map_some, map_none, true_eq_false, false_eq_true, true_eq_true, fbody_mk, fresults_mk, getD_some, bol_true, binO_some, bin_eql, bin_beql, bin_bneq, eqO_eq, eqO_ne, bin_aeql, bin_aneq, bin_reql, bin_rneq, aggEq_some, flatL_nil, flatL_cons, appV_some, flatV_int, flatV_bool, flatV_agg, flatV_rows, bin_feql, bin_fneq, bin_nfeql, bin_nfneq, bin_peql, bin_pneq, bin_npeql, bin_npneq, unO_some, un_not, pickA_true, pickA_false, nilO_some, nilA_ptr, nilA_fn, nilA_yld, nilA_map, nilA_slc, exO_some, ext_tup, size_int, size_bool, size_str, size_ptr, size_nilp, size_slc, size_nils, size_map, size_nilm, size_fn, size_yld, size_nilf, size_agg, size_rows, sizeL_nil, sizeL_cons, layOK_int, layOK_bool, layOK_str, layOK_ptr, layOK_nilp, layOK_slc, layOK_nils, layOK_map, layOK_nilm, layOK_fn, layOK_yld, layOK_nilf, layOK_agg, layOK_rows, isTup_int, isTup_bool, isTup_str, isTup_ptr, isTup_nilp, isTup_slc, isTup_nils, isTup_map, isTup_nilm, isTup_fn, isTup_yld, isTup_nilf, isTup_agg, isTup_rows, getP_nil, getP_cons, getS_some, stepP_agg, stepP_rows, putP_nil, putP_cons, putS_some, putU_some, setS_agg, setS_rows, loadO_some, loadA_ptr, loadE_cel, loadE_vec, loadE_ro, chkL_some, storeO_some, stH_some, storeA_ptr, storeE_cel, storeE_vec, storeB_cel, faO_some, fa_ptr, newA_some, slN_some, resF_eq, resAll_nil, resAll_cons, resOne_tmp, resOne_cell, tupO_none, tupO_one, tupO_more, argT_nil, argT_cons, lookU_nil, lookU_cons, lookL_cons, lookL_nil, lookP_cons, lookO_some, mapC_map, mapC_nil, mapE_mp, mapE_lk, keyO_int, keyO_agg, keyO_rows, keyL_nil, keyL_cons, keyS_some, keyM_1, keyM_2, keyM_3, keyM_4, lookC_no, lookOut_no, lookOut_no2, lookOut_in, lookOut_in2, updO_some, updE_some, putC_no, roundS_eq, mun_neg, wrapO_lit, wrapO_neg, mstoreB_vec, len_set, not_tf, not_ft, and_tf, not_not_b, alt_true, alt_false, pick_alt, bol_false, getS_bol, getS_alt, chkL_bol, chkL_alt, putS_bol, putS_alt, putU_bol, putU_alt, storeB_bol, storeB_alt, stH_bol, stH_alt, consO_bol, consO_bol2, tupO_bol, eqO_bol, bol_bol, get_mapB, get_setB, get_appB, len_map, nat_zero_add, bin_nsleql, bin_nslneq, bin_nnleql, bin_nnlneq, slN_bol, beq_str, hideH_nil, and_self, and_true, true_and, and_false, false_and]) (apply chkW_want) (apply chkW_wantA) (apply valK_bolB; · finish (splits := 3) (ematch := 1)) (apply valK_altT; · finish (splits := 3) (ematch := 1)) (apply valK_altF; · finish (splits := 3) (ematch := 1)) (apply valK_altB) (apply brC_t; · finish (splits := 3) (ematch := 1)) (apply brC_f; · finish (splits := 3) (ematch := 1)) (apply brC_sBN) (apply brC_sB) (apply wantK_t; · finish (splits := 3) (ematch := 1)) (apply wantK_f; · finish (splits := 3) (ematch := 1)) (apply wantK_sBN) (apply wantK_sB) (apply rowG_t; · finish (splits := 3) (ematch := 1)) (apply rowG_f; · finish (splits := 3) (ematch := 1)) (apply rowG_sBN) (apply rowG_sB) (intro~ hr) (tactic => first | (refine ⟨2, 13, _, _, _, _, _, by decide, rfl, rfl, rfl, rfl, ?_⟩; refine reidP_of [0, 1, 2, 3, 6] _ _ rfl rfl rfl ?_ ?_ ?_ ⟨cap, rfl, rfl, rfl⟩ <;> simp [subH, okW, hget, hset, hdel, idx, AV.ren, renL, Ent.writes, setS, er_celQ, er_vecQ, er_hW, nodes_ren, bufE, poolE, rowQ, mapN]; done) | (trace_state; exact test_fail)))
theorem put_b (s : BufS) (cap : Nat) (f : TFrag) (hT : inT s.a s.b s.c s.d f.x f.y = true) (hm : f.mask = 0) : callA Try.prog 32 [.ptr 3 0 [], eFrag f] (bufH s 2 cap) 4 fun v H' n' => ∃ c, v = .bool (putB s f).1 ∧ H' = bufH (putB s f).2 4 c ∧ n' = 5 := by
  have hB : putB s f = (true, s) := by unfold putB; rw [if_neg (by rw [hT]; decide), if_pos hm]
  rw [hB]
  unfold bufH
  refine callA_reid (callA_fresh 1 [.fld 4 4] ?_)
  show callA _ _ _ _ _ _
  sym =>
    repeat (first (apply enter32) (apply enter51) (apply at_use) (apply imp_go; intro hp) (apply valK_w64; · finish (splits := 3) (ematch := 1)) (apply valK_wu8; · finish (splits := 3) (ematch := 1)) (apply valK_wu64; · finish (splits := 3) (ematch := 1)) (apply valK_w32; · finish (splits := 3) (ematch := 1)) (apply valK_wu16; · finish (splits := 3) (ematch := 1)) (apply valK_wu32; · finish (splits := 3) (ematch := 1)) (apply valK_wr) (apply valK_andR) (apply valK_quo; · finish (splits := 3) (ematch := 1)) (apply valK_quoR; · finish (splits := 3) (ematch := 1)) (apply valK_rem; · finish (splits := 3) (ematch := 1)) (apply valK_remR; · finish (splits := 3) (ematch := 1)) (apply valK_bol; · finish (splits := 3) (ematch := 1)) (apply effK_bol; · finish (splits := 3) (ematch := 1)) (apply newK_bol; · finish (splits := 3) (ematch := 1)) (apply appK_bol; · finish (splits := 3) (ematch := 1)) (apply topO_bol; · finish (splits := 3) (ematch := 1)) (apply valK_altY; · finish (splits := 3) (ematch := 1)) (apply valK_altN; · finish (splits := 3) (ematch := 1)) (apply effK_altY; · finish (splits := 3) (ematch := 1)) (apply effK_altN; · finish (splits := 3) (ematch := 1)) (apply valK_altNY; · finish (splits := 3) (ematch := 1)) (apply valK_altNN; · finish (splits := 3) (ematch := 1)) (apply valK_altS) (apply valK_altNS) (apply effK_altS) (apply appS_go) (apply brC_y; · finish (splits := 3) (ematch := 1)) (apply brC_n; · finish (splits := 3) (ematch := 1)) (apply brC_yN; · finish (splits := 3) (ematch := 1)) (apply brC_nN; · finish (splits := 3) (ematch := 1)) (apply brC_s) (apply brC_sN) (apply wantK_y; · finish (splits := 3) (ematch := 1)) (apply wantK_n; · finish (splits := 3) (ematch := 1)) (apply wantK_yN; · finish (splits := 3) (ematch := 1)) (apply wantK_nN; · finish (splits := 3) (ematch := 1)) (apply wantK_s) (apply wantK_sN) (apply rowG_y; · finish (splits := 3) (ematch := 1)) (apply rowG_n; · finish (splits := 3) (ematch := 1)) (apply rowG_yN; · finish (splits := 3) (ematch := 1)) (apply rowG_nN; · finish (splits := 3) (ematch := 1)) (apply rowG_s) (apply rowG_sN) (simp [hT, hm, bufE_eq, poolE_eq, rowQ_eq, mapN_eq, lookC_hW, hW_look, putC_hW, hW_set, step_x, step_y, step_m, eFrag_size, eFrag_tup, layOK_frag, e17Op_eq, e19Op_eq, eAbuffertile_eq, eColour_eq, eKey_eq, cx32_P, cx32_l0, cx32_l1, cx32_l2, cx32_l3, cx32_l4, cx32_l5, cx32_l6, cx32_l7, cx32_l8, cx32_l9, cx32_p1, cx32_p4, cx32_p8, cx32_pu, Try.f32.eq_1, ty_arrOf_3, ty_arrOf_37, ty_arrOf_64, ty_arrOf_65, ty_arrOf_96, ty_arrOf_98, ty_eqTy_64, ty_fldOf_101_0, ty_fldOf_101_1, ty_fldOf_101_2, ty_fldOf_101_3, ty_fldOf_64_0, ty_fldOf_64_1, ty_fldOf_64_2, ty_fldOf_64_3, ty_fldOf_96_0, ty_fldOf_96_1, ty_fldOf_96_2, ty_fldOf_96_3, ty_hasTy_5, ty_hasTy_97, ty_intOf_3, ty_isBoolTy_4, ty_isInt_3, ty_notInt_3, ty_isPtrTy_65, ty_lay_3, ty_lay_37, ty_lay_4, ty_lay_5, ty_lay_64, ty_lay_96, ty_lay_97, ty_lay_98, ty_mapKT_97, ty_mapZ_97, ty_notInt_37, ty_notInt_64, ty_notInt_65, ty_notInt_96, ty_notInt_98, ty_placesOf_101, ty_placesOf_37, ty_placesOf_64, ty_placesOf_96, ty_slcOf_3, ty_slcOf_37, ty_slcOf_64, ty_slcOf_65, ty_slcOf_96, ty_slcOf_98, ty_zeroA_101, ty_zeroA_3, ty_zeroA_37, ty_zeroA_4, ty_zeroA_64, ty_zeroA_96, cx51_P, cx51_l0, cx51_l1, cx51_l2, cx51_l3, cx51_l4, cx51_p1, cx51_pu, Try.f51.eq_1, valK_some, newK_some, effK_some, opE_move, opE_assign, opE_pick, opE_load, opE_nilCheck, opE_bin, opE_un, opE_fieldAddr, opE_extract, opE_alloc, opE_box, callK_fn, callK_yld, callG_some, callG_none, opE_store_r, opE_call_r, opE_store_w, opE_call_w, opE_lookup, opE_upd_r, opE_upd_w, ev_seq, ev_skip, ev_label, ev_region, ev_draw, evDO_some, ev_cond, condC_some, brC_true, brC_false, ev_block, ev_scope, ev_exit, ev_ret, nx_seq, nx_seqE, nx_seqR, nx_blk, nx_blkE, nx_blkR, nx_top, nx_topR, topO_some, evR_nil, wantK_tup, wantK_tt, wantK_ff, wantK_tf, wantK_ft, evR_op, evR_guard, evD_nil, evD_row, rowK_eff, rowK_calm, rowK_guard, rowG_tup, rowG_tt, rowG_ff, rowG_tf, rowG_ft, rowN_eq, chkA_nil, chkA_cons, chkO_some, chkW_false, sameO_some, chkW_load, chkW_len, finK_reg, finK_row, finK_calm, finN_reg, finN_row, finN_calm, nid_reg, nid_row, nid_calm, getT_cons, putT_some, putT_none, trimT_some, trimT_none, keepT_nil, keepT_cons, consT_some, consT_none, getT_nil, getO_tmp, getO_const, getO_func, ofC_int, ofC_bool, ofC_ptr, ofC_slc, ofC_map, ofC_fn, getOs_nil, getOs_cons, consO_some, guardT_eq, guardO_some, wantA_none, wantA_some, wantO_tup, wantO_tt, wantO_ff, wantO_tf, wantO_ft, hget_cons, hset_cons, memb_nil, memb_cons, hideH_cons, showH_cons, hideH_none, showH_none, showH_nil, outs_nil, outs_cons, app_nil, nil_app, cons_app, rowOf_cons, wrap_lit, wrap_neg, top_i64, bot_i64, top_u8, bot_u8, bits_u8, bits_i64, cast_lit, toNat_lit, get_zero, get_succ, take_zero, take_succ, set_zero, set_succ, length_nil, length_cons, length_set, append_nil, nil_append, cons_append, toList_arr, bnot_true, bnot_false, band_true, band_false, beq_tt, beq_ff, beq_tf, beq_ft, beq_nat, beq_int, bne_nat, map_some, map_none, true_eq_false, false_eq_true, true_eq_true, fbody_mk, fresults_mk, getD_some, bol_true, binO_some, bin_eql, bin_beql, bin_bneq, eqO_eq, eqO_ne, bin_aeql, bin_aneq, bin_reql, bin_rneq, aggEq_some, flatL_nil, flatL_cons, appV_some, flatV_int, flatV_bool, flatV_agg, flatV_rows, bin_feql, bin_fneq, bin_nfeql, bin_nfneq, bin_peql, bin_pneq, bin_npeql, bin_npneq, unO_some, un_not, pickA_true, pickA_false, nilO_some, nilA_ptr, nilA_fn, nilA_yld, nilA_map, nilA_slc, exO_some, ext_tup, size_int, size_bool, size_str, size_ptr, size_nilp, size_slc, size_nils, size_map, size_nilm, size_fn, size_yld, size_nilf, size_agg, size_rows, sizeL_nil, sizeL_cons, layOK_int, layOK_bool, layOK_str, layOK_ptr, layOK_nilp, layOK_slc, layOK_nils, layOK_map, layOK_nilm, layOK_fn, layOK_yld, layOK_nilf, layOK_agg, layOK_rows, isTup_int, isTup_bool, isTup_str, isTup_ptr, isTup_nilp, isTup_slc, isTup_nils, isTup_map, isTup_nilm, isTup_fn, isTup_yld, isTup_nilf, isTup_agg, isTup_rows, getP_nil, getP_cons, getS_some, stepP_agg, stepP_rows, putP_nil, putP_cons, putS_some, putU_some, setS_agg, setS_rows, loadO_some, loadA_ptr, loadE_cel, loadE_vec, loadE_ro, chkL_some, storeO_some, stH_some, storeA_ptr, storeE_cel, storeE_vec, storeB_cel, faO_some, fa_ptr, newA_some, slN_some, resF_eq, resAll_nil, resAll_cons, resOne_tmp, resOne_cell, tupO_none, tupO_one, tupO_more, argT_nil, argT_cons, lookU_nil, lookU_cons, lookL_cons, lookL_nil, lookP_cons, lookO_some, mapC_map, mapC_nil, mapE_mp, mapE_lk, keyO_int, keyO_agg, keyO_rows, keyL_nil, keyL_cons, keyS_some, keyM_1, keyM_2, keyM_3, keyM_4, lookC_no, lookOut_no, lookOut_no2, lookOut_in, lookOut_in2, updO_some, updE_some, putC_no, roundS_eq, mun_neg, wrapO_lit, wrapO_neg, mstoreB_vec, len_set, not_tf, not_ft, and_tf, not_not_b, alt_true, alt_false, pick_alt, bol_false, getS_bol, getS_alt, chkL_bol, chkL_alt, putS_bol, putS_alt, putU_bol, putU_alt, storeB_bol, storeB_alt, stH_bol, stH_alt, consO_bol, consO_bol2, tupO_bol, eqO_bol, bol_bol, get_mapB, get_setB, get_appB, len_map, nat_zero_add, bin_nsleql, bin_nslneq, bin_nnleql, bin_nnlneq, slN_bol, beq_str, hideH_nil, and_self, and_true, true_and, and_false, false_and]) (apply chkW_want) (apply chkW_wantA) (apply valK_bolB; · finish (splits := 3) (ematch := 1)) (apply valK_altT; · finish (splits := 3) (ematch := 1)) (apply valK_altF; · finish (splits := 3) (ematch := 1)) (apply valK_altB) (apply brC_t; · finish (splits := 3) (ematch := 1)) (apply brC_f; · finish (splits := 3) (ematch := 1)) (apply brC_sBN) (apply brC_sB) (apply wantK_t; · finish (splits := 3) (ematch := 1)) (apply wantK_f; · finish (splits := 3) (ematch := 1)) (apply wantK_sBN) (apply wantK_sB) (apply rowG_t; · finish (splits := 3) (ematch := 1)) (apply rowG_f; · finish (splits := 3) (ematch := 1)) (apply rowG_sBN) (apply rowG_sB) (intro~ hr) (tactic => first | (refine ⟨2, 13, _, _, _, _, _, by decide, rfl, rfl, rfl, rfl, ?_⟩; refine reidP_of [0, 1, 2, 3, 6] _ _ rfl rfl rfl ?_ ?_ ?_ ⟨cap, rfl, rfl, rfl⟩ <;> simp [subH, okW, hget, hset, hdel, idx, AV.ren, renL, Ent.writes, setS, er_celQ, er_vecQ, er_hW, nodes_ren, bufE, poolE, rowQ, mapN]; done) | (trace_state; exact test_fail)))
theorem put_c (s : BufS) (cap : Nat) (f : TFrag) (hs : okB s) (hT : inT s.a s.b s.c s.d f.x f.y = true) (hm : ¬ f.mask = 0) (hr : (s.R.length : Int) < s.room) : callA Try.prog 32 [.ptr 3 0 [], eFrag f] (bufH s 2 cap) 4 fun v H' n' => ∃ c, v = .bool (putB s f).1 ∧ H' = bufH (putB s f).2 4 c ∧ n' = 5 := by
  have hB : putB s f = (true, ⟨s.a, s.b, s.c, s.d, s.room, mostU s.most s.R.length, f :: s.R, s.ov⟩) := by unfold putB; rw [if_neg (by rw [hT]; decide), if_neg hm, if_pos hr]
  rw [hB]
  unfold bufH
  have hR : s.R.length ≤ 65536 := by have := hs.2; omega
  have em := eq_false hm
  refine callA_reid (callA_fresh 1 [.fld 4 4] ?_)
  cases hI : inH (headR s.R) f.x f.y
  all_goals
    show callA _ _ _ _ _ _
    sym =>
      repeat (first (apply enter32) (apply enter51) (apply at_use) (apply pushI_use; (tactic => rfl); (tactic => rfl); (tactic => decide); (tactic => exact hR); (tactic => first | exact headR_at _ _ _ | exact headR_none _ _ _ hI); (tactic => exact hr)) (apply imp_go; intro hp) (apply valK_w64; · finish (splits := 3) (ematch := 1)) (apply valK_wu8; · finish (splits := 3) (ematch := 1)) (apply valK_wu64; · finish (splits := 3) (ematch := 1)) (apply valK_w32; · finish (splits := 3) (ematch := 1)) (apply valK_wu16; · finish (splits := 3) (ematch := 1)) (apply valK_wu32; · finish (splits := 3) (ematch := 1)) (apply valK_wr) (apply valK_andR) (apply valK_quo; · finish (splits := 3) (ematch := 1)) (apply valK_quoR; · finish (splits := 3) (ematch := 1)) (apply valK_rem; · finish (splits := 3) (ematch := 1)) (apply valK_remR; · finish (splits := 3) (ematch := 1)) (apply valK_bol; · finish (splits := 3) (ematch := 1)) (apply effK_bol; · finish (splits := 3) (ematch := 1)) (apply newK_bol; · finish (splits := 3) (ematch := 1)) (apply appK_bol; · finish (splits := 3) (ematch := 1)) (apply topO_bol; · finish (splits := 3) (ematch := 1)) (apply valK_altY; · finish (splits := 3) (ematch := 1)) (apply valK_altN; · finish (splits := 3) (ematch := 1)) (apply effK_altY; · finish (splits := 3) (ematch := 1)) (apply effK_altN; · finish (splits := 3) (ematch := 1)) (apply valK_altNY; · finish (splits := 3) (ematch := 1)) (apply valK_altNN; · finish (splits := 3) (ematch := 1)) (apply valK_altS) (apply valK_altNS) (apply effK_altS) (apply appS_go) (apply brC_y; · finish (splits := 3) (ematch := 1)) (apply brC_n; · finish (splits := 3) (ematch := 1)) (apply brC_yN; · finish (splits := 3) (ematch := 1)) (apply brC_nN; · finish (splits := 3) (ematch := 1)) (apply brC_s) (apply brC_sN) (apply wantK_y; · finish (splits := 3) (ematch := 1)) (apply wantK_n; · finish (splits := 3) (ematch := 1)) (apply wantK_yN; · finish (splits := 3) (ematch := 1)) (apply wantK_nN; · finish (splits := 3) (ematch := 1)) (apply wantK_s) (apply wantK_sN) (apply rowG_y; · finish (splits := 3) (ematch := 1)) (apply rowG_n; · finish (splits := 3) (ematch := 1)) (apply rowG_yN; · finish (splits := 3) (ematch := 1)) (apply rowG_nN; · finish (splits := 3) (ematch := 1)) (apply rowG_s) (apply rowG_sN) (simp [hT, em, hI, bufE_eq, poolE_eq, rowQ_eq, mapN_eq, lookC_hW, hW_look, putC_hW, hW_set, step_x, step_y, step_m, eFrag_size, eFrag_tup, layOK_frag, e17Op_eq, e19Op_eq, eAbuffertile_eq, eColour_eq, eKey_eq, cx32_P, cx32_l0, cx32_l1, cx32_l2, cx32_l3, cx32_l4, cx32_l5, cx32_l6, cx32_l7, cx32_l8, cx32_l9, cx32_p1, cx32_p4, cx32_p8, cx32_pu, Try.f32.eq_1, ty_arrOf_3, ty_arrOf_37, ty_arrOf_64, ty_arrOf_65, ty_arrOf_96, ty_arrOf_98, ty_eqTy_64, ty_fldOf_101_0, ty_fldOf_101_1, ty_fldOf_101_2, ty_fldOf_101_3, ty_fldOf_64_0, ty_fldOf_64_1, ty_fldOf_64_2, ty_fldOf_64_3, ty_fldOf_96_0, ty_fldOf_96_1, ty_fldOf_96_2, ty_fldOf_96_3, ty_hasTy_5, ty_hasTy_97, ty_intOf_3, ty_isBoolTy_4, ty_isInt_3, ty_notInt_3, ty_isPtrTy_65, ty_lay_3, ty_lay_37, ty_lay_4, ty_lay_5, ty_lay_64, ty_lay_96, ty_lay_97, ty_lay_98, ty_mapKT_97, ty_mapZ_97, ty_notInt_37, ty_notInt_64, ty_notInt_65, ty_notInt_96, ty_notInt_98, ty_placesOf_101, ty_placesOf_37, ty_placesOf_64, ty_placesOf_96, ty_slcOf_3, ty_slcOf_37, ty_slcOf_64, ty_slcOf_65, ty_slcOf_96, ty_slcOf_98, ty_zeroA_101, ty_zeroA_3, ty_zeroA_37, ty_zeroA_4, ty_zeroA_64, ty_zeroA_96, cx51_P, cx51_l0, cx51_l1, cx51_l2, cx51_l3, cx51_l4, cx51_p1, cx51_pu, Try.f51.eq_1, valK_some, newK_some, effK_some, opE_move, opE_assign, opE_pick, opE_load, opE_nilCheck, opE_bin, opE_un, opE_fieldAddr, opE_extract, opE_alloc, opE_box, callK_fn, callK_yld, callG_some, callG_none, opE_store_r, opE_call_r, opE_store_w, opE_call_w, opE_lookup, opE_upd_r, opE_upd_w, ev_seq, ev_skip, ev_label, ev_region, ev_draw, evDO_some, ev_cond, condC_some, brC_true, brC_false, ev_block, ev_scope, ev_exit, ev_ret, nx_seq, nx_seqE, nx_seqR, nx_blk, nx_blkE, nx_blkR, nx_top, nx_topR, topO_some, evR_nil, wantK_tup, wantK_tt, wantK_ff, wantK_tf, wantK_ft, evR_op, evR_guard, evD_nil, evD_row, rowK_eff, rowK_calm, rowK_guard, rowG_tup, rowG_tt, rowG_ff, rowG_tf, rowG_ft, rowN_eq, chkA_nil, chkA_cons, chkO_some, chkW_false, sameO_some, chkW_load, chkW_len, finK_reg, finK_row, finK_calm, finN_reg, finN_row, finN_calm, nid_reg, nid_row, nid_calm, getT_cons, putT_some, putT_none, trimT_some, trimT_none, keepT_nil, keepT_cons, consT_some, consT_none, getT_nil, getO_tmp, getO_const, getO_func, ofC_int, ofC_bool, ofC_ptr, ofC_slc, ofC_map, ofC_fn, getOs_nil, getOs_cons, consO_some, guardT_eq, guardO_some, wantA_none, wantA_some, wantO_tup, wantO_tt, wantO_ff, wantO_tf, wantO_ft, hget_cons, hset_cons, memb_nil, memb_cons, hideH_cons, showH_cons, hideH_none, showH_none, showH_nil, outs_nil, outs_cons, app_nil, nil_app, cons_app, rowOf_cons, wrap_lit, wrap_neg, top_i64, bot_i64, top_u8, bot_u8, bits_u8, bits_i64, cast_lit, toNat_lit, get_zero, get_succ, take_zero, take_succ, set_zero, set_succ, length_nil, length_cons, length_set, append_nil, nil_append, cons_append, toList_arr, bnot_true, bnot_false, band_true, band_false, beq_tt, beq_ff, beq_tf, beq_ft, beq_nat, beq_int, bne_nat, map_some, map_none, true_eq_false, false_eq_true, true_eq_true, fbody_mk, fresults_mk, getD_some, bol_true, binO_some, bin_eql, bin_beql, bin_bneq, eqO_eq, eqO_ne, bin_aeql, bin_aneq, bin_reql, bin_rneq, aggEq_some, flatL_nil, flatL_cons, appV_some, flatV_int, flatV_bool, flatV_agg, flatV_rows, bin_feql, bin_fneq, bin_nfeql, bin_nfneq, bin_peql, bin_pneq, bin_npeql, bin_npneq, unO_some, un_not, pickA_true, pickA_false, nilO_some, nilA_ptr, nilA_fn, nilA_yld, nilA_map, nilA_slc, exO_some, ext_tup, size_int, size_bool, size_str, size_ptr, size_nilp, size_slc, size_nils, size_map, size_nilm, size_fn, size_yld, size_nilf, size_agg, size_rows, sizeL_nil, sizeL_cons, layOK_int, layOK_bool, layOK_str, layOK_ptr, layOK_nilp, layOK_slc, layOK_nils, layOK_map, layOK_nilm, layOK_fn, layOK_yld, layOK_nilf, layOK_agg, layOK_rows, isTup_int, isTup_bool, isTup_str, isTup_ptr, isTup_nilp, isTup_slc, isTup_nils, isTup_map, isTup_nilm, isTup_fn, isTup_yld, isTup_nilf, isTup_agg, isTup_rows, getP_nil, getP_cons, getS_some, stepP_agg, stepP_rows, putP_nil, putP_cons, putS_some, putU_some, setS_agg, setS_rows, loadO_some, loadA_ptr, loadE_cel, loadE_vec, loadE_ro, chkL_some, storeO_some, stH_some, storeA_ptr, storeE_cel, storeE_vec, storeB_cel, faO_some, fa_ptr, newA_some, slN_some, resF_eq, resAll_nil, resAll_cons, resOne_tmp, resOne_cell, tupO_none, tupO_one, tupO_more, argT_nil, argT_cons, lookU_nil, lookU_cons, lookL_cons, lookL_nil, lookP_cons, lookO_some, mapC_map, mapC_nil, mapE_mp, mapE_lk, keyO_int, keyO_agg, keyO_rows, keyL_nil, keyL_cons, keyS_some, keyM_1, keyM_2, keyM_3, keyM_4, lookC_no, lookOut_no, lookOut_no2, lookOut_in, lookOut_in2, updO_some, updE_some, putC_no, roundS_eq, mun_neg, wrapO_lit, wrapO_neg, mstoreB_vec, len_set, not_tf, not_ft, and_tf, not_not_b, alt_true, alt_false, pick_alt, bol_false, getS_bol, getS_alt, chkL_bol, chkL_alt, putS_bol, putS_alt, putU_bol, putU_alt, storeB_bol, storeB_alt, stH_bol, stH_alt, consO_bol, consO_bol2, tupO_bol, eqO_bol, bol_bol, get_mapB, get_setB, get_appB, len_map, nat_zero_add, bin_nsleql, bin_nslneq, bin_nnleql, bin_nnlneq, slN_bol, beq_str, hideH_nil, and_self, and_true, true_and, and_false, false_and]) (apply chkW_want) (apply chkW_wantA) (apply valK_bolB; · finish (splits := 3) (ematch := 1)) (apply valK_altT; · finish (splits := 3) (ematch := 1)) (apply valK_altF; · finish (splits := 3) (ematch := 1)) (apply valK_altB) (apply brC_t; · finish (splits := 3) (ematch := 1)) (apply brC_f; · finish (splits := 3) (ematch := 1)) (apply brC_sBN) (apply brC_sB) (apply wantK_t; · finish (splits := 3) (ematch := 1)) (apply wantK_f; · finish (splits := 3) (ematch := 1)) (apply wantK_sBN) (apply wantK_sB) (apply rowG_t; · finish (splits := 3) (ematch := 1)) (apply rowG_f; · finish (splits := 3) (ematch := 1)) (apply rowG_sBN) (apply rowG_sB) (intro~ hr) (tactic => first | (refine ⟨7, 13, _, hr, _, _, _, by decide, rfl, rfl, rfl, rfl, ?_⟩; refine reidP_of [0, 1, 2, 3, 8] _ _ rfl rfl rfl ?_ ?_ ?_ ⟨hr, rfl, rfl, rfl⟩ <;> simp [subH, okW, hget, hset, hdel, idx, AV.ren, renL, Ent.writes, setS, er_celQ, er_vecQ, er_hW, nodes_ren, bufE, poolE, rowQ, mapN, hdR_cons, mostU]; done) | (trace_state; exact test_fail)))
theorem put_d (s : BufS) (cap : Nat) (f : TFrag) (hs : okB s) (hT : inT s.a s.b s.c s.d f.x f.y = true) (hm : ¬ f.mask = 0) (hr : ¬ (s.R.length : Int) < s.room) : callA Try.prog 32 [.ptr 3 0 [], eFrag f] (bufH s 2 cap) 4 fun v H' n' => ∃ c, v = .bool (putB s f).1 ∧ H' = bufH (putB s f).2 4 c ∧ n' = 5 := by
  have hB : putB s f = (false, ⟨s.a, s.b, s.c, s.d, s.room, s.most, s.R, true⟩) := by unfold putB; rw [if_neg (by rw [hT]; decide), if_neg hm, if_neg hr]
  rw [hB]
  unfold bufH
  have hR : s.R.length ≤ 65536 := by have := hs.2; have := hs.1; omega
  have hf : (s.R.length : Int) = s.room := by have := hs.1; omega
  have em := eq_false hm
  refine callA_reid (callA_fresh 1 [.fld 4 4] ?_)
  cases hI : inH (headR s.R) f.x f.y
  all_goals
    show callA _ _ _ _ _ _
    sym =>
      repeat (first (apply enter32) (apply enter51) (apply at_use) (apply pushF_use; (tactic => rfl); (tactic => rfl); (tactic => decide); (tactic => exact hR); (tactic => first | exact headR_at _ _ _ | exact headR_none _ _ _ hI); (tactic => exact hf)) (apply imp_go; intro hp) (apply valK_w64; · finish (splits := 3) (ematch := 1)) (apply valK_wu8; · finish (splits := 3) (ematch := 1)) (apply valK_wu64; · finish (splits := 3) (ematch := 1)) (apply valK_w32; · finish (splits := 3) (ematch := 1)) (apply valK_wu16; · finish (splits := 3) (ematch := 1)) (apply valK_wu32; · finish (splits := 3) (ematch := 1)) (apply valK_wr) (apply valK_andR) (apply valK_quo; · finish (splits := 3) (ematch := 1)) (apply valK_quoR; · finish (splits := 3) (ematch := 1)) (apply valK_rem; · finish (splits := 3) (ematch := 1)) (apply valK_remR; · finish (splits := 3) (ematch := 1)) (apply valK_bol; · finish (splits := 3) (ematch := 1)) (apply effK_bol; · finish (splits := 3) (ematch := 1)) (apply newK_bol; · finish (splits := 3) (ematch := 1)) (apply appK_bol; · finish (splits := 3) (ematch := 1)) (apply topO_bol; · finish (splits := 3) (ematch := 1)) (apply valK_altY; · finish (splits := 3) (ematch := 1)) (apply valK_altN; · finish (splits := 3) (ematch := 1)) (apply effK_altY; · finish (splits := 3) (ematch := 1)) (apply effK_altN; · finish (splits := 3) (ematch := 1)) (apply valK_altNY; · finish (splits := 3) (ematch := 1)) (apply valK_altNN; · finish (splits := 3) (ematch := 1)) (apply valK_altS) (apply valK_altNS) (apply effK_altS) (apply appS_go) (apply brC_y; · finish (splits := 3) (ematch := 1)) (apply brC_n; · finish (splits := 3) (ematch := 1)) (apply brC_yN; · finish (splits := 3) (ematch := 1)) (apply brC_nN; · finish (splits := 3) (ematch := 1)) (apply brC_s) (apply brC_sN) (apply wantK_y; · finish (splits := 3) (ematch := 1)) (apply wantK_n; · finish (splits := 3) (ematch := 1)) (apply wantK_yN; · finish (splits := 3) (ematch := 1)) (apply wantK_nN; · finish (splits := 3) (ematch := 1)) (apply wantK_s) (apply wantK_sN) (apply rowG_y; · finish (splits := 3) (ematch := 1)) (apply rowG_n; · finish (splits := 3) (ematch := 1)) (apply rowG_yN; · finish (splits := 3) (ematch := 1)) (apply rowG_nN; · finish (splits := 3) (ematch := 1)) (apply rowG_s) (apply rowG_sN) (simp [hT, em, hI, bufE_eq, poolE_eq, rowQ_eq, mapN_eq, lookC_hW, hW_look, putC_hW, hW_set, step_x, step_y, step_m, eFrag_size, eFrag_tup, layOK_frag, e17Op_eq, e19Op_eq, eAbuffertile_eq, eColour_eq, eKey_eq, cx32_P, cx32_l0, cx32_l1, cx32_l2, cx32_l3, cx32_l4, cx32_l5, cx32_l6, cx32_l7, cx32_l8, cx32_l9, cx32_p1, cx32_p4, cx32_p8, cx32_pu, Try.f32.eq_1, ty_arrOf_3, ty_arrOf_37, ty_arrOf_64, ty_arrOf_65, ty_arrOf_96, ty_arrOf_98, ty_eqTy_64, ty_fldOf_101_0, ty_fldOf_101_1, ty_fldOf_101_2, ty_fldOf_101_3, ty_fldOf_64_0, ty_fldOf_64_1, ty_fldOf_64_2, ty_fldOf_64_3, ty_fldOf_96_0, ty_fldOf_96_1, ty_fldOf_96_2, ty_fldOf_96_3, ty_hasTy_5, ty_hasTy_97, ty_intOf_3, ty_isBoolTy_4, ty_isInt_3, ty_notInt_3, ty_isPtrTy_65, ty_lay_3, ty_lay_37, ty_lay_4, ty_lay_5, ty_lay_64, ty_lay_96, ty_lay_97, ty_lay_98, ty_mapKT_97, ty_mapZ_97, ty_notInt_37, ty_notInt_64, ty_notInt_65, ty_notInt_96, ty_notInt_98, ty_placesOf_101, ty_placesOf_37, ty_placesOf_64, ty_placesOf_96, ty_slcOf_3, ty_slcOf_37, ty_slcOf_64, ty_slcOf_65, ty_slcOf_96, ty_slcOf_98, ty_zeroA_101, ty_zeroA_3, ty_zeroA_37, ty_zeroA_4, ty_zeroA_64, ty_zeroA_96, cx51_P, cx51_l0, cx51_l1, cx51_l2, cx51_l3, cx51_l4, cx51_p1, cx51_pu, Try.f51.eq_1, valK_some, newK_some, effK_some, opE_move, opE_assign, opE_pick, opE_load, opE_nilCheck, opE_bin, opE_un, opE_fieldAddr, opE_extract, opE_alloc, opE_box, callK_fn, callK_yld, callG_some, callG_none, opE_store_r, opE_call_r, opE_store_w, opE_call_w, opE_lookup, opE_upd_r, opE_upd_w, ev_seq, ev_skip, ev_label, ev_region, ev_draw, evDO_some, ev_cond, condC_some, brC_true, brC_false, ev_block, ev_scope, ev_exit, ev_ret, nx_seq, nx_seqE, nx_seqR, nx_blk, nx_blkE, nx_blkR, nx_top, nx_topR, topO_some, evR_nil, wantK_tup, wantK_tt, wantK_ff, wantK_tf, wantK_ft, evR_op, evR_guard, evD_nil, evD_row, rowK_eff, rowK_calm, rowK_guard, rowG_tup, rowG_tt, rowG_ff, rowG_tf, rowG_ft, rowN_eq, chkA_nil, chkA_cons, chkO_some, chkW_false, sameO_some, chkW_load, chkW_len, finK_reg, finK_row, finK_calm, finN_reg, finN_row, finN_calm, nid_reg, nid_row, nid_calm, getT_cons, putT_some, putT_none, trimT_some, trimT_none, keepT_nil, keepT_cons, consT_some, consT_none, getT_nil, getO_tmp, getO_const, getO_func, ofC_int, ofC_bool, ofC_ptr, ofC_slc, ofC_map, ofC_fn, getOs_nil, getOs_cons, consO_some, guardT_eq, guardO_some, wantA_none, wantA_some, wantO_tup, wantO_tt, wantO_ff, wantO_tf, wantO_ft, hget_cons, hset_cons, memb_nil, memb_cons, hideH_cons, showH_cons, hideH_none, showH_none, showH_nil, outs_nil, outs_cons, app_nil, nil_app, cons_app, rowOf_cons, wrap_lit, wrap_neg, top_i64, bot_i64, top_u8, bot_u8, bits_u8, bits_i64, cast_lit, toNat_lit, get_zero, get_succ, take_zero, take_succ, set_zero, set_succ, length_nil, length_cons, length_set, append_nil, nil_append, cons_append, toList_arr, bnot_true, bnot_false, band_true, band_false, beq_tt, beq_ff, beq_tf, beq_ft, beq_nat, beq_int, bne_nat, map_some, map_none, true_eq_false, false_eq_true, true_eq_true, fbody_mk, fresults_mk, getD_some, bol_true, binO_some, bin_eql, bin_beql, bin_bneq, eqO_eq, eqO_ne, bin_aeql, bin_aneq, bin_reql, bin_rneq, aggEq_some, flatL_nil, flatL_cons, appV_some, flatV_int, flatV_bool, flatV_agg, flatV_rows, bin_feql, bin_fneq, bin_nfeql, bin_nfneq, bin_peql, bin_pneq, bin_npeql, bin_npneq, unO_some, un_not, pickA_true, pickA_false, nilO_some, nilA_ptr, nilA_fn, nilA_yld, nilA_map, nilA_slc, exO_some, ext_tup, size_int, size_bool, size_str, size_ptr, size_nilp, size_slc, size_nils, size_map, size_nilm, size_fn, size_yld, size_nilf, size_agg, size_rows, sizeL_nil, sizeL_cons, layOK_int, layOK_bool, layOK_str, layOK_ptr, layOK_nilp, layOK_slc, layOK_nils, layOK_map, layOK_nilm, layOK_fn, layOK_yld, layOK_nilf, layOK_agg, layOK_rows, isTup_int, isTup_bool, isTup_str, isTup_ptr, isTup_nilp, isTup_slc, isTup_nils, isTup_map, isTup_nilm, isTup_fn, isTup_yld, isTup_nilf, isTup_agg, isTup_rows, getP_nil, getP_cons, getS_some, stepP_agg, stepP_rows, putP_nil, putP_cons, putS_some, putU_some, setS_agg, setS_rows, loadO_some, loadA_ptr, loadE_cel, loadE_vec, loadE_ro, chkL_some, storeO_some, stH_some, storeA_ptr, storeE_cel, storeE_vec, storeB_cel, faO_some, fa_ptr, newA_some, slN_some, resF_eq, resAll_nil, resAll_cons, resOne_tmp, resOne_cell, tupO_none, tupO_one, tupO_more, argT_nil, argT_cons, lookU_nil, lookU_cons, lookL_cons, lookL_nil, lookP_cons, lookO_some, mapC_map, mapC_nil, mapE_mp, mapE_lk, keyO_int, keyO_agg, keyO_rows, keyL_nil, keyL_cons, keyS_some, keyM_1, keyM_2, keyM_3, keyM_4, lookC_no, lookOut_no, lookOut_no2, lookOut_in, lookOut_in2, updO_some, updE_some, putC_no, roundS_eq, mun_neg, wrapO_lit, wrapO_neg, mstoreB_vec, len_set, not_tf, not_ft, and_tf, not_not_b, alt_true, alt_false, pick_alt, bol_false, getS_bol, getS_alt, chkL_bol, chkL_alt, putS_bol, putS_alt, putU_bol, putU_alt, storeB_bol, storeB_alt, stH_bol, stH_alt, consO_bol, consO_bol2, tupO_bol, eqO_bol, bol_bol, get_mapB, get_setB, get_appB, len_map, nat_zero_add, bin_nsleql, bin_nslneq, bin_nnleql, bin_nnlneq, slN_bol, beq_str, hideH_nil, and_self, and_true, true_and, and_false, false_and]) (apply chkW_want) (apply chkW_wantA) (apply valK_bolB; · finish (splits := 3) (ematch := 1)) (apply valK_altT; · finish (splits := 3) (ematch := 1)) (apply valK_altF; · finish (splits := 3) (ematch := 1)) (apply valK_altB) (apply brC_t; · finish (splits := 3) (ematch := 1)) (apply brC_f; · finish (splits := 3) (ematch := 1)) (apply brC_sBN) (apply brC_sB) (apply wantK_t; · finish (splits := 3) (ematch := 1)) (apply wantK_f; · finish (splits := 3) (ematch := 1)) (apply wantK_sBN) (apply wantK_sB) (apply rowG_t; · finish (splits := 3) (ematch := 1)) (apply rowG_f; · finish (splits := 3) (ematch := 1)) (apply rowG_sBN) (apply rowG_sB) (intro~ hr) (tactic => first | (refine ⟨7, 13, _, hr, _, _, _, by decide, rfl, rfl, rfl, rfl, ?_⟩; refine reidP_of [0, 1, 2, 3, 8] _ _ rfl rfl rfl ?_ ?_ ?_ ⟨hr, rfl, rfl, rfl⟩ <;> simp [subH, okW, hget, hset, hdel, idx, AV.ren, renL, Ent.writes, setS, er_celQ, er_vecQ, er_hW, nodes_ren, bufE, poolE, rowQ, mapN, hdR_cons, mostU]; done) | (trace_state; exact test_fail)))
theorem put_call (s : BufS) (cap : Nat) (f : TFrag) (hs : okB s) : callA Try.prog 32 [.ptr 3 0 [], eFrag f] (bufH s 2 cap) 4 fun v H' n' => ∃ c, v = .bool (putB s f).1 ∧ H' = bufH (putB s f).2 4 c ∧ n' = 5 := by
  cases hT : inT s.a s.b s.c s.d f.x f.y
  · exact put_a s cap f hT
  · by_cases hm : f.mask = 0
    · exact put_b s cap f hT hm
    · by_cases hr : (s.R.length : Int) < s.room
      · exact put_c s cap f hs hT hm hr
      · exact put_d s cap f hs hT hm hr
theorem putB_ok {s : BufS} (hs : okB s) (f : TFrag) : okB (putB s f).2 := by
  unfold putB
  split
  · exact hs
  · split
    · exact hs
    · split
      · rename_i h1 h2 h3
        refine ⟨?_, hs.2⟩
        show (((f :: s.R).length : Nat) : Int) ≤ s.room
        rw [List.length_cons]; omega
      · exact hs
end Go.Proofs.Ytbkmhkeihbgcfaa
