/-
  Chapter 19: pool, lists, plain laws.
-/
import Derived.Test.YtbkmhkeihbgcfaaRa
set_option linter.unusedVariables false
set_option linter.unusedSimpArgs false
set_option maxRecDepth 10000
set_option maxHeartbeats 0
namespace Go.Proofs.Ytbkmhkeihbgcfaa
open Go.Y
-- Chapter 19: the pool's functions, of fragments (turned from chapter 17).
abbrev Node := TFrag × Int × Bool
def nodeV (q : Node) : AV := .agg [eFrag q.1, .int .i64 q.2.1, .bool q.2.2]
theorem nodeV_eq (q : Node) : nodeV q = .agg [eFrag q.1, .int .i64 q.2.1, .bool q.2.2] := rfl
theorem nodeV_flat (q : Node) : flatB (nodeV q) = true := rfl
theorem nodes_ren (τ : Nat → Nat) (l : List Node) : renL τ (l.map nodeV) = l.map nodeV := renL_maps nodeV_flat τ l
structure PoolS where
  room : Int
  free : Int
  live : Int
  most : Int
  ns : List Node
def poolV (s : PoolS) (k cap : Nat) : AV := .agg [.int .i64 s.room, .int .i64 s.free, .int .i64 s.live, .int .i64 s.most, .slc k 0 [] 13 0 0 s.ns.length cap]
theorem poolV_eq (s : PoolS) (k cap : Nat) : poolV s k cap = .agg [.int .i64 s.room, .int .i64 s.free, .int .i64 s.live, .int .i64 s.most, .slc k 0 [] 13 0 0 s.ns.length cap] := rfl
def poolH (s : PoolS) (k cap : Nat) : Hp := [(k, .vec cap 13 (s.ns.map nodeV)), (0, .cel (poolV s k cap))]
noncomputable def cx48 : Cx := ⟨Try.prog, [], [], [(0, [0]), (1, [2])]⟩
theorem cx48_P : cx48.P = Try.prog := rfl
theorem cx48_l0 : lookL 0 cx48.lv = some [0] := rfl
theorem cx48_l1 : lookL 1 cx48.lv = some [2] := rfl
theorem cx48_pu : cx48.pu = [] := rfl
theorem cx48_ok : okc cx48 Try.f48.ntmps (Try.f48.body.getD .skip) = true := by kernel_rfl
theorem enter48 {args : List AV} {H : Hp} {n : Nat} {Q : AV → Hp → Nat → Prop} (h : args.length ≤ 8 ∧ Ev cx48 ⟨8, n, none, 48⟩ (Try.f48.body.getD .skip) ⟨argT 0 args, H, n⟩ (.top Try.f48.results.toList Q)) : callA Try.prog 48 args H n Q :=
  callA_ev (cx := cx48) puOk_nil (f := 48) (fn := Try.f48) Try.func48 rfl (by kernel_rfl) h.1 cx48_ok h.2
def newP (room : Int) : PoolS := ⟨if 65536 < (if room < 0 then 0 else room) then 65536 else (if room < 0 then 0 else room), -1, 0, 0, []⟩
theorem new_call (room : Int) : callA Try.prog 48 [.int .i64 room] [] 0 fun v H' n' => v = .ptr 0 0 [] ∧ H' = poolH (newP room) 1 0 ∧ n' = 2 := by
  refine callA_nil 0 13 [.fld 4 4] ?_
  sym =>
    repeat (first (apply enter48) (apply imp_go; intro hp) (apply valK_w64; · finish (splits := 3) (ematch := 1)) (apply valK_wr) ((first (apply valK_bol) (apply effK_bol) (apply newK_bol) (apply appK_bol) (apply topO_bol)); · finish (splits := 3) (ematch := 1)) ((first (apply valK_altY) (apply effK_altY)); · finish (splits := 3) (ematch := 1)) ((first (apply valK_altN) (apply effK_altN)); · finish (splits := 3) (ematch := 1)) (apply valK_altNY; · finish (splits := 3) (ematch := 1)) (apply valK_altNN; · finish (splits := 3) (ematch := 1)) (apply valK_altS) (apply valK_altNS) (apply effK_altS) (apply appS_go) (apply brC_y; · finish (splits := 3) (ematch := 1)) (apply brC_n; · finish (splits := 3) (ematch := 1)) (apply brC_yN; · finish (splits := 3) (ematch := 1)) (apply brC_nN; · finish (splits := 3) (ematch := 1)) (apply brC_s) (apply brC_sN) (simp [e17Op_eq, e19Op_eq, eAbuffertile_eq, eColour_eq, eFrag_eq, eKey_eq, cx48_P, cx48_l0, cx48_l1, cx48_pu, Try.f48.eq_1, ty_arrOf_3, ty_fldOf_122_0, ty_fldOf_122_1, ty_fldOf_122_2, ty_fldOf_122_3, ty_fldOf_122_4, ty_intOf_3, ty_isInt_3, ty_notInt_3, ty_lay_3, ty_placesOf_122, ty_slcOf_3, ty_zeroA_122, ty_zeroA_3, valK_some, newK_some, opE_move, opE_assign, opE_build, opE_load, opE_bin, opE_un, opE_min, opE_max, opE_alloc, opE_box, ev_seq, ev_skip, ev_label, ev_region, ev_cond, condC_some, brC_true, brC_false, ev_block, ev_scope, ev_exit, ev_ret, nx_seq, nx_seqE, nx_seqR, nx_blk, nx_blkE, nx_blkR, nx_top, nx_topR, topO_some, evR_nil, evR_op, evR_guard, finK_reg, finN_reg, nid_reg, getT_cons, putT_some, putT_none, trimT_some, trimT_none, keepT_nil, keepT_cons, consT_some, consT_none, getT_nil, getO_tmp, getO_const, getO_func, ofC_int, ofC_bool, ofC_ptr, ofC_slc, ofC_map, ofC_fn, getOs_nil, getOs_cons, consO_some, hget_cons, wrap_lit, wrap_neg, top_i64, bot_i64, bits_i64, cast_lit, toNat_lit, get_zero, get_succ, take_zero, take_succ, set_zero, set_succ, length_nil, length_cons, append_nil, nil_append, cons_append, toList_arr, bnot_true, bnot_false, band_true, band_false, beq_tt, beq_ff, beq_tf, beq_ft, beq_nat, beq_int, bne_nat, map_some, map_none, true_eq_false, false_eq_true, true_eq_true, fbody_mk, fresults_mk, getD_some, bol_true, binO_some, size_int, size_bool, size_str, size_ptr, size_nilp, size_slc, size_nils, size_map, size_nilm, size_fn, size_nilf, size_agg, size_rows, sizeL_nil, sizeL_cons, layOK_int, layOK_bool, layOK_str, layOK_ptr, layOK_nilp, layOK_slc, layOK_nils, layOK_map, layOK_nilm, layOK_fn, layOK_nilf, layOK_agg, layOK_rows, isTup_int, isTup_bool, isTup_str, isTup_ptr, isTup_nilp, isTup_slc, isTup_nils, isTup_map, isTup_nilm, isTup_fn, isTup_nilf, isTup_agg, isTup_rows, getP_nil, getP_cons, getS_some, stepP_agg, stepP_rows, loadO_some, loadA_ptr, loadE_cel, loadE_vec, loadE_ro, chkL_some, newA_some, partsO_nil, partsO_cons, buildA_some, fillP_nil, fillP_cons, fillN_some, setA_agg, setA_rows, setC_some, setD_some, builtO_some, min_two, max_two, resF_eq, resAll_nil, resAll_cons, resOne_tmp, resOne_cell, tupO_none, tupO_one, tupO_more, argT_nil, argT_cons, lookL_cons, lookL_nil, lookP_cons, wrapO_lit, wrapO_neg, not_tf, not_ft, and_tf, alt_true, alt_false, bol_false, getS_bol, getS_alt, chkL_bol, chkL_alt, consO_bol, consO_bol2, tupO_bol, fillN_bol, bol_bol, get_mapB, get_setB, get_appB, len_map, nat_zero_add, hideH_nil, and_self, and_true, true_and, and_false, false_and]) (apply valK_bolB; · finish (splits := 3) (ematch := 1)) (apply valK_altT; · finish (splits := 3) (ematch := 1)) (apply valK_altF; · finish (splits := 3) (ematch := 1)) (apply valK_altB) (apply brC_t; · finish (splits := 3) (ematch := 1)) (apply brC_f; · finish (splits := 3) (ematch := 1)) (apply brC_sBN) (apply brC_sB) (intro~ hr) (tactic => exact ⟨_, _, rfl, rfl, rfl, rfl, rfl, rfl⟩))
noncomputable def cx64 : Cx := ⟨Try.prog, [], [], [(0, [1, 0]), (1, [4])]⟩
theorem cx64_P : cx64.P = Try.prog := rfl
theorem cx64_l0 : lookL 0 cx64.lv = some [1, 0] := rfl
theorem cx64_l1 : lookL 1 cx64.lv = some [4] := rfl
theorem cx64_pu : cx64.pu = [] := rfl
theorem cx64_ok : okc cx64 Try.f64.ntmps (Try.f64.body.getD .skip) = true := by kernel_rfl
theorem enter64 {args : List AV} {H : Hp} {n : Nat} {Q : AV → Hp → Nat → Prop} (h : args.length ≤ 26 ∧ Ev cx64 ⟨26, n, none, 64⟩ (Try.f64.body.getD .skip) ⟨argT 0 args, H, n⟩ (.top Try.f64.results.toList Q)) : callA Try.prog 64 args H n Q :=
  callA_ev (cx := cx64) puOk_nil (f := 64) (fn := Try.f64) Try.func64 rfl (by kernel_rfl) h.1 cx64_ok h.2
def takenP (ns : List Node) (h : Int) : Bool := if 0 ≤ h ∧ h < ns.length then (ns.getD h.toNat default).2.2 else false
theorem taken_use {H : Hp} {n k m cap : Nat} {Q : AV → Hp → Nat → Prop} {s : PoolS} (h0 : hget k H = some (.cel (poolV s m cap))) (h1 : hget m H = some (.vec cap 13 (s.ns.map nodeV))) (h : Int) (hq : Q (.bool (takenP s.ns h)) H n) :
    callA Try.prog 64 [.ptr k 0 [], .int .i64 h] H n Q := by
  sym =>
    repeat (first (apply enter64) (apply imp_go; intro hp) (apply valK_w64; · finish (splits := 3) (ematch := 1)) (apply valK_wr) ((first (apply valK_bol) (apply effK_bol) (apply newK_bol) (apply appK_bol) (apply topO_bol)); · finish (splits := 3) (ematch := 1)) ((first (apply valK_altY) (apply effK_altY)); · finish (splits := 3) (ematch := 1)) ((first (apply valK_altN) (apply effK_altN)); · finish (splits := 3) (ematch := 1)) (apply valK_altNY; · finish (splits := 3) (ematch := 1)) (apply valK_altNN; · finish (splits := 3) (ematch := 1)) (apply valK_altS) (apply valK_altNS) (apply effK_altS) (apply appS_go) ((first (apply brC_y) (apply wantK_y)); · finish (splits := 3) (ematch := 1)) ((first (apply brC_n) (apply wantK_n)); · finish (splits := 3) (ematch := 1)) ((first (apply brC_yN) (apply wantK_yN)); · finish (splits := 3) (ematch := 1)) ((first (apply brC_nN) (apply wantK_nN)); · finish (splits := 3) (ematch := 1)) (apply brC_s) (apply brC_sN) (apply wantK_s) (apply wantK_sN) (simp [eFrag_size, eFrag_tup, nodeV_eq, poolV_eq, h0, h1, e17Op_eq, e19Op_eq, eAbuffertile_eq, eColour_eq, eKey_eq, cx64_P, cx64_l0, cx64_l1, cx64_pu, Try.f64.eq_1, ty_arrOf_120, ty_arrOf_3, ty_bytesE_120, ty_fldOf_122_0, ty_fldOf_122_1, ty_fldOf_122_2, ty_fldOf_122_3, ty_fldOf_122_4, ty_fldOf_124_0, ty_fldOf_124_1, ty_fldOf_124_2, ty_intOf_3, ty_isBoolTy_4, ty_isInt_3, ty_notInt_3, ty_lay_120, ty_lay_124, ty_lay_3, ty_lay_4, ty_notInt_120, ty_placesOf_122, ty_placesOf_124, ty_slcOf_120, ty_slcOf_3, ty_zeroA_122, ty_zeroA_124, ty_zeroA_3, ty_zeroA_4, ty_zeroE_120, valK_some, opE_move, opE_assign, opE_pick, opE_load, opE_nilCheck, opE_bin, opE_un, opE_fieldAddr, opE_indexAddr, opE_len, ev_seq, ev_skip, ev_label, ev_region, ev_cond, condC_some, brC_true, brC_false, ev_block, ev_scope, ev_exit, ev_ret, nx_seq, nx_seqE, nx_seqR, nx_blk, nx_blkE, nx_blkR, nx_top, nx_topR, topO_some, evR_nil, wantK_tup, wantK_tt, wantK_ff, wantK_tf, wantK_ft, evR_op, evR_guard, finK_reg, getT_cons, putT_some, putT_none, trimT_some, trimT_none, keepT_nil, keepT_cons, consT_some, consT_none, getT_nil, getO_tmp, getO_const, getO_func, ofC_int, ofC_bool, ofC_ptr, ofC_slc, ofC_map, ofC_fn, getOs_nil, getOs_cons, consO_some, guardT_eq, guardO_some, hget_cons, wrap_lit, wrap_neg, top_i64, bot_i64, bits_i64, cast_lit, toNat_lit, get_zero, get_succ, take_zero, take_succ, set_zero, set_succ, length_nil, length_cons, append_nil, nil_append, cons_append, toList_arr, bnot_true, bnot_false, band_true, band_false, beq_tt, beq_ff, beq_tf, beq_ft, beq_nat, beq_int, bne_nat, map_some, map_none, true_eq_false, false_eq_true, true_eq_true, fbody_mk, fresults_mk, getD_some, bol_true, binO_some, bin_lss, bin_geq, pickA_true, pickA_false, nilO_some, nilA_ptr, nilA_fn, nilA_map, nilA_slc, size_int, size_bool, size_str, size_ptr, size_nilp, size_slc, size_nils, size_map, size_nilm, size_fn, size_nilf, size_agg, size_rows, sizeL_nil, sizeL_cons, layOK_int, layOK_bool, layOK_str, layOK_ptr, layOK_nilp, layOK_slc, layOK_nils, layOK_map, layOK_nilm, layOK_fn, layOK_nilf, layOK_agg, layOK_rows, isTup_int, isTup_bool, isTup_str, isTup_ptr, isTup_nilp, isTup_slc, isTup_nils, isTup_map, isTup_nilm, isTup_fn, isTup_nilf, isTup_agg, isTup_rows, getP_nil, getP_cons, getS_some, stepP_agg, stepP_rows, loadO_some, loadA_ptr, loadE_cel, loadE_vec, loadE_ro, chkL_some, faO_some, fa_ptr, iaO_some, slN_some, builtO_some, len_slc, len_nils, len_rows, arN_some, resF_eq, resAll_nil, resAll_cons, resOne_tmp, resOne_cell, tupO_none, tupO_one, tupO_more, argT_nil, argT_cons, lookL_cons, lookL_nil, lookP_cons, wrapO_lit, wrapO_neg, mia_ptr, mia_slc, not_tf, not_ft, and_tf, alt_true, alt_false, pick_alt, bol_false, getS_bol, getS_alt, chkL_bol, chkL_alt, consO_bol, consO_bol2, tupO_bol, bol_bol, get_mapB, get_setB, get_appB, len_map, nat_zero_add, slN_bol, hideH_nil, and_self, and_true, true_and, and_false, false_and]) (apply valK_bolB; · finish (splits := 3) (ematch := 1)) (apply valK_altT; · finish (splits := 3) (ematch := 1)) (apply valK_altF; · finish (splits := 3) (ematch := 1)) (apply valK_altB) ((first (apply brC_t) (apply wantK_t)); · finish (splits := 3) (ematch := 1)) ((first (apply brC_f) (apply wantK_f)); · finish (splits := 3) (ematch := 1)) (apply brC_sBN) (apply brC_sB) (apply wantK_sBN) (apply wantK_sB) (intro~ hr) (tactic => (refine q_val hq ?_; simp only [takenP]; split <;> first | rfl | omega | simp_all)))
noncomputable def cx50 : Cx := ⟨Try.prog, [], [(1, ⟨0, [⟨0, false, [], [], [], 0⟩, ⟨1, false, [0], [], [], 0⟩, ⟨2, false, [1], [], [], 0⟩, ⟨3, false, [2], [], [], 0⟩, ⟨4, false, [2], [], [], 0⟩, ⟨5, true, [2, 3, 4], [], [], 0⟩, ⟨6, false, [2, 5], [], [], 0⟩, ⟨7, false, [2, 5, 6], [], [], 0⟩, ⟨8, false, [5, 7], [], [], 0⟩, ⟨9, false, [5, 8], [], [], 0⟩, ⟨10, false, [5, 8, 9], [], [], 0⟩, ⟨11, false, [5, 8, 10], [], [], 0⟩, ⟨12, false, [5, 8, 11], [], [], 0⟩, ⟨13, false, [5, 8], [], [], 0⟩, ⟨14, false, [5, 8, 13], [], [], 0⟩, ⟨15, false, [5, 8, 14], [], [], 0⟩, ⟨16, false, [5, 8, 15], [], [], 0⟩, ⟨17, false, [5, 8, 12, 16], [], [], 0⟩, ⟨18, false, [5, 8, 17], [], [], 0⟩]⟩), (8, ⟨0, [⟨0, false, [], [], [], 0⟩, ⟨1, false, [0], [], [], 0⟩, ⟨2, false, [1], [], [], 0⟩, ⟨3, false, [2], [], [], 0⟩, ⟨4, false, [], [], [], 0⟩, ⟨5, false, [], [], [], 0⟩, ⟨6, false, [], [], [], 0⟩, ⟨7, false, [5, 6], [], [], 0⟩, ⟨8, false, [3, 4], [], [], 0⟩, ⟨9, true, [3, 5, 7, 8], [], [], 0⟩]⟩), (10, ⟨0, [⟨0, false, [], [], [], 0⟩, ⟨1, false, [], [], [], 0⟩, ⟨2, false, [1], [], [], 0⟩, ⟨3, false, [2], [], [], 0⟩, ⟨4, false, [3], [], [], 0⟩, ⟨5, false, [], [], [], 0⟩, ⟨6, false, [5], [], [], 0⟩, ⟨7, false, [6], [], [], 0⟩, ⟨8, false, [7], [], [], 0⟩, ⟨9, false, [4, 8], [], [], 0⟩, ⟨10, false, [0], [], [], 0⟩, ⟨11, false, [10], [], [], 0⟩, ⟨12, true, [4, 8, 9, 11], [], [], 0⟩]⟩)], [(0, [5, 1, 0]), (1, [27, 5, 1, 0]), (2, [7, 6]), (3, [8, 5, 1, 0]), (4, [34, 8, 5, 1, 0]), (5, [8, 5, 1, 0]), (6, [8, 5, 1, 0]), (7, [8, 5, 1, 0]), (8, [8, 0]), (9, [8, 0]), (10, [8]), (11, [7, 6])]⟩
theorem cx50_P : cx50.P = Try.prog := rfl
theorem cx50_l0 : lookL 0 cx50.lv = some [5, 1, 0] := rfl
theorem cx50_l1 : lookL 1 cx50.lv = some [27, 5, 1, 0] := rfl
theorem cx50_l2 : lookL 2 cx50.lv = some [7, 6] := rfl
theorem cx50_l3 : lookL 3 cx50.lv = some [8, 5, 1, 0] := rfl
theorem cx50_l4 : lookL 4 cx50.lv = some [34, 8, 5, 1, 0] := rfl
theorem cx50_l5 : lookL 5 cx50.lv = some [8, 5, 1, 0] := rfl
theorem cx50_l6 : lookL 6 cx50.lv = some [8, 5, 1, 0] := rfl
theorem cx50_l7 : lookL 7 cx50.lv = some [8, 5, 1, 0] := rfl
theorem cx50_l8 : lookL 8 cx50.lv = some [8, 0] := rfl
theorem cx50_l9 : lookL 9 cx50.lv = some [8, 0] := rfl
theorem cx50_l10 : lookL 10 cx50.lv = some [8] := rfl
theorem cx50_l11 : lookL 11 cx50.lv = some [7, 6] := rfl
theorem cx50_p1 : lookP 1 cx50.pl = some ⟨0, [⟨0, false, [], [], [], 0⟩, ⟨1, false, [0], [], [], 0⟩, ⟨2, false, [1], [], [], 0⟩, ⟨3, false, [2], [], [], 0⟩, ⟨4, false, [2], [], [], 0⟩, ⟨5, true, [2, 3, 4], [], [], 0⟩, ⟨6, false, [2, 5], [], [], 0⟩, ⟨7, false, [2, 5, 6], [], [], 0⟩, ⟨8, false, [5, 7], [], [], 0⟩, ⟨9, false, [5, 8], [], [], 0⟩, ⟨10, false, [5, 8, 9], [], [], 0⟩, ⟨11, false, [5, 8, 10], [], [], 0⟩, ⟨12, false, [5, 8, 11], [], [], 0⟩, ⟨13, false, [5, 8], [], [], 0⟩, ⟨14, false, [5, 8, 13], [], [], 0⟩, ⟨15, false, [5, 8, 14], [], [], 0⟩, ⟨16, false, [5, 8, 15], [], [], 0⟩, ⟨17, false, [5, 8, 12, 16], [], [], 0⟩, ⟨18, false, [5, 8, 17], [], [], 0⟩]⟩ := rfl
theorem cx50_p8 : lookP 8 cx50.pl = some ⟨0, [⟨0, false, [], [], [], 0⟩, ⟨1, false, [0], [], [], 0⟩, ⟨2, false, [1], [], [], 0⟩, ⟨3, false, [2], [], [], 0⟩, ⟨4, false, [], [], [], 0⟩, ⟨5, false, [], [], [], 0⟩, ⟨6, false, [], [], [], 0⟩, ⟨7, false, [5, 6], [], [], 0⟩, ⟨8, false, [3, 4], [], [], 0⟩, ⟨9, true, [3, 5, 7, 8], [], [], 0⟩]⟩ := rfl
theorem cx50_p10 : lookP 10 cx50.pl = some ⟨0, [⟨0, false, [], [], [], 0⟩, ⟨1, false, [], [], [], 0⟩, ⟨2, false, [1], [], [], 0⟩, ⟨3, false, [2], [], [], 0⟩, ⟨4, false, [3], [], [], 0⟩, ⟨5, false, [], [], [], 0⟩, ⟨6, false, [5], [], [], 0⟩, ⟨7, false, [6], [], [], 0⟩, ⟨8, false, [7], [], [], 0⟩, ⟨9, false, [4, 8], [], [], 0⟩, ⟨10, false, [0], [], [], 0⟩, ⟨11, false, [10], [], [], 0⟩, ⟨12, true, [4, 8, 9, 11], [], [], 0⟩]⟩ := rfl
theorem cx50_pu : cx50.pu = [] := rfl
theorem cx50_ok : okc cx50 Try.f50.ntmps (Try.f50.body.getD .skip) = true := by kernel_rfl
theorem enter50 {args : List AV} {H : Hp} {n : Nat} {Q : AV → Hp → Nat → Prop} (h : args.length ≤ 90 ∧ Ev cx50 ⟨90, n, none, 50⟩ (Try.f50.body.getD .skip) ⟨argT 0 args, H, n⟩ (.top Try.f50.results.toList Q)) : callA Try.prog 50 args H n Q :=
  callA_ev (cx := cx50) puOk_nil (f := 50) (fn := Try.f50) Try.func50 rfl (by kernel_rfl) h.1 cx50_ok h.2
def pushP (s : PoolS) (h : Int) (x : TFrag) : Int × Bool × PoolS :=
  if (h ≠ -1 ∧ takenP s.ns h = false) ∨ s.live = s.room then (h, false, s)
  else if s.free = -1 then (s.ns.length, true, ⟨s.room, s.free, s.live + 1, (if s.most < s.live + 1 then s.live + 1 else s.most), s.ns ++ [(x, h, true)]⟩)
  else (s.free, true, ⟨s.room, (s.ns.getD s.free.toNat default).2.1, s.live + 1, (if s.most < s.live + 1 then s.live + 1 else s.most), s.ns.set s.free.toNat (x, h, true)⟩)
theorem push_call (s : PoolS) (cap : Nat) (h : Int) (x : TFrag) (hl : 0 ≤ s.live ∧ s.live < 70000) (hf : s.free = -1 ∨ (0 ≤ s.free ∧ s.free < s.ns.length)) (hn : s.ns.length < 70000) :
    callA Try.prog 50 [.ptr 0 0 [], .int .i64 h, eFrag x] (poolH s 1 cap) 2 fun v H' n' => ∃ cap', v = .tup [.int .i64 (pushP s h x).1, .bool (pushP s h x).2.1] ∧ H' = poolH (pushP s h x).2.2 2 cap' ∧ n' = 3 := by
  unfold poolH
  refine callA_reid (callA_fresh 0 [.fld 4 4] ?_)
  sym =>
    repeat (first (apply enter50) (apply taken_use; (tactic => rfl); (tactic => rfl)) (apply imp_go; intro hp) (apply valK_w64; · finish (splits := 3) (ematch := 1)) (apply valK_wr) ((first (apply valK_bol) (apply effK_bol) (apply newK_bol) (apply appK_bol) (apply topO_bol)); · finish (splits := 3) (ematch := 1)) ((first (apply valK_altY) (apply effK_altY)); · finish (splits := 3) (ematch := 1)) ((first (apply valK_altN) (apply effK_altN)); · finish (splits := 3) (ematch := 1)) (apply valK_altNY; · finish (splits := 3) (ematch := 1)) (apply valK_altNN; · finish (splits := 3) (ematch := 1)) (apply valK_altS) (apply valK_altNS) (apply effK_altS) (apply appS_go) ((first (apply brC_y) (apply wantK_y) (apply rowG_y)); · finish (splits := 3) (ematch := 1)) ((first (apply brC_n) (apply wantK_n) (apply rowG_n)); · finish (splits := 3) (ematch := 1)) ((first (apply brC_yN) (apply wantK_yN) (apply rowG_yN)); · finish (splits := 3) (ematch := 1)) ((first (apply brC_nN) (apply wantK_nN) (apply rowG_nN)); · finish (splits := 3) (ematch := 1)) (apply brC_s) (apply brC_sN) (apply wantK_s) (apply wantK_sN) (apply rowG_s) (apply rowG_sN) (simp [nodeV_eq, poolV_eq, eFrag_size, eFrag_tup, layOK_frag, e17Op_eq, e19Op_eq, eAbuffertile_eq, eColour_eq, eKey_eq, cx50_P, cx50_l0, cx50_l1, cx50_l2, cx50_l3, cx50_l4, cx50_l5, cx50_l6, cx50_l7, cx50_l8, cx50_l9, cx50_l10, cx50_l11, cx50_p1, cx50_p8, cx50_p10, cx50_pu, Try.f50.eq_1, ty_arrOf_120, ty_arrOf_3, ty_arrOf_64, ty_arrOf_98, ty_bytesE_120, ty_eqTy_64, ty_fldOf_122_0, ty_fldOf_122_1, ty_fldOf_122_2, ty_fldOf_122_3, ty_fldOf_122_4, ty_fldOf_124_0, ty_fldOf_124_1, ty_fldOf_124_2, ty_fldOf_64_0, ty_fldOf_64_1, ty_fldOf_64_2, ty_fldOf_64_3, ty_intOf_3, ty_isInt_3, ty_notInt_3, ty_lay_120, ty_lay_124, ty_lay_3, ty_lay_64, ty_lay_98, ty_notInt_120, ty_notInt_64, ty_notInt_98, ty_placesOf_122, ty_placesOf_124, ty_placesOf_64, ty_slcOf_120, ty_slcOf_3, ty_slcOf_64, ty_slcOf_98, ty_zeroA_122, ty_zeroA_124, ty_zeroA_3, ty_zeroA_64, ty_zeroE_120, valK_some, newK_some, effK_some, opE_move, opE_assign, opE_pick, opE_build, opE_load, opE_nilCheck, opE_bin, opE_un, opE_fieldAddr, opE_indexAddr, opE_len, opE_max, opE_alloc, opE_box, opE_buildSlice, callK_fn, callK_yld, callG_some, callG_none, appK_some, opE_store_r, opE_call_r, opE_append_r, opE_store_w, opE_call_w, opE_append_w, ev_seq, ev_skip, ev_label, ev_region, ev_draw, evDO_some, ev_cond, condC_some, brC_true, brC_false, ev_block, ev_scope, ev_exit, ev_ret, nx_seq, nx_seqE, nx_seqR, nx_blk, nx_blkE, nx_blkR, nx_top, nx_topR, topO_some, evR_nil, wantK_tup, wantK_tt, wantK_ff, wantK_tf, wantK_ft, evR_op, evR_guard, evD_nil, evD_row, rowK_eff, rowK_calm, rowK_guard, rowG_tup, rowG_tt, rowG_ff, rowG_tf, rowG_ft, rowN_eq, chkA_nil, chkA_cons, chkO_some, chkW_false, sameO_some, chkW_load, chkW_len, finK_reg, finK_row, finK_calm, finN_reg, finN_row, finN_calm, nid_reg, nid_row, nid_calm, getT_cons, putT_some, putT_none, trimT_some, trimT_none, keepT_nil, keepT_cons, consT_some, consT_none, getT_nil, getO_tmp, getO_const, getO_func, ofC_int, ofC_bool, ofC_ptr, ofC_slc, ofC_map, ofC_fn, getOs_nil, getOs_cons, consO_some, guardT_eq, guardO_some, wantA_none, wantA_some, wantO_tup, wantO_tt, wantO_ff, wantO_tf, wantO_ft, hget_cons, hset_cons, hdel_cons, memb_nil, memb_cons, hideH_cons, showH_cons, hideH_none, showH_none, showH_nil, outs_nil, outs_cons, app_nil, nil_app, cons_app, dropO_some, dropO_none, rowOf_cons, wrap_lit, wrap_neg, top_i64, bot_i64, bits_i64, cast_lit, toNat_lit, get_zero, get_succ, take_zero, take_succ, set_zero, set_succ, length_nil, length_cons, length_set, append_nil, nil_append, cons_append, toList_arr, rep_zero, rep_succ, bnot_true, bnot_false, band_true, band_false, beq_tt, beq_ff, beq_tf, beq_ft, beq_nat, beq_int, bne_nat, map_some, map_none, true_eq_false, false_eq_true, true_eq_true, fbody_mk, fresults_mk, getD_some, bol_true, binO_some, bin_eql, bin_neq, bin_beql, bin_bneq, eqO_eq, eqO_ne, bin_aeql, bin_aneq, bin_reql, bin_rneq, aggEq_some, flatL_nil, flatL_cons, appV_some, flatV_int, flatV_bool, flatV_agg, flatV_rows, bin_feql, bin_fneq, bin_nfeql, bin_nfneq, bin_peql, bin_pneq, bin_npeql, bin_npneq, unO_some, un_not, pickA_true, pickA_false, nilO_some, nilA_ptr, nilA_fn, nilA_yld, nilA_map, nilA_slc, size_int, size_bool, size_str, size_ptr, size_nilp, size_slc, size_nils, size_map, size_nilm, size_fn, size_yld, size_nilf, size_agg, size_rows, sizeL_nil, sizeL_cons, layOK_int, layOK_bool, layOK_str, layOK_ptr, layOK_nilp, layOK_slc, layOK_nils, layOK_map, layOK_nilm, layOK_fn, layOK_yld, layOK_nilf, layOK_agg, layOK_rows, isTup_int, isTup_bool, isTup_str, isTup_ptr, isTup_nilp, isTup_slc, isTup_nils, isTup_map, isTup_nilm, isTup_fn, isTup_yld, isTup_nilf, isTup_agg, isTup_rows, getP_nil, getP_cons, getS_some, stepP_agg, stepP_rows, putP_nil, putP_cons, putS_some, putU_some, setS_agg, setS_rows, loadO_some, loadA_ptr, loadE_cel, loadE_vec, loadE_ro, chkL_some, storeO_some, stH_some, storeA_ptr, storeE_cel, storeE_vec, storeB_cel, faO_some, fa_ptr, iaO_some, newA_some, partsO_nil, partsO_cons, buildA_some, fillP_nil, fillP_cons, fillN_some, setA_agg, setA_rows, setC_some, setD_some, fillQ_nil, fillQ_cons, fillM_some, fitZ_some, bs_some, bsO_some, slN_some, builtO_some, len_slc, len_nils, len_rows, arN_some, max_two, appO_some, apO_some, own_nils, own_slc, more_nils, more_slc, resF_eq, resAll_nil, resAll_cons, resOne_tmp, resOne_cell, tupO_none, tupO_one, tupO_more, argT_nil, argT_cons, lookU_nil, lookU_cons, lookL_cons, lookL_nil, lookP_cons, roundS_eq, mbin_add, mun_neg, wrapO_lit, wrapO_neg, mia_ptr, mia_slc, mstoreB_vec, mowO_vec, len_set, not_tf, not_ft, and_tf, not_not_b, alt_true, alt_false, pick_alt, bol_false, getS_bol, getS_alt, chkL_bol, chkL_alt, putS_bol, putS_alt, putU_bol, putU_alt, storeB_bol, storeB_alt, stH_bol, stH_alt, consO_bol, consO_bol2, tupO_bol, apO_bol, apO_bol2, fillN_bol, fillM_bol, eqO_bol, bol_bol, get_mapB, get_setB, get_appB, len_map, len_app, nat_zero_add, take_map, take_self, drop_zero, elemsE_vec, elemsE_ro, elemsE_cel, elemsC_rows, elemsC_bol, bin_nsleql, bin_nslneq, bin_nnleql, bin_nnlneq, slN_bol, beq_str, roomOk_eq, roomB_some, appK_none, appG_some, hideH_nil, and_self, and_true, true_and, and_false, false_and]) (apply chkW_want) (apply chkW_wantA) (apply valK_bolB; · finish (splits := 3) (ematch := 1)) (apply valK_altT; · finish (splits := 3) (ematch := 1)) (apply valK_altF; · finish (splits := 3) (ematch := 1)) (apply valK_altB) ((first (apply brC_t) (apply wantK_t) (apply rowG_t)); · finish (splits := 3) (ematch := 1)) ((first (apply brC_f) (apply wantK_f) (apply rowG_f)); · finish (splits := 3) (ematch := 1)) (apply brC_sBN) (apply brC_sB) (apply wantK_sBN) (apply wantK_sB) (apply rowG_sBN) (apply rowG_sB) (intro~ hr) (tactic => first | omega | (refine ⟨1, 13, _, _, _, _, _, by decide, rfl, rfl, rfl, rfl, ?_⟩; refine reidP_of [0, 1, 3] _ _ rfl rfl rfl ?_ ?_ ?_ ⟨cap, rfl, rfl, rfl⟩ <;> simp [subH, okW, hget, hset, hdel, idx, AV.ren, renL, Ent.ren, Ent.writes, setS, renL_set, renL_app, map_set_last, nodes_ren, nodeV, eFrag_ren, pushP, *]; done) | (refine ⟨4, 13, _, hr, _, _, _, by decide, rfl, rfl, rfl, rfl, ?_⟩; refine reidP_of [0, 1, 5] _ _ rfl rfl rfl ?_ ?_ ?_ ⟨hr, rfl, rfl, rfl⟩ <;> simp [subH, okW, hget, hset, hdel, idx, AV.ren, renL, Ent.ren, Ent.writes, setS, renL_set, renL_app, map_set_last, nodes_ren, nodeV, eFrag_ren, pushP, *])))
-- Chapter 19, plain laws: nodes, heads and chains of what was stored (the last one first).
/-- The node of a pixel that was stored last. -/
def lstR : List TFrag → Int → Int → Int
  | [], _, _ => -1
  | f :: r, x, y => if f.x = x ∧ f.y = y then (r.length : Int) else lstR r x y
def nodesR : List TFrag → List Node
  | [] => []
  | f :: r => nodesR r ++ [(f, lstR r f.x f.y, true)]
theorem lstR_cons (f : TFrag) (r : List TFrag) (x y : Int) : lstR (f :: r) x y = if f.x = x ∧ f.y = y then (r.length : Int) else lstR r x y := rfl
theorem nodesR_cons (f : TFrag) (r : List TFrag) : nodesR (f :: r) = nodesR r ++ [(f, lstR r f.x f.y, true)] := rfl
theorem nodesR_len : ∀ R, (nodesR R).length = R.length
  | [] => rfl
  | f :: r => by unfold nodesR; rw [List.length_append, nodesR_len r]; rfl
theorem lstR_rng : ∀ (R : List TFrag) (x y : Int), lstR R x y = -1 ∨ (0 ≤ lstR R x y ∧ lstR R x y < (R.length : Int))
  | [], x, y => .inl rfl
  | f :: r, x, y => by
    rw [lstR_cons]
    split
    · right; rw [List.length_cons]; omega
    · rcases lstR_rng r x y with h | h
      · exact .inl h
      · right; rw [List.length_cons]; omega
/-- The nodes of a pixel, from one on. -/
def chR : List TFrag → Int → Int → List Nat
  | [], _, _ => []
  | f :: r, x, y => if f.x = x ∧ f.y = y then r.length :: chR r x y else chR r x y
theorem chR_cons (f : TFrag) (r : List TFrag) (x y : Int) : chR (f :: r) x y = if f.x = x ∧ f.y = y then r.length :: chR r x y else chR r x y := rfl
def nG (ns : List Node) (j : Nat) : Node := ns.getD j default
def chN (ns : List Node) : Int → List Nat → Prop
  | h, [] => h = -1
  | h, j :: r => (h = (j : Int) ∧ j < ns.length ∧ (nG ns j).2.2 = true) ∧ chN ns (nG ns j).2.1 r
theorem nG_app {ns : List Node} {v : Node} {j : Nat} (h : j < ns.length) : nG (ns ++ [v]) j = nG ns j := by
  unfold nG
  rw [List.getD_eq_getElem?_getD, List.getElem?_append_left h, ← List.getD_eq_getElem?_getD]
theorem nG_last (ns : List Node) (v : Node) : nG (ns ++ [v]) ns.length = v := by
  unfold nG
  rw [List.getD_eq_getElem?_getD, List.getElem?_append_right (Nat.le_refl _), Nat.sub_self]; rfl
theorem chN_app {v : Node} : ∀ {js : List Nat} {ns : List Node} {h : Int}, chN ns h js → chN (ns ++ [v]) h js
  | [], ns, h, hc => hc
  | j :: r, ns, h, hc => by
    obtain ⟨⟨h1, h2, h3⟩, h4⟩ := hc
    refine ⟨⟨h1, by rw [List.length_append]; omega, by rw [nG_app h2]; exact h3⟩, ?_⟩
    rw [nG_app h2]; exact chN_app h4
theorem chR_ok : ∀ (R : List TFrag) (x y : Int), chN (nodesR R) (lstR R x y) (chR R x y)
  | [], x, y => rfl
  | f :: r, x, y => by
    rw [nodesR_cons, lstR_cons, chR_cons]
    by_cases h : f.x = x ∧ f.y = y
    · rw [if_pos h, if_pos h]
      have e : nG (nodesR r ++ [(f, lstR r f.x f.y, true)]) r.length = (f, lstR r f.x f.y, true) := by
        have := nG_last (nodesR r) (f, lstR r f.x f.y, true)
        rwa [nodesR_len] at this
      refine ⟨⟨rfl, by rw [List.length_append, nodesR_len]; exact Nat.lt_succ_self _, by rw [e]⟩, ?_⟩
      rw [e]
      show chN _ (lstR r f.x f.y) (chR r x y)
      rw [h.1, h.2]
      exact chN_app (chR_ok r x y)
    · rw [if_neg h, if_neg h]
      exact chN_app (chR_ok r x y)
theorem chR_lt : ∀ {R : List TFrag} {x y : Int} {j : Nat}, j ∈ chR R x y → j < R.length
  | [], x, y, j, h => by simp [chR] at h
  | f :: r, x, y, j, h => by
    rw [chR_cons] at h
    rw [List.length_cons]
    split at h
    · rcases List.mem_cons.1 h with rfl | h
      · exact Nat.lt_succ_self _
      · have := chR_lt h; omega
    · have := chR_lt h; omega
/-- What is stored of a pixel, the last one first. -/
def pixR (R : List TFrag) (x y : Int) : List TFrag := R.filter fun f => decide (f.x = x ∧ f.y = y)
theorem chR_frags : ∀ (R : List TFrag) (x y : Int), (chR R x y).map (fun j => (nG (nodesR R) j).1) = pixR R x y
  | [], x, y => rfl
  | f :: r, x, y => by
    have ih := chR_frags r x y
    have e : ∀ js : List Nat, (∀ j, j ∈ js → j < r.length) → js.map (fun j => (nG (nodesR (f :: r)) j).1) = js.map (fun j => (nG (nodesR r) j).1) := by
      intro js hj
      apply List.map_congr_left
      intro j hjm
      show (nG (nodesR r ++ [_]) j).1 = _
      rw [nG_app (by rw [nodesR_len]; exact hj j hjm)]
    rw [chR_cons]
    unfold pixR
    rw [List.filter_cons]
    by_cases h : f.x = x ∧ f.y = y
    · rw [if_pos h, if_pos (by simpa using h), List.map_cons, e _ (fun j hj => chR_lt hj), ih]
      have := nG_last (nodesR r) (f, lstR r f.x f.y, true)
      rw [nodesR_len] at this
      show (nG (nodesR r ++ [_]) r.length).1 :: _ = _
      rw [this]; rfl
    · rw [if_neg h, if_neg (by simpa using h), e _ (fun j hj => chR_lt hj), ih]; rfl
/-- The heads: a map from places. -/
structure HE where
  x : Int
  y : Int
  n : Int
def atH : List HE → Int → Int → Int
  | [], _, _ => -1
  | e :: r, x, y => if e.x = x ∧ e.y = y then e.n else atH r x y
def inH : List HE → Int → Int → Bool
  | [], _, _ => false
  | e :: r, x, y => if e.x = x ∧ e.y = y then true else inH r x y
def setH : List HE → Int → Int → Int → List HE
  | [], x, y, v => [⟨x, y, v⟩]
  | e :: r, x, y, v => if e.x = x ∧ e.y = y then ⟨x, y, v⟩ :: r else e :: setH r x y v
theorem atH_set : ∀ (M : List HE) (x y v x2 y2 : Int), atH (setH M x y v) x2 y2 = if x = x2 ∧ y = y2 then v else atH M x2 y2
  | [], x, y, v, x2, y2 => rfl
  | e :: r, x, y, v, x2, y2 => by
    unfold setH
    by_cases h : e.x = x ∧ e.y = y
    · rw [if_pos h]
      unfold atH
      by_cases h2 : x = x2 ∧ y = y2
      · rw [if_pos h2, if_pos h2]
      · rw [if_neg h2, if_neg h2, if_neg (by intro h3; apply h2; omega)]
    · rw [if_neg h]
      unfold atH
      by_cases h3 : e.x = x2 ∧ e.y = y2
      · rw [if_pos h3, if_pos h3, if_neg (by intro h2; apply h; omega)]
      · rw [if_neg h3, if_neg h3, atH_set r x y v x2 y2]
theorem atH_no : ∀ {M : List HE} {x y : Int}, inH M x y = false → atH M x y = -1
  | [], x, y, h => rfl
  | e :: r, x, y, h => by
    unfold inH at h
    unfold atH
    split at h
    · cases h
    · rename_i hn; rw [if_neg hn]; exact atH_no h
def hW (M : List HE) : List (AV × AV) := M.map fun e => (.rows 1 [.int .i64 e.x, .int .i64 e.y], .int .i64 e.n)
theorem hW_nil : hW [] = [] := rfl
theorem hW_keys : ∀ M : List HE, keyzB (some (true, 2)) (hW M) = true
  | [] => rfl
  | e :: r => by
    show ((keyO (some (true, 2)) (.rows 1 [.int .i64 e.x, .int .i64 e.y])).isSome && keyzB (some (true, 2)) (hW r)) = true
    rw [hW_keys r]; rfl
theorem findH_cons (e : HE) (r : List HE) (x y : Int) (i : Nat) : findI (some (true, 2)) [x, y] (hW (e :: r)) i = if e.x = x ∧ e.y = y then some (i, .int .i64 e.n) else findI (some (true, 2)) [x, y] (hW r) (i + 1) := by
  show (if keyO (some (true, 2)) (.rows 1 [.int .i64 e.x, .int .i64 e.y]) = some [x, y] then some (i, AV.int .i64 e.n) else findI (some (true, 2)) [x, y] (hW r) (i + 1)) = _
  by_cases h : e.x = x ∧ e.y = y
  · rw [if_pos h, if_pos (by rw [h.1, h.2]; rfl)]
  · rw [if_neg h, if_neg]
    intro h2
    have h3 : some [e.x, e.y] = some [x, y] := h2
    injection h3 with h3
    injection h3 with h3 h4
    injection h4 with h4 h5
    exact h ⟨h3, h4⟩
theorem lookH_gen : ∀ (M : List HE) (x y : Int) (i : Nat), lookOut true (.int .i64 0) (findI (some (true, 2)) [x, y] (hW M) i) = .tup [.int .i64 (if inH M x y = true then atH M x y else 0), .bool (inH M x y)]
  | [], x, y, i => rfl
  | e :: r, x, y, i => by
    rw [findH_cons]
    unfold inH atH
    by_cases h : e.x = x ∧ e.y = y
    · rw [if_pos h, if_pos h, if_pos h]; rfl
    · rw [if_neg h, if_neg h, if_neg h]; exact lookH_gen r x y (i + 1)
theorem setH_gen : ∀ (M : List HE) (x y v : Int) (i : Nat), (match findI (some (true, 2)) [x, y] (hW M) i with | some (q, _) => i ≤ q ∧ (hW M).set (q - i) (.rows 1 [.int .i64 x, .int .i64 y], .int .i64 v) = hW (setH M x y v) | none => hW M ++ [(.rows 1 [.int .i64 x, .int .i64 y], .int .i64 v)] = hW (setH M x y v))
  | [], x, y, v, i => rfl
  | e :: r, x, y, v, i => by
    rw [findH_cons]
    unfold setH
    by_cases h : e.x = x ∧ e.y = y
    · rw [if_pos h, if_pos h]
      refine ⟨Nat.le_refl _, ?_⟩
      rw [Nat.sub_self]; rfl
    · rw [if_neg h, if_neg h]
      have ih := setH_gen r x y v (i + 1)
      revert ih
      split
      · rename_i q w hq
        intro ih
        refine ⟨by omega, ?_⟩
        obtain ⟨t, rfl⟩ : ∃ t, q = i + 1 + t := ⟨q - (i + 1), by omega⟩
        have e2 := ih.2
        rw [show i + 1 + t - (i + 1) = t by omega] at e2
        rw [show i + 1 + t - i = t + 1 by omega]
        show _ :: (hW r).set t _ = _ :: hW (setH r x y v)
        rw [e2]
      · intro ih
        show _ :: (hW r ++ _) = _ :: hW (setH r x y v)
        rw [ih]
theorem hW_set (M : List HE) (x y v : Int) : setI (hW M) (.rows 1 [.int .i64 x, .int .i64 y]) (.int .i64 v) (findI (some (true, 2)) [x, y] (hW M) 0) = hW (setH M x y v) := by
  have h := setH_gen M x y v 0
  unfold setI
  revert h
  split
  · rename_i q w hq
    rw [hq]
    intro h
    rw [Nat.sub_zero] at h
    exact h.2
  · rename_i hq
    rw [hq]; exact id
theorem lookC_hW (z : AV) (M : List HE) (l : List Int) (ok : Bool) : lookC (some (true, 2)) (some z) (some (hW M)) (some l) ok = some (lookOut ok z (findI (some (true, 2)) l (hW M) 0)) := by unfold lookC; simp only [hW_keys, if_true]
theorem putC_hW (M : List HE) (l : List Int) (x y : AV) : putC (some (true, 2)) (some (hW M)) (some l) x y = some (.mp (setI (hW M) x y (findI (some (true, 2)) l (hW M) 0))) := by unfold putC; simp only [hW_keys, if_true]
theorem hW_look (M : List HE) (x y : Int) : lookOut true (.int .i64 0) (findI (some (true, 2)) [x, y] (hW M) 0) = .tup [.int .i64 (if inH M x y = true then atH M x y else 0), .bool (inH M x y)] := lookH_gen M x y 0
/-- The heads of what was stored. -/
def headR : List TFrag → List HE
  | [] => []
  | f :: r => setH (headR r) f.x f.y (r.length : Int)
theorem headR_at : ∀ (R : List TFrag) (x y : Int), atH (headR R) x y = lstR R x y
  | [], x, y => rfl
  | f :: r, x, y => by
    rw [lstR_cons]
    show atH (setH (headR r) f.x f.y (r.length : Int)) x y = _
    rw [atH_set, headR_at r x y]
-- Chapter 19, plain laws: a row that is turned about, two by two.
def rvK (n i k : Nat) : Nat := if k < i ∨ n - i ≤ k then n - 1 - k else k
/-- A row of which so many at both ends have changed places. -/
def rvL (l : List TFrag) (i : Nat) : List TFrag := (List.range l.length).map fun k => l.getD (rvK l.length i k) default
theorem rvL_len (l : List TFrag) (i : Nat) : (rvL l i).length = l.length := by unfold rvL; rw [List.length_map, List.length_range]
theorem rvL_get {l : List TFrag} {i k : Nat} (h : k < (rvL l i).length) : (rvL l i)[k] = l.getD (rvK l.length i k) default := by
  simp only [rvL, List.getElem_map, List.getElem_range]
theorem getD_get {l : List TFrag} {k : Nat} (h : k < l.length) : l.getD k default = l[k] := by
  rw [List.getD_eq_getElem?_getD, List.getElem?_eq_getElem h]; rfl
theorem rvL_zero (l : List TFrag) : rvL l 0 = l := by
  apply List.ext_getElem
  · exact rvL_len l 0
  · intro k h1 h2
    rw [rvL_get h1]
    have e : rvK l.length 0 k = k := by unfold rvK; rw [if_neg (by omega)]
    rw [e, getD_get h2]
theorem rvL_end {l : List TFrag} {i : Nat} (h : l.length ≤ 2 * i + 1) : rvL l i = l.reverse := by
  apply List.ext_getElem
  · rw [rvL_len, List.length_reverse]
  · intro k h1 h2
    rw [rvL_get h1, List.getElem_reverse]
    rw [rvL_len] at h1
    have e : rvK l.length i k = l.length - 1 - k := by
      unfold rvK
      split
      · rfl
      · omega
    rw [e, getD_get (by omega)]
theorem rvL_lo {l : List TFrag} {i : Nat} (h : i + 1 < l.length - i) : (rvL l i).getD i default = l.getD i default := by
  rw [getD_get (by rw [rvL_len]; omega), rvL_get]
  have e : rvK l.length i i = i := by unfold rvK; rw [if_neg (by omega)]
  rw [e]
theorem rvL_hi {l : List TFrag} {i : Nat} (h : i + 1 < l.length - i) : (rvL l i).getD (l.length - 1 - i) default = l.getD (l.length - 1 - i) default := by
  rw [getD_get (by rw [rvL_len]; omega), rvL_get]
  have e : rvK l.length i (l.length - 1 - i) = l.length - 1 - i := by unfold rvK; rw [if_neg (by omega)]
  rw [e]
theorem rvL_next {l : List TFrag} {i : Nat} (h : i + 1 < l.length - i) : ((rvL l i).set i (l.getD (l.length - 1 - i) default)).set (l.length - 1 - i) (l.getD i default) = rvL l (i + 1) := by
  apply List.ext_getElem
  · rw [List.length_set, List.length_set, rvL_len, rvL_len]
  · intro k h1 h2
    rw [rvL_get h2, List.getElem_set, List.getElem_set]
    rw [rvL_len] at h2
    by_cases e1 : l.length - 1 - i = k
    · rw [if_pos e1]
      have e : rvK l.length (i + 1) k = i := by unfold rvK; rw [if_pos (by omega)]; omega
      rw [e]
    · rw [if_neg e1]
      by_cases e2 : i = k
      · rw [if_pos e2]
        have e : rvK l.length (i + 1) k = l.length - 1 - i := by unfold rvK; rw [if_pos (by omega)]; omega
        rw [e]
      · rw [if_neg e2, rvL_get]
        have e : rvK l.length (i + 1) k = rvK l.length i k := by
          unfold rvK
          by_cases hc : k < i ∨ l.length - i ≤ k
          · rw [if_pos hc, if_pos (by omega)]
          · rw [if_neg hc, if_neg (by omega)]
        rw [e]
-- Chapter 19: the buffer: made, told where, put.
noncomputable def cx49 : Cx := ⟨Try.prog, [], [(1, ⟨0, (⟨0, false, [], [], [], 0⟩ :: ⟨1, false, [], [], [], 0⟩ :: ⟨2, false, [0, 1], [], [], 0⟩ :: ⟨3, false, [], [], [], 0⟩ :: ⟨4, false, [], [], [], 0⟩ :: ⟨5, false, [4], [], [], 0⟩ :: ⟨6, false, [3, 5], [], [], 0⟩ :: ⟨7, false, [5, 6], [], [], 0⟩ :: ⟨8, false, [7], [], [], 0⟩ :: ⟨9, false, [7], [], [], 0⟩ :: ⟨10, false, [7, 9], [], [], 0⟩ :: ⟨11, false, [7, 8, 10], [], [], 0⟩ :: ⟨12, false, [7, 10, 11], [], [], 0⟩ :: ⟨13, false, [5, 10, 12], [], [], 0⟩ :: ⟨14, false, [13], [], [], 0⟩ :: ⟨15, false, [13], [], [], 0⟩ :: ⟨16, false, [13, 15], [], [], 0⟩ :: ⟨17, false, [13, 14, 16], [], [], 0⟩ :: ⟨18, false, [13, 16, 17], [], [], 0⟩ :: ⟨19, false, [5, 10, 16, 18], [], [], 0⟩ :: ⟨20, false, [19], [], [], 0⟩ :: ⟨21, false, [19], [], [], 0⟩ :: ⟨22, false, [19, 21], [], [], 0⟩ :: ⟨23, false, [19, 20, 22], [], [], 0⟩ :: ⟨24, false, [19, 23], [], [], 0⟩ :: ⟨25, true, [2, 5, 10, 16], [22], [], 0⟩ :: ⟨26, false, [24, 25], [], [], 0⟩ :: [])⟩)], [(0, [6, 3, 2, 1]), (1, [7, 6])]⟩
theorem cx49_P : cx49.P = Try.prog := rfl
theorem cx49_l0 : lookL 0 cx49.lv = some [6, 3, 2, 1] := rfl
theorem cx49_l1 : lookL 1 cx49.lv = some [7, 6] := rfl
theorem cx49_p1 : lookP 1 cx49.pl = some ⟨0, (⟨0, false, [], [], [], 0⟩ :: ⟨1, false, [], [], [], 0⟩ :: ⟨2, false, [0, 1], [], [], 0⟩ :: ⟨3, false, [], [], [], 0⟩ :: ⟨4, false, [], [], [], 0⟩ :: ⟨5, false, [4], [], [], 0⟩ :: ⟨6, false, [3, 5], [], [], 0⟩ :: ⟨7, false, [5, 6], [], [], 0⟩ :: ⟨8, false, [7], [], [], 0⟩ :: ⟨9, false, [7], [], [], 0⟩ :: ⟨10, false, [7, 9], [], [], 0⟩ :: ⟨11, false, [7, 8, 10], [], [], 0⟩ :: ⟨12, false, [7, 10, 11], [], [], 0⟩ :: ⟨13, false, [5, 10, 12], [], [], 0⟩ :: ⟨14, false, [13], [], [], 0⟩ :: ⟨15, false, [13], [], [], 0⟩ :: ⟨16, false, [13, 15], [], [], 0⟩ :: ⟨17, false, [13, 14, 16], [], [], 0⟩ :: ⟨18, false, [13, 16, 17], [], [], 0⟩ :: ⟨19, false, [5, 10, 16, 18], [], [], 0⟩ :: ⟨20, false, [19], [], [], 0⟩ :: ⟨21, false, [19], [], [], 0⟩ :: ⟨22, false, [19, 21], [], [], 0⟩ :: ⟨23, false, [19, 20, 22], [], [], 0⟩ :: ⟨24, false, [19, 23], [], [], 0⟩ :: ⟨25, true, [2, 5, 10, 16], [22], [], 0⟩ :: ⟨26, false, [24, 25], [], [], 0⟩ :: [])⟩ := rfl
theorem cx49_pu : cx49.pu = [] := rfl
theorem cx49_ok : okc cx49 Try.f49.ntmps (Try.f49.body.getD .skip) = true := by kernel_rfl
theorem enter49 {args : List AV} {H : Hp} {n : Nat} {Q : AV → Hp → Nat → Prop} (h : args.length ≤ 33 ∧ Ev cx49 ⟨33, n, none, 49⟩ (Try.f49.body.getD .skip) ⟨argT 0 args, H, n⟩ (.top Try.f49.results.toList Q)) : callA Try.prog 49 args H n Q :=
  callA_ev (cx := cx49) puOk_nil (f := 49) (fn := Try.f49) Try.func49 rfl (by kernel_rfl) h.1 cx49_ok h.2
/-- A place of a tile. -/
def inT (a b c d x y : Int) : Bool := decide (a ≤ x) && (decide (x < c) && (decide (b ≤ y) && decide (y < d)))
theorem at_1 {a b c d x y : Int} (h1 : a ≤ x) (h2 : x < c) (h3 : b ≤ y) : (if y < d then true else false) = inT a b c d x y := by simp [inT, h1, h2, h3]
theorem at_2 {a b c d x y : Int} (h3 : ¬ b ≤ y) : false = inT a b c d x y := by simp [inT, h3]
theorem at_3 {a b c d x y : Int} (h2 : ¬ x < c) : false = inT a b c d x y := by simp [inT, h2]
theorem at_4 {a b c d x y : Int} (h1 : ¬ a ≤ x) : false = inT a b c d x y := by simp [inT, h1]
theorem at_t {p q : Bool} {x y : Int} (h : p = q) : AV.tup [.rows 1 [.int .i64 x, .int .i64 y], .bool p] = .tup [.rows 1 [.int .i64 x, .int .i64 y], .bool q] := by rw [h]
theorem at_use {a b c d x y : Int} {H : Hp} {n : Nat} {Q : AV → Hp → Nat → Prop} (hq : Q (.tup [.rows 1 [.int .i64 x, .int .i64 y], .bool (inT a b c d x y)]) H n) : callA Try.prog 49 [.agg [.int .i64 a, .int .i64 b, .int .i64 c, .int .i64 d], .int .i64 x, .int .i64 y] H n Q := by
  refine callA_pure ?_ rfl (by rfl) hq
  by_cases h1 : a ≤ x <;> by_cases h2 : x < c <;> by_cases h3 : b ≤ y
  all_goals
    first | have e1 := eq_false h1 | have e1 := eq_true h1
    first | have e2 := eq_false h2 | have e2 := eq_true h2
    first | have e3 := eq_false h3 | have e3 := eq_true h3
    show callA _ _ _ _ _ _
    sym =>
      repeat (first (apply enter49) (apply imp_go; intro hp) (apply valK_wr) ((first (apply valK_bol) (apply effK_bol) (apply newK_bol) (apply appK_bol) (apply topO_bol)); · finish (splits := 3) (ematch := 1)) ((first (apply valK_altY) (apply effK_altY)); · finish (splits := 3) (ematch := 1)) ((first (apply valK_altN) (apply effK_altN)); · finish (splits := 3) (ematch := 1)) (apply valK_altNY; · finish (splits := 3) (ematch := 1)) (apply valK_altNN; · finish (splits := 3) (ematch := 1)) (apply valK_altS) (apply valK_altNS) (apply effK_altS) (apply appS_go) ((first (apply brC_y) (apply wantK_y) (apply rowG_y)); · finish (splits := 3) (ematch := 1)) ((first (apply brC_n) (apply wantK_n) (apply rowG_n)); · finish (splits := 3) (ematch := 1)) ((first (apply brC_yN) (apply wantK_yN) (apply rowG_yN)); · finish (splits := 3) (ematch := 1)) ((first (apply brC_nN) (apply wantK_nN) (apply rowG_nN)); · finish (splits := 3) (ematch := 1)) (apply brC_s) (apply brC_sN) (apply wantK_s) (apply wantK_sN) (apply rowG_s) (apply rowG_sN) (simp [e1, e2, e3, e17Op_eq, e19Op_eq, eAbuffertile_eq, eColour_eq, eFrag_eq, eKey_eq, cx49_P, cx49_l0, cx49_l1, cx49_p1, cx49_pu, Try.f49.eq_1, ty_arrOf_3, ty_arrOf_37, ty_arrOf_96, ty_fldOf_96_0, ty_fldOf_96_1, ty_fldOf_96_2, ty_fldOf_96_3, ty_intOf_3, ty_isInt_3, ty_notInt_3, ty_lay_3, ty_lay_37, ty_lay_96, ty_notInt_37, ty_notInt_96, ty_placesOf_37, ty_placesOf_96, ty_slcOf_3, ty_slcOf_37, ty_slcOf_96, ty_zeroA_3, ty_zeroA_37, ty_zeroA_96, valK_some, newK_some, effK_some, opE_move, opE_assign, opE_pick, opE_build, opE_load, opE_bin, opE_un, opE_fieldAddr, opE_alloc, opE_box, opE_store_r, opE_store_w, opE_call_w, ev_seq, ev_skip, ev_label, ev_region, ev_draw, evDO_some, ev_cond, condC_some, brC_true, brC_false, ev_block, ev_scope, ev_exit, ev_ret, nx_seq, nx_seqE, nx_seqR, nx_blk, nx_blkE, nx_blkR, nx_top, nx_topR, topO_some, evR_nil, wantK_tup, wantK_tt, wantK_ff, wantK_tf, wantK_ft, evR_op, evR_guard, evD_nil, evD_row, rowK_eff, rowK_calm, rowK_guard, rowG_tup, rowG_tt, rowG_ff, rowG_tf, rowG_ft, rowN_eq, chkA_nil, chkA_cons, chkO_some, chkW_false, sameO_some, chkW_load, chkW_len, finK_reg, finK_row, finK_calm, finN_reg, finN_row, finN_calm, nid_reg, nid_row, nid_calm, getT_cons, putT_some, putT_none, trimT_some, trimT_none, keepT_nil, keepT_cons, consT_some, consT_none, getT_nil, getO_tmp, getO_const, getO_func, ofC_int, ofC_bool, ofC_ptr, ofC_slc, ofC_map, ofC_fn, getOs_nil, getOs_cons, consO_some, guardT_eq, guardO_some, wantA_none, wantA_some, wantO_tup, wantO_tt, wantO_ff, wantO_tf, wantO_ft, hget_cons, hset_cons, memb_nil, memb_cons, hideH_cons, showH_cons, hideH_none, showH_none, showH_nil, outs_nil, outs_cons, app_nil, nil_app, cons_app, rowOf_cons, wrap_lit, wrap_neg, cast_lit, toNat_lit, get_zero, get_succ, take_zero, take_succ, set_zero, set_succ, length_nil, length_cons, length_set, append_nil, nil_append, cons_append, toList_arr, bnot_true, bnot_false, band_true, band_false, beq_tt, beq_ff, beq_tf, beq_ft, beq_nat, beq_int, bne_nat, map_some, map_none, true_eq_false, false_eq_true, true_eq_true, fbody_mk, fresults_mk, getD_some, bol_true, binO_some, bin_lss, bin_geq, pickA_true, pickA_false, size_int, size_bool, size_str, size_ptr, size_nilp, size_slc, size_nils, size_map, size_nilm, size_fn, size_nilf, size_agg, size_rows, sizeL_nil, sizeL_cons, layOK_int, layOK_bool, layOK_str, layOK_ptr, layOK_nilp, layOK_slc, layOK_nils, layOK_map, layOK_nilm, layOK_fn, layOK_nilf, layOK_agg, layOK_rows, isTup_int, isTup_bool, isTup_str, isTup_ptr, isTup_nilp, isTup_slc, isTup_nils, isTup_map, isTup_nilm, isTup_fn, isTup_nilf, isTup_agg, isTup_rows, getP_nil, getP_cons, getS_some, stepP_agg, stepP_rows, putP_nil, putP_cons, putS_some, putU_some, setS_agg, setS_rows, loadO_some, loadA_ptr, loadE_cel, loadE_vec, loadE_ro, chkL_some, storeO_some, stH_some, storeA_ptr, storeE_cel, storeE_vec, storeB_cel, faO_some, fa_ptr, newA_some, partsO_nil, partsO_cons, buildA_some, fillP_nil, fillP_cons, fillN_some, setA_agg, setA_rows, setC_some, setD_some, resF_eq, resAll_nil, resAll_cons, resOne_tmp, resOne_cell, tupO_none, tupO_one, tupO_more, argT_nil, argT_cons, lookL_cons, lookL_nil, lookP_cons, wrapO_lit, wrapO_neg, mstoreB_vec, len_set, not_tf, not_ft, and_tf, alt_true, alt_false, pick_alt, bol_false, getS_bol, getS_alt, chkL_bol, chkL_alt, putS_bol, putS_alt, putU_bol, putU_alt, storeB_bol, storeB_alt, stH_bol, stH_alt, consO_bol, consO_bol2, tupO_bol, fillN_bol, bol_bol, get_mapB, get_setB, get_appB, len_map, nat_zero_add, hideH_nil, and_self, and_true, true_and, and_false, false_and]) (apply chkW_want) (apply chkW_wantA) (apply valK_bolB; · finish (splits := 3) (ematch := 1)) (apply valK_altT; · finish (splits := 3) (ematch := 1)) (apply valK_altF; · finish (splits := 3) (ematch := 1)) (apply valK_altB) ((first (apply brC_t) (apply wantK_t) (apply rowG_t)); · finish (splits := 3) (ematch := 1)) ((first (apply brC_f) (apply wantK_f) (apply rowG_f)); · finish (splits := 3) (ematch := 1)) (apply brC_sBN) (apply brC_sB) (apply wantK_sBN) (apply wantK_sB) (apply rowG_sBN) (apply rowG_sB) (intro~ hr) (tactic => first | exact at_t (at_1 h1 h2 h3) | exact at_t (at_2 h3) | exact at_t (at_3 h2) | exact at_t (at_4 h1) | (trace_state; exact test_fail)))
theorem pnew_use {room : Int} {H : Hp} {n : Nat} {Q : AV → Hp → Nat → Prop} (hq : Q (.ptr n 0 []) ((n + 1, .vec 0 13 []) :: (n, .cel (.agg [.int .i64 (newP room).room, .int .i64 (-1), .int .i64 0, .int .i64 0, .slc (n + 1) 0 [] 13 0 0 0 0])) :: H) (n + 2)) : callA Try.prog 48 [.int .i64 room] H n Q := by
  refine callA_use (new_call room) [] rfl List.nodup_nil (by simp) (by simp [keysB]) rfl trivial ?_
  rintro v H1 m1 _ ⟨rfl, rfl, rfl⟩
  have e : hideH (keysB (renH (idx [] n) [])) H = H := hideH_nil H
  rw [e]
  simpa [poolH, poolV, newP, renH, renL, AV.ren, Ent.ren, idx] using hq
noncomputable def cx31 : Cx := ⟨Try.prog, [], [], [(0, [4, 3, 2, 1, 0]), (1, [10])]⟩
theorem cx31_P : cx31.P = Try.prog := rfl
theorem cx31_l0 : lookL 0 cx31.lv = some [4, 3, 2, 1, 0] := rfl
theorem cx31_l1 : lookL 1 cx31.lv = some [10] := rfl
theorem cx31_pu : cx31.pu = [] := rfl
theorem cx31_ok : okc cx31 Try.f31.ntmps (Try.f31.body.getD .skip) = true := by kernel_rfl
theorem enter31 {args : List AV} {H : Hp} {n : Nat} {Q : AV → Hp → Nat → Prop} (h : args.length ≤ 21 ∧ Ev cx31 ⟨21, n, none, 31⟩ (Try.f31.body.getD .skip) ⟨argT 0 args, H, n⟩ (.top Try.f31.results.toList Q)) : callA Try.prog 31 args H n Q :=
  callA_ev (cx := cx31) puOk_nil (f := 31) (fn := Try.f31) Try.func31 rfl (by kernel_rfl) h.1 cx31_ok h.2
theorem new_use {a b c d room : Int} {H : Hp} {n : Nat} {Q : AV → Hp → Nat → Prop} (hq : Q (.ptr (n + 3) 0 []) ((n + 3, .cel (.agg [.agg [.int .i64 a, .int .i64 b, .int .i64 c, .int .i64 d], .map n, .ptr (n + 1) 0 [], .bool false])) :: (n + 2, .vec 0 13 []) :: (n + 1, .cel (.agg [.int .i64 (newP room).room, .int .i64 (-1), .int .i64 0, .int .i64 0, .slc (n + 2) 0 [] 13 0 0 0 0])) :: (n, .mp (hW [])) :: H) (n + 4)) : callA Try.prog 31 [.int .i64 a, .int .i64 b, .int .i64 c, .int .i64 d, .int .i64 room] H n Q := by
  sym =>
    repeat (first (apply enter31) (apply pnew_use) (apply imp_go; intro hp) (apply valK_wr) ((first (apply valK_bol) (apply effK_bol) (apply newK_bol) (apply appK_bol) (apply topO_bol)); · finish (splits := 3) (ematch := 1)) ((first (apply valK_altY) (apply effK_altY)); · finish (splits := 3) (ematch := 1)) ((first (apply valK_altN) (apply effK_altN)); · finish (splits := 3) (ematch := 1)) (apply valK_altNY; · finish (splits := 3) (ematch := 1)) (apply valK_altNN; · finish (splits := 3) (ematch := 1)) (apply valK_altS) (apply valK_altNS) (apply effK_altS) (apply appS_go) (apply brC_y; · finish (splits := 3) (ematch := 1)) (apply brC_n; · finish (splits := 3) (ematch := 1)) (apply brC_yN; · finish (splits := 3) (ematch := 1)) (apply brC_nN; · finish (splits := 3) (ematch := 1)) (apply brC_s) (apply brC_sN) (simp [e17Op_eq, e19Op_eq, eAbuffertile_eq, eColour_eq, eFrag_eq, eKey_eq, cx31_P, cx31_l0, cx31_l1, cx31_pu, Try.f31.eq_1, ty_arrOf_3, ty_arrOf_96, ty_fldOf_101_0, ty_fldOf_101_1, ty_fldOf_101_2, ty_fldOf_101_3, ty_fldOf_96_0, ty_fldOf_96_1, ty_fldOf_96_2, ty_fldOf_96_3, ty_hasTy_97, ty_intOf_3, ty_isInt_3, ty_notInt_3, ty_lay_3, ty_lay_96, ty_lay_97, ty_mapKT_97, ty_mapZ_97, ty_notInt_96, ty_placesOf_101, ty_placesOf_96, ty_slcOf_3, ty_slcOf_96, ty_zeroA_101, ty_zeroA_3, ty_zeroA_96, valK_some, newK_some, opE_move, opE_assign, opE_build, opE_load, opE_bin, opE_un, opE_alloc, opE_box, opE_makeMap, callK_fn, callK_yld, callG_some, callG_none, opE_call_r, ev_seq, ev_skip, ev_label, ev_region, ev_cond, condC_some, brC_true, brC_false, ev_block, ev_scope, ev_exit, ev_ret, nx_seq, nx_seqE, nx_seqR, nx_blk, nx_blkE, nx_blkR, nx_top, nx_topR, topO_some, evR_nil, evR_op, evR_guard, finK_reg, finN_reg, nid_reg, getT_cons, putT_some, putT_none, trimT_some, trimT_none, keepT_nil, keepT_cons, consT_some, consT_none, getT_nil, getO_tmp, getO_const, getO_func, ofC_int, ofC_bool, ofC_ptr, ofC_slc, ofC_map, ofC_fn, getOs_nil, getOs_cons, consO_some, hget_cons, wrap_lit, wrap_neg, cast_lit, toNat_lit, get_zero, get_succ, take_zero, take_succ, set_zero, set_succ, length_nil, length_cons, append_nil, nil_append, cons_append, toList_arr, bnot_true, bnot_false, band_true, band_false, beq_tt, beq_ff, beq_tf, beq_ft, beq_nat, beq_int, bne_nat, map_some, map_none, true_eq_false, false_eq_true, true_eq_true, fbody_mk, fresults_mk, getD_some, bol_true, binO_some, size_int, size_bool, size_str, size_ptr, size_nilp, size_slc, size_nils, size_map, size_nilm, size_fn, size_yld, size_nilf, size_agg, size_rows, sizeL_nil, sizeL_cons, layOK_int, layOK_bool, layOK_str, layOK_ptr, layOK_nilp, layOK_slc, layOK_nils, layOK_map, layOK_nilm, layOK_fn, layOK_yld, layOK_nilf, layOK_agg, layOK_rows, isTup_int, isTup_bool, isTup_str, isTup_ptr, isTup_nilp, isTup_slc, isTup_nils, isTup_map, isTup_nilm, isTup_fn, isTup_yld, isTup_nilf, isTup_agg, isTup_rows, getP_nil, getP_cons, getS_some, stepP_agg, stepP_rows, loadO_some, loadA_ptr, loadE_cel, loadE_vec, loadE_ro, chkL_some, newA_some, partsO_nil, partsO_cons, buildA_some, fillP_nil, fillP_cons, fillN_some, setA_agg, setA_rows, setC_some, setD_some, resF_eq, resAll_nil, resAll_cons, resOne_tmp, resOne_cell, tupO_none, tupO_one, tupO_more, argT_nil, argT_cons, lookU_nil, lookU_cons, lookL_cons, lookL_nil, lookP_cons, roundS_eq, wrapO_lit, wrapO_neg, not_tf, not_ft, and_tf, alt_true, alt_false, bol_false, getS_bol, getS_alt, chkL_bol, chkL_alt, consO_bol, consO_bol2, tupO_bol, fillN_bol, bol_bol, get_mapB, get_setB, get_appB, len_map, nat_zero_add, hideH_nil, and_self, and_true, true_and, and_false, false_and]) (apply valK_bolB; · finish (splits := 3) (ematch := 1)) (apply valK_altT; · finish (splits := 3) (ematch := 1)) (apply valK_altF; · finish (splits := 3) (ematch := 1)) (apply valK_altB) (apply brC_t; · finish (splits := 3) (ematch := 1)) (apply brC_f; · finish (splits := 3) (ematch := 1)) (apply brC_sBN) (apply brC_sB) (intro~ hr) (tactic => first | exact hq | (trace_state; exact test_fail)))
theorem push_no {R : List TFrag} {room most : Int} {f : TFrag} (hr : (R.length : Int) = room) : pushP ⟨room, -1, (R.length : Int), most, nodesR R⟩ (lstR R f.x f.y) f = (lstR R f.x f.y, false, ⟨room, -1, (R.length : Int), most, nodesR R⟩) := by
  unfold pushP
  rw [if_pos (.inr hr)]
theorem step_x (x : TFrag) : stepP (eFrag x) (.fld 0 0) = some (.int .i64 x.x) := rfl
theorem step_y (x : TFrag) : stepP (eFrag x) (.fld 1 1) = some (.int .i64 x.y) := rfl
theorem step_m (x : TFrag) : stepP (eFrag x) (.fld 2 2) = some (.int .u8 x.mask) := rfl
noncomputable def cx51 : Cx := ⟨Try.prog, [], [(1, ⟨0, [⟨0, false, [], [], [], 0⟩, ⟨1, false, [0], [], [], 0⟩, ⟨2, false, [1], [], [], 0⟩, ⟨3, false, [2], [], [], 0⟩, ⟨4, false, [], [], [], 0⟩, ⟨5, false, [3, 4], [], [], 0⟩, ⟨6, false, [5], [], [], 0⟩, ⟨7, false, [6], [], [], 0⟩, ⟨8, false, [6], [], [], 0⟩, ⟨9, false, [7], [], [], 0⟩, ⟨10, false, [8], [], [], 0⟩]⟩)], [(0, [3, 0]), (1, [6, 5]), (2, [16, 5]), (3, [4]), (4, [4])]⟩
theorem cx51_P : cx51.P = Try.prog := rfl
theorem cx51_l0 : lookL 0 cx51.lv = some [3, 0] := rfl
theorem cx51_l1 : lookL 1 cx51.lv = some [6, 5] := rfl
theorem cx51_l2 : lookL 2 cx51.lv = some [16, 5] := rfl
theorem cx51_l3 : lookL 3 cx51.lv = some [4] := rfl
theorem cx51_l4 : lookL 4 cx51.lv = some [4] := rfl
theorem cx51_p1 : lookP 1 cx51.pl = some ⟨0, [⟨0, false, [], [], [], 0⟩, ⟨1, false, [0], [], [], 0⟩, ⟨2, false, [1], [], [], 0⟩, ⟨3, false, [2], [], [], 0⟩, ⟨4, false, [], [], [], 0⟩, ⟨5, false, [3, 4], [], [], 0⟩, ⟨6, false, [5], [], [], 0⟩, ⟨7, false, [6], [], [], 0⟩, ⟨8, false, [6], [], [], 0⟩, ⟨9, false, [7], [], [], 0⟩, ⟨10, false, [8], [], [], 0⟩]⟩ := rfl
theorem cx51_pu : cx51.pu = [] := rfl
theorem cx51_ok : okc cx51 Try.f51.ntmps (Try.f51.body.getD .skip) = true := by kernel_rfl
theorem enter51 {args : List AV} {H : Hp} {n : Nat} {Q : AV → Hp → Nat → Prop} (h : args.length ≤ 18 ∧ Ev cx51 ⟨18, n, none, 51⟩ (Try.f51.body.getD .skip) ⟨argT 0 args, H, n⟩ (.top Try.f51.results.toList Q)) : callA Try.prog 51 args H n Q :=
  callA_ev (cx := cx51) puOk_nil (f := 51) (fn := Try.f51) Try.func51 rfl (by kernel_rfl) h.1 cx51_ok h.2
noncomputable def cx32 : Cx := ⟨Try.prog, [], [(1, ⟨1, [⟨0, false, [], [], [], 0⟩, ⟨1, false, [0], [], [], 0⟩, ⟨2, false, [1], [], [], 0⟩, ⟨3, false, [2], [], [0], 0⟩, ⟨4, false, [], [], [], 0⟩, ⟨5, false, [4], [], [0], 0⟩, ⟨6, false, [], [], [], 0⟩, ⟨7, false, [6], [], [0], 0⟩, ⟨12, false, [], [], [], 0⟩, ⟨8, true, [3, 5, 7], [], [0], 0⟩, ⟨9, false, [8], [], [], 0⟩, ⟨10, false, [8, 9], [], [], 0⟩, ⟨11, false, [8, 9], [], [], 0⟩, ⟨13, true, [3, 5, 7, 8, 10, 12], [], [], 0⟩, ⟨14, false, [8, 11, 13], [], [], 0⟩]⟩), (4, ⟨0, [⟨0, false, [], [], [], 0⟩, ⟨1, false, [0], [], [], 0⟩, ⟨2, false, [1], [], [], 0⟩, ⟨3, false, [2], [], [], 0⟩, ⟨4, false, [], [], [], 0⟩, ⟨5, false, [], [], [], 0⟩, ⟨7, false, [], [], [], 0⟩, ⟨6, true, [4, 5], [3, 7], [], 0⟩, ⟨8, true, [3, 5, 6, 7], [], [], 0⟩, ⟨9, false, [6, 8], [], [], 0⟩, ⟨10, false, [6, 8, 9], [], [], 0⟩, ⟨11, false, [6, 8, 9], [], [], 0⟩, ⟨12, false, [6, 8, 10], [], [], 0⟩, ⟨13, false, [6, 8, 11], [], [], 0⟩]⟩), (8, ⟨0, [⟨0, false, [], [], [], 0⟩, ⟨1, false, [0], [], [], 0⟩, ⟨2, false, [1], [], [], 0⟩, ⟨3, false, [2], [], [], 0⟩, ⟨4, false, [], [], [], 0⟩, ⟨5, false, [], [], [], 0⟩, ⟨6, true, [3, 4, 5], [], [], 0⟩]⟩)], [(0, [3, 0]), (1, [6, 5, 3, 0]), (2, [27, 6, 5, 3, 0]), (3, [4]), (4, [8, 7, 5, 0]), (5, [42, 7, 5, 0]), (6, []), (7, [4]), (8, []), (9, [4])]⟩
theorem cx32_P : cx32.P = Try.prog := rfl
theorem cx32_l0 : lookL 0 cx32.lv = some [3, 0] := rfl
theorem cx32_l1 : lookL 1 cx32.lv = some [6, 5, 3, 0] := rfl
theorem cx32_l2 : lookL 2 cx32.lv = some [27, 6, 5, 3, 0] := rfl
theorem cx32_l3 : lookL 3 cx32.lv = some [4] := rfl
theorem cx32_l4 : lookL 4 cx32.lv = some [8, 7, 5, 0] := rfl
theorem cx32_l5 : lookL 5 cx32.lv = some [42, 7, 5, 0] := rfl
theorem cx32_l6 : lookL 6 cx32.lv = some [] := rfl
theorem cx32_l7 : lookL 7 cx32.lv = some [4] := rfl
theorem cx32_l8 : lookL 8 cx32.lv = some [] := rfl
theorem cx32_l9 : lookL 9 cx32.lv = some [4] := rfl
theorem cx32_p1 : lookP 1 cx32.pl = some ⟨1, [⟨0, false, [], [], [], 0⟩, ⟨1, false, [0], [], [], 0⟩, ⟨2, false, [1], [], [], 0⟩, ⟨3, false, [2], [], [0], 0⟩, ⟨4, false, [], [], [], 0⟩, ⟨5, false, [4], [], [0], 0⟩, ⟨6, false, [], [], [], 0⟩, ⟨7, false, [6], [], [0], 0⟩, ⟨12, false, [], [], [], 0⟩, ⟨8, true, [3, 5, 7], [], [0], 0⟩, ⟨9, false, [8], [], [], 0⟩, ⟨10, false, [8, 9], [], [], 0⟩, ⟨11, false, [8, 9], [], [], 0⟩, ⟨13, true, [3, 5, 7, 8, 10, 12], [], [], 0⟩, ⟨14, false, [8, 11, 13], [], [], 0⟩]⟩ := rfl
theorem cx32_p4 : lookP 4 cx32.pl = some ⟨0, [⟨0, false, [], [], [], 0⟩, ⟨1, false, [0], [], [], 0⟩, ⟨2, false, [1], [], [], 0⟩, ⟨3, false, [2], [], [], 0⟩, ⟨4, false, [], [], [], 0⟩, ⟨5, false, [], [], [], 0⟩, ⟨7, false, [], [], [], 0⟩, ⟨6, true, [4, 5], [3, 7], [], 0⟩, ⟨8, true, [3, 5, 6, 7], [], [], 0⟩, ⟨9, false, [6, 8], [], [], 0⟩, ⟨10, false, [6, 8, 9], [], [], 0⟩, ⟨11, false, [6, 8, 9], [], [], 0⟩, ⟨12, false, [6, 8, 10], [], [], 0⟩, ⟨13, false, [6, 8, 11], [], [], 0⟩]⟩ := rfl
theorem cx32_p8 : lookP 8 cx32.pl = some ⟨0, [⟨0, false, [], [], [], 0⟩, ⟨1, false, [0], [], [], 0⟩, ⟨2, false, [1], [], [], 0⟩, ⟨3, false, [2], [], [], 0⟩, ⟨4, false, [], [], [], 0⟩, ⟨5, false, [], [], [], 0⟩, ⟨6, true, [3, 4, 5], [], [], 0⟩]⟩ := rfl
theorem cx32_pu : cx32.pu = [] := rfl
theorem cx32_ok : okc cx32 Try.f32.ntmps (Try.f32.body.getD .skip) = true := by kernel_rfl
theorem enter32 {args : List AV} {H : Hp} {n : Nat} {Q : AV → Hp → Nat → Prop} (h : args.length ≤ 52 ∧ Ev cx32 ⟨52, n, none, 32⟩ (Try.f32.body.getD .skip) ⟨argT 0 args, H, n⟩ (.top Try.f32.results.toList Q)) : callA Try.prog 32 args H n Q :=
  callA_ev (cx := cx32) puOk_nil (f := 32) (fn := Try.f32) Try.func32 rfl (by kernel_rfl) h.1 cx32_ok h.2
/-- A buffer: its tile, what is stored (the last one first), whether it is over. -/
structure BufS where
  a : Int
  b : Int
  c : Int
  d : Int
  room : Int
  most : Int
  R : List TFrag
  ov : Bool
def mostU (m : Int) (l : Nat) : Int := if m < (l : Int) + 1 then (l : Int) + 1 else m
def putB (s : BufS) (f : TFrag) : Bool × BufS :=
  if inT s.a s.b s.c s.d f.x f.y = false then (false, s)
  else if f.mask = 0 then (true, s)
  else if (s.R.length : Int) < s.room then (true, ⟨s.a, s.b, s.c, s.d, s.room, mostU s.most s.R.length, f :: s.R, s.ov⟩)
  else (false, ⟨s.a, s.b, s.c, s.d, s.room, s.most, s.R, true⟩)
def okB (s : BufS) : Prop := (s.R.length : Int) ≤ s.room ∧ s.room ≤ 65536
def bufE (s : BufS) (km kp : Nat) : Ent := .cel (.agg [.agg [.int .i64 s.a, .int .i64 s.b, .int .i64 s.c, .int .i64 s.d], .map km, .ptr kp 0 [], .bool s.ov])
def poolE (s : BufS) (kr cap : Nat) : Ent := .cel (.agg [.int .i64 s.room, .int .i64 (-1), .int .i64 (s.R.length : Int), .int .i64 s.most, .slc kr 0 [] 13 0 0 s.R.length cap])
def rowQ (s : BufS) (cap : Nat) : Ent := .vec cap 13 ((nodesR s.R).map nodeV)
def mapN (s : BufS) : Ent := .mp (hW (headR s.R))
theorem bufE_eq (s : BufS) (km kp : Nat) : bufE s km kp = .cel (.agg [.agg [.int .i64 s.a, .int .i64 s.b, .int .i64 s.c, .int .i64 s.d], .map km, .ptr kp 0 [], .bool s.ov]) := rfl
theorem poolE_eq (s : BufS) (kr cap : Nat) : poolE s kr cap = .cel (.agg [.int .i64 s.room, .int .i64 (-1), .int .i64 (s.R.length : Int), .int .i64 s.most, .slc kr 0 [] 13 0 0 s.R.length cap]) := rfl
theorem rowQ_eq (s : BufS) (cap : Nat) : rowQ s cap = .vec cap 13 ((nodesR s.R).map nodeV) := rfl
theorem mapN_eq (s : BufS) : mapN s = .mp (hW (headR s.R)) := rfl
def bufH (s : BufS) (kr cap : Nat) : Hp := [(3, bufE s 0 1), (kr, rowQ s cap), (1, poolE s kr cap), (0, mapN s)]
theorem er_celQ (τ : Nat → Nat) (v : AV) : (Ent.cel v).ren τ = .cel (v.ren τ) := rfl
theorem er_vecQ (τ : Nat → Nat) (c sz : Nat) (l : List AV) : (Ent.vec c sz l).ren τ = .vec c sz (renL τ l) := rfl
theorem er_hW (τ : Nat → Nat) (M : List HE) : (Ent.mp (hW M)).ren τ = .mp (hW M) := by
  show Ent.mp (renM τ (hW M)) = _
  congr 1
  induction M with
  | nil => rfl
  | cons e r ih =>
    show _ :: renM τ (hW r) = _ :: hW r
    rw [ih]; rfl
theorem putB_ok {s : BufS} (hs : okB s) (f : TFrag) : okB (putB s f).2 := by
  unfold putB
  split
  · exact hs
  · split
    · exact hs
    · split
      · rename_i h1 h2 h3
        refine ⟨?_, hs.2⟩
        show (((f :: s.R).length : Nat) : Int) ≤ s.room
        rw [List.length_cons]; omega
      · exact hs
-- Chapter 19: what is stored of a pixel, the farthest first.
noncomputable def cx52 : Cx := ⟨Try.prog, [], [], [(0, [3, 2]), (1, [4])]⟩
theorem cx52_P : cx52.P = Try.prog := rfl
theorem cx52_l0 : lookL 0 cx52.lv = some [3, 2] := rfl
theorem cx52_l1 : lookL 1 cx52.lv = some [4] := rfl
theorem cx52_pu : cx52.pu = [] := rfl
theorem cx52_ok : okc cx52 Try.f52.ntmps (Try.f52.body.getD .skip) = true := by kernel_rfl
theorem enter52 {args : List AV} {H : Hp} {n : Nat} {Q : AV → Hp → Nat → Prop} (h : args.length ≤ 6 ∧ Ev cx52 ⟨6, n, none, 52⟩ (Try.f52.body.getD .skip) ⟨argT 0 args, H, n⟩ (.top Try.f52.results.toList Q)) : callA Try.prog 52 args H n Q :=
  callA_ev (cx := cx52) puOk_nil (f := 52) (fn := Try.f52) Try.func52 rfl (by kernel_rfl) h.1 cx52_ok h.2
noncomputable def cx65 : Cx := ⟨Try.prog, [], [], [(0, [4, 2, 0]), (1, [8, 4, 2, 0]), (2, [4, 2, 0]), (3, [28, 4, 2, 0])]⟩
theorem cx65_P : cx65.P = Try.prog := rfl
theorem cx65_l0 : lookL 0 cx65.lv = some [4, 2, 0] := rfl
theorem cx65_l1 : lookL 1 cx65.lv = some [8, 4, 2, 0] := rfl
theorem cx65_l3 : lookL 3 cx65.lv = some [28, 4, 2, 0] := rfl
theorem cx65_l2 : lookL 2 cx65.lv = some [4, 2, 0] := rfl
theorem cx65_pu : cx65.pu = [] := rfl
theorem cx65_ok : okc cx65 Try.f65.ntmps (Try.f65.body.getD .skip) = true := by kernel_rfl
theorem enter65 {args : List AV} {H : Hp} {n : Nat} {Q : AV → Hp → Nat → Prop} (h : args.length ≤ 29 ∧ Ev cx65 ⟨29, n, none, 65⟩ (Try.f65.body.getD .skip) ⟨argT 0 args, H, n⟩ (.top Try.f65.results.toList Q)) : callA Try.prog 65 args H n Q :=
  callA_ev (cx := cx65) puOk_nil (f := 65) (fn := Try.f65) Try.func65 rfl (by kernel_rfl) h.1 cx65_ok h.2
noncomputable def cx53 : Cx := ⟨Try.prog, [], [(3, ⟨0, [⟨0, false, [], [], [], 0⟩, ⟨1, false, [], [], [], 0⟩, ⟨2, false, [], [], [], 0⟩, ⟨3, false, [], [], [], 0⟩, ⟨4, false, [], [], [], 0⟩, ⟨5, false, [], [], [], 0⟩, ⟨6, false, [4, 5], [], [], 0⟩, ⟨7, false, [6], [], [], 0⟩, ⟨8, false, [], [], [], 0⟩, ⟨9, false, [], [], [], 0⟩, ⟨10, false, [8, 9], [], [], 0⟩, ⟨11, false, [10], [], [], 0⟩, ⟨12, false, [0, 1], [], [], 0⟩, ⟨13, true, [7, 11, 12], [], [], 0⟩, ⟨14, false, [2, 3, 13], [], [], 0⟩, ⟨15, true, [7, 11, 13, 14], [], [], 0⟩]⟩)], [(0, [3, 2, 0]), (1, [9, 3, 2, 0]), (2, [3, 2, 0]), (3, [3, 2, 0])]⟩
theorem cx53_P : cx53.P = Try.prog := rfl
theorem cx53_l0 : lookL 0 cx53.lv = some [3, 2, 0] := rfl
theorem cx53_l1 : lookL 1 cx53.lv = some [9, 3, 2, 0] := rfl
theorem cx53_l3 : lookL 3 cx53.lv = some [3, 2, 0] := rfl
theorem cx53_l2 : lookL 2 cx53.lv = some [3, 2, 0] := rfl
theorem cx53_p3 : lookP 3 cx53.pl = some ⟨0, [⟨0, false, [], [], [], 0⟩, ⟨1, false, [], [], [], 0⟩, ⟨2, false, [], [], [], 0⟩, ⟨3, false, [], [], [], 0⟩, ⟨4, false, [], [], [], 0⟩, ⟨5, false, [], [], [], 0⟩, ⟨6, false, [4, 5], [], [], 0⟩, ⟨7, false, [6], [], [], 0⟩, ⟨8, false, [], [], [], 0⟩, ⟨9, false, [], [], [], 0⟩, ⟨10, false, [8, 9], [], [], 0⟩, ⟨11, false, [10], [], [], 0⟩, ⟨12, false, [0, 1], [], [], 0⟩, ⟨13, true, [7, 11, 12], [], [], 0⟩, ⟨14, false, [2, 3, 13], [], [], 0⟩, ⟨15, true, [7, 11, 13, 14], [], [], 0⟩]⟩ := rfl
theorem cx53_pu : cx53.pu = [] := rfl
theorem cx53_ok : okc cx53 Try.f53.ntmps (Try.f53.body.getD .skip) = true := by kernel_rfl
theorem enter53 {args : List AV} {H : Hp} {n : Nat} {Q : AV → Hp → Nat → Prop} (h : args.length ≤ 28 ∧ Ev cx53 ⟨28, n, none, 53⟩ (Try.f53.body.getD .skip) ⟨argT 0 args, H, n⟩ (.top Try.f53.results.toList Q)) : callA Try.prog 53 args H n Q :=
  callA_ev (cx := cx53) puOk_nil (f := 53) (fn := Try.f53) Try.func53 rfl (by kernel_rfl) h.1 cx53_ok h.2
noncomputable def cx57 : Cx := ⟨Try.prog, [], [], [(0, [0]), (1, [2])]⟩
theorem cx57_P : cx57.P = Try.prog := rfl
theorem cx57_l0 : lookL 0 cx57.lv = some [0] := rfl
theorem cx57_l1 : lookL 1 cx57.lv = some [2] := rfl
theorem cx57_pu : cx57.pu = [] := rfl
theorem cx57_ok : okc cx57 Try.f57.ntmps (Try.f57.body.getD .skip) = true := by kernel_rfl
theorem enter57 {args : List AV} {H : Hp} {n : Nat} {Q : AV → Hp → Nat → Prop} (h : args.length ≤ 5 ∧ Ev cx57 ⟨5, n, none, 57⟩ (Try.f57.body.getD .skip) ⟨argT 0 args, H, n⟩ (.top Try.f57.results.toList Q)) : callA Try.prog 57 args H n Q :=
  callA_ev (cx := cx57) puOk_nil (f := 57) (fn := Try.f57) Try.func57 rfl (by kernel_rfl) h.1 cx57_ok h.2
noncomputable def cx68 : Cx := ⟨Try.prog, [], [], [(0, [4, 2, 1]), (1, [6, 4, 2]), (2, [5, 2]), (3, []), (4, [4])]⟩
theorem cx68_P : cx68.P = Try.prog := rfl
theorem cx68_l0 : lookL 0 cx68.lv = some [4, 2, 1] := rfl
theorem cx68_l1 : lookL 1 cx68.lv = some [6, 4, 2] := rfl
theorem cx68_l2 : lookL 2 cx68.lv = some [5, 2] := rfl
theorem cx68_l3 : lookL 3 cx68.lv = some [] := rfl
theorem cx68_l4 : lookL 4 cx68.lv = some [4] := rfl
theorem cx68_pu : cx68.pu = [] := rfl
theorem cx68_ok : okc cx68 Try.f68.ntmps (Try.f68.body.getD .skip) = true := by kernel_rfl
theorem enter68 {args : List AV} {H : Hp} {n : Nat} {Q : AV → Hp → Nat → Prop} (h : args.length ≤ 13 ∧ Ev cx68 ⟨13, n, none, 68⟩ (Try.f68.body.getD .skip) ⟨argT 0 args, H, n⟩ (.top Try.f68.results.toList Q)) : callA Try.prog 68 args H n Q :=
  callA_ev (cx := cx68) puOk_nil (f := 68) (fn := Try.f68) Try.func68 rfl (by kernel_rfl) h.1 cx68_ok h.2
theorem ran68 {nt n0 : Nat} {rd : Option Nat} {k : Kd} {T : Sl} {H : Hp} {n : Nat} {ps : List Nat} {ag bd : Code} {f : Operand} (har : arF rd H) (h : (∀ (L : Nat) (args : List AV) (H : Hp) (n : Nat) (Q : AV → Hp → Nat → Prop), RndG cx68 68 nt ps ag bd (hget L H) L args H n Q → roundA Try.prog L args H n Q) → RanO Try.prog cx68 ⟨nt, n0, rd, 68⟩ ps ag bd T H n k (getO T f)) : RanS cx68 ⟨nt, n0, rd, 68⟩ f ps.toArray ag bd ⟨T, H, n⟩ k := ran_go (P := Try.prog) rfl har h
noncomputable def cx33 : Cx := ⟨Try.prog, [], [(5, ⟨0, [⟨0, false, [], [], [], 0⟩, ⟨1, false, [0], [], [], 0⟩, ⟨2, false, [1], [], [], 0⟩, ⟨3, false, [2], [], [], 0⟩, ⟨4, false, [], [], [], 0⟩, ⟨5, false, [], [], [], 0⟩, ⟨6, true, [4, 5], [3], [], 0⟩, ⟨7, true, [3, 5, 6], [], [], 0⟩]⟩)], [(0, [6, 2, 1, 0]), (1, [8, 7, 6, 0]), (2, [26, 7, 6, 0]), (3, [6]), (4, [9, 7, 6, 0]), (5, [34, 9, 6]), (6, [11, 9]), (7, []), (8, [9]), (9, [12, 9]), (10, [46, 45, 44, 12]), (11, [47, 46, 45, 44, 12]), (12, [46, 45, 44, 14, 12]), (13, [46, 45, 44, 12]), (14, [46, 45, 44, 12]), (15, [6])]⟩
theorem cx33_P : cx33.P = Try.prog := rfl
theorem cx33_l0 : lookL 0 cx33.lv = some [6, 2, 1, 0] := rfl
theorem cx33_l1 : lookL 1 cx33.lv = some [8, 7, 6, 0] := rfl
theorem cx33_l2 : lookL 2 cx33.lv = some [26, 7, 6, 0] := rfl
theorem cx33_l3 : lookL 3 cx33.lv = some [6] := rfl
theorem cx33_l4 : lookL 4 cx33.lv = some [9, 7, 6, 0] := rfl
theorem cx33_l5 : lookL 5 cx33.lv = some [34, 9, 6] := rfl
theorem cx33_l6 : lookL 6 cx33.lv = some [11, 9] := rfl
theorem cx33_l7 : lookL 7 cx33.lv = some [] := rfl
theorem cx33_l8 : lookL 8 cx33.lv = some [9] := rfl
theorem cx33_l9 : lookL 9 cx33.lv = some [12, 9] := rfl
theorem cx33_l10 : lookL 10 cx33.lv = some [46, 45, 44, 12] := rfl
theorem cx33_l11 : lookL 11 cx33.lv = some [47, 46, 45, 44, 12] := rfl
theorem cx33_l12 : lookL 12 cx33.lv = some [46, 45, 44, 14, 12] := rfl
theorem cx33_l13 : lookL 13 cx33.lv = some [46, 45, 44, 12] := rfl
theorem cx33_l14 : lookL 14 cx33.lv = some [46, 45, 44, 12] := rfl
theorem cx33_l15 : lookL 15 cx33.lv = some [6] := rfl
theorem cx33_p5 : lookP 5 cx33.pl = some ⟨0, [⟨0, false, [], [], [], 0⟩, ⟨1, false, [0], [], [], 0⟩, ⟨2, false, [1], [], [], 0⟩, ⟨3, false, [2], [], [], 0⟩, ⟨4, false, [], [], [], 0⟩, ⟨5, false, [], [], [], 0⟩, ⟨6, true, [4, 5], [3], [], 0⟩, ⟨7, true, [3, 5, 6], [], [], 0⟩]⟩ := rfl
theorem cx33_pu : cx33.pu = [] := rfl
theorem cx33_ok : okc cx33 Try.f33.ntmps (Try.f33.body.getD .skip) = true := by kernel_rfl
theorem enter33 {args : List AV} {H : Hp} {n : Nat} {Q : AV → Hp → Nat → Prop} (h : args.length ≤ 57 ∧ Ev cx33 ⟨57, n, none, 33⟩ (Try.f33.body.getD .skip) ⟨argT 0 args, H, n⟩ (.top Try.f33.results.toList Q)) : callA Try.prog 33 args H n Q :=
  callA_ev (cx := cx33) puOk_nil (f := 33) (fn := Try.f33) Try.func33 rfl (by kernel_rfl) h.1 cx33_ok h.2
theorem ran33 {nt n0 : Nat} {rd : Option Nat} {k : Kd} {T : Sl} {H : Hp} {n : Nat} {ps : List Nat} {ag bd : Code} {f : Operand} (har : arF rd H) (h : (∀ (L : Nat) (args : List AV) (H : Hp) (n : Nat) (Q : AV → Hp → Nat → Prop), RndG cx33 33 nt ps ag bd (hget L H) L args H n Q → roundA Try.prog L args H n Q) → RanO Try.prog cx33 ⟨nt, n0, rd, 33⟩ ps ag bd T H n k (getO T f)) : RanS cx33 ⟨nt, n0, rd, 33⟩ f ps.toArray ag bd ⟨T, H, n⟩ k := ran_go (P := Try.prog) rfl har h
structure RvA where
  i : Nat
  j : Int
def rvInv (l : List TFrag) (a : RvA) : Prop := a.j = (l.length : Int) - 1 - a.i ∧ a.i ≤ l.length
theorem rv_row {l : List TFrag} {i j : Nat} (hj : j + i + 1 = l.length) (h : i < j) : (((rvL l i).map eFrag).set i (eFrag ((rvL l i).getD j default))).set j (eFrag ((rvL l i).getD i default)) = (rvL l (i + 1)).map eFrag := by
  have e : j = l.length - 1 - i := by omega
  subst e
  have h2 : i + 1 < l.length - i := by omega
  rw [rvL_lo h2, rvL_hi h2, ← List.map_set, ← List.map_set, rvL_next h2]
theorem rv_lim {l : List TFrag} {i j : Nat} (hj : j + i + 1 = l.length) (h : i < j) : i < (rvL l i).length ∧ j < (rvL l i).length := by rw [rvL_len]; omega
theorem reverse_walk {l : List TFrag} {cap cp : Nat} {Q : AV → Hp → Nat → Prop} (h : l.length ≤ cap ∧ l.length ≤ 100000) (hq : Q (.tup []) [(0, .vec cp 11 (l.reverse.map eFrag))] 1) : callA Try.prog 53 [.slc 0 0 [] 11 0 0 l.length cap] [(0, .vec cp 11 (l.map eFrag))] 1 Q := by
  sym =>
    repeat (first (apply enter53) (apply loop_here; (tactic => (refine loopS_reid (st0 := (fun a : RvA => (⟨[(3, .int .i64 a.j), (2, .int .i64 a.i), (0, .slc 0 0 [] 11 0 0 l.length cap)], [(0, .vec cp 11 ((rvL l a.i).map eFrag))], 1⟩ : St)) ⟨0, (l.length : Int) - 1⟩) [0] (reid_of rfl (by decide) rfl (by simp [subT, subH, okW, getT, hget, hset, hdel, idx, AV.ren, renL, renT, Ent.ren, Ent.writes, renL_app, lFrag_ren, eFrag_ren, rvL_zero]) (by simp [subT, subH, okW, getT, hget, hset, hdel, idx, AV.ren, renL, renT, Ent.ren, Ent.writes, renL_app, lFrag_ren, eFrag_ren, rvL_zero]) (ndB_nodup rfl) (by simp [subT, subH, okW, getT, hget, hset, hdel, idx, AV.ren, renL, renT, Ent.ren, Ent.writes, renL_app, lFrag_ren, eFrag_ren, rvL_zero])) ?_; refine loop_par (fun a : RvA => (⟨[(3, .int .i64 a.j), (2, .int .i64 a.i), (0, .slc 0 0 [] 11 0 0 l.length cap)], [(0, .vec cp 11 ((rvL l a.i).map eFrag))], 1⟩ : St)) (rvInv l) (fun a => l.length - a.i) ?_ ⟨0, (l.length : Int) - 1⟩ (by constructor <;> dsimp only <;> omega); rintro ⟨i, j⟩ hi J hJ; obtain ⟨h1, h2⟩ := hi; dsimp only at h1 h2; by_cases hlt : (i : Int) < j; (· (obtain ⟨jn, rfl⟩ := Int.eq_ofNat_of_zero_le (show 0 ≤ j by omega); have hij : i < jn := (by omega); have hjl : jn + i + 1 = l.length := (by omega); have er := rv_row hjl hij; have el := eq_true (show i < l.length by omega); have ej := eq_true (show jn < l.length by omega); dsimp only; show Ev _ _ _ _ _; sym => repeat (first (apply enter53) (apply imp_go; intro hp) (apply valK_w64; · finish (splits := 3) (ematch := 1)) (apply valK_wr) ((first (apply valK_bol) (apply effK_bol) (apply newK_bol) (apply appK_bol) (apply topO_bol)); · finish (splits := 3) (ematch := 1)) ((first (apply valK_altY) (apply effK_altY)); · finish (splits := 3) (ematch := 1)) ((first (apply valK_altN) (apply effK_altN)); · finish (splits := 3) (ematch := 1)) (apply valK_altNY; · finish (splits := 3) (ematch := 1)) (apply valK_altNN; · finish (splits := 3) (ematch := 1)) (apply valK_altS) (apply valK_altNS) (apply effK_altS) (apply appS_go) (apply brC_y; · finish (splits := 3) (ematch := 1)) (apply brC_n; · finish (splits := 3) (ematch := 1)) (apply brC_yN; · finish (splits := 3) (ematch := 1)) (apply brC_nN; · finish (splits := 3) (ematch := 1)) (apply brC_s) (apply brC_sN) (simp [er, el, ej, rvL_len, Int.toNat_natCast, eFrag_size, eFrag_tup, layOK_frag, e17Op_eq, e19Op_eq, eAbuffertile_eq, eColour_eq, eKey_eq, cx53_P, cx53_l0, cx53_l1, cx53_l3, cx53_l2, cx53_p3, cx53_pu, Try.f53.eq_1, ty_arrOf_3, ty_arrOf_58, ty_arrOf_64, ty_bytesE_58, ty_eqTy_64, ty_fldOf_64_0, ty_fldOf_64_1, ty_fldOf_64_2, ty_fldOf_64_3, ty_intOf_3, ty_isInt_3, ty_notInt_3, ty_lay_3, ty_lay_58, ty_lay_64, ty_notInt_58, ty_notInt_64, ty_placesOf_64, ty_slcOf_3, ty_slcOf_58, ty_slcOf_64, ty_zeroA_3, ty_zeroA_58, ty_zeroA_64, ty_zeroE_58, valK_some, effK_some, opE_move, opE_assign, opE_load, opE_bin, opE_un, opE_indexAddr, opE_len, opE_store_r, opE_store_w, opE_call_w, ev_seq, ev_skip, ev_label, ev_region, ev_draw, evDO_some, ev_cond, condC_some, brC_true, brC_false, ev_block, ev_scope, ev_exit, ev_ret, ev_loop, nx_seq, nx_seqE, nx_seqR, nx_blk, nx_blkE, nx_blkR, nx_loop, nx_loopE, nx_loopR, nx_inv, nx_invE, nx_invR, nx_top, nx_topR, topO_some, evR_nil, evR_op, evR_guard, evD_nil, evD_row, rowK_eff, rowK_calm, rowK_guard, rowG_tup, rowG_tt, rowG_ff, rowG_tf, rowG_ft, rowN_eq, chkA_nil, chkA_cons, chkO_some, chkW_false, sameO_some, chkW_load, chkW_len, finK_reg, finK_row, finK_calm, getT_cons, putT_some, putT_none, trimT_some, trimT_none, keepT_nil, keepT_cons, consT_some, consT_none, getT_nil, getO_tmp, getO_const, getO_func, ofC_int, ofC_bool, ofC_ptr, ofC_slc, ofC_map, ofC_fn, getOs_nil, getOs_cons, consO_some, wantA_none, wantA_some, wantO_tup, wantO_tt, wantO_ff, wantO_tf, wantO_ft, hget_cons, hset_cons, memb_nil, memb_cons, hideH_cons, showH_cons, hideH_none, showH_none, showH_nil, outs_nil, outs_cons, app_nil, nil_app, cons_app, rowOf_cons, wrap_lit, wrap_neg, top_i64, bot_i64, bits_i64, cast_lit, toNat_lit, get_zero, get_succ, take_zero, take_succ, set_zero, set_succ, length_nil, length_cons, length_set, append_nil, nil_append, cons_append, toList_arr, bnot_true, bnot_false, band_true, band_false, beq_tt, beq_ff, beq_tf, beq_ft, beq_nat, beq_int, bne_nat, map_some, map_none, true_eq_false, false_eq_true, true_eq_true, fbody_mk, fresults_mk, getD_some, bol_true, binO_some, bin_lss, size_int, size_bool, size_str, size_ptr, size_nilp, size_slc, size_nils, size_map, size_nilm, size_fn, size_nilf, size_agg, size_rows, sizeL_nil, sizeL_cons, layOK_int, layOK_bool, layOK_str, layOK_ptr, layOK_nilp, layOK_slc, layOK_nils, layOK_map, layOK_nilm, layOK_fn, layOK_nilf, layOK_agg, layOK_rows, isTup_int, isTup_bool, isTup_str, isTup_ptr, isTup_nilp, isTup_slc, isTup_nils, isTup_map, isTup_nilm, isTup_fn, isTup_nilf, isTup_agg, isTup_rows, getP_nil, getP_cons, getS_some, stepP_agg, stepP_rows, putP_nil, putP_cons, putS_some, putU_some, setS_agg, setS_rows, loadO_some, loadA_ptr, loadE_cel, loadE_vec, loadE_ro, chkL_some, storeO_some, stH_some, storeA_ptr, storeE_cel, storeE_vec, storeB_cel, iaO_some, slN_some, builtO_some, len_slc, len_nils, len_rows, arN_some, resF_eq, resAll_nil, resAll_cons, resOne_tmp, resOne_cell, tupO_none, tupO_one, tupO_more, argT_nil, argT_cons, lookL_cons, lookL_nil, lookP_cons, mbin_add, mbin_sub, wrapO_lit, wrapO_neg, mia_ptr, mia_slc, mstoreB_vec, len_set, not_tf, not_ft, and_tf, alt_true, alt_false, bol_false, getS_bol, getS_alt, chkL_bol, chkL_alt, putS_bol, putS_alt, putU_bol, putU_alt, storeB_bol, storeB_alt, stH_bol, stH_alt, consO_bol, consO_bol2, tupO_bol, bol_bol, get_mapB, get_setB, get_appB, len_map, nat_zero_add, slN_bol, subC_nil, subC_seq0, subC_seq1, subC_cond0, subC_cond1, subC_block, subC_scope, subC_loop, subC_ran0, subC_ran1, hideH_nil, and_self, and_true, true_and, and_false, false_and]) (apply chkW_want) (apply chkW_wantA) (apply valK_bolB; · finish (splits := 3) (ematch := 1)) (apply valK_altT; · finish (splits := 3) (ematch := 1)) (apply valK_altF; · finish (splits := 3) (ematch := 1)) (apply valK_altB) (apply brC_t; · finish (splits := 3) (ematch := 1)) (apply brC_f; · finish (splits := 3) (ematch := 1)) (apply brC_sBN) (apply brC_sB) (intro~ hr) (tactic => first | (refine hJ [0] ⟨i + 1, (jn : Int) - 1⟩ _ (reid_of rfl (by decide) rfl ?_ ?_ (ndB_nodup rfl) ?_) (by constructor <;> dsimp only <;> omega) (by dsimp only; omega) <;> simp [subT, subH, okW, getT, hget, hset, hdel, idx, AV.ren, renL, renT, Ent.ren, Ent.writes, renL_app, lFrag_ren, eFrag_ren, -List.map_drop, -List.map_take]; done) | (trace_state; exact test_fail))))); (· (have ee := rvL_end (l := l) (i := i) (by omega); have hr := hq; rw [← ee] at hr; dsimp only; show Ev _ _ _ _ _; sym => repeat (first (apply enter53) (apply imp_go; intro hp) (apply valK_w64; · finish (splits := 3) (ematch := 1)) (apply valK_wr) ((first (apply valK_bol) (apply effK_bol) (apply newK_bol) (apply appK_bol) (apply topO_bol)); · finish (splits := 3) (ematch := 1)) ((first (apply valK_altY) (apply effK_altY)); · finish (splits := 3) (ematch := 1)) ((first (apply valK_altN) (apply effK_altN)); · finish (splits := 3) (ematch := 1)) (apply valK_altNY; · finish (splits := 3) (ematch := 1)) (apply valK_altNN; · finish (splits := 3) (ematch := 1)) (apply valK_altS) (apply valK_altNS) (apply effK_altS) (apply appS_go) (apply brC_y; · finish (splits := 3) (ematch := 1)) (apply brC_n; · finish (splits := 3) (ematch := 1)) (apply brC_yN; · finish (splits := 3) (ematch := 1)) (apply brC_nN; · finish (splits := 3) (ematch := 1)) (apply brC_s) (apply brC_sN) (simp [eFrag_size, eFrag_tup, layOK_frag, e17Op_eq, e19Op_eq, eAbuffertile_eq, eColour_eq, eKey_eq, cx53_P, cx53_l0, cx53_l1, cx53_l3, cx53_l2, cx53_p3, cx53_pu, Try.f53.eq_1, ty_arrOf_3, ty_arrOf_58, ty_arrOf_64, ty_bytesE_58, ty_eqTy_64, ty_fldOf_64_0, ty_fldOf_64_1, ty_fldOf_64_2, ty_fldOf_64_3, ty_intOf_3, ty_isInt_3, ty_notInt_3, ty_lay_3, ty_lay_58, ty_lay_64, ty_notInt_58, ty_notInt_64, ty_placesOf_64, ty_slcOf_3, ty_slcOf_58, ty_slcOf_64, ty_zeroA_3, ty_zeroA_58, ty_zeroA_64, ty_zeroE_58, valK_some, effK_some, opE_move, opE_assign, opE_load, opE_bin, opE_un, opE_indexAddr, opE_len, opE_store_r, opE_store_w, opE_call_w, ev_seq, ev_skip, ev_label, ev_region, ev_draw, evDO_some, ev_cond, condC_some, brC_true, brC_false, ev_block, ev_scope, ev_exit, ev_ret, ev_loop, nx_seq, nx_seqE, nx_seqR, nx_blk, nx_blkE, nx_blkR, nx_loop, nx_loopE, nx_loopR, nx_inv, nx_invE, nx_invR, nx_top, nx_topR, topO_some, evR_nil, evR_op, evR_guard, evD_nil, evD_row, rowK_eff, rowK_calm, rowK_guard, rowG_tup, rowG_tt, rowG_ff, rowG_tf, rowG_ft, rowN_eq, chkA_nil, chkA_cons, chkO_some, chkW_false, sameO_some, chkW_load, chkW_len, finK_reg, finK_row, finK_calm, getT_cons, putT_some, putT_none, trimT_some, trimT_none, keepT_nil, keepT_cons, consT_some, consT_none, getT_nil, getO_tmp, getO_const, getO_func, ofC_int, ofC_bool, ofC_ptr, ofC_slc, ofC_map, ofC_fn, getOs_nil, getOs_cons, consO_some, wantA_none, wantA_some, wantO_tup, wantO_tt, wantO_ff, wantO_tf, wantO_ft, hget_cons, hset_cons, memb_nil, memb_cons, hideH_cons, showH_cons, hideH_none, showH_none, showH_nil, outs_nil, outs_cons, app_nil, nil_app, cons_app, rowOf_cons, wrap_lit, wrap_neg, top_i64, bot_i64, bits_i64, cast_lit, toNat_lit, get_zero, get_succ, take_zero, take_succ, set_zero, set_succ, length_nil, length_cons, length_set, append_nil, nil_append, cons_append, toList_arr, bnot_true, bnot_false, band_true, band_false, beq_tt, beq_ff, beq_tf, beq_ft, beq_nat, beq_int, bne_nat, map_some, map_none, true_eq_false, false_eq_true, true_eq_true, fbody_mk, fresults_mk, getD_some, bol_true, binO_some, bin_lss, size_int, size_bool, size_str, size_ptr, size_nilp, size_slc, size_nils, size_map, size_nilm, size_fn, size_nilf, size_agg, size_rows, sizeL_nil, sizeL_cons, layOK_int, layOK_bool, layOK_str, layOK_ptr, layOK_nilp, layOK_slc, layOK_nils, layOK_map, layOK_nilm, layOK_fn, layOK_nilf, layOK_agg, layOK_rows, isTup_int, isTup_bool, isTup_str, isTup_ptr, isTup_nilp, isTup_slc, isTup_nils, isTup_map, isTup_nilm, isTup_fn, isTup_nilf, isTup_agg, isTup_rows, getP_nil, getP_cons, getS_some, stepP_agg, stepP_rows, putP_nil, putP_cons, putS_some, putU_some, setS_agg, setS_rows, loadO_some, loadA_ptr, loadE_cel, loadE_vec, loadE_ro, chkL_some, storeO_some, stH_some, storeA_ptr, storeE_cel, storeE_vec, storeB_cel, iaO_some, slN_some, builtO_some, len_slc, len_nils, len_rows, arN_some, resF_eq, resAll_nil, resAll_cons, resOne_tmp, resOne_cell, tupO_none, tupO_one, tupO_more, argT_nil, argT_cons, lookL_cons, lookL_nil, lookP_cons, mbin_add, mbin_sub, wrapO_lit, wrapO_neg, mia_ptr, mia_slc, mstoreB_vec, len_set, not_tf, not_ft, and_tf, alt_true, alt_false, bol_false, getS_bol, getS_alt, chkL_bol, chkL_alt, putS_bol, putS_alt, putU_bol, putU_alt, storeB_bol, storeB_alt, stH_bol, stH_alt, consO_bol, consO_bol2, tupO_bol, bol_bol, get_mapB, get_setB, get_appB, len_map, nat_zero_add, slN_bol, subC_nil, subC_seq0, subC_seq1, subC_cond0, subC_cond1, subC_block, subC_scope, subC_loop, subC_ran0, subC_ran1, hideH_nil, and_self, and_true, true_and, and_false, false_and]) (apply chkW_want) (apply chkW_wantA) (apply valK_bolB; · finish (splits := 3) (ematch := 1)) (apply valK_altT; · finish (splits := 3) (ematch := 1)) (apply valK_altF; · finish (splits := 3) (ematch := 1)) (apply valK_altB) (apply brC_t; · finish (splits := 3) (ematch := 1)) (apply brC_f; · finish (splits := 3) (ematch := 1)) (apply brC_sBN) (apply brC_sB) (intro~ hr) (tactic => first | exact hr | (trace_state; exact test_fail)))))))) (apply imp_go; intro hp) (apply valK_w64; · finish (splits := 3) (ematch := 1)) (apply valK_wr) ((first (apply valK_bol) (apply effK_bol) (apply newK_bol) (apply appK_bol) (apply topO_bol)); · finish (splits := 3) (ematch := 1)) ((first (apply valK_altY) (apply effK_altY)); · finish (splits := 3) (ematch := 1)) ((first (apply valK_altN) (apply effK_altN)); · finish (splits := 3) (ematch := 1)) (apply valK_altNY; · finish (splits := 3) (ematch := 1)) (apply valK_altNN; · finish (splits := 3) (ematch := 1)) (apply valK_altS) (apply valK_altNS) (apply effK_altS) (apply appS_go) (apply brC_y; · finish (splits := 3) (ematch := 1)) (apply brC_n; · finish (splits := 3) (ematch := 1)) (apply brC_yN; · finish (splits := 3) (ematch := 1)) (apply brC_nN; · finish (splits := 3) (ematch := 1)) (apply brC_s) (apply brC_sN) (simp [eFrag_size, eFrag_tup, layOK_frag, e17Op_eq, e19Op_eq, eAbuffertile_eq, eColour_eq, eKey_eq, cx53_P, cx53_l0, cx53_l1, cx53_l3, cx53_l2, cx53_p3, cx53_pu, Try.f53.eq_1, ty_arrOf_3, ty_arrOf_58, ty_arrOf_64, ty_bytesE_58, ty_eqTy_64, ty_fldOf_64_0, ty_fldOf_64_1, ty_fldOf_64_2, ty_fldOf_64_3, ty_intOf_3, ty_isInt_3, ty_notInt_3, ty_lay_3, ty_lay_58, ty_lay_64, ty_notInt_58, ty_notInt_64, ty_placesOf_64, ty_slcOf_3, ty_slcOf_58, ty_slcOf_64, ty_zeroA_3, ty_zeroA_58, ty_zeroA_64, ty_zeroE_58, valK_some, effK_some, opE_move, opE_assign, opE_load, opE_bin, opE_un, opE_indexAddr, opE_len, opE_store_r, opE_store_w, opE_call_w, ev_seq, ev_skip, ev_label, ev_region, ev_draw, evDO_some, ev_cond, condC_some, brC_true, brC_false, ev_block, ev_scope, ev_exit, ev_ret, ev_loop, nx_seq, nx_seqE, nx_seqR, nx_blk, nx_blkE, nx_blkR, nx_loop, nx_loopE, nx_loopR, nx_inv, nx_invE, nx_invR, nx_top, nx_topR, topO_some, evR_nil, evR_op, evR_guard, evD_nil, evD_row, rowK_eff, rowK_calm, rowK_guard, rowG_tup, rowG_tt, rowG_ff, rowG_tf, rowG_ft, rowN_eq, chkA_nil, chkA_cons, chkO_some, chkW_false, sameO_some, chkW_load, chkW_len, finK_reg, finK_row, finK_calm, getT_cons, putT_some, putT_none, trimT_some, trimT_none, keepT_nil, keepT_cons, consT_some, consT_none, getT_nil, getO_tmp, getO_const, getO_func, ofC_int, ofC_bool, ofC_ptr, ofC_slc, ofC_map, ofC_fn, getOs_nil, getOs_cons, consO_some, wantA_none, wantA_some, wantO_tup, wantO_tt, wantO_ff, wantO_tf, wantO_ft, hget_cons, hset_cons, memb_nil, memb_cons, hideH_cons, showH_cons, hideH_none, showH_none, showH_nil, outs_nil, outs_cons, app_nil, nil_app, cons_app, rowOf_cons, wrap_lit, wrap_neg, top_i64, bot_i64, bits_i64, cast_lit, toNat_lit, get_zero, get_succ, take_zero, take_succ, set_zero, set_succ, length_nil, length_cons, length_set, append_nil, nil_append, cons_append, toList_arr, bnot_true, bnot_false, band_true, band_false, beq_tt, beq_ff, beq_tf, beq_ft, beq_nat, beq_int, bne_nat, map_some, map_none, true_eq_false, false_eq_true, true_eq_true, fbody_mk, fresults_mk, getD_some, bol_true, binO_some, bin_lss, size_int, size_bool, size_str, size_ptr, size_nilp, size_slc, size_nils, size_map, size_nilm, size_fn, size_nilf, size_agg, size_rows, sizeL_nil, sizeL_cons, layOK_int, layOK_bool, layOK_str, layOK_ptr, layOK_nilp, layOK_slc, layOK_nils, layOK_map, layOK_nilm, layOK_fn, layOK_nilf, layOK_agg, layOK_rows, isTup_int, isTup_bool, isTup_str, isTup_ptr, isTup_nilp, isTup_slc, isTup_nils, isTup_map, isTup_nilm, isTup_fn, isTup_nilf, isTup_agg, isTup_rows, getP_nil, getP_cons, getS_some, stepP_agg, stepP_rows, putP_nil, putP_cons, putS_some, putU_some, setS_agg, setS_rows, loadO_some, loadA_ptr, loadE_cel, loadE_vec, loadE_ro, chkL_some, storeO_some, stH_some, storeA_ptr, storeE_cel, storeE_vec, storeB_cel, iaO_some, slN_some, builtO_some, len_slc, len_nils, len_rows, arN_some, resF_eq, resAll_nil, resAll_cons, resOne_tmp, resOne_cell, tupO_none, tupO_one, tupO_more, argT_nil, argT_cons, lookL_cons, lookL_nil, lookP_cons, mbin_add, mbin_sub, wrapO_lit, wrapO_neg, mia_ptr, mia_slc, mstoreB_vec, len_set, not_tf, not_ft, and_tf, alt_true, alt_false, bol_false, getS_bol, getS_alt, chkL_bol, chkL_alt, putS_bol, putS_alt, putU_bol, putU_alt, storeB_bol, storeB_alt, stH_bol, stH_alt, consO_bol, consO_bol2, tupO_bol, bol_bol, get_mapB, get_setB, get_appB, len_map, nat_zero_add, slN_bol, subC_nil, subC_seq0, subC_seq1, subC_cond0, subC_cond1, subC_block, subC_scope, subC_loop, subC_ran0, subC_ran1, hideH_nil, and_self, and_true, true_and, and_false, false_and]) (apply chkW_want) (apply chkW_wantA) (apply valK_bolB; · finish (splits := 3) (ematch := 1)) (apply valK_altT; · finish (splits := 3) (ematch := 1)) (apply valK_altF; · finish (splits := 3) (ematch := 1)) (apply valK_altB) (apply brC_t; · finish (splits := 3) (ematch := 1)) (apply brC_f; · finish (splits := 3) (ematch := 1)) (apply brC_sBN) (apply brC_sB) (intro~ hr) (tactic => (trace_state; exact test_fail)))
theorem reverse_use {l : List TFrag} {k cap cp : Nat} {H : Hp} {n : Nat} {Q : AV → Hp → Nat → Prop} (hk : hget k H = some (.vec cp 11 (l.map eFrag))) (hn : k < n) (h : l.length ≤ cap ∧ l.length ≤ 100000) (hq : Q (.tup []) ((k, .vec cp 11 (l.reverse.map eFrag)) :: hideH [k] H) n) : callA Try.prog 53 [.slc k 0 [] 11 0 0 l.length cap] H n Q := by
  refine callA_use (H0 := [(0, .vec cp 11 (l.map eFrag))]) (m := 1) (reverse_walk (cap := cap) (Q := fun v H1 n1 => v = .tup [] ∧ H1 = [(0, .vec cp 11 (l.reverse.map eFrag))] ∧ n1 = 1) h ⟨rfl, rfl, rfl⟩) [k] rfl (by simp) (by simpa using hn) (by simp [keysB]) (by simp [renL, AV.ren, idx]) ?_ ?_
  · simp [subH, idx, er_vecQ, hk, lFrag_ren]
  · rintro v H1 m1 _ ⟨rfl, rfl, rfl⟩
    simpa [idx, AV.ren, renL, renH, er_vecQ, lFrag_ren, keysB, -List.map_reverse] using hq
-- Chapter 19: what is stored of a pixel, the farthest first: the walk.







theorem put2_use {g : FuncId} {k r cap : Nat} {L : List TFrag} {x : TFrag} {H : Hp} {n : Nat} {Q : AV → Hp → Nat → Prop} (hk : hget k H = some (.cel (.agg [.fn (.func g) [] [], .slc r 0 [] 11 0 0 L.length cap]))) (hr : hget r H = some (.vec cap 11 (L.map eFrag))) (hof : OfP g) (hn : (k < n ∧ r < n) ∧ (k = r) = False) (h : L.length ≤ cap ∧ L.length ≤ 100000)
    (hq : ∀ c : Nat, Imp ((putK L x).length ≤ c) (Q (.tup []) ((n, .vec c 11 ((putK L x).map eFrag)) :: (k, .cel (.agg [.fn (.func g) [] [], .slc n 0 [] 11 0 0 (putK L x).length c])) :: hideH [r, k] H) (n + 1))) :
    callA Try.prog 56 [.ptr k 0 [], eFrag x] H n Q := by
  refine put_use hk hr hof hn h (fun c hc => ?_)
  rw [← putK_len L x] at hc ⊢
  exact hq c hc
def farB (R : List TFrag) (x y : Int) : List TFrag := farK (pixR R x y).reverse
def RndA (ag bd : Code) : Prop := (ag = (subC [1, 0, 1, 0, 0] (Try.f68.body.getD .skip)) ∧ bd = (subC [1, 0, 1, 0, 1] (Try.f68.body.getD .skip))) ∧ ∀ (L : Nat) (args : List AV) (H : List (Nat × Ent)) (n : Nat) (Q : AV → List (Nat × Ent) → Nat → Prop), RndG cx68 68 13 [7] ag bd (hget L H) L args H n Q → roundA Try.prog L args H n Q
theorem rnda_go {ag bd : Code} {args : List AV} {H : List (Nat × Ent)} {n : Nat} {T : Sl} {st : LState} {Q : AV → List (Nat × Ent) → Nat → Prop} (hr : RndA ag bd) (hg : hget 14 H = some (.lp ⟨68, 13, T, [7], ag, bd, st⟩))
    (h : args.length = [7].length ∧ Ev cx68 ⟨13, n, some 14, 68⟩ (subC [1, 0, 1, 0, 0] (Try.f68.body.getD .skip)) ⟨putPs [7] args T, H, n⟩ (.bgn 14 (subC [1, 0, 1, 0, 1] (Try.f68.body.getD .skip)) (.rnd 14 Q))) : roundA Try.prog 14 args H n Q := by
  refine hr.2 _ _ _ _ _ ?_
  rw [hg, rndG_some, hr.1.1, hr.1.2]
  exact h
structure GnQ where
  p : List TFrag
  c : Nat
def gnQ (E : List TFrag) (a : GnQ) : Prop := a.p.length ≤ E.length ∧ a.p.length ≤ a.c ∧ a.p = E.take a.p.length
theorem gq_next {E p : List TFrag} {c c2 : Nat} (hi : gnQ E ⟨p, c⟩) (h : p.length < E.length) (hc : p.length + 1 ≤ c2) : gnQ E ⟨p ++ [E.getD p.length default], c2⟩ ∧ E.length - (p ++ [E.getD p.length default]).length < E.length - p.length := by
  have hl : (p ++ [E.getD p.length default]).length = p.length + 1 := by rw [List.length_append]; rfl
  have h3 : p = E.take p.length := hi.2.2
  refine ⟨⟨by show (p ++ [_]).length ≤ _; omega, by show (p ++ [_]).length ≤ c2; omega, ?_⟩, by omega⟩
  show p ++ [E.getD p.length default] = E.take (p ++ [E.getD p.length default]).length
  rw [hl, List.take_add_one, ← h3, List.getD_eq_getElem?_getD, List.getElem?_eq_getElem h]; rfl
theorem gq_end {E p : List TFrag} {c : Nat} (hi : gnQ E ⟨p, c⟩) (h : p.length = E.length) : p = E := by
  have h3 : p = E.take p.length := hi.2.2
  rw [h, List.take_length] at h3
  exact h3
structure PuA where
  i : Nat
  c2 : Nat
def puInv (D : List TFrag) (a : PuA) : Prop := a.i ≤ D.length ∧ (farK (D.take a.i)).length ≤ a.c2
theorem pu_room {D : List TFrag} {a : PuA} (h : puInv D a) (hD : D.length ≤ 65536) : (farK (D.take a.i)).length ≤ a.c2 ∧ (farK (D.take a.i)).length ≤ 100000 := ⟨h.2, by rw [farK_len, List.length_take]; omega⟩
theorem taken2_use {k m cap : Nat} {ns : List Node} {room free live most h : Int} {H : Hp} {n : Nat} {Q : AV → Hp → Nat → Prop} (hk : hget k H = some (.cel (.agg [.int .i64 room, .int .i64 free, .int .i64 live, .int .i64 most, .slc m 0 [] 13 0 0 ns.length cap]))) (hm : hget m H = some (.vec cap 13 (ns.map nodeV)))
    (hq : Q (.bool (takenP ns h)) H n) : callA Try.prog 64 [.ptr k 0 [], .int .i64 h] H n Q :=
  taken_use (s := ⟨room, free, live, most, ns⟩) (m := m) (cap := cap) hk hm h hq
theorem ch_nil {ns : List Node} {p : Int} (h : chN ns p []) : takenP ns p = false := by
  have h : p = -1 := h
  unfold takenP; rw [if_neg (by omega)]
theorem ch_cons {ns : List Node} {p : Int} {j : Nat} {r : List Nat} (h : chN ns p (j :: r)) : p = (j : Int) ∧ takenP ns p = true ∧ j < ns.length ∧ chN ns (nG ns j).2.1 r := by
  obtain ⟨⟨h1, h2, h3⟩, h4⟩ := h
  refine ⟨h1, ?_, h2, h4⟩
  unfold takenP; rw [if_pos (by omega), h1]; exact h3
theorem step_nx (q : Node) : stepP (nodeV q) (.fld 0 0) = some (eFrag q.1) := rfl
theorem step_nn (q : Node) : stepP (nodeV q) (.fld 1 11) = some (.int .i64 q.2.1) := rfl
theorem nG_eq (ns : List Node) (j : Nat) : ns.getD j default = nG ns j := rfl
structure ChA where
  pos : Int
  done : List TFrag
  r : List Nat
  c : Nat
theorem ch_len {R : List TFrag} {x y : Int} {done r : List TFrag} (h : done ++ r = pixR R x y) : done.length ≤ R.length := by
  have h1 : (done ++ r).length ≤ R.length := by rw [h]; exact List.length_filter_le _ _
  rw [List.length_append] at h1; omega
theorem ch_room {a b : Nat} (h : a ≤ b) (hb : b ≤ 65536) : (a + 1) * 64 ≤ 140737488355328 ∧ a + 1 ≤ 9223372036854775807 := by omega
theorem erQ_lp (τ : Nat → Nat) (r : LRec) : (Ent.lp r).ren τ = .lp ⟨r.fn, r.nt, renT τ r.T, r.ps, r.assign, r.body, r.st⟩ := rfl
def rOf2 {a c : Nat} (h : a ≤ c) : Nat := c
def RndF (ag bd : Code) : Prop := (ag = (subC [1, 1, 1, 1, 0, 1, 0, 0] (Try.f33.body.getD .skip)) ∧ bd = (subC [1, 1, 1, 1, 0, 1, 0, 1] (Try.f33.body.getD .skip))) ∧ ∀ (L : Nat) (args : List AV) (H : List (Nat × Ent)) (n : Nat) (Q : AV → List (Nat × Ent) → Nat → Prop), RndG cx33 33 57 [35, 36] ag bd (hget L H) L args H n Q → roundA Try.prog L args H n Q
theorem rndf_go {ag bd : Code} {args : List AV} {H : List (Nat × Ent)} {n : Nat} {T : Sl} {st : LState} {Q : AV → List (Nat × Ent) → Nat → Prop} (hr : RndF ag bd) (hg : hget 8 H = some (.lp ⟨33, 57, T, [35, 36], ag, bd, st⟩))
    (h : args.length = [35, 36].length ∧ Ev cx33 ⟨57, n, some 8, 33⟩ (subC [1, 1, 1, 1, 0, 1, 0, 0] (Try.f33.body.getD .skip)) ⟨putPs [35, 36] args T, H, n⟩ (.bgn 8 (subC [1, 1, 1, 1, 0, 1, 0, 1] (Try.f33.body.getD .skip)) (.rnd 8 Q))) : roundA Try.prog 8 args H n Q := by
  refine hr.2 _ _ _ _ _ ?_
  rw [hg, rndG_some, hr.1.1, hr.1.2]
  exact h
-- Chapter 19: rows that are the same; the buffer's small functions; the document's example.
noncomputable def cx34 : Cx := ⟨Try.prog, [], [(6, ⟨0, [⟨0, false, [], [], [], 0⟩, ⟨1, false, [], [], [], 0⟩, ⟨2, false, [0, 1], [], [], 0⟩, ⟨3, false, [2], [], [], 0⟩, ⟨4, false, [], [], [], 0⟩, ⟨5, false, [], [], [], 0⟩, ⟨6, false, [4, 5], [], [], 0⟩, ⟨7, false, [6], [], [], 0⟩, ⟨8, false, [3, 7], [], [], 0⟩]⟩)], [(0, [1, 0]), (1, [10, 1, 0]), (2, [4]), (3, [5, 1, 0]), (4, [14, 5, 1, 0]), (5, [5, 1, 0]), (6, [25, 5, 1, 0]), (7, [4]), (8, [4])]⟩
theorem cx34_P : cx34.P = Try.prog := rfl
theorem cx34_l0 : lookL 0 cx34.lv = some [1, 0] := rfl
theorem cx34_l1 : lookL 1 cx34.lv = some [10, 1, 0] := rfl
theorem cx34_l2 : lookL 2 cx34.lv = some [4] := rfl
theorem cx34_l3 : lookL 3 cx34.lv = some [5, 1, 0] := rfl
theorem cx34_l4 : lookL 4 cx34.lv = some [14, 5, 1, 0] := rfl
theorem cx34_l6 : lookL 6 cx34.lv = some [25, 5, 1, 0] := rfl
theorem cx34_l7 : lookL 7 cx34.lv = some [4] := rfl
theorem cx34_l5 : lookL 5 cx34.lv = some [5, 1, 0] := rfl
theorem cx34_l8 : lookL 8 cx34.lv = some [4] := rfl
theorem cx34_p6 : lookP 6 cx34.pl = some ⟨0, [⟨0, false, [], [], [], 0⟩, ⟨1, false, [], [], [], 0⟩, ⟨2, false, [0, 1], [], [], 0⟩, ⟨3, false, [2], [], [], 0⟩, ⟨4, false, [], [], [], 0⟩, ⟨5, false, [], [], [], 0⟩, ⟨6, false, [4, 5], [], [], 0⟩, ⟨7, false, [6], [], [], 0⟩, ⟨8, false, [3, 7], [], [], 0⟩]⟩ := rfl
theorem cx34_pu : cx34.pu = [] := rfl
theorem cx34_ok : okc cx34 Try.f34.ntmps (Try.f34.body.getD .skip) = true := by kernel_rfl
theorem enter34 {args : List AV} {H : Hp} {n : Nat} {Q : AV → Hp → Nat → Prop} (h : args.length ≤ 26 ∧ Ev cx34 ⟨26, n, none, 34⟩ (Try.f34.body.getD .skip) ⟨argT 0 args, H, n⟩ (.top Try.f34.results.toList Q)) : callA Try.prog 34 args H n Q :=
  callA_ev (cx := cx34) puOk_nil (f := 34) (fn := Try.f34) Try.func34 rfl (by kernel_rfl) h.1 cx34_ok h.2
theorem sm_i {i m : Nat} (h : (i : Int) < (m : Int)) : i + 1 ≤ m := by omega
theorem sm_meas {i n : Nat} (h : (i : Int) < (n : Int)) : n - (i + 1) < n - i := by omega
theorem beq_self (a : Int) : (a == a) = true := by simp
theorem same_walk {l : List TFrag} {ca cb : Nat} (hc : l.length ≤ 100000) :
    callA Try.prog 34 [.slc 0 0 [] 11 0 0 l.length ca, .slc 1 0 [] 11 0 0 l.length cb] [(0, .ro fun _ => .rows 11 (l.map eFrag)), (1, .ro fun _ => .rows 11 (l.map eFrag))] 2 fun v _ _ => v = .bool true := by
  sym =>
    repeat (first (apply enter34) (apply loop_here; (tactic => (refine loop_par (fun i : Nat => ⟨[(5, .int .i64 i), (1, .slc 1 0 [] 11 0 0 l.length cb), (0, .slc 0 0 [] 11 0 0 l.length ca)], [(0, .ro fun _ => .rows 11 (l.map eFrag)), (1, .ro fun _ => .rows 11 (l.map eFrag))], 2⟩) (fun i => i ≤ l.length) (fun i => l.length - i) ?_ 0 (Nat.zero_le _); intro i hi J hJ; show Ev _ _ _ _ _; sym => repeat (first (apply enter34) (apply imp_go; intro hp) (apply valK_w64; · finish (splits := 3) (ematch := 1)) (apply valK_wr) ((first (apply valK_bol) (apply effK_bol) (apply newK_bol) (apply appK_bol) (apply topO_bol)); · finish (splits := 3) (ematch := 1)) ((first (apply valK_altY) (apply effK_altY)); · finish (splits := 3) (ematch := 1)) ((first (apply valK_altN) (apply effK_altN)); · finish (splits := 3) (ematch := 1)) (apply valK_altNY; · finish (splits := 3) (ematch := 1)) (apply valK_altNN; · finish (splits := 3) (ematch := 1)) (apply valK_altS) (apply valK_altNS) (apply effK_altS) (apply appS_go) (apply brC_y; · finish (splits := 3) (ematch := 1)) (apply brC_n; · finish (splits := 3) (ematch := 1)) (apply brC_yN; · finish (splits := 3) (ematch := 1)) (apply brC_nN; · finish (splits := 3) (ematch := 1)) (apply brC_s) (apply brC_sN) (simp [Int.toNat_natCast, beq_self, e17Op_eq, e19Op_eq, eAbuffertile_eq, eColour_eq, eFrag_eq, eKey_eq, cx34_P, cx34_l0, cx34_l1, cx34_l2, cx34_l3, cx34_l4, cx34_l6, cx34_l7, cx34_l5, cx34_l8, cx34_p6, cx34_pu, Try.f34.eq_1, ty_arrOf_3, ty_arrOf_58, ty_arrOf_64, ty_bytesE_58, ty_eqTy_64, ty_fldOf_64_0, ty_fldOf_64_1, ty_fldOf_64_2, ty_fldOf_64_3, ty_intOf_3, ty_isInt_3, ty_notInt_3, ty_lay_3, ty_lay_58, ty_lay_64, ty_notInt_58, ty_notInt_64, ty_placesOf_64, ty_slcOf_3, ty_slcOf_58, ty_slcOf_64, ty_zeroA_3, ty_zeroA_58, ty_zeroA_64, ty_zeroE_58, valK_some, opE_move, opE_assign, opE_load, opE_bin, opE_un, opE_indexAddr, opE_len, opE_store_w, opE_call_w, ev_seq, ev_skip, ev_label, ev_region, ev_draw, evDO_some, ev_cond, condC_some, brC_true, brC_false, ev_block, ev_scope, ev_exit, ev_ret, ev_loop, nx_seq, nx_seqE, nx_seqR, nx_blk, nx_blkE, nx_blkR, nx_loop, nx_loopE, nx_loopR, nx_inv, nx_invE, nx_invR, nx_top, nx_topR, topO_some, evR_nil, evR_op, evR_guard, evD_nil, evD_row, rowK_eff, rowK_calm, rowK_guard, rowG_tup, rowG_tt, rowG_ff, rowG_tf, rowG_ft, rowN_eq, chkA_nil, chkA_cons, chkO_some, chkW_false, sameO_some, chkW_load, chkW_len, finK_reg, finK_row, finK_calm, getT_cons, putT_some, putT_none, trimT_some, trimT_none, keepT_nil, keepT_cons, consT_some, consT_none, getT_nil, getO_tmp, getO_const, getO_func, ofC_int, ofC_bool, ofC_ptr, ofC_slc, ofC_map, ofC_fn, getOs_nil, getOs_cons, consO_some, wantA_none, wantA_some, wantO_tup, wantO_tt, wantO_ff, wantO_tf, wantO_ft, hget_cons, memb_nil, memb_cons, hideH_cons, showH_cons, hideH_none, showH_none, showH_nil, outs_nil, outs_cons, app_nil, nil_app, cons_app, rowOf_cons, wrap_lit, wrap_neg, top_i64, bot_i64, bits_i64, cast_lit, toNat_lit, get_zero, get_succ, take_zero, take_succ, set_zero, set_succ, length_nil, length_cons, append_nil, nil_append, cons_append, toList_arr, bnot_true, bnot_false, band_true, band_false, beq_tt, beq_ff, beq_tf, beq_ft, beq_nat, beq_int, bne_nat, map_some, map_none, true_eq_false, false_eq_true, true_eq_true, fbody_mk, fresults_mk, getD_some, bol_true, binO_some, bin_neq, bin_lss, bin_beql, bin_bneq, eqO_eq, eqO_ne, bin_aeql, bin_aneq, bin_reql, bin_rneq, aggEq_some, flatL_nil, flatL_cons, appV_some, flatV_int, flatV_bool, flatV_agg, flatV_rows, bin_feql, bin_fneq, bin_nfeql, bin_nfneq, bin_peql, bin_pneq, bin_npeql, bin_npneq, size_int, size_bool, size_str, size_ptr, size_nilp, size_slc, size_nils, size_map, size_nilm, size_fn, size_nilf, size_agg, size_rows, sizeL_nil, sizeL_cons, layOK_int, layOK_bool, layOK_str, layOK_ptr, layOK_nilp, layOK_slc, layOK_nils, layOK_map, layOK_nilm, layOK_fn, layOK_nilf, layOK_agg, layOK_rows, isTup_int, isTup_bool, isTup_str, isTup_ptr, isTup_nilp, isTup_slc, isTup_nils, isTup_map, isTup_nilm, isTup_fn, isTup_nilf, isTup_agg, isTup_rows, getP_nil, getP_cons, getS_some, stepP_agg, stepP_rows, loadO_some, loadA_ptr, loadE_cel, loadE_vec, loadE_ro, chkL_some, iaO_some, slN_some, builtO_some, len_slc, len_nils, len_rows, arN_some, resF_eq, resAll_nil, resAll_cons, resOne_tmp, resOne_cell, tupO_none, tupO_one, tupO_more, argT_nil, argT_cons, lookL_cons, lookL_nil, lookP_cons, mbin_add, wrapO_lit, wrapO_neg, mia_ptr, mia_slc, not_tf, not_ft, and_tf, alt_true, alt_false, bol_false, getS_bol, getS_alt, chkL_bol, chkL_alt, consO_bol, consO_bol2, tupO_bol, eqO_bol, bol_bol, get_mapB, get_setB, get_appB, len_map, nat_zero_add, bin_nsleql, bin_nslneq, bin_nnleql, bin_nnlneq, slN_bol, beq_str, subC_nil, subC_seq0, subC_seq1, subC_cond0, subC_cond1, subC_block, subC_scope, subC_loop, subC_ran0, subC_ran1, hideH_nil, and_self, and_true, true_and, and_false, false_and]) (apply chkW_want) (apply chkW_wantA) (apply valK_bolB; · finish (splits := 3) (ematch := 1)) (apply valK_altT; · finish (splits := 3) (ematch := 1)) (apply valK_altF; · finish (splits := 3) (ematch := 1)) (apply valK_altB) (apply brC_t; · finish (splits := 3) (ematch := 1)) (apply brC_f; · finish (splits := 3) (ematch := 1)) (apply brC_sBN) (apply brC_sB) (intro~ hr) (tactic => first | exact back_same hJ (i + 1) rfl rfl rfl rfl (sm_i ‹_›) (sm_meas ‹_›) | rfl | (trace_state; exact test_fail)))))) (apply imp_go; intro hp) (apply valK_w64; · finish (splits := 3) (ematch := 1)) (apply valK_wr) ((first (apply valK_bol) (apply effK_bol) (apply newK_bol) (apply appK_bol) (apply topO_bol)); · finish (splits := 3) (ematch := 1)) ((first (apply valK_altY) (apply effK_altY)); · finish (splits := 3) (ematch := 1)) ((first (apply valK_altN) (apply effK_altN)); · finish (splits := 3) (ematch := 1)) (apply valK_altNY; · finish (splits := 3) (ematch := 1)) (apply valK_altNN; · finish (splits := 3) (ematch := 1)) (apply valK_altS) (apply valK_altNS) (apply effK_altS) (apply appS_go) (apply brC_y; · finish (splits := 3) (ematch := 1)) (apply brC_n; · finish (splits := 3) (ematch := 1)) (apply brC_yN; · finish (splits := 3) (ematch := 1)) (apply brC_nN; · finish (splits := 3) (ematch := 1)) (apply brC_s) (apply brC_sN) (simp [e17Op_eq, e19Op_eq, eAbuffertile_eq, eColour_eq, eFrag_eq, eKey_eq, cx34_P, cx34_l0, cx34_l1, cx34_l2, cx34_l3, cx34_l4, cx34_l6, cx34_l7, cx34_l5, cx34_l8, cx34_p6, cx34_pu, Try.f34.eq_1, ty_arrOf_3, ty_arrOf_58, ty_arrOf_64, ty_bytesE_58, ty_eqTy_64, ty_fldOf_64_0, ty_fldOf_64_1, ty_fldOf_64_2, ty_fldOf_64_3, ty_intOf_3, ty_isInt_3, ty_notInt_3, ty_lay_3, ty_lay_58, ty_lay_64, ty_notInt_58, ty_notInt_64, ty_placesOf_64, ty_slcOf_3, ty_slcOf_58, ty_slcOf_64, ty_zeroA_3, ty_zeroA_58, ty_zeroA_64, ty_zeroE_58, valK_some, opE_move, opE_assign, opE_load, opE_bin, opE_un, opE_indexAddr, opE_len, opE_store_w, opE_call_w, ev_seq, ev_skip, ev_label, ev_region, ev_draw, evDO_some, ev_cond, condC_some, brC_true, brC_false, ev_block, ev_scope, ev_exit, ev_ret, ev_loop, nx_seq, nx_seqE, nx_seqR, nx_blk, nx_blkE, nx_blkR, nx_loop, nx_loopE, nx_loopR, nx_inv, nx_invE, nx_invR, nx_top, nx_topR, topO_some, evR_nil, evR_op, evR_guard, evD_nil, evD_row, rowK_eff, rowK_calm, rowK_guard, rowG_tup, rowG_tt, rowG_ff, rowG_tf, rowG_ft, rowN_eq, chkA_nil, chkA_cons, chkO_some, chkW_false, sameO_some, chkW_load, chkW_len, finK_reg, finK_row, finK_calm, getT_cons, putT_some, putT_none, trimT_some, trimT_none, keepT_nil, keepT_cons, consT_some, consT_none, getT_nil, getO_tmp, getO_const, getO_func, ofC_int, ofC_bool, ofC_ptr, ofC_slc, ofC_map, ofC_fn, getOs_nil, getOs_cons, consO_some, wantA_none, wantA_some, wantO_tup, wantO_tt, wantO_ff, wantO_tf, wantO_ft, hget_cons, memb_nil, memb_cons, hideH_cons, showH_cons, hideH_none, showH_none, showH_nil, outs_nil, outs_cons, app_nil, nil_app, cons_app, rowOf_cons, wrap_lit, wrap_neg, top_i64, bot_i64, bits_i64, cast_lit, toNat_lit, get_zero, get_succ, take_zero, take_succ, set_zero, set_succ, length_nil, length_cons, append_nil, nil_append, cons_append, toList_arr, bnot_true, bnot_false, band_true, band_false, beq_tt, beq_ff, beq_tf, beq_ft, beq_nat, beq_int, bne_nat, map_some, map_none, true_eq_false, false_eq_true, true_eq_true, fbody_mk, fresults_mk, getD_some, bol_true, binO_some, bin_neq, bin_lss, bin_beql, bin_bneq, eqO_eq, eqO_ne, bin_aeql, bin_aneq, bin_reql, bin_rneq, aggEq_some, flatL_nil, flatL_cons, appV_some, flatV_int, flatV_bool, flatV_agg, flatV_rows, bin_feql, bin_fneq, bin_nfeql, bin_nfneq, bin_peql, bin_pneq, bin_npeql, bin_npneq, size_int, size_bool, size_str, size_ptr, size_nilp, size_slc, size_nils, size_map, size_nilm, size_fn, size_nilf, size_agg, size_rows, sizeL_nil, sizeL_cons, layOK_int, layOK_bool, layOK_str, layOK_ptr, layOK_nilp, layOK_slc, layOK_nils, layOK_map, layOK_nilm, layOK_fn, layOK_nilf, layOK_agg, layOK_rows, isTup_int, isTup_bool, isTup_str, isTup_ptr, isTup_nilp, isTup_slc, isTup_nils, isTup_map, isTup_nilm, isTup_fn, isTup_nilf, isTup_agg, isTup_rows, getP_nil, getP_cons, getS_some, stepP_agg, stepP_rows, loadO_some, loadA_ptr, loadE_cel, loadE_vec, loadE_ro, chkL_some, iaO_some, slN_some, builtO_some, len_slc, len_nils, len_rows, arN_some, resF_eq, resAll_nil, resAll_cons, resOne_tmp, resOne_cell, tupO_none, tupO_one, tupO_more, argT_nil, argT_cons, lookL_cons, lookL_nil, lookP_cons, mbin_add, wrapO_lit, wrapO_neg, mia_ptr, mia_slc, not_tf, not_ft, and_tf, alt_true, alt_false, bol_false, getS_bol, getS_alt, chkL_bol, chkL_alt, consO_bol, consO_bol2, tupO_bol, eqO_bol, bol_bol, get_mapB, get_setB, get_appB, len_map, nat_zero_add, bin_nsleql, bin_nslneq, bin_nnleql, bin_nnlneq, slN_bol, beq_str, subC_nil, subC_seq0, subC_seq1, subC_cond0, subC_cond1, subC_block, subC_scope, subC_loop, subC_ran0, subC_ran1, hideH_nil, and_self, and_true, true_and, and_false, false_and]) (apply chkW_want) (apply chkW_wantA) (apply valK_bolB; · finish (splits := 3) (ematch := 1)) (apply valK_altT; · finish (splits := 3) (ematch := 1)) (apply valK_altF; · finish (splits := 3) (ematch := 1)) (apply valK_altB) (apply brC_t; · finish (splits := 3) (ematch := 1)) (apply brC_f; · finish (splits := 3) (ematch := 1)) (apply brC_sBN) (apply brC_sB) (intro~ hr) (tactic => first | rfl | (trace_state; exact test_fail)))
theorem same_use {l1 l2 : List TFrag} {k1 k2 ca cb m : Nat} {r1 r2 : List AV} {H : Hp} {n : Nat} {Q : AV → Hp → Nat → Prop} (hv1 : viewE (hget k1 H) = some (11, r1)) (hv2 : viewE (hget k2 H) = some (11, r2)) (h1 : r1 = l1.map eFrag) (h2 : r2 = l2.map eFrag) (he : l1.take m = l2.take m) (hm : m ≤ l1.length ∧ m ≤ l2.length ∧ m ≤ 100000)
    (hq : Q (.bool true) H n) : callA Try.prog 34 [.slc k1 0 [] 11 0 0 m ca, .slc k2 0 [] 11 0 0 m cb] H n Q := by
  have e1 : (l1.take m).length = m := by rw [List.length_take]; omega
  subst h1 h2
  exact callA_read2 (same_walk (l := l1.take m) (ca := ca) (cb := cb) (by omega)) hv1 (pre_take _ l1 m) (flatBL_map eFrag_flat l1) hv2 (he ▸ pre_take _ l2 m) (flatBL_map eFrag_flat l2) rfl (by rw [e1]; rfl) rfl hq
noncomputable def cx36 : Cx := ⟨Try.prog, [], [], [(0, [0]), (1, [2])]⟩
theorem cx36_P : cx36.P = Try.prog := rfl
theorem cx36_l0 : lookL 0 cx36.lv = some [0] := rfl
theorem cx36_l1 : lookL 1 cx36.lv = some [2] := rfl
theorem cx36_pu : cx36.pu = [] := rfl
theorem cx36_ok : okc cx36 Try.f36.ntmps (Try.f36.body.getD .skip) = true := by kernel_rfl
theorem enter36 {args : List AV} {H : Hp} {n : Nat} {Q : AV → Hp → Nat → Prop} (h : args.length ≤ 8 ∧ Ev cx36 ⟨8, n, none, 36⟩ (Try.f36.body.getD .skip) ⟨argT 0 args, H, n⟩ (.top Try.f36.results.toList Q)) : callA Try.prog 36 args H n Q :=
  callA_ev (cx := cx36) puOk_nil (f := 36) (fn := Try.f36) Try.func36 rfl (by kernel_rfl) h.1 cx36_ok h.2
noncomputable def cx37 : Cx := ⟨Try.prog, [], [], [(0, [0]), (1, [2])]⟩
theorem cx37_P : cx37.P = Try.prog := rfl
theorem cx37_l0 : lookL 0 cx37.lv = some [0] := rfl
theorem cx37_l1 : lookL 1 cx37.lv = some [2] := rfl
theorem cx37_pu : cx37.pu = [] := rfl
theorem cx37_ok : okc cx37 Try.f37.ntmps (Try.f37.body.getD .skip) = true := by kernel_rfl
theorem enter37 {args : List AV} {H : Hp} {n : Nat} {Q : AV → Hp → Nat → Prop} (h : args.length ≤ 7 ∧ Ev cx37 ⟨7, n, none, 37⟩ (Try.f37.body.getD .skip) ⟨argT 0 args, H, n⟩ (.top Try.f37.results.toList Q)) : callA Try.prog 37 args H n Q :=
  callA_ev (cx := cx37) puOk_nil (f := 37) (fn := Try.f37) Try.func37 rfl (by kernel_rfl) h.1 cx37_ok h.2
noncomputable def cx60 : Cx := ⟨Try.prog, [], [], [(0, [0]), (1, [2])]⟩
theorem cx60_P : cx60.P = Try.prog := rfl
theorem cx60_l0 : lookL 0 cx60.lv = some [0] := rfl
theorem cx60_l1 : lookL 1 cx60.lv = some [2] := rfl
theorem cx60_pu : cx60.pu = [] := rfl
theorem cx60_ok : okc cx60 Try.f60.ntmps (Try.f60.body.getD .skip) = true := by kernel_rfl
theorem enter60 {args : List AV} {H : Hp} {n : Nat} {Q : AV → Hp → Nat → Prop} (h : args.length ≤ 7 ∧ Ev cx60 ⟨7, n, none, 60⟩ (Try.f60.body.getD .skip) ⟨argT 0 args, H, n⟩ (.top Try.f60.results.toList Q)) : callA Try.prog 60 args H n Q :=
  callA_ev (cx := cx60) puOk_nil (f := 60) (fn := Try.f60) Try.func60 rfl (by kernel_rfl) h.1 cx60_ok h.2
noncomputable def cx30 : Cx := ⟨Try.prog, [], [], [(0, []), (1, [1]), (2, [7, 1]), (3, [0]), (4, [2, 1]), (5, [3, 2, 1]), (6, [4, 3, 1]), (7, [0])]⟩
theorem cx30_P : cx30.P = Try.prog := rfl
theorem cx30_l0 : lookL 0 cx30.lv = some [] := rfl
theorem cx30_l1 : lookL 1 cx30.lv = some [1] := rfl
theorem cx30_l2 : lookL 2 cx30.lv = some [7, 1] := rfl
theorem cx30_l3 : lookL 3 cx30.lv = some [0] := rfl
theorem cx30_l4 : lookL 4 cx30.lv = some [2, 1] := rfl
theorem cx30_l5 : lookL 5 cx30.lv = some [3, 2, 1] := rfl
theorem cx30_l6 : lookL 6 cx30.lv = some [4, 3, 1] := rfl
theorem cx30_l7 : lookL 7 cx30.lv = some [0] := rfl
theorem cx30_pu : cx30.pu = [] := rfl
theorem cx30_ok : okc cx30 Try.f30.ntmps (Try.f30.body.getD .skip) = true := by kernel_rfl
theorem enter30 {args : List AV} {H : Hp} {n : Nat} {Q : AV → Hp → Nat → Prop} (h : args.length ≤ 35 ∧ Ev cx30 ⟨35, n, none, 30⟩ (Try.f30.body.getD .skip) ⟨argT 0 args, H, n⟩ (.top Try.f30.results.toList Q)) : callA Try.prog 30 args H n Q :=
  callA_ev (cx := cx30) puOk_nil (f := 30) (fn := Try.f30) Try.func30 rfl (by kernel_rfl) h.1 cx30_ok h.2
def newB (a b c d room : Int) : BufS := ⟨a, b, c, d, (newP room).room, 0, [], false⟩
theorem newB_ok {a b c d room : Int} : okB (newB a b c d room) := by
  refine ⟨?_, ?_⟩
  · show ((0 : Nat) : Int) ≤ (if 65536 < (if room < 0 then 0 else room) then 65536 else (if room < 0 then 0 else room))
    split <;> (try split) <;> omega
  · show (if 65536 < (if room < 0 then 0 else room) then 65536 else (if room < 0 then 0 else room)) ≤ 65536
    split <;> (try split) <;> omega
theorem sh_1 : (putB (newB 0 0 2 2 1) (⟨1, 1, 3, ⟨0, 0, 0, 0⟩, ⟨0, 0, 0, 0⟩⟩ : TFrag)).1 = true := by decide
theorem sh_2 : (putB (putB (newB 0 0 2 2 1) (⟨1, 1, 3, ⟨0, 0, 0, 0⟩, ⟨0, 0, 0, 0⟩⟩ : TFrag)).2 (⟨1, 1, 3, ⟨0, 0, 0, 0⟩, ⟨0, 0, 0, 0⟩⟩ : TFrag)).1 = false := by decide
theorem sh_3 : (putB (putB (newB 0 0 2 2 1) (⟨1, 1, 3, ⟨0, 0, 0, 0⟩, ⟨0, 0, 0, 0⟩⟩ : TFrag)).2 (⟨1, 1, 3, ⟨0, 0, 0, 0⟩, ⟨0, 0, 0, 0⟩⟩ : TFrag)).2.ov = true := by decide
theorem sh_4 : ((putB (putB (newB 0 0 2 2 1) (⟨1, 1, 3, ⟨0, 0, 0, 0⟩, ⟨0, 0, 0, 0⟩⟩ : TFrag)).2 (⟨1, 1, 3, ⟨0, 0, 0, 0⟩, ⟨0, 0, 0, 0⟩⟩ : TFrag)).2.R.length : Int) = 1 := by decide
theorem sh_5 : ((farB (putB (putB (newB 0 0 2 2 1) (⟨1, 1, 3, ⟨0, 0, 0, 0⟩, ⟨0, 0, 0, 0⟩⟩ : TFrag)).2 (⟨1, 1, 3, ⟨0, 0, 0, 0⟩, ⟨0, 0, 0, 0⟩⟩ : TFrag)).2.R 1 1).length : Int) = 1 := by decide
-- Chapter 19, plain laws: what a buffer stores of a list that is put; unlike keys in any order.
/-- Unlike keys: each is farther than the next. -/
def sortedS : List TFrag → Prop
  | [] => True
  | y :: l => (∀ z, z ∈ l → cmpK y.key z.key = 1) ∧ sortedS l
theorem sorted_strict {x : TFrag} : ∀ {l : List TFrag}, sortedS l → (∀ z, z ∈ l → ¬ z.key = x.key) → sortedS (rput l x)
  | [], _, _ => ⟨fun z hz => by simp at hz, trivial⟩
  | y :: l, h, hx => by
    have hne : ¬ cmpK y.key x.key = 0 := fun e => hx y (List.mem_cons_self ..) (cmpK_zero e)
    have hr := cmpK_ord.rng y.key x.key
    have ha := cmpK_ord.anti y.key x.key
    unfold rput
    split
    · rename_i hp
      refine ⟨fun z hz => ?_, h⟩
      rcases List.mem_cons.1 hz with rfl | hz
      · omega
      · have h1 := h.1 z hz
        have h2 := cmpK_ord.anti y.key z.key
        have h3 := cmpK_ord.tr z.key y.key x.key (by omega) hp
        have h4 := cmpK_ord.anti z.key x.key
        have h5 := cmpK_ord.rng x.key z.key
        omega
    · rename_i hp
      refine ⟨fun z hz => ?_, sorted_strict h.2 (fun z hz => hx z (List.mem_cons_of_mem _ hz))⟩
      rcases rput_mem.1 hz with rfl | hz
      · omega
      · exact h.1 z hz
theorem strict_get : ∀ {l : List TFrag} {i : Nat}, sortedS l → i + 1 < l.length → cmpK (l.getD i default).key (l.getD (i + 1) default).key = 1
  | y :: l, 0, h, hl => by
    have hl : 0 < l.length := by simpa using hl
    show cmpK y.key (l.getD 0 default).key = 1
    refine h.1 _ ?_
    rw [List.getD_eq_getElem?_getD, List.getElem?_eq_getElem hl]; exact List.getElem_mem hl
  | y :: l, i + 1, h, hl => strict_get (l := l) (i := i) h.2 (by simpa using hl)
/-- Two lists of the same things, each farther than the next, are the same. -/
theorem strict_unique : ∀ {l m : List TFrag}, sortedS l → sortedS m → (∀ z, z ∈ l ↔ z ∈ m) → l = m
  | [], [], _, _, _ => rfl
  | [], b :: m, _, _, h => absurd ((h b).2 (List.mem_cons_self ..)) (by simp)
  | a :: l, [], _, _, h => absurd ((h a).1 (List.mem_cons_self ..)) (by simp)
  | a :: l, b :: m, hl, hm, h => by
    have e : a = b := by
      rcases List.mem_cons.1 ((h a).1 (List.mem_cons_self ..)) with e | h1
      · exact e
      · rcases List.mem_cons.1 ((h b).2 (List.mem_cons_self ..)) with e | h2
        · exact e.symm
        · have g1 := hm.1 _ h1
          have g2 := hl.1 _ h2
          have g3 := cmpK_ord.anti a.key b.key
          omega
    subst e
    refine congrArg _ (strict_unique hl.2 hm.2 fun z => ⟨fun hz => ?_, fun hz => ?_⟩)
    · rcases List.mem_cons.1 ((h z).1 (List.mem_cons_of_mem _ hz)) with rfl | h2
      · have := hl.1 _ hz; rw [cmpK_refl] at this; omega
      · exact h2
    · rcases List.mem_cons.1 ((h z).2 (List.mem_cons_of_mem _ hz)) with rfl | h2
      · have := hm.1 _ hz; rw [cmpK_refl] at this; omega
      · exact h2
def unlike (l : List TFrag) : Prop := l.Pairwise fun a b => ¬ a.key = b.key
theorem sortedS_K : ∀ {l : List TFrag}, sortedS l → sortedK l
  | [], _ => trivial
  | y :: l, h => ⟨fun z hz => by have := h.1 z hz; omega, sortedS_K h.2⟩
theorem fold_strict : ∀ (l A : List TFrag), sortedS A → unlike l → (∀ x, x ∈ l → ∀ z, z ∈ A → ¬ z.key = x.key) → sortedS (l.foldl putK A) ∧ ∀ z, z ∈ l.foldl putK A ↔ z ∈ A ∨ z ∈ l
  | [], A, h, _, _ => ⟨h, by simp⟩
  | x :: l, A, h, hu, hx => by
    have e : putK A x = rput A x := putK_rput (sortedS_K h)
    have hu2 := List.pairwise_cons.1 hu
    have h1 := fold_strict l (putK A x) (by rw [e]; exact sorted_strict h (hx x (List.mem_cons_self ..))) hu2.2 (fun y hy z hz => by
      rw [e] at hz
      rcases rput_mem.1 hz with rfl | hz
      · exact hu2.1 y hy
      · exact hx y (List.mem_cons_of_mem _ hy) z hz)
    rw [List.foldl_cons]
    refine ⟨h1.1, fun z => ?_⟩
    rw [h1.2 z, e, rput_mem, List.mem_cons]
    constructor
    · rintro ((h | h) | h) <;> simp [h]
    · rintro (h | h | h) <;> simp [h]
theorem farK_unlike {l : List TFrag} (h : unlike l) : sortedS (farK l) ∧ ∀ z, z ∈ farK l ↔ z ∈ l := by
  have := fold_strict l [] trivial h (fun _ _ z hz => by simp at hz)
  exact ⟨this.1, fun z => by rw [show farK l = l.foldl putK [] from rfl, this.2 z]; simp⟩
theorem farK_perm {l m : List TFrag} (h : unlike l) (hp : l.Perm m) : farK l = farK m := by
  have hm : unlike m := (hp.pairwise_iff (fun e g => e g.symm)).1 h
  have h1 := farK_unlike h
  have h2 := farK_unlike hm
  exact strict_unique h1.1 h2.1 (fun z => by rw [h1.2, h2.2, hp.mem_iff])
/-- A buffer to which a list was put. -/
def fillB (s : BufS) (l : List TFrag) : BufS := l.foldl (fun s f => (putB s f).2) s
theorem fillB_nil (s : BufS) : fillB s [] = s := rfl
theorem fillB_snoc (s : BufS) (l : List TFrag) (f : TFrag) : (putB (fillB s l) f).2 = fillB s (l ++ [f]) := by
  unfold fillB; rw [List.foldl_append]; rfl
/-- What is stored if there is room. -/
def inS (s : BufS) (f : TFrag) : Bool := inT s.a s.b s.c s.d f.x f.y && !decide (f.mask = 0)
theorem putB_tile (s : BufS) (f : TFrag) : (putB s f).2.a = s.a ∧ (putB s f).2.b = s.b ∧ (putB s f).2.c = s.c ∧ (putB s f).2.d = s.d ∧ (putB s f).2.room = s.room := by
  unfold putB
  split
  · exact ⟨rfl, rfl, rfl, rfl, rfl⟩
  · split
    · exact ⟨rfl, rfl, rfl, rfl, rfl⟩
    · split <;> exact ⟨rfl, rfl, rfl, rfl, rfl⟩
theorem putB_in (s : BufS) (f g : TFrag) : inS (putB s f).2 g = inS s g := by
  obtain ⟨h1, h2, h3, h4, _⟩ := putB_tile s f
  unfold inS; rw [h1, h2, h3, h4]
theorem fillB_tile : ∀ (l : List TFrag) (s : BufS), (fillB s l).a = s.a ∧ (fillB s l).b = s.b ∧ (fillB s l).c = s.c ∧ (fillB s l).d = s.d ∧ (fillB s l).room = s.room
  | [], s => ⟨rfl, rfl, rfl, rfl, rfl⟩
  | f :: l, s => by
    obtain ⟨h1, h2, h3, h4, h5⟩ := putB_tile s f
    obtain ⟨g1, g2, g3, g4, g5⟩ := fillB_tile l (putB s f).2
    exact ⟨g1.trans h1, g2.trans h2, g3.trans h3, g4.trans h4, g5.trans h5⟩
theorem fillB_ok : ∀ (l : List TFrag) {s : BufS}, okB s → okB (fillB s l)
  | [], s, h => h
  | f :: l, s, h => fillB_ok l (putB_ok h f)
/-- One more: stored if there is room. -/
theorem putB_st {s : BufS} {f : TFrag} (h : inS s f = true) : putB s f = if (s.R.length : Int) < s.room then (true, ⟨s.a, s.b, s.c, s.d, s.room, mostU s.most s.R.length, f :: s.R, s.ov⟩) else (false, ⟨s.a, s.b, s.c, s.d, s.room, s.most, s.R, true⟩) := by
  unfold inS at h
  rw [Bool.and_eq_true] at h
  have hm : ¬ f.mask = 0 := by simpa using h.2
  unfold putB
  rw [if_neg (by rw [h.1]; decide), if_neg hm]
theorem putB_no {s : BufS} {f : TFrag} (h : inS s f = false) : putB s f = (inT s.a s.b s.c s.d f.x f.y, s) := by
  unfold inS at h
  unfold putB
  cases hT : inT s.a s.b s.c s.d f.x f.y
  · rw [if_pos rfl]
  · rw [hT, Bool.true_and] at h
    have hm : f.mask = 0 := by simpa using h
    rw [if_neg (by decide), if_pos hm]
/-- The state of a buffer of which so much was asked. -/
structure Told (s0 s : BufS) (l : List TFrag) (k : Nat) : Prop where
  R : s.R = ((l.filter (inS s0)).take k).reverse
  ov : s.ov = decide (k < (l.filter (inS s0)).length)
  most : s.most = ((min k (l.filter (inS s0)).length : Nat) : Int)
theorem told_snoc {s0 s : BufS} {l : List TFrag} {k : Nat} (f : TFrag) (hr : s.room = (k : Int)) (hi : inS s f = inS s0 f) (h : Told s0 s l k) : Told s0 (putB s f).2 (l ++ [f]) k := by
  have hl : s.R.length = min k (l.filter (inS s0)).length := by rw [h.R, List.length_reverse, List.length_take]
  cases hf : inS s0 f
  · rw [putB_no (hi.trans hf)]
    have e : (l ++ [f]).filter (inS s0) = l.filter (inS s0) := by rw [List.filter_append]; simp [hf]
    exact ⟨by rw [e]; exact h.R, by rw [e]; exact h.ov, by rw [e]; exact h.most⟩
  · have e : (l ++ [f]).filter (inS s0) = l.filter (inS s0) ++ [f] := by rw [List.filter_append]; simp [hf]
    rw [putB_st (hi.trans hf), hr]
    by_cases hk : (l.filter (inS s0)).length < k
    · rw [if_pos (by omega)]
      refine ⟨?_, ?_, ?_⟩
      · show f :: s.R = _
        rw [e, h.R, List.take_of_length_le (by omega), List.take_of_length_le (by rw [List.length_append]; simp; omega), List.reverse_append]; rfl
      · show s.ov = _
        rw [e, h.ov]
        simp only [List.length_append, List.length_singleton, decide_eq_decide]; omega
      · show mostU s.most s.R.length = _
        rw [e, h.most, hl, List.length_append]
        unfold mostU
        simp only [List.length_singleton]
        rw [Nat.min_eq_right (by omega), if_pos (by omega)]; omega
    · rw [if_neg (by omega)]
      refine ⟨?_, ?_, ?_⟩
      · show s.R = _
        rw [e, h.R, List.take_append_of_le_length (by omega)]
      · show true = _
        rw [e]
        simp only [List.length_append, List.length_singleton]
        exact (decide_eq_true (by omega)).symm
      · show s.most = _
        rw [e, h.most, List.length_append]
        simp only [List.length_singleton]
        rw [Nat.min_eq_left (by omega), Nat.min_eq_left (by omega)]
theorem told_fill {s0 : BufS} {k : Nat} (hr : s0.room = (k : Int)) : ∀ (l p : List TFrag) {s : BufS}, s.room = (k : Int) → (∀ f, inS s f = inS s0 f) → Told s0 s p k → Told s0 (fillB s l) (p ++ l) k
  | [], p, s, h1, h2, h => by rw [List.append_nil]; exact h
  | f :: l, p, s, h1, h2, h => by
    have := told_fill hr l (p ++ [f]) (s := (putB s f).2) ((putB_tile s f).2.2.2.2.trans h1) (fun g => (putB_in s f g).trans (h2 g)) (told_snoc f h1 (h2 f) h)
    rw [List.append_assoc] at this
    exact this
theorem told_new {a b c d room : Int} {k : Nat} (hk : (newB a b c d room).room = (k : Int)) (l : List TFrag) : Told (newB a b c d room) (fillB (newB a b c d room) l) l k := by
  refine told_fill hk l [] hk (fun _ => rfl) ⟨?_, ?_, ?_⟩
  · show [] = (List.take k []).reverse
    simp
  · show false = _
    simp
  · show (0 : Int) = _
    simp
theorem filt_all {l : List TFrag} {p : TFrag → Bool} (h : ∀ f, f ∈ l → p f = true) : l.filter p = l := List.filter_eq_self.2 h
/-- What is told of a pixel. -/
theorem told_far {s0 s : BufS} {l : List TFrag} {k : Nat} (h : Told s0 s l k) (x y : Int) : farB s.R x y = farK (((l.filter (inS s0)).take k).filter fun f => decide (f.x = x ∧ f.y = y)) := by
  unfold farB pixR
  rw [h.R, List.filter_reverse, List.reverse_reverse]
end Go.Proofs.Ytbkmhkeihbgcfaa
