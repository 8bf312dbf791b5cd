/-
  Chapter 2: Mean, shown, the law ColourRight.
-/
import Derived.Test.YtcgnnkbdbidpkaaCe
set_option linter.unusedVariables false
set_option linter.unusedSimpArgs false
set_option maxRecDepth 100000
set_option maxHeartbeats 0
namespace Go.Proofs.Ytcgnnkbdbidpkaa
open Go.Y
noncomputable def cx16 : Cx := ⟨Try.prog, [], [], [(0, [2, 1]), (1, [3, 2]), (2, [2])]⟩
theorem cx16_P : cx16.P = Try.prog := rfl
theorem cx16_l0 : lookL 0 cx16.lv = some [2, 1] := rfl
theorem cx16_l1 : lookL 1 cx16.lv = some [3, 2] := rfl
theorem cx16_l2 : lookL 2 cx16.lv = some [2] := rfl
theorem cx16_pu : cx16.pu = [] := rfl
theorem cx16_ok : okc cx16 Try.f16.ntmps (Try.f16.body.getD .skip) = true := by kernel_rfl
theorem enter16 {args : List AV} {H : Hp} {n : Nat} {Q : AV → Hp → Nat → Prop} (h : args.length ≤ 14 ∧ Ev cx16 ⟨14, n, none, 16⟩ (Try.f16.body.getD .skip) ⟨argT 0 args, H, n⟩ (.top Try.f16.results.toList Q)) : callA Try.prog 16 args H n Q :=
  callA_ev (cx := cx16) puOk_nil (f := 16) (fn := Try.f16) Try.func16 rfl (by kernel_rfl) h.1 cx16_ok h.2
noncomputable def cx36 : Cx := ⟨Try.prog, [], [], [(0, [1, 0]), (1, [4, 1, 0]), (2, [8, 7, 4, 0]), (3, [9, 8, 7, 4, 0]), (4, [8, 7, 6, 4, 0]), (5, [8, 7, 4, 0]), (6, [8, 7, 4, 0]), (7, [3])]⟩
theorem cx36_P : cx36.P = Try.prog := rfl
theorem cx36_l0 : lookL 0 cx36.lv = some [1, 0] := rfl
theorem cx36_l1 : lookL 1 cx36.lv = some [4, 1, 0] := rfl
theorem cx36_l2 : lookL 2 cx36.lv = some [8, 7, 4, 0] := rfl
theorem cx36_l3 : lookL 3 cx36.lv = some [9, 8, 7, 4, 0] := rfl
theorem cx36_l4 : lookL 4 cx36.lv = some [8, 7, 6, 4, 0] := rfl
theorem cx36_l5 : lookL 5 cx36.lv = some [8, 7, 4, 0] := rfl
theorem cx36_l6 : lookL 6 cx36.lv = some [8, 7, 4, 0] := rfl
theorem cx36_l7 : lookL 7 cx36.lv = some [3] := rfl
theorem cx36_pu : cx36.pu = [] := rfl
theorem cx36_ok : okc cx36 Try.f36.ntmps (Try.f36.body.getD .skip) = true := by kernel_rfl
theorem enter36 {args : List AV} {H : Hp} {n : Nat} {Q : AV → Hp → Nat → Prop} (h : args.length ≤ 21 ∧ Ev cx36 ⟨21, n, none, 36⟩ (Try.f36.body.getD .skip) ⟨argT 0 args, H, n⟩ (.top Try.f36.results.toList Q)) : callA Try.prog 36 args H n Q :=
  callA_ev (cx := cx36) puOk_nil (f := 36) (fn := Try.f36) Try.func36 rfl (by kernel_rfl) h.1 cx36_ok h.2
noncomputable def cx37 : Cx := ⟨Try.prog, [], [], [(0, [1]), (1, [2])]⟩
theorem cx37_P : cx37.P = Try.prog := rfl
theorem cx37_l0 : lookL 0 cx37.lv = some [1] := rfl
theorem cx37_l1 : lookL 1 cx37.lv = some [2] := rfl
theorem cx37_pu : cx37.pu = [] := rfl
theorem cx37_ok : okc cx37 Try.f37.ntmps (Try.f37.body.getD .skip) = true := by kernel_rfl
theorem enter37 {args : List AV} {H : Hp} {n : Nat} {Q : AV → Hp → Nat → Prop} (h : args.length ≤ 5 ∧ Ev cx37 ⟨5, n, none, 37⟩ (Try.f37.body.getD .skip) ⟨argT 0 args, H, n⟩ (.top Try.f37.results.toList Q)) : callA Try.prog 37 args H n Q :=
  callA_ev (cx := cx37) puOk_nil (f := 37) (fn := Try.f37) Try.func37 rfl (by kernel_rfl) h.1 cx37_ok h.2
noncomputable def cx38 : Cx := ⟨Try.prog, [], [], [(0, [1]), (1, [2])]⟩
theorem cx38_P : cx38.P = Try.prog := rfl
theorem cx38_l0 : lookL 0 cx38.lv = some [1] := rfl
theorem cx38_l1 : lookL 1 cx38.lv = some [2] := rfl
theorem cx38_pu : cx38.pu = [] := rfl
theorem cx38_ok : okc cx38 Try.f38.ntmps (Try.f38.body.getD .skip) = true := by kernel_rfl
theorem enter38 {args : List AV} {H : Hp} {n : Nat} {Q : AV → Hp → Nat → Prop} (h : args.length ≤ 5 ∧ Ev cx38 ⟨5, n, none, 38⟩ (Try.f38.body.getD .skip) ⟨argT 0 args, H, n⟩ (.top Try.f38.results.toList Q)) : callA Try.prog 38 args H n Q :=
  callA_ev (cx := cx38) puOk_nil (f := 38) (fn := Try.f38) Try.func38 rfl (by kernel_rfl) h.1 cx38_ok h.2
noncomputable def cx39 : Cx := ⟨Try.prog, [], [], [(0, [1]), (1, [2])]⟩
theorem cx39_P : cx39.P = Try.prog := rfl
theorem cx39_l0 : lookL 0 cx39.lv = some [1] := rfl
theorem cx39_l1 : lookL 1 cx39.lv = some [2] := rfl
theorem cx39_pu : cx39.pu = [] := rfl
theorem cx39_ok : okc cx39 Try.f39.ntmps (Try.f39.body.getD .skip) = true := by kernel_rfl
theorem enter39 {args : List AV} {H : Hp} {n : Nat} {Q : AV → Hp → Nat → Prop} (h : args.length ≤ 5 ∧ Ev cx39 ⟨5, n, none, 39⟩ (Try.f39.body.getD .skip) ⟨argT 0 args, H, n⟩ (.top Try.f39.results.toList Q)) : callA Try.prog 39 args H n Q :=
  callA_ev (cx := cx39) puOk_nil (f := 39) (fn := Try.f39) Try.func39 rfl (by kernel_rfl) h.1 cx39_ok h.2
noncomputable def cx40 : Cx := ⟨Try.prog, [], [], [(0, [1]), (1, [2])]⟩
theorem cx40_P : cx40.P = Try.prog := rfl
theorem cx40_l0 : lookL 0 cx40.lv = some [1] := rfl
theorem cx40_l1 : lookL 1 cx40.lv = some [2] := rfl
theorem cx40_pu : cx40.pu = [] := rfl
theorem cx40_ok : okc cx40 Try.f40.ntmps (Try.f40.body.getD .skip) = true := by kernel_rfl
theorem enter40 {args : List AV} {H : Hp} {n : Nat} {Q : AV → Hp → Nat → Prop} (h : args.length ≤ 5 ∧ Ev cx40 ⟨5, n, none, 40⟩ (Try.f40.body.getD .skip) ⟨argT 0 args, H, n⟩ (.top Try.f40.results.toList Q)) : callA Try.prog 40 args H n Q :=
  callA_ev (cx := cx40) puOk_nil (f := 40) (fn := Try.f40) Try.func40 rfl (by kernel_rfl) h.1 cx40_ok h.2
def mnI (a b c d : Int) : Int := (2 + a + b + c + d) / 4
def meanC (a b c d : TColour) : TColour := ⟨mnI a.r b.r c.r d.r, mnI a.g b.g c.g d.g, mnI a.b b.b c.b d.b, mnI a.a b.a c.a d.a⟩
theorem mean_walk (a b c d : TColour) (h : bC a ∧ bC b ∧ bC c ∧ bC d) :
    callA Try.prog 16 [.rows 4 [.agg [.int .u8 a.r, .int .u8 a.g, .int .u8 a.b, .int .u8 a.a], .agg [.int .u8 b.r, .int .u8 b.g, .int .u8 b.b, .int .u8 b.a], .agg [.int .u8 c.r, .int .u8 c.g, .int .u8 c.b, .int .u8 c.a], .agg [.int .u8 d.r, .int .u8 d.g, .int .u8 d.b, .int .u8 d.a]]] [] 0 fun v _ _ => v = eColour (meanC a b c d) := by
  sym =>
    repeat (first (apply enter16) (apply enter36) (apply enter37) (apply enter38) (apply enter39) (apply enter40) (apply loop_next) (apply imp_go; intro hp) (apply valK_w64; · finish (splits := 3) (ematch := 1)) (apply valK_wu8; · finish (splits := 3) (ematch := 1)) (apply valK_wu64; · finish (splits := 3) (ematch := 1)) (apply valK_w32; · finish (splits := 3) (ematch := 1)) (apply valK_wu16; · finish (splits := 3) (ematch := 1)) (apply valK_wu32; · finish (splits := 3) (ematch := 1)) (apply valK_wr) (apply valK_andR) (apply valK_quo; · finish (splits := 3) (ematch := 1)) (apply valK_quoR; · finish (splits := 3) (ematch := 1)) (apply valK_rem; · finish (splits := 3) (ematch := 1)) (apply valK_remR; · finish (splits := 3) (ematch := 1)) (apply valK_bol; · finish (splits := 3) (ematch := 1)) (apply effK_bol; · finish (splits := 3) (ematch := 1)) (apply newK_bol; · finish (splits := 3) (ematch := 1)) (apply appK_bol; · finish (splits := 3) (ematch := 1)) (apply topO_bol; · finish (splits := 3) (ematch := 1)) (apply valK_altY; · finish (splits := 3) (ematch := 1)) (apply valK_altN; · finish (splits := 3) (ematch := 1)) (apply effK_altY; · finish (splits := 3) (ematch := 1)) (apply effK_altN; · finish (splits := 3) (ematch := 1)) (apply valK_altNY; · finish (splits := 3) (ematch := 1)) (apply valK_altNN; · finish (splits := 3) (ematch := 1)) (apply valK_altS) (apply valK_altNS) (apply effK_altS) (apply appS_go) (apply brC_y; · finish (splits := 3) (ematch := 1)) (apply brC_n; · finish (splits := 3) (ematch := 1)) (apply brC_yN; · finish (splits := 3) (ematch := 1)) (apply brC_nN; · finish (splits := 3) (ematch := 1)) (apply brC_s) (apply brC_sN) (apply wantK_y; · finish (splits := 3) (ematch := 1)) (apply wantK_n; · finish (splits := 3) (ematch := 1)) (apply wantK_yN; · finish (splits := 3) (ematch := 1)) (apply wantK_nN; · finish (splits := 3) (ematch := 1)) (apply wantK_s) (apply wantK_sN) (apply rowG_y; · finish (splits := 3) (ematch := 1)) (apply rowG_n; · finish (splits := 3) (ematch := 1)) (apply rowG_yN; · finish (splits := 3) (ematch := 1)) (apply rowG_nN; · finish (splits := 3) (ematch := 1)) (apply rowG_s) (apply rowG_sN) (simp [eBase_eq, eColour_eq, eFrag_eq, eKey_eq, cx16_P, cx16_l0, cx16_l1, cx16_l2, cx16_pu, Try.f16.eq_1, ty_arrOf_23, ty_arrOf_31, ty_arrOf_59, ty_eqTy_23, ty_eqTy_31, ty_fldOf_23_0, ty_fldOf_23_1, ty_fldOf_23_2, ty_fldOf_23_3, ty_lay_23, ty_lay_31, ty_notInt_23, ty_notInt_31, ty_notInt_59, ty_placesOf_23, ty_placesOf_31, ty_slcOf_23, ty_slcOf_31, ty_slcOf_59, ty_zeroA_23, ty_zeroA_31, cx36_P, cx36_l0, cx36_l1, cx36_l2, cx36_l3, cx36_l4, cx36_l5, cx36_l6, cx36_l7, cx36_pu, Try.f36.eq_1, ty_arrOf_3, ty_arrOf_5, ty_hasTy_3, ty_hasTy_5, ty_intOf_3, ty_intOf_5, ty_lay_3, ty_lay_5, ty_slcOf_3, ty_slcOf_5, ty_zeroA_3, cx37_P, cx37_l0, cx37_l1, cx37_pu, Try.f37.eq_1, cx38_P, cx38_l0, cx38_l1, cx38_pu, Try.f38.eq_1, cx39_P, cx39_l0, cx39_l1, cx39_pu, Try.f39.eq_1, cx40_P, cx40_l0, cx40_l1, cx40_pu, Try.f40.eq_1, valK_some, newK_some, effK_some, opE_move, opE_assign, opE_build, opE_load, opE_bin, opE_un, opE_conv, opE_makeFunc, opE_fieldAddr, opE_index, opE_alloc, opE_box, callK_fn, callK_yld, callG_some, callG_none, opE_store_r, opE_call_r, ev_seq, ev_skip, ev_label, ev_region, ev_cond, condC_some, brC_true, brC_false, ev_block, ev_scope, ev_exit, ev_ret, ev_loop, nx_seq, nx_seqE, nx_seqR, nx_blk, nx_blkE, nx_blkR, nx_loop, nx_loopE, nx_loopR, nx_inv, nx_invE, nx_invR, nx_top, nx_topR, topO_some, evR_nil, evR_op, evR_guard, finK_reg, finN_reg, nid_reg, getT_cons, putT_some, putT_none, trimT_some, trimT_none, keepT_nil, keepT_cons, consT_some, consT_none, getT_nil, getO_tmp, getO_const, getO_func, ofC_int, ofC_bool, ofC_ptr, ofC_slc, ofC_map, ofC_fn, getOs_nil, getOs_cons, consO_some, hget_cons, hset_cons, wrap_lit, wrap_neg, top_i64, bot_i64, top_u8, bot_u8, bits_u8, bits_i64, cast_lit, toNat_lit, get_zero, get_succ, take_zero, take_succ, set_zero, set_succ, length_nil, length_cons, length_set, append_nil, nil_append, cons_append, toList_arr, bnot_true, bnot_false, band_true, band_false, beq_tt, beq_ff, beq_tf, beq_ft, beq_nat, beq_int, bne_nat, map_some, map_none, true_eq_false, false_eq_true, true_eq_true, fbody_mk, fresults_mk, getD_some, bol_true, binO_some, quo_lit, quo_neg, bin_lss, convO_some, conv_int, mkFnO_some, size_int, size_bool, size_str, size_ptr, size_nilp, size_slc, size_nils, size_map, size_nilm, size_fn, size_yld, size_nilf, size_agg, size_rows, sizeL_nil, sizeL_cons, layOK_int, layOK_bool, layOK_str, layOK_ptr, layOK_nilp, layOK_slc, layOK_nils, layOK_map, layOK_nilm, layOK_fn, layOK_yld, layOK_nilf, layOK_agg, layOK_rows, isTup_int, isTup_bool, isTup_str, isTup_ptr, isTup_nilp, isTup_slc, isTup_nils, isTup_map, isTup_nilm, isTup_fn, isTup_yld, isTup_nilf, isTup_agg, isTup_rows, getP_nil, getP_cons, getS_some, stepP_agg, stepP_rows, putP_nil, putP_cons, putS_some, putU_some, setS_agg, setS_rows, loadO_some, loadA_ptr, loadE_cel, loadE_vec, loadE_ro, chkL_some, storeO_some, stH_some, storeA_ptr, storeE_cel, storeE_vec, storeB_cel, faO_some, fa_ptr, lkO_some, ixO_some, newA_some, partsO_nil, partsO_cons, buildA_some, fillP_nil, fillP_cons, fillN_some, setA_agg, setA_rows, setC_some, setD_some, resF_eq, resAll_nil, resAll_cons, resOne_tmp, resOne_cell, tupO_none, tupO_one, tupO_more, argT_nil, argT_cons, lookU_nil, lookU_cons, lookL_cons, lookL_nil, lookP_cons, roundS_eq, mbin_add, mbin_quo, mcvI_some, wrapO_lit, wrapO_neg, mix_rows, mstoreB_vec, len_set, not_tf, not_ft, and_tf, alt_true, alt_false, bol_false, getS_bol, getS_alt, chkL_bol, chkL_alt, lkO_bol, lkO_alt, putS_bol, putS_alt, putU_bol, putU_alt, storeB_bol, storeB_alt, stH_bol, stH_alt, consO_bol, consO_bol2, tupO_bol, fillN_bol, bol_bol, get_mapB, get_setB, get_appB, len_map, nat_zero_add, subC_nil, subC_seq0, subC_seq1, subC_cond0, subC_cond1, subC_block, subC_scope, subC_loop, subC_ran0, subC_ran1, hideH_nil, and_self, and_true, true_and, and_false, false_and]) (apply valK_bolB; · finish (splits := 3) (ematch := 1)) (apply valK_altT; · finish (splits := 3) (ematch := 1)) (apply valK_altF; · finish (splits := 3) (ematch := 1)) (apply valK_altB) (apply brC_t; · finish (splits := 3) (ematch := 1)) (apply brC_f; · finish (splits := 3) (ematch := 1)) (apply brC_sBN) (apply brC_sB) (apply wantK_t; · finish (splits := 3) (ematch := 1)) (apply wantK_f; · finish (splits := 3) (ematch := 1)) (apply wantK_sBN) (apply wantK_sB) (apply rowG_t; · finish (splits := 3) (ematch := 1)) (apply rowG_f; · finish (splits := 3) (ematch := 1)) (apply rowG_sBN) (apply rowG_sB) (intro~ hr) (tactic => rfl))
theorem meanC_bd {a b c d : TColour} (h : bC a ∧ bC b ∧ bC c ∧ bC d) : bC (meanC a b c d) := by
  obtain ⟨ha, hb, hc, hd⟩ := h
  unfold bC at *
  simp only [meanC, mnI]
  omega
theorem mean_use {a b c d : TColour} {H : Hp} {n : Nat} {Q : AV → Hp → Nat → Prop} (h : bC a ∧ bC b ∧ bC c ∧ bC d) (hq : ∀ o : TColour, Imp (o = meanC a b c d ∧ bC o) (Q (eColour o) H n)) :
    callA Try.prog 16 [.rows 4 [.agg [.int .u8 a.r, .int .u8 a.g, .int .u8 a.b, .int .u8 a.a], .agg [.int .u8 b.r, .int .u8 b.g, .int .u8 b.b, .int .u8 b.a], .agg [.int .u8 c.r, .int .u8 c.g, .int .u8 c.b, .int .u8 c.a], .agg [.int .u8 d.r, .int .u8 d.g, .int .u8 d.b, .int .u8 d.a]]] H n Q :=
  callA_pure (mean_walk a b c d h) rfl (by rfl) (hq _ ⟨rfl, meanC_bd h⟩)
/-! ### Plain laws -/
theorem prI_le {x al : Int} (hx : 0 ≤ x ∧ x ≤ 255) (ha : 0 ≤ al ∧ al ≤ 255) : prI x al ≤ al := by
  have h1 := Int.mul_le_mul_of_nonneg_right hx.2 ha.1
  have h2 := cov_bd' hx ha
  unfold prI satI
  split <;> omega
theorem preC_right {c : TColour} (h : bC c) : rightC (preC c) := ⟨prI_le h.1 h.2.2.2, prI_le h.2.1 h.2.2.2, prI_le h.2.2.1 h.2.2.2⟩
theorem ovI_mono {x x' y y' al : Int} (hx : x ≤ x') (hy : y ≤ y') (ha : al ≤ 255) : ovI x y al ≤ ovI x' y' al := by
  have h := Int.mul_le_mul_of_nonneg_right hy (show 0 ≤ 255 - al by omega)
  unfold ovI satI
  split <;> split <;> omega
theorem overC_right {a b : TColour} (ha : bC a) (h1 : rightC a) (h2 : rightC b) : rightC (overC a b) := ⟨ovI_mono h1.1 h2.1 ha.2.2.2.2, ovI_mono h1.2.1 h2.2.1 ha.2.2.2.2, ovI_mono h1.2.2 h2.2.2 ha.2.2.2.2⟩
theorem ovI_ge {x y al : Int} (hx : 0 ≤ x ∧ x ≤ 255) (hy : 0 ≤ y ∧ y ≤ 255) (ha : 0 ≤ al ∧ al ≤ 255) : x ≤ ovI x y al := by
  have := cov_bd hy ha
  unfold ovI satI
  split <;> omega
theorem ovI_ge2 {a y : Int} (hy : 0 ≤ y ∧ y ≤ 255) (ha : 0 ≤ a ∧ a ≤ 255) : y ≤ ovI a y a := by
  have h1 := cov_bd' hy ha
  have h2 := Int.mul_le_mul_of_nonneg_right hy.2 ha.1
  have h3 : y * (255 - a) = 255 * y - y * a := by rw [Int.mul_sub, Int.mul_comm y 255]
  unfold ovI satI
  rw [h3]
  split <;> omega
theorem meanC_right {a b c d : TColour} (h1 : rightC a) (h2 : rightC b) (h3 : rightC c) (h4 : rightC d) : rightC (meanC a b c d) := by
  unfold rightC at *
  simp only [meanC, mnI]
  omega
end Go.Proofs.Ytcgnnkbdbidpkaa
