/-
  Chapter 3: read.
-/
import Derived.Test.YtngjfoajgedgjaaWj
set_option linter.unusedVariables false
set_option linter.unusedSimpArgs false
set_option maxRecDepth 10000
set_option maxHeartbeats 0
namespace Go.Proofs.Ytngjfoajgedgjaa
open Go.Y
noncomputable def cx49 : Cx := ⟨Try.prog, [], [], [(0, [2, 0]), (1, [4, 2, 0]), (2, [0]), (3, [2, 0]), (4, [8, 2, 0]), (5, [2, 0]), (6, [2, 0]), (7, [14, 2, 0]), (8, [2, 0]), (9, [2, 0]), (10, [2])]⟩
theorem cx49_P : cx49.P = Try.prog := rfl
theorem cx49_l0 : lookL 0 cx49.lv = some [2, 0] := rfl
theorem cx49_l1 : lookL 1 cx49.lv = some [4, 2, 0] := rfl
theorem cx49_l2 : lookL 2 cx49.lv = some [0] := rfl
theorem cx49_l3 : lookL 3 cx49.lv = some [2, 0] := rfl
theorem cx49_l4 : lookL 4 cx49.lv = some [8, 2, 0] := rfl
theorem cx49_l5 : lookL 5 cx49.lv = some [2, 0] := rfl
theorem cx49_l6 : lookL 6 cx49.lv = some [2, 0] := rfl
theorem cx49_l7 : lookL 7 cx49.lv = some [14, 2, 0] := rfl
theorem cx49_l8 : lookL 8 cx49.lv = some [2, 0] := rfl
theorem cx49_l9 : lookL 9 cx49.lv = some [2, 0] := rfl
theorem cx49_l10 : lookL 10 cx49.lv = some [2] := rfl
theorem cx49_pu : cx49.pu = [] := rfl
theorem cx49_ok : okc cx49 Try.f49.ntmps (Try.f49.body.getD .skip) = true := by kernel_rfl
theorem enter49 {args : List AV} {H : Hp} {n : Nat} {Q : AV → Hp → Nat → Prop} (h : args.length ≤ 25 ∧ Ev cx49 ⟨25, n, none, 49⟩ (Try.f49.body.getD .skip) ⟨argT 0 args, H, n⟩ (.top Try.f49.results.toList Q)) : callA Try.prog 49 args H n Q :=
  callA_ev (cx := cx49) puOk_nil (f := 49) (fn := Try.f49) Try.func49 rfl (by kernel_rfl) h.1 cx49_ok h.2
/-- How many bits a part has. -/
def blN (p : Nat) : Nat := if p = 0 then 0 else if p < 2 then 1 else if p < 4 then 2 else if p < 8 then 3 else if p < 16 then 4 else if p < 32 then 5 else if p < 64 then 6 else 7
def blI (p : Int) : Int := (blN p.toNat : Nat)
def tabOk (s : ByteArray) : Bool := (List.range 128).all fun i => s.data.toList[i]? == some (UInt8.ofNat (blN i))
theorem blN_le (p : Nat) : blN p ≤ 7 := by unfold blN; repeat' split <;> try omega
theorem tab_get {s : ByteArray} (h : tabOk s = true) {p : Int} (hp : 0 ≤ p ∧ p < 128) : ixO Try.prog 9 none (ofC (.string s)) (some (.int .u8 p)) = some (.int .u8 (blI p)) := by
  obtain ⟨k, rfl⟩ := Int.eq_ofNat_of_zero_le hp.1
  have hk : k < 128 := by omega
  have h1 := List.all_eq_true.1 h k (List.mem_range.2 hk)
  have h2 : s.data.toList[k]? = some (UInt8.ofNat (blN k)) := by simpa using h1
  have hl : k < s.data.toList.length := by
    rcases Nat.lt_or_ge k s.data.toList.length with h | h
    · exact h
    · rw [List.getElem?_eq_none h] at h2; cases h2
  show indexC Try.prog 9 none (.str s.data.toList) (.int .u8 (k : Int)) = _
  have e := blN_le k
  have e2 : (UInt8.ofNat (blN k)).toNat = blN k := by rw [UInt8.toNat_ofNat']; omega
  simp only [indexC, ty_isStrTy_9, if_true, Int.toNat_natCast, h2]
  rw [if_pos ⟨by omega, by omega⟩]
  simp only [e2, blI, Int.toNat_natCast]
theorem valK_str {P : Program} {cx : Cx} {fx : Fx} {kt : Kt} {t : TypeId} {l : Option (Nat × Bool × Nat)} {s : ByteArray} {y : Option AV} {H : Hp} {n : Nat} (w : Int) (e : ixO P t l (ofC (.string s)) y = some (.int .u8 w)) (hk : ValK cx fx kt (some (.int .u8 w)) H n) : ValK cx fx kt (ixO P t l (ofC (.string s)) y) H n := e ▸ hk
theorem valK_tab {P : Program} {cx : Cx} {fx : Fx} {kt : Kt} {t : TypeId} {l : Option (Nat × Bool × Nat)} {s : ByteArray} {p : Int} {H : Hp} {n : Nat} (e : ixO P t l (ofC (.string s)) (some (.int .u8 p)) = some (.int .u8 (blI p))) (hk : ValK cx fx kt (some (.int .u8 (blI p))) H n) : ValK cx fx kt (ixO P t l (ofC (.string s)) (some (.int .u8 p))) H n := e ▸ hk
theorem len_walk {p : Int} (h : 0 ≤ p ∧ p < 128) (hb : 0 ≤ blI p ∧ blI p ≤ 7) : callA Try.prog 49 [.int .u64 p] [] 0 fun v' _ _ => v' = .int .i64 (blI p) := by
  sym =>
    repeat (first (apply enter49) (apply valK_tab; (tactic => exact tab_get (by kernel_rfl) h)) (apply imp_go; intro hp) (apply valK_w64; · finish (splits := 3) (ematch := 1)) (apply valK_wu8; · finish (splits := 3) (ematch := 1)) (apply valK_wu64; · finish (splits := 3) (ematch := 1)) (apply valK_w32; · finish (splits := 3) (ematch := 1)) (apply valK_wu16; · finish (splits := 3) (ematch := 1)) (apply valK_wu32; · finish (splits := 3) (ematch := 1)) (apply valK_wr) (apply valK_andR) (apply valK_quo; · finish (splits := 3) (ematch := 1)) (apply valK_quoR; · finish (splits := 3) (ematch := 1)) (apply valK_rem; · finish (splits := 3) (ematch := 1)) (apply valK_remR; · finish (splits := 3) (ematch := 1)) (apply valK_bol; · finish (splits := 3) (ematch := 1)) (apply effK_bol; · finish (splits := 3) (ematch := 1)) (apply newK_bol; · finish (splits := 3) (ematch := 1)) (apply appK_bol; · finish (splits := 3) (ematch := 1)) (apply topO_bol; · finish (splits := 3) (ematch := 1)) (apply valK_altY; · finish (splits := 3) (ematch := 1)) (apply valK_altN; · finish (splits := 3) (ematch := 1)) (apply effK_altY; · finish (splits := 3) (ematch := 1)) (apply effK_altN; · finish (splits := 3) (ematch := 1)) (apply valK_altNY; · finish (splits := 3) (ematch := 1)) (apply valK_altNN; · finish (splits := 3) (ematch := 1)) (apply valK_altS) (apply valK_altNS) (apply effK_altS) (apply appS_go) (apply brC_y; · finish (splits := 3) (ematch := 1)) (apply brC_n; · finish (splits := 3) (ematch := 1)) (apply brC_yN; · finish (splits := 3) (ematch := 1)) (apply brC_nN; · finish (splits := 3) (ematch := 1)) (apply brC_s) (apply brC_sN) (apply wantK_y; · finish (splits := 3) (ematch := 1)) (apply wantK_n; · finish (splits := 3) (ematch := 1)) (apply wantK_yN; · finish (splits := 3) (ematch := 1)) (apply wantK_nN; · finish (splits := 3) (ematch := 1)) (apply wantK_s) (apply wantK_sN) (apply rowG_y; · finish (splits := 3) (ematch := 1)) (apply rowG_n; · finish (splits := 3) (ematch := 1)) (apply rowG_yN; · finish (splits := 3) (ematch := 1)) (apply rowG_nN; · finish (splits := 3) (ematch := 1)) (apply rowG_s) (apply rowG_sN) (simp [eIns_eq, cx49_P, cx49_l0, cx49_l1, cx49_l2, cx49_l3, cx49_l4, cx49_l5, cx49_l6, cx49_l7, cx49_l8, cx49_l9, cx49_l10, cx49_pu, Try.f49.eq_1, ty_arrOf_3, ty_arrOf_5, ty_arrOf_72, ty_arrOf_9, ty_hasTy_3, ty_hasTy_5, ty_hasTy_72, ty_intOf_3, ty_intOf_5, ty_intOf_72, ty_isStrTy_9, ty_lay_3, ty_lay_5, ty_slcOf_3, ty_slcOf_5, ty_slcOf_72, ty_slcOf_9, ty_zeroA_3, valK_some, opE_move, opE_assign, opE_load, opE_bin, opE_un, opE_conv, opE_index, ev_seq, ev_skip, ev_label, ev_region, ev_cond, condC_some, brC_true, brC_false, ev_block, ev_scope, ev_exit, ev_ret, nx_seq, nx_seqE, nx_seqR, nx_blk, nx_blkE, nx_blkR, nx_top, nx_topR, topO_some, evR_nil, evR_op, evR_guard, finK_reg, getT_cons, putT_some, putT_none, trimT_some, trimT_none, keepT_nil, keepT_cons, consT_some, consT_none, getT_nil, getO_tmp, getO_const, getO_func, ofC_int, ofC_bool, ofC_ptr, ofC_slc, ofC_map, ofC_fn, getOs_nil, getOs_cons, consO_some, hget_cons, wrap_lit, wrap_neg, top_i64, bot_i64, top_u64, bot_u64, bits_i64, bits_u64, cast_lit, toNat_lit, get_zero, get_succ, take_zero, take_succ, set_zero, set_succ, length_nil, length_cons, append_nil, nil_append, cons_append, toList_arr, bnot_true, bnot_false, band_true, band_false, beq_tt, beq_ff, beq_tf, beq_ft, beq_nat, beq_int, bne_nat, map_some, map_none, true_eq_false, false_eq_true, true_eq_true, fbody_mk, fresults_mk, getD_some, bol_true, binO_some, shr_lit, bin_geq, convO_some, conv_int, size_int, size_bool, size_str, size_ptr, size_nilp, size_slc, size_nils, size_map, size_nilm, size_fn, size_nilf, size_agg, size_rows, sizeL_nil, sizeL_cons, layOK_int, layOK_bool, layOK_str, layOK_ptr, layOK_nilp, layOK_slc, layOK_nils, layOK_map, layOK_nilm, layOK_fn, layOK_nilf, layOK_agg, layOK_rows, isTup_int, isTup_bool, isTup_str, isTup_ptr, isTup_nilp, isTup_slc, isTup_nils, isTup_map, isTup_nilm, isTup_fn, isTup_nilf, isTup_agg, isTup_rows, getP_nil, getP_cons, getS_some, stepP_agg, stepP_rows, loadO_some, loadA_ptr, loadE_cel, loadE_vec, loadE_ro, chkL_some, lkO_some, ixO_some, chO_some, resF_eq, resAll_nil, resAll_cons, resOne_tmp, resOne_cell, tupO_none, tupO_one, tupO_more, argT_nil, argT_cons, lookL_cons, lookL_nil, lookP_cons, mbin_add, mcvI_some, mbin_shr, wrapO_lit, wrapO_neg, mix_rows, mix_str, not_tf, not_ft, and_tf, alt_true, alt_false, bol_false, getS_bol, getS_alt, chkL_bol, chkL_alt, lkO_bol, lkO_alt, chO_bol, consO_bol, consO_bol2, tupO_bol, bol_bol, get_mapB, get_setB, get_appB, len_map, nat_zero_add, take_map, take_self, drop_zero, elemsE_vec, elemsE_ro, elemsE_cel, elemsC_rows, elemsC_bol, conv_slc, conv_nils, cvS_some, cvS_bol, strO_map, strO_win, strO_take, strO_drop, strO_nil, hideH_nil, and_self, and_true, true_and, and_false, false_and]) (apply valK_bolB; · finish (splits := 3) (ematch := 1)) (apply valK_altT; · finish (splits := 3) (ematch := 1)) (apply valK_altF; · finish (splits := 3) (ematch := 1)) (apply valK_altB) (apply brC_t; · finish (splits := 3) (ematch := 1)) (apply brC_f; · finish (splits := 3) (ematch := 1)) (apply brC_sBN) (apply brC_sB) (apply wantK_t; · finish (splits := 3) (ematch := 1)) (apply wantK_f; · finish (splits := 3) (ematch := 1)) (apply wantK_sBN) (apply wantK_sB) (apply rowG_t; · finish (splits := 3) (ematch := 1)) (apply rowG_f; · finish (splits := 3) (ematch := 1)) (apply rowG_sBN) (apply rowG_sB) (intro~ hr) (tactic => (rw [Int.zero_add])))
theorem len_use {p : Int} {H : Hp} {n : Nat} {Q : AV → Hp → Nat → Prop} (h : 0 ≤ p ∧ p < 128) (hq : ∀ w : Int, Imp (w = blI p ∧ 0 ≤ w ∧ w ≤ 7) (Q (.int .i64 w) H n)) : callA Try.prog 49 [.int .u64 p] H n Q := by
  have hb := blN_le p.toNat
  have h2 : 0 ≤ blI p ∧ blI p ≤ 7 := by unfold blI; omega
  exact callA_pure (len_walk h h2) rfl (by rfl) (hq _ ⟨rfl, h2⟩)
/-! ### Bits -/
theorem wrap_u64 (x : Int) : 0 ≤ IntKind.u64.wrap x ∧ IntKind.u64.wrap x ≤ 18446744073709551615 := by
  simp only [IntKind.wrap, IntKind.signed, IntKind.bits]; simp; omega
theorem bit_u64 (op : BinOp) (x y : Int) : 0 ≤ bitI op .u64 x y ∧ bitI op .u64 x y ≤ 18446744073709551615 := by
  unfold bitI bitsF
  cases op <;> dsimp only [Option.getD] <;> first | exact wrap_u64 _ | exact ⟨by decide, by decide⟩
def shW (p b : Int) : Int := IntKind.u64.wrap (p * 2 ^ min b.toNat 64)
section
variable {P : Program} {cx : Cx} {fx : Fx} {kt : Kt} {t : TypeId} {H : Hp} {n : Nat}
theorem valK_or {x y : Int} (hk : ∀ z : Int, Imp (z = bitI .or .u64 x y ∧ 0 ≤ z ∧ z ≤ 18446744073709551615) (ValK cx fx kt (some (.int .u64 z)) H n)) : ValK cx fx kt (binA P .or t (.int .u64 x) (.int .u64 y)) H n := by
  rw [bin_or]; exact hk _ ⟨rfl, bit_u64 _ _ _⟩
theorem valK_shl {k' : IntKind} {p b : Int} (h : 0 ≤ b) (hk : ∀ z : Int, Imp (z = shW p b ∧ 0 ≤ z ∧ z ≤ 18446744073709551615) (ValK cx fx kt (some (.int .u64 z)) H n)) : ValK cx fx kt (binA P .shl t (.int .u64 p) (.int k' b)) H n := by
  rw [bin_shl, if_neg (by omega)]; exact hk _ ⟨rfl, wrap_u64 _⟩
theorem valK_an {c m : Int} (h : bitI .andNot .u8 c m = c % 128) (hk : ValK cx fx kt (some (.int .u8 (c % 128))) H n) : ValK cx fx kt (binA P .andNot t (.int .u8 c) (.int .u8 m)) H n := by
  rw [bin_andNot, h]; exact hk
end
theorem an128 {c : Int} (h : 0 ≤ c ∧ c ≤ 255) : bitI .andNot .u8 c 128 = c % 128 := by
  obtain ⟨m, rfl⟩ := Int.eq_ofNat_of_zero_le h.1
  have := bit_andNot (k := .u8) (m := m) (n := 128) (show m ≤ 255 by omega) (by decide)
  rw [show (128 : Int) = ((128 : Nat) : Int) from rfl, this]
  have e : ∀ m : Nat, m < 256 → m &&& (2 ^ IntKind.bits .u8 - 1 - 128) = m % 128 := by decide
  rw [e m (by omega)]; rfl
/-- Bytes. -/
def okB (l : List Int) : Prop := ∀ a, a ∈ l → 0 ≤ a ∧ a ≤ 255
theorem okB_get {l : List Int} (h : okB l) (i : Nat) : 0 ≤ l.getD i default ∧ l.getD i default ≤ 255 := by
  by_cases hi : i < l.length
  · rw [List.getD_eq_getElem?_getD, List.getElem?_eq_getElem hi]; exact h _ (List.getElem_mem hi)
  · rw [List.getD_eq_getElem?_getD, List.getElem?_eq_none (by omega)]; exact ⟨by decide, by decide⟩
theorem okB_pt {l : List Int} (h : okB l) (i : Nat) : 0 ≤ l.getD i default % 128 ∧ l.getD i default % 128 < 128 := by omega
/-! ### What bytes say -/
def par : Nat → List Int → Option (Int × Nat)
  | _, [] => none
  | i, c :: r => if 64 < 7 * (i : Int) + blI (c % 128) ∨ (c = 0 ∧ 0 < i) then none else if c < 128 then some (c % 128, 1) else (par (i + 1) r).map fun q => (c % 128 + 128 * q.1, q.2 + 1)
def unz (x : Int) : Int := if x % 2 = 0 then x / 2 else -(x / 2) - 1
def rdO (o : Option (Int × Nat)) : Int × Int :=
  match o with
  | some q => (unz q.1, (q.2 : Int))
  | none => (0, 0)
/-- The number with which bytes begin, and how many it has. -/
def rdN (W : List Int) : Int × Int := rdO (par 0 W)
def win (B : List Int) (s len : Nat) : List Int := (B.drop s).take len
theorem win_len {B : List Int} {s len : Nat} (h : s + len ≤ B.length) : (win B s len).length = len := by unfold win; rw [List.length_take, List.length_drop]; omega
theorem win_drop {B : List Int} {s len i : Nat} (h : s + len ≤ B.length) (hi : i < len) : (win B s len).drop i = B.getD (s + i) default :: (win B s len).drop (i + 1) := by
  have hl := win_len h
  rw [List.drop_eq_getElem_cons (by omega)]
  congr 1
  unfold win
  rw [List.getElem_take, List.getElem_drop, List.getD_eq_getElem?_getD, List.getElem?_eq_getElem (by omega)]
  rfl
theorem blN_lt : ∀ p : Nat, p < 128 → p < 2 ^ blN p := by decide
def rdInv (W : List Int) (i : Nat) (x : Int) : Prop := i ≤ W.length ∧ i ≤ 10 ∧ 0 ≤ x ∧ x < 2 ^ (7 * i) ∧ par 0 W = (par i (W.drop i)).map fun q => (x + 2 ^ (7 * i) * q.1, q.2 + i)
theorem rd_start (W : List Int) : rdInv W 0 0 := by
  refine ⟨Nat.zero_le _, Nat.zero_le _, by decide, by decide, ?_⟩
  rw [List.drop_zero]
  cases h : par 0 W <;> simp
theorem rd_end {W : List Int} {i : Nat} {x : Int} (h : rdInv W i x) (he : W.length ≤ i) : par 0 W = none := by
  rw [h.2.2.2.2, List.drop_of_length_le he]; rfl
theorem rd_bad {B : List Int} {s len i : Nat} {x : Int} (hl : s + len ≤ B.length) (h : rdInv (win B s len) i x) (hi : i < len) (hb : 64 < 7 * (i : Int) + blI (B.getD (s + i) default % 128) ∨ (B.getD (s + i) default = 0 ∧ 0 < i)) : par 0 (win B s len) = none := by
  rw [h.2.2.2.2, win_drop hl hi, par, if_pos hb]; rfl
/-- One more part. -/
theorem rd_or {i : Nat} {x c : Int} (hc : 0 ≤ c ∧ c ≤ 255) (hx : 0 ≤ x ∧ x < 2 ^ (7 * i)) (hb : 7 * (i : Int) + blI (c % 128) ≤ 64) : bitI .or .u64 x (shW (c % 128) (7 * (i : Int))) = x + 2 ^ (7 * i) * (c % 128) ∧ x + 2 ^ (7 * i) * (c % 128) < 2 ^ (7 * (i + 1)) := by
  obtain ⟨xn, rfl⟩ := Int.eq_ofNat_of_zero_le hx.1
  obtain ⟨p, hp⟩ := Int.eq_ofNat_of_zero_le (show 0 ≤ c % 128 by omega)
  have hp7 : p < 128 := by omega
  rw [hp] at hb ⊢
  have hbn : 7 * i + blN p ≤ 64 := by unfold blI at hb; rw [Int.toNat_natCast] at hb; omega
  have hlt := blN_lt p hp7
  have hxn : xn < 2 ^ (7 * i) := by have := hx.2; exact_mod_cast this
  have h1 : p * 2 ^ (7 * i) < 2 ^ 64 := by
    have h2 : p * 2 ^ (7 * i) < 2 ^ blN p * 2 ^ (7 * i) := Nat.mul_lt_mul_of_pos_right hlt (Nat.two_pow_pos _)
    have h3 : 2 ^ blN p * 2 ^ (7 * i) ≤ 2 ^ 64 := by rw [← Nat.pow_add]; exact Nat.pow_le_pow_right (by decide) (by omega)
    omega
  have hx64 : xn < 2 ^ 64 := Nat.lt_of_lt_of_le hxn (Nat.pow_le_pow_right (by decide) (by omega))
  have hs : shW ((p : Nat) : Int) (7 * (i : Int)) = ((p <<< (7 * i) : Nat) : Int) := by
    unfold shW
    rw [show min (7 * (i : Int)).toNat 64 = 7 * i by omega, Nat.shiftLeft_eq]
    have : ((p : Nat) : Int) * 2 ^ (7 * i) = ((p * 2 ^ (7 * i) : Nat) : Int) := by push_cast; rfl
    rw [this]
    exact wrap_nat .u64 (by show p * 2 ^ (7 * i) ≤ 18446744073709551615; omega)
  rw [hs, bit_or (show xn ≤ 18446744073709551615 by omega) (show p <<< (7 * i) ≤ 18446744073709551615 by rw [Nat.shiftLeft_eq]; omega), Nat.or_comm, ← Nat.shiftLeft_add_eq_or_of_lt hxn, Nat.shiftLeft_eq]
  refine ⟨by push_cast; rw [Int.mul_comm]; omega, ?_⟩
  have h4 : xn + 2 ^ (7 * i) * p < 2 ^ (7 * (i + 1)) := by
    have h5 : 2 ^ (7 * (i + 1)) = 2 ^ (7 * i) * 128 := by rw [Nat.mul_add, Nat.pow_add]
    have h6 : 2 ^ (7 * i) * p ≤ 2 ^ (7 * i) * 127 := Nat.mul_le_mul_left _ (by omega)
    omega
  exact_mod_cast h4
theorem rd_next {B : List Int} {s len i : Nat} {x z w z1 : Int} (hB : okB B) (hl : s + len ≤ B.length) (h : rdInv (win B s len) i x) (hi : i < len) (hw : w = blI (B.getD (s + i) default % 128) ∧ 0 ≤ w ∧ w ≤ 7) (hz1 : z1 = shW (B.getD (s + i) default % 128) (7 * (i : Int)) ∧ 0 ≤ z1 ∧ z1 ≤ 18446744073709551615) (hz : z = bitI .or .u64 x z1 ∧ 0 ≤ z ∧ z ≤ 18446744073709551615) (h1 : ¬ 64 < 7 * (i : Int) + w) (h2 : ¬ (B.getD (s + i) default = 0 ∧ 0 < i)) :
    (¬ B.getD (s + i) default < 128 → rdInv (win B s len) (i + 1) z) ∧ (B.getD (s + i) default < 128 → par 0 (win B s len) = some (z, i + 1)) := by
  have hc := okB_get hB (s + i)
  rw [hw.1] at h1
  obtain ⟨e1, e2⟩ := rd_or hc ⟨h.2.2.1, h.2.2.2.1⟩ (by omega)
  rw [← hz1.1, ← hz.1] at e1
  have hp := h.2.2.2.2
  rw [win_drop hl hi, par, if_neg (by rintro (h | h); exact h1 h; exact h2 h)] at hp
  have hi10 : i ≤ 9 := by omega
  refine ⟨fun hn => ⟨by rw [win_len hl]; omega, by omega, hz.2.1, by rw [e1]; exact e2, ?_⟩, fun hy => ?_⟩
  · rw [if_neg hn] at hp
    rw [hp, e1]
    cases par (i + 1) ((win B s len).drop (i + 1)) with
    | none => rfl
    | some q =>
      simp only [Option.map_some, Option.some.injEq, Prod.mk.injEq]
      refine ⟨?_, by omega⟩
      rw [show 7 * (i + 1) = 7 * i + 7 by omega, Int.pow_add, Int.mul_add, ← Int.mul_assoc, show (2 : Int) ^ 7 = 128 from rfl]
      omega
  · rw [if_pos hy] at hp
    rw [hp, e1]
    simp only [Option.map_some]
    rw [Nat.add_comm 1 i]
theorem xor_m1 (k : Int) (h : 0 ≤ k ∧ k ≤ 9223372036854775807) : bitI .xor .i64 k (-1) = -k - 1 := by
  obtain ⟨m, rfl⟩ := Int.eq_ofNat_of_zero_le h.1
  unfold bitI bitsF
  simp only [Option.getD_some]
  have e : (BitVec.ofInt IntKind.i64.bits (m : Int) ^^^ BitVec.ofInt IntKind.i64.bits (-1)).toNat = 2 ^ 64 - 1 - m := by
    show (BitVec.ofInt 64 (m : Int) ^^^ BitVec.ofInt 64 (-1)).toNat = _
    rw [show BitVec.ofInt 64 (-1) = BitVec.allOnes 64 by decide, BitVec.xor_allOnes, BitVec.toNat_not, BitVec.toNat_ofInt]
    omega
  rw [e]
  simp only [IntKind.wrap, IntKind.signed, IntKind.bits]
  simp
  omega
theorem xor_0 (k : Int) (h : 0 ≤ k ∧ k ≤ 9223372036854775807) : bitI .xor .i64 k 0 = k := by
  obtain ⟨m, rfl⟩ := Int.eq_ofNat_of_zero_le h.1
  have := bit_xor (k := .i64) (m := m) (n := 0) (show m ≤ 9223372036854775807 by omega) (by decide)
  rw [show (0 : Int) = ((0 : Nat) : Int) from rfl, this, Nat.xor_zero]
theorem rd_val {z : Int} (h : 0 ≤ z ∧ z ≤ 18446744073709551615) : bitI .xor .i64 (z / 2) (0 - z % 2) = unz z := by
  unfold unz
  by_cases h2 : z % 2 = 0
  · rw [if_pos h2, h2]; exact xor_0 _ (by omega)
  · rw [if_neg h2, show 0 - z % 2 = -1 by omega]; exact xor_m1 _ (by omega)
theorem rd_b {B : List Int} {s len i : Nat} {x w : Int} (hl : s + len ≤ B.length) (h : rdInv (win B s len) i x) (hi : (i : Int) < (len : Int)) (hw : w = blI (B.getD (s + i) default % 128) ∧ 0 ≤ w ∧ w ≤ 7) (hb : 64 < 7 * (i : Int) + w) : 0 = (rdN (win B s len)).1 ∧ 0 = (rdN (win B s len)).2 := by
  rw [hw.1] at hb
  rw [rdN, rd_bad hl h (by omega) (.inl hb)]; exact ⟨rfl, rfl⟩
theorem rd_b2 {B : List Int} {s len i : Nat} {x : Int} (hl : s + len ≤ B.length) (h : rdInv (win B s len) i x) (hi : (i : Int) < (len : Int)) (h1 : B.getD (s + i) default = 0) (h2 : 0 < (i : Int)) : 0 = (rdN (win B s len)).1 ∧ 0 = (rdN (win B s len)).2 := by
  rw [rdN, rd_bad hl h (by omega) (.inr ⟨h1, by omega⟩)]; exact ⟨rfl, rfl⟩
theorem rd_go {B : List Int} {s len i : Nat} {x z w z1 : Int} (hB : okB B) (hl : s + len ≤ B.length) (h : rdInv (win B s len) i x) (hi : (i : Int) < (len : Int)) (hw : w = blI (B.getD (s + i) default % 128) ∧ 0 ≤ w ∧ w ≤ 7) (h1 : ¬ 64 < 7 * (i : Int) + w) (h2 : ¬ B.getD (s + i) default = 0) (hz1 : z1 = shW (B.getD (s + i) default % 128) (7 * (i : Int)) ∧ 0 ≤ z1 ∧ z1 ≤ 18446744073709551615) (hz : z = bitI .or .u64 x z1 ∧ 0 ≤ z ∧ z ≤ 18446744073709551615) (hn : ¬ B.getD (s + i) default < 128) : rdInv (win B s len) (i + 1) z :=
  (rd_next hB hl h (by omega) hw hz1 hz h1 (fun hh => h2 hh.1)).1 hn
theorem rd_r1 {B : List Int} {s len i : Nat} {x z w z1 : Int} (hB : okB B) (hl : s + len ≤ B.length) (h : rdInv (win B s len) i x) (hi : (i : Int) < (len : Int)) (hw : w = blI (B.getD (s + i) default % 128) ∧ 0 ≤ w ∧ w ≤ 7) (h1 : ¬ 64 < 7 * (i : Int) + w) (h2 : B.getD (s + i) default = 0) (h3 : ¬ 0 < (i : Int)) (hz1 : z1 = shW (B.getD (s + i) default % 128) (7 * (i : Int)) ∧ 0 ≤ z1 ∧ z1 ≤ 18446744073709551615) (hz : z = bitI .or .u64 x z1 ∧ 0 ≤ z ∧ z ≤ 18446744073709551615) :
    bitI .xor .i64 (z / 2 ^ min 1 64) (0 - z % 2) = (rdN (win B s len)).1 ∧ (i : Int) + 1 = (rdN (win B s len)).2 := by
  have := (rd_next hB hl h (by omega) hw hz1 hz h1 (fun hh => h3 (by omega))).2 (by omega)
  rw [rdN, this]
  exact ⟨rd_val ⟨hz.2.1, hz.2.2⟩, rfl⟩
theorem rd_r2 {B : List Int} {s len i : Nat} {x z w z1 : Int} (hB : okB B) (hl : s + len ≤ B.length) (h : rdInv (win B s len) i x) (hi : (i : Int) < (len : Int)) (hw : w = blI (B.getD (s + i) default % 128) ∧ 0 ≤ w ∧ w ≤ 7) (h1 : ¬ 64 < 7 * (i : Int) + w) (h2 : ¬ B.getD (s + i) default = 0) (hz1 : z1 = shW (B.getD (s + i) default % 128) (7 * (i : Int)) ∧ 0 ≤ z1 ∧ z1 ≤ 18446744073709551615) (hz : z = bitI .or .u64 x z1 ∧ 0 ≤ z ∧ z ≤ 18446744073709551615) (h4 : B.getD (s + i) default < 128) :
    bitI .xor .i64 (z / 2 ^ min 1 64) (0 - z % 2) = (rdN (win B s len)).1 ∧ (i : Int) + 1 = (rdN (win B s len)).2 := by
  have := (rd_next hB hl h (by omega) hw hz1 hz h1 (fun hh => h2 hh.1)).2 h4
  rw [rdN, this]
  exact ⟨rd_val ⟨hz.2.1, hz.2.2⟩, rfl⟩
theorem rd_fin {B : List Int} {s len i : Nat} {x : Int} (hl : s + len ≤ B.length) (h : rdInv (win B s len) i x) (hi : ¬ (i : Int) < (len : Int)) : i = len ∧ par 0 (win B s len) = none := by
  have := h.1
  rw [win_len hl] at this
  exact ⟨by omega, rd_end h (by rw [win_len hl]; omega)⟩
theorem rd_meas {i len : Nat} (hi : (i : Int) < (len : Int)) : len - (i + 1) < len - i := by omega
theorem nx_at {cx : Cx} {fx : Fx} {e : Ex} {st st' : St} {k : Kd} (h : Nx cx fx e st k) (he : st' = st) : Nx cx fx e st' k := he ▸ h
noncomputable def cx44 : Cx := ⟨Try.prog, [], [], [(0, [0]), (1, [5, 4, 0]), (2, [11, 10, 9, 5, 4]), (3, [12, 11, 10, 9, 5, 4]), (4, [11, 10, 9, 7, 6, 5, 4]), (5, [11, 10, 9, 8, 7, 6, 5, 4]), (6, [31, 11, 10, 9, 8, 7, 6, 5, 4]), (7, [3, 2]), (8, [11, 10, 9, 7, 6, 5, 4]), (9, [38, 11, 10, 9, 6, 5, 4]), (10, [3, 2]), (11, [11, 10, 9, 5, 4]), (12, [11, 10, 9, 5, 4]), (13, [3, 2])]⟩
theorem cx44_P : cx44.P = Try.prog := rfl
theorem cx44_l0 : lookL 0 cx44.lv = some [0] := rfl
theorem cx44_l1 : lookL 1 cx44.lv = some [5, 4, 0] := rfl
theorem cx44_l2 : lookL 2 cx44.lv = some [11, 10, 9, 5, 4] := rfl
theorem cx44_l3 : lookL 3 cx44.lv = some [12, 11, 10, 9, 5, 4] := rfl
theorem cx44_l4 : lookL 4 cx44.lv = some [11, 10, 9, 7, 6, 5, 4] := rfl
theorem cx44_l5 : lookL 5 cx44.lv = some [11, 10, 9, 8, 7, 6, 5, 4] := rfl
theorem cx44_l6 : lookL 6 cx44.lv = some [31, 11, 10, 9, 8, 7, 6, 5, 4] := rfl
theorem cx44_l7 : lookL 7 cx44.lv = some [3, 2] := rfl
theorem cx44_l8 : lookL 8 cx44.lv = some [11, 10, 9, 7, 6, 5, 4] := rfl
theorem cx44_l9 : lookL 9 cx44.lv = some [38, 11, 10, 9, 6, 5, 4] := rfl
theorem cx44_l10 : lookL 10 cx44.lv = some [3, 2] := rfl
theorem cx44_l11 : lookL 11 cx44.lv = some [11, 10, 9, 5, 4] := rfl
theorem cx44_l12 : lookL 12 cx44.lv = some [11, 10, 9, 5, 4] := rfl
theorem cx44_l13 : lookL 13 cx44.lv = some [3, 2] := rfl
theorem cx44_pu : cx44.pu = [] := rfl
theorem cx44_ok : okc cx44 Try.f44.ntmps (Try.f44.body.getD .skip) = true := by kernel_rfl
theorem enter44 {args : List AV} {H : Hp} {n : Nat} {Q : AV → Hp → Nat → Prop} (h : args.length ≤ 52 ∧ Ev cx44 ⟨52, n, none, 44⟩ (Try.f44.body.getD .skip) ⟨argT 0 args, H, n⟩ (.top Try.f44.results.toList Q)) : callA Try.prog 44 args H n Q :=
  callA_ev (cx := cx44) puOk_nil (f := 44) (fn := Try.f44) Try.func44 rfl (by kernel_rfl) h.1 cx44_ok h.2
structure RdA where
  i : Nat
  x : Int
theorem read_loop {c : Code} {k : Kd} {B : List Int} {a0 s len cap : Nat} (hcd : (subC [1, 1, 0, 1, 0, 0] (Try.f44.body.getD .skip)) = c) (hB : okB B) (h : s + len ≤ B.length ∧ len ≤ cap ∧ len ≤ 1000000)
    (hexit : ∀ x : Int, Imp (par 0 (win B s len) = none) (Nx cx44 ⟨52, 1, none, 44⟩ (.exi 0) ⟨[(12, .bool false), (11, .int .i64 len), (10, .int .i64 len), (9, .slc 0 0 [] 1 a0 s len cap), (5, .int .i64 (7 * (len : Int))), (4, .int .u64 x)], [(0, .ro fun _ => .rows 1 (B.map (AV.int .u8)))], 1⟩ k))
    (hret : ∀ v1 v2 : Int, Imp (v1 = (rdN (win B s len)).1 ∧ v2 = (rdN (win B s len)).2) (∀ H n, Nx cx44 ⟨52, 1, none, 44⟩ .ret ⟨[(3, .int .i64 v2), (2, .int .i64 v1)], H, n⟩ k)) :
    LoopS cx44 ⟨52, 1, none, 44⟩ c ⟨[(11, .int .i64 0), (10, .int .i64 len), (9, .slc 0 0 [] 1 a0 s len cap), (5, .int .i64 0), (4, .int .u64 0)], [(0, .ro fun _ => .rows 1 (B.map (AV.int .u8)))], 1⟩ k := by
  subst hcd
  refine loop_par (fun a : RdA => ⟨[(11, .int .i64 a.i), (10, .int .i64 len), (9, .slc 0 0 [] 1 a0 s len cap), (5, .int .i64 (7 * (a.i : Int))), (4, .int .u64 a.x)], [(0, .ro fun _ => .rows 1 (B.map (AV.int .u8)))], 1⟩) (fun a => rdInv (win B s len) a.i a.x) (fun a => len - a.i) ?_ ⟨0, 0⟩ (rd_start _)
  intro a hi J hJ
  show Ev _ _ _ _ _
  sym =>
    repeat (first (apply enter44) (apply valK_or) (apply valK_shl; · finish (splits := 40) (ematch := 1)) (apply valK_an; (tactic => exact an128 (okB_get hB _))) (apply len_use; (tactic => exact okB_pt hB _)) (apply imp_go; intro hp) (apply valK_w64; · finish (splits := 3) (ematch := 1)) (apply valK_wu8; · finish (splits := 3) (ematch := 1)) (apply valK_wu64; · finish (splits := 3) (ematch := 1)) (apply valK_w32; · finish (splits := 3) (ematch := 1)) (apply valK_wu16; · finish (splits := 3) (ematch := 1)) (apply valK_wu32; · finish (splits := 3) (ematch := 1)) (apply valK_wr) (apply valK_andR) (apply valK_quo; · finish (splits := 3) (ematch := 1)) (apply valK_quoR; · finish (splits := 3) (ematch := 1)) (apply valK_rem; · finish (splits := 3) (ematch := 1)) (apply valK_remR; · finish (splits := 3) (ematch := 1)) (apply valK_bol; · finish (splits := 3) (ematch := 1)) (apply effK_bol; · finish (splits := 3) (ematch := 1)) (apply newK_bol; · finish (splits := 3) (ematch := 1)) (apply appK_bol; · finish (splits := 3) (ematch := 1)) (apply topO_bol; · finish (splits := 3) (ematch := 1)) (apply valK_altY; · finish (splits := 3) (ematch := 1)) (apply valK_altN; · finish (splits := 3) (ematch := 1)) (apply effK_altY; · finish (splits := 3) (ematch := 1)) (apply effK_altN; · finish (splits := 3) (ematch := 1)) (apply valK_altNY; · finish (splits := 3) (ematch := 1)) (apply valK_altNN; · finish (splits := 3) (ematch := 1)) (apply valK_altS) (apply valK_altNS) (apply effK_altS) (apply appS_go) (apply brC_y; · finish (splits := 3) (ematch := 1)) (apply brC_n; · finish (splits := 3) (ematch := 1)) (apply brC_yN; · finish (splits := 3) (ematch := 1)) (apply brC_nN; · finish (splits := 3) (ematch := 1)) (apply brC_s) (apply brC_sN) (apply wantK_y; · finish (splits := 3) (ematch := 1)) (apply wantK_n; · finish (splits := 3) (ematch := 1)) (apply wantK_yN; · finish (splits := 3) (ematch := 1)) (apply wantK_nN; · finish (splits := 3) (ematch := 1)) (apply wantK_s) (apply wantK_sN) (apply rowG_y; · finish (splits := 3) (ematch := 1)) (apply rowG_n; · finish (splits := 3) (ematch := 1)) (apply rowG_yN; · finish (splits := 3) (ematch := 1)) (apply rowG_nN; · finish (splits := 3) (ematch := 1)) (apply rowG_s) (apply rowG_sN) (simp [Int.toNat_natCast, eIns_eq, cx44_P, cx44_l0, cx44_l1, cx44_l2, cx44_l3, cx44_l4, cx44_l5, cx44_l6, cx44_l7, cx44_l8, cx44_l9, cx44_l10, cx44_l11, cx44_l12, cx44_l13, cx44_pu, Try.f44.eq_1, ty_arrOf_3, ty_arrOf_39, ty_arrOf_5, ty_arrOf_72, ty_bytesE_39, ty_hasTy_3, ty_hasTy_39, ty_hasTy_5, ty_hasTy_72, ty_intOf_3, ty_intOf_5, ty_intOf_72, ty_isByteSlc_39, ty_lay_3, ty_lay_39, ty_lay_5, ty_notInt_39, ty_slcOf_3, ty_slcOf_39, ty_slcOf_5, ty_slcOf_72, ty_zeroA_3, ty_zeroE_39, valK_some, opE_move, opE_assign, opE_pick, opE_load, opE_bin, opE_un, opE_conv, opE_indexAddr, opE_len, callK_fn, callK_yld, callG_some, callG_none, opE_call_r, ev_seq, ev_skip, ev_label, ev_region, ev_cond, condC_some, brC_true, brC_false, ev_block, ev_scope, ev_exit, ev_ret, ev_loop, nx_seq, nx_seqE, nx_seqR, nx_blk, nx_blkE, nx_blkR, nx_loop, nx_loopE, nx_loopR, nx_inv, nx_invE, nx_invR, nx_top, nx_topR, topO_some, evR_nil, wantK_tup, wantK_tt, wantK_ff, wantK_tf, wantK_ft, evR_op, evR_guard, finK_reg, getT_cons, putT_some, putT_none, trimT_some, trimT_none, keepT_nil, keepT_cons, consT_some, consT_none, getT_nil, getO_tmp, getO_const, getO_func, ofC_int, ofC_bool, ofC_ptr, ofC_slc, ofC_map, ofC_fn, getOs_nil, getOs_cons, consO_some, guardT_eq, guardO_some, hget_cons, wrap_lit, wrap_neg, top_i64, bot_i64, top_u8, bot_u8, top_u64, bot_u64, bits_u8, bits_i64, bits_u64, cast_lit, toNat_lit, get_zero, get_succ, take_zero, take_succ, set_zero, set_succ, length_nil, length_cons, append_nil, nil_append, cons_append, toList_arr, bnot_true, bnot_false, band_true, band_false, beq_tt, beq_ff, beq_tf, beq_ft, beq_nat, beq_int, bne_nat, map_some, map_none, true_eq_false, false_eq_true, true_eq_true, fbody_mk, fresults_mk, getD_some, bol_true, binO_some, shr_lit, bin_eql, bin_lss, bin_gtr, bin_xor, bin_beql, bin_bneq, bin_seql, bin_sneq, eqO_eq, eqO_ne, bin_aeql, bin_aneq, bin_reql, bin_rneq, aggEq_some, flatL_nil, flatL_cons, appV_some, flatV_int, flatV_bool, flatV_agg, flatV_rows, bin_feql, bin_fneq, bin_nfeql, bin_nfneq, bin_peql, bin_pneq, bin_npeql, bin_npneq, unO_some, un_not, convO_some, conv_int, pickA_true, pickA_false, size_int, size_bool, size_str, size_ptr, size_nilp, size_slc, size_nils, size_map, size_nilm, size_fn, size_yld, size_nilf, size_agg, size_rows, sizeL_nil, sizeL_cons, layOK_int, layOK_bool, layOK_str, layOK_ptr, layOK_nilp, layOK_slc, layOK_nils, layOK_map, layOK_nilm, layOK_fn, layOK_yld, layOK_nilf, layOK_agg, layOK_rows, isTup_int, isTup_bool, isTup_str, isTup_ptr, isTup_nilp, isTup_slc, isTup_nils, isTup_map, isTup_nilm, isTup_fn, isTup_yld, isTup_nilf, isTup_agg, isTup_rows, getP_nil, getP_cons, getS_some, stepP_agg, stepP_rows, loadO_some, loadA_ptr, loadE_cel, loadE_vec, loadE_ro, chkL_some, iaO_some, slN_some, builtO_some, len_slc, len_nils, len_rows, arN_some, resF_eq, resAll_nil, resAll_cons, resOne_tmp, resOne_cell, tupO_none, tupO_one, tupO_more, argT_nil, argT_cons, lookU_nil, lookU_cons, lookL_cons, lookL_nil, lookP_cons, roundS_eq, mbin_add, mun_neg, mcvI_some, mbin_shr, wrapO_lit, wrapO_neg, mia_ptr, mia_slc, not_tf, not_ft, and_tf, not_not_b, alt_true, alt_false, pick_alt, bol_false, getS_bol, getS_alt, chkL_bol, chkL_alt, consO_bol, consO_bol2, tupO_bol, eqO_bol, bol_bol, get_mapB, get_setB, get_appB, len_map, nat_zero_add, take_map, take_self, drop_zero, elemsE_vec, elemsE_ro, elemsE_cel, elemsC_rows, elemsC_bol, bin_nsleql, bin_nslneq, bin_nnleql, bin_nnlneq, slN_bol, conv_slc, conv_nils, cvS_some, cvS_bol, strO_map, strO_win, strO_take, strO_drop, strO_nil, beq_str, subC_nil, subC_seq0, subC_seq1, subC_cond0, subC_cond1, subC_block, subC_scope, subC_loop, subC_ran0, subC_ran1, bitI_and_lit, bitI_or_lit, bitI_xor_lit, bitI_andNot_lit, mbin_and, andO_lit, andO_1, andO_3, andO_7, andO_15, hideH_nil, and_self, and_true, true_and, and_false, false_and]) (apply valK_bolB; · finish (splits := 3) (ematch := 1)) (apply valK_altT; · finish (splits := 3) (ematch := 1)) (apply valK_altF; · finish (splits := 3) (ematch := 1)) (apply valK_altB) (apply brC_t; · finish (splits := 3) (ematch := 1)) (apply brC_f; · finish (splits := 3) (ematch := 1)) (apply brC_sBN) (apply brC_sB) (apply wantK_t; · finish (splits := 3) (ematch := 1)) (apply wantK_f; · finish (splits := 3) (ematch := 1)) (apply wantK_sBN) (apply wantK_sB) (apply rowG_t; · finish (splits := 3) (ematch := 1)) (apply rowG_f; · finish (splits := 3) (ematch := 1)) (apply rowG_sBN) (apply rowG_sB) (intro~ hr) (tactic => first | (rename_i q1 q2; exact hret _ _ (rd_b h.1 hi q1 q2 hp) _ _) | (refine hret _ _ (rd_b2 h.1 hi ?_ ?_ ?_) _ _ <;> assumption) | (rename_i q1 w q2 q3 q4 z1 q5 q6; exact hret _ _ (rd_r2 hB h.1 hi q1 q2 q3 q4 q5 q6 hp) _ _) | (rename_i q1 w q2 q3 q4 q5 z1 q6; exact hret _ _ (rd_r1 hB h.1 hi q1 q2 q3 q4 q5 q6 hp) _ _) | (refine nx_at (hexit a.x (rd_fin h.1 hi hp).2) ?_; rw [if_neg hp, (rd_fin h.1 hi hp).1]) | (rename_i q1 w q2 q3 q4 z1 q5 q6; refine hJ [0] ⟨a.i + 1, hr⟩ _ (reid_of rfl (by decide) rfl ?_ ?_ (ndB_nodup rfl) ?_) (rd_go hB h.1 hi q1 q2 q3 q4 q5 q6 hp) (rd_meas q1) <;> simp [subT, subH, okW, getT, hget, hset, hdel, idx, AV.ren, renL, Ent.ren, Ent.writes, renL_ints, Int.mul_add]) | (trace_state; exact test_fail)))
theorem rd_none {W : List Int} (h : par 0 W = none) : rdN W = (0, 0) := by rw [rdN, h]; rfl
theorem read_walk {B : List Int} {a0 s len cap : Nat} (hB : okB B) (h : s + len ≤ B.length ∧ len ≤ cap ∧ len ≤ 1000000) : callA Try.prog 44 [.slc 0 0 [] 1 a0 s len cap] [(0, .ro fun _ => .rows 1 (B.map (AV.int .u8)))] 1 fun v _ _ => v = .tup [.int .i64 (rdN (win B s len)).1, .int .i64 (rdN (win B s len)).2] := by
  sym =>
    repeat (first (apply enter44) (apply read_loop; (tactic => rfl); (tactic => exact hB); (tactic => exact h)) (apply imp_go; intro hp) (apply valK_w64; · finish (splits := 3) (ematch := 1)) (apply valK_wu8; · finish (splits := 3) (ematch := 1)) (apply valK_wu64; · finish (splits := 3) (ematch := 1)) (apply valK_w32; · finish (splits := 3) (ematch := 1)) (apply valK_wu16; · finish (splits := 3) (ematch := 1)) (apply valK_wu32; · finish (splits := 3) (ematch := 1)) (apply valK_wr) (apply valK_andR) (apply valK_quo; · finish (splits := 3) (ematch := 1)) (apply valK_quoR; · finish (splits := 3) (ematch := 1)) (apply valK_rem; · finish (splits := 3) (ematch := 1)) (apply valK_remR; · finish (splits := 3) (ematch := 1)) (apply valK_bol; · finish (splits := 3) (ematch := 1)) (apply effK_bol; · finish (splits := 3) (ematch := 1)) (apply newK_bol; · finish (splits := 3) (ematch := 1)) (apply appK_bol; · finish (splits := 3) (ematch := 1)) (apply topO_bol; · finish (splits := 3) (ematch := 1)) (apply valK_altY; · finish (splits := 3) (ematch := 1)) (apply valK_altN; · finish (splits := 3) (ematch := 1)) (apply effK_altY; · finish (splits := 3) (ematch := 1)) (apply effK_altN; · finish (splits := 3) (ematch := 1)) (apply valK_altNY; · finish (splits := 3) (ematch := 1)) (apply valK_altNN; · finish (splits := 3) (ematch := 1)) (apply valK_altS) (apply valK_altNS) (apply effK_altS) (apply appS_go) (apply brC_y; · finish (splits := 3) (ematch := 1)) (apply brC_n; · finish (splits := 3) (ematch := 1)) (apply brC_yN; · finish (splits := 3) (ematch := 1)) (apply brC_nN; · finish (splits := 3) (ematch := 1)) (apply brC_s) (apply brC_sN) (apply wantK_y; · finish (splits := 3) (ematch := 1)) (apply wantK_n; · finish (splits := 3) (ematch := 1)) (apply wantK_yN; · finish (splits := 3) (ematch := 1)) (apply wantK_nN; · finish (splits := 3) (ematch := 1)) (apply wantK_s) (apply wantK_sN) (apply rowG_y; · finish (splits := 3) (ematch := 1)) (apply rowG_n; · finish (splits := 3) (ematch := 1)) (apply rowG_yN; · finish (splits := 3) (ematch := 1)) (apply rowG_nN; · finish (splits := 3) (ematch := 1)) (apply rowG_s) (apply rowG_sN) (simp [eIns_eq, cx44_P, cx44_l0, cx44_l1, cx44_l2, cx44_l3, cx44_l4, cx44_l5, cx44_l6, cx44_l7, cx44_l8, cx44_l9, cx44_l10, cx44_l11, cx44_l12, cx44_l13, cx44_pu, Try.f44.eq_1, ty_arrOf_3, ty_arrOf_39, ty_arrOf_5, ty_arrOf_72, ty_bytesE_39, ty_hasTy_3, ty_hasTy_39, ty_hasTy_5, ty_hasTy_72, ty_intOf_3, ty_intOf_5, ty_intOf_72, ty_isByteSlc_39, ty_lay_3, ty_lay_39, ty_lay_5, ty_notInt_39, ty_slcOf_3, ty_slcOf_39, ty_slcOf_5, ty_slcOf_72, ty_zeroA_3, ty_zeroE_39, valK_some, opE_move, opE_assign, opE_pick, opE_load, opE_bin, opE_un, opE_conv, opE_indexAddr, opE_len, callK_fn, callK_yld, callG_some, callG_none, opE_call_r, ev_seq, ev_skip, ev_label, ev_region, ev_cond, condC_some, brC_true, brC_false, ev_block, ev_scope, ev_exit, ev_ret, ev_loop, nx_seq, nx_seqE, nx_seqR, nx_blk, nx_blkE, nx_blkR, nx_loop, nx_loopE, nx_loopR, nx_inv, nx_invE, nx_invR, nx_top, nx_topR, topO_some, evR_nil, wantK_tup, wantK_tt, wantK_ff, wantK_tf, wantK_ft, evR_op, evR_guard, finK_reg, getT_cons, putT_some, putT_none, trimT_some, trimT_none, keepT_nil, keepT_cons, consT_some, consT_none, getT_nil, getO_tmp, getO_const, getO_func, ofC_int, ofC_bool, ofC_ptr, ofC_slc, ofC_map, ofC_fn, getOs_nil, getOs_cons, consO_some, guardT_eq, guardO_some, hget_cons, wrap_lit, wrap_neg, top_i64, bot_i64, top_u8, bot_u8, top_u64, bot_u64, bits_u8, bits_i64, bits_u64, cast_lit, toNat_lit, get_zero, get_succ, take_zero, take_succ, set_zero, set_succ, length_nil, length_cons, append_nil, nil_append, cons_append, toList_arr, bnot_true, bnot_false, band_true, band_false, beq_tt, beq_ff, beq_tf, beq_ft, beq_nat, beq_int, bne_nat, map_some, map_none, true_eq_false, false_eq_true, true_eq_true, fbody_mk, fresults_mk, getD_some, bol_true, binO_some, shr_lit, bin_eql, bin_lss, bin_gtr, bin_or, bin_xor, bin_andNot, bin_beql, bin_bneq, bin_seql, bin_sneq, eqO_eq, eqO_ne, bin_aeql, bin_aneq, bin_reql, bin_rneq, aggEq_some, flatL_nil, flatL_cons, appV_some, flatV_int, flatV_bool, flatV_agg, flatV_rows, bin_feql, bin_fneq, bin_nfeql, bin_nfneq, bin_peql, bin_pneq, bin_npeql, bin_npneq, unO_some, un_not, convO_some, conv_int, pickA_true, pickA_false, size_int, size_bool, size_str, size_ptr, size_nilp, size_slc, size_nils, size_map, size_nilm, size_fn, size_yld, size_nilf, size_agg, size_rows, sizeL_nil, sizeL_cons, layOK_int, layOK_bool, layOK_str, layOK_ptr, layOK_nilp, layOK_slc, layOK_nils, layOK_map, layOK_nilm, layOK_fn, layOK_yld, layOK_nilf, layOK_agg, layOK_rows, isTup_int, isTup_bool, isTup_str, isTup_ptr, isTup_nilp, isTup_slc, isTup_nils, isTup_map, isTup_nilm, isTup_fn, isTup_yld, isTup_nilf, isTup_agg, isTup_rows, getP_nil, getP_cons, getS_some, stepP_agg, stepP_rows, loadO_some, loadA_ptr, loadE_cel, loadE_vec, loadE_ro, chkL_some, iaO_some, slN_some, builtO_some, len_slc, len_nils, len_rows, arN_some, resF_eq, resAll_nil, resAll_cons, resOne_tmp, resOne_cell, tupO_none, tupO_one, tupO_more, argT_nil, argT_cons, lookU_nil, lookU_cons, lookL_cons, lookL_nil, lookP_cons, roundS_eq, mbin_add, mun_neg, mcvI_some, mbin_shl, mbin_shr, wrapO_lit, wrapO_neg, mia_ptr, mia_slc, not_tf, not_ft, and_tf, not_not_b, alt_true, alt_false, pick_alt, bol_false, getS_bol, getS_alt, chkL_bol, chkL_alt, consO_bol, consO_bol2, tupO_bol, eqO_bol, bol_bol, get_mapB, get_setB, get_appB, len_map, nat_zero_add, take_map, take_self, drop_zero, elemsE_vec, elemsE_ro, elemsE_cel, elemsC_rows, elemsC_bol, bin_nsleql, bin_nslneq, bin_nnleql, bin_nnlneq, slN_bol, conv_slc, conv_nils, cvS_some, cvS_bol, strO_map, strO_win, strO_take, strO_drop, strO_nil, beq_str, subC_nil, subC_seq0, subC_seq1, subC_cond0, subC_cond1, subC_block, subC_scope, subC_loop, subC_ran0, subC_ran1, bitI_and_lit, bitI_or_lit, bitI_xor_lit, bitI_andNot_lit, mbin_and, andO_lit, andO_1, andO_3, andO_7, andO_15, hideH_nil, and_self, and_true, true_and, and_false, false_and]) (apply valK_bolB; · finish (splits := 3) (ematch := 1)) (apply valK_altT; · finish (splits := 3) (ematch := 1)) (apply valK_altF; · finish (splits := 3) (ematch := 1)) (apply valK_altB) (apply brC_t; · finish (splits := 3) (ematch := 1)) (apply brC_f; · finish (splits := 3) (ematch := 1)) (apply brC_sBN) (apply brC_sB) (apply wantK_t; · finish (splits := 3) (ematch := 1)) (apply wantK_f; · finish (splits := 3) (ematch := 1)) (apply wantK_sBN) (apply wantK_sB) (apply rowG_t; · finish (splits := 3) (ematch := 1)) (apply rowG_f; · finish (splits := 3) (ematch := 1)) (apply rowG_sBN) (apply rowG_sB) (intro~ hr) (tactic => first | (rw [rd_none hp]; done) | (rw [hp.1, hp.2]; done) | (trace_state; exact test_fail)))
end Go.Proofs.Ytngjfoajgedgjaa
