/-
  Chapter 17: the law PoolSets.
-/
import Derived.Test.YtbkmhkeihbgcfaaPe
set_option linter.unusedVariables false
set_option linter.unusedSimpArgs false
set_option maxRecDepth 10000
set_option maxHeartbeats 0
namespace Go.Proofs.Ytbkmhkeihbgcfaa
open Go.Y
noncomputable def cx18 : Cx := ⟨Try.prog, [], [], [(0, [2, 1, 0]), (1, [10, 2, 1, 0]), (2, [6]), (3, []), (4, [6])]⟩
theorem cx18_P : cx18.P = Try.prog := rfl
theorem cx18_l0 : lookL 0 cx18.lv = some [2, 1, 0] := rfl
theorem cx18_l1 : lookL 1 cx18.lv = some [10, 2, 1, 0] := rfl
theorem cx18_l2 : lookL 2 cx18.lv = some [6] := rfl
theorem cx18_l3 : lookL 3 cx18.lv = some [] := rfl
theorem cx18_l4 : lookL 4 cx18.lv = some [6] := rfl
theorem cx18_pu : cx18.pu = [] := rfl
theorem cx18_ok : okc cx18 Try.f18.ntmps (Try.f18.body.getD .skip) = true := by kernel_rfl
theorem enter18 {args : List AV} {H : Hp} {n : Nat} {Q : AV → Hp → Nat → Prop} (h : args.length ≤ 19 ∧ Ev cx18 ⟨19, n, none, 18⟩ (Try.f18.body.getD .skip) ⟨argT 0 args, H, n⟩ (.top Try.f18.results.toList Q)) : callA Try.prog 18 args H n Q :=
  callA_ev (cx := cx18) puOk_nil (f := 18) (fn := Try.f18) Try.func18 rfl (by kernel_rfl) h.1 cx18_ok h.2
def down : Nat → List Int
  | 0 => []
  | n + 1 => (n : Int) :: down n
theorem down_len : ∀ n, (down n).length = n
  | 0 => rfl
  | n + 1 => by rw [down, List.length_cons, down_len n]
theorem down_mem : ∀ {n : Nat} {j : Int}, j ∈ down n → 0 ≤ j ∧ j < n
  | 0, j, h => absurd h List.not_mem_nil
  | n + 1, j, h => by
    rcases List.mem_cons.1 h with h | h
    · omega
    · have := down_mem h; omega
theorem mem_down : ∀ {n : Nat} {j : Int}, 0 ≤ j ∧ j < n → j ∈ down n
  | 0, j, h => by omega
  | n + 1, j, h => by
    by_cases e : j = n
    · rw [e]; exact List.mem_cons_self ..
    · exact List.mem_cons_of_mem _ (mem_down (by omega))
theorem down_nodup : ∀ n, (down n).Nodup
  | 0 => List.nodup_nil
  | n + 1 => by
    rw [down, List.nodup_cons]
    exact ⟨fun h => by have := down_mem h; omega, down_nodup n⟩
theorem down_get : ∀ {n q : Nat}, q < n → (down n).getD q default = (n : Int) - 1 - q
  | 0, q, h => by omega
  | n + 1, 0, h => by simp [down]
  | n + 1, q + 1, h => by
    have := down_get (n := n) (q := q) (by omega)
    simp only [down, List.getD_cons_succ]
    rw [this]; omega
theorem chain_stk (xs : List Int) : ∀ m, m ≤ xs.length → chainP (stk xs) ((m : Int) - 1) (down m)
  | 0, _ => by
    show takenP (stk xs) _ = false
    rw [stk_taken, if_neg (by omega)]
  | m + 1, h => by
    refine ⟨by omega, ?_, ?_⟩
    · rw [stk_taken, if_pos (by omega)]
    · rw [show ((m : Int)).toNat = m by omega, stk_get (by omega)]
      exact chain_stk xs m (by omega)
theorem stk_things (xs : List Int) : ∀ m, m ≤ xs.length → (down m).map (tgV (stk xs)) = (xs.take m).reverse.map (AV.int .i64)
  | 0, _ => rfl
  | m + 1, h => by
    rw [down, List.map_cons, stk_things xs m (by omega), List.take_add_one, List.getElem?_eq_getElem (by omega)]
    simp only [Option.toList_some, List.reverse_append, List.reverse_cons, List.reverse_nil, List.nil_append, List.singleton_append, List.map_cons]
    congr 1
    rw [tgV, gX, show ((m : Int)).toNat = m by omega, stk_get (by omega), List.getD_eq_getElem?_getD, List.getElem?_eq_getElem (by omega)]
    rfl
theorem gone_stk_use {k m len cap : Nat} {xs : List Int} {room free live mst h : Int} {H : Hp} {n : Nat} {Q : AV → Hp → Nat → Prop} (hk : hget k H = some (.cel (.agg [.int .i64 room, .int .i64 free, .int .i64 live, .int .i64 mst, .slc m 0 [] 3 0 0 len cap]))) (hm : hget m H = some (.vec cap 3 ((stk xs).map nodeV)))
    (hlt : k < n ∧ m < n ∧ k ≠ m) (hl : len = xs.length ∧ len ≤ 1000) (hh : h = (len : Int) - 1)
    (hq : ∀ c1 c2 : Nat, (Q (.tup [.slc n 0 [] 1 0 0 len c1, .slc (n + 1) 0 [] 1 0 0 len c2, .bool true]) ((n + 1, .vec c2 1 (xs.reverse.map (AV.int .i64))) :: (n, .vec c1 1 ((down len).map (AV.int .i64))) :: (m, .vec cap 3 ((stk xs).map nodeV)) :: (k, .cel (.agg [.int .i64 room, .int .i64 free, .int .i64 live, .int .i64 mst, .slc m 0 [] 3 0 0 len cap])) :: hideH [m, k] H) (n + 2))) :
    callA Try.prog 17 [.ptr k 0 [], .int .i64 h, .int .i64 1000] H n Q := by
  obtain ⟨rfl, hl⟩ := hl
  subst hh
  refine goneS_use (by rw [hk, stk_len]) hm hlt (chain_stk xs _ (Nat.le_refl _)) (by decide) fun R c1 c2 hR => ?_
  have e : R = down xs.length := by rw [hR, List.take_of_length_le (by rw [down_len]; exact hl)]
  subst e
  have ht := stk_things xs xs.length (Nat.le_refl _)
  rw [List.take_length] at ht
  have := hq c1 c2
  rw [ht, stk_len, down_len]
  exact this
/-- A stack of nodes that was let go. -/
def frS (xs : List Int) : List Node := (freeF (stk xs) (-1) (down xs.length)).1
theorem frS_len (xs : List Int) : (frS xs).length = xs.length := by rw [frS, freeF_len, stk_len]
theorem taken_self {ns : List Node} {j : Int} {a b : Int} : takenP (ns.set j.toNat (a, b, false)) j = false := by
  unfold takenP
  split
  · rename_i h
    rw [List.length_set] at h
    rw [List.getD_eq_getElem?_getD, List.getElem?_set_self (by omega)]; rfl
  · rfl
theorem freeF_un : ∀ (js : List Int) (ns : List Node) (f j : Int), (∀ i, i ∈ js → 0 ≤ i) → (takenP ns j = false ∨ j ∈ js) → takenP (freeF ns f js).1 j = false
  | [], ns, f, j, _, h => by
    rcases h with h | h
    · exact h
    · exact absurd h List.not_mem_nil
  | i :: r, ns, f, j, h0, h => by
    rw [freeF]
    refine freeF_un r _ _ j (fun k hk => h0 k (List.mem_cons_of_mem _ hk)) ?_
    by_cases e : j = i
    · subst e; exact .inl taken_self
    · rcases h with h | h
      · exact .inl (by rw [taken_set (h0 i (List.mem_cons_self ..)) e]; exact h)
      · rcases List.mem_cons.1 h with h | h
        · exact absurd h e
        · exact .inr h
theorem frS_un (xs : List Int) (j : Int) : takenP (frS xs) j = false := by
  refine freeF_un _ _ _ j (fun i hi => (down_mem hi).1) ?_
  by_cases h : 0 ≤ j ∧ j < xs.length
  · exact .inr (mem_down h)
  · exact .inl (by rw [stk_taken, if_neg h])
theorem freeF_last : ∀ (n : Nat) (ns : List Node) (f : Int), (freeF ns f (down (n + 1))).2 = 0
  | 0, ns, f => rfl
  | n + 1, ns, f => by rw [down, freeF]; exact freeF_last n _ _
theorem free_stk_use {k m len cap : Nat} {xs : List Int} {room live most h : Int} {H : Hp} {n : Nat} {Q : AV → Hp → Nat → Prop} (hk : hget k H = some (.cel (.agg [.int .i64 room, .int .i64 (-1), .int .i64 live, .int .i64 most, .slc m 0 [] 3 0 0 len cap]))) (hm : hget m H = some (.vec cap 3 ((stk xs).map nodeV)))
    (hlt : k < n ∧ m < n ∧ k ≠ m) (hl : len = xs.length ∧ 1 ≤ len ∧ len ≤ 1000) (hh : h = (len : Int) - 1) (hv : 0 ≤ live ∧ live ≤ 70000)
    (hq : Q (.int .i64 len) ((m, .vec cap 3 ((frS xs).map nodeV)) :: (k, .cel (.agg [.int .i64 room, .int .i64 0, .int .i64 (live - len), .int .i64 most, .slc m 0 [] 3 0 0 len cap])) :: hideH [m, k] H) n) :
    callA Try.prog 21 [.ptr k 0 [], .int .i64 h] H n Q := by
  obtain ⟨rfl, h1, h2⟩ := hl
  subst hh
  have hd := down_len xs.length
  refine freeS_use hk hm hlt (stk_len xs).symm (chain_stk xs _ (Nat.le_refl _)) ⟨down_nodup _, by omega, hv⟩ ?_
  have e : (freeF (stk xs) (-1) (down xs.length)).2 = 0 := by
    obtain ⟨n, hn⟩ : ∃ n, xs.length = n + 1 := ⟨xs.length - 1, by omega⟩
    rw [hn]; exact freeF_last n _ _
  rw [e, hd]; exact hq
def oneS (xs : List Int) (x : Int) : List Node := setG (frS xs) 0 (x, -1, true)
theorem oneS_len (xs : List Int) (x : Int) : (oneS xs x).length = xs.length := by rw [oneS, setG, List.length_set, frS_len]
theorem push77_use {k m len cap : Nat} {xs : List Int} {room live most x : Int} {H : Hp} {n : Nat} {Q : AV → Hp → Nat → Prop} (hk : hget k H = some (.cel (.agg [.int .i64 room, .int .i64 0, .int .i64 live, .int .i64 most, .slc m 0 [] 3 0 0 len cap]))) (hm : hget m H = some (.vec cap 3 ((frS xs).map nodeV)))
    (hlt : k < n ∧ m < n ∧ k ≠ m) (hl : len = xs.length ∧ 1 ≤ len ∧ len ≤ 1000) (hx : 0 ≤ live ∧ live < room ∧ room ≤ 65536)
    (hq : ∀ cap', Q (.tup [.int .i64 0, .bool true]) ((n, .vec cap' 3 ((oneS xs x).map nodeV)) :: (k, .cel (.agg [.int .i64 room, .int .i64 (gN (frS xs) 0), .int .i64 (live + 1), .int .i64 (if most < live + 1 then live + 1 else most), .slc n 0 [] 3 0 0 len cap'])) :: hideH [m, k] H) (n + 1)) :
    callA Try.prog 15 [.ptr k 0 [], .int .i64 (-1), .int .i64 x] H n Q := by
  obtain ⟨rfl, h1, h2⟩ := hl
  exact pushR_use hk hm hlt (frS_len xs).symm ⟨by omega, hx⟩ ⟨Int.le_refl 0, by rw [frS_len]; omega⟩ hq
theorem chain_one {xs : List Int} {x : Int} (h : 1 ≤ xs.length) : chainP (oneS xs x) 0 [0] := by
  have hg : (oneS xs x).getD (0 : Int).toNat default = (x, -1, true) := by
    rw [oneS, setG, List.getD_eq_getElem?_getD, show (0 : Int).toNat = 0 from rfl, List.getElem?_set_self (by rw [frS_len]; exact h)]; rfl
  refine ⟨rfl, ?_, ?_⟩
  · unfold takenP
    rw [if_pos (by rw [oneS_len]; omega), hg]
  · rw [hg]
    show takenP _ (-1) = false
    unfold takenP
    rw [if_neg (by omega)]
theorem gone_one_use {k m len cap : Nat} {xs : List Int} {room free live mst x : Int} {H : Hp} {n : Nat} {Q : AV → Hp → Nat → Prop} (hk : hget k H = some (.cel (.agg [.int .i64 room, .int .i64 free, .int .i64 live, .int .i64 mst, .slc m 0 [] 3 0 0 len cap]))) (hm : hget m H = some (.vec cap 3 ((oneS xs x).map nodeV)))
    (hlt : k < n ∧ m < n ∧ k ≠ m) (hl : len = xs.length ∧ 1 ≤ len)
    (hq : ∀ c1 c2 : Nat, Q (.tup [.slc n 0 [] 1 0 0 1 c1, .slc (n + 1) 0 [] 1 0 0 1 c2, .bool true]) ((n + 1, .vec c2 1 [.int .i64 x]) :: (n, .vec c1 1 [.int .i64 0]) :: (m, .vec cap 3 ((oneS xs x).map nodeV)) :: (k, .cel (.agg [.int .i64 room, .int .i64 free, .int .i64 live, .int .i64 mst, .slc m 0 [] 3 0 0 len cap])) :: hideH [m, k] H) (n + 2)) :
    callA Try.prog 17 [.ptr k 0 [], .int .i64 0, .int .i64 100] H n Q := by
  obtain ⟨rfl, h1⟩ := hl
  refine goneS_use (by rw [hk, oneS_len]) hm hlt (chain_one h1) (by decide) fun R c1 c2 hR => ?_
  have e : R = [0] := by rw [hR]; rfl
  subst e
  have hg : tgV (oneS xs x) 0 = .int .i64 x := by
    rw [tgV, gX, oneS, setG, List.getD_eq_getElem?_getD]
    rw [show (0 : Int).toNat = 0 from rfl, List.getElem?_set_self (by rw [frS_len]; exact h1)]; rfl
  have := hq c1 c2
  rw [oneS_len]
  simpa [hg] using this
theorem setF_use {k m len cap : Nat} {ns : List Node} {room free live most h x : Int} {H : Hp} {n : Nat} {Q : AV → Hp → Nat → Prop} (h0 : hget k H = some (.cel (.agg [.int .i64 room, .int .i64 free, .int .i64 live, .int .i64 most, .slc m 0 [] 3 0 0 len cap]))) (h1 : hget m H = some (.vec cap 3 (ns.map nodeV))) (hl : len = ns.length) (ht : takenP ns h = false)
    (hq : Q (.bool false) H n) : callA Try.prog 18 [.ptr k 0 [], .int .i64 h, .int .i64 x] H n Q := by
  sym =>
    repeat (first (apply enter18) (apply taken3_use; (tactic => exact h0); (tactic => exact h1); (tactic => exact hl)) (apply imp_go; intro hp) (apply valK_w64; · finish (splits := 3) (ematch := 1)) (apply valK_wu8; · finish (splits := 3) (ematch := 1)) (apply valK_wu64; · finish (splits := 3) (ematch := 1)) (apply valK_w32; · finish (splits := 3) (ematch := 1)) (apply valK_wu16; · finish (splits := 3) (ematch := 1)) (apply valK_wu32; · finish (splits := 3) (ematch := 1)) (apply valK_wr) (apply valK_andR) (apply valK_quo; · finish (splits := 3) (ematch := 1)) (apply valK_quoR; · finish (splits := 3) (ematch := 1)) (apply valK_rem; · finish (splits := 3) (ematch := 1)) (apply valK_remR; · finish (splits := 3) (ematch := 1)) (apply valK_bol; · finish (splits := 3) (ematch := 1)) (apply effK_bol; · finish (splits := 3) (ematch := 1)) (apply newK_bol; · finish (splits := 3) (ematch := 1)) (apply appK_bol; · finish (splits := 3) (ematch := 1)) (apply topO_bol; · finish (splits := 3) (ematch := 1)) (apply valK_altY; · finish (splits := 3) (ematch := 1)) (apply valK_altN; · finish (splits := 3) (ematch := 1)) (apply effK_altY; · finish (splits := 3) (ematch := 1)) (apply effK_altN; · finish (splits := 3) (ematch := 1)) (apply valK_altNY; · finish (splits := 3) (ematch := 1)) (apply valK_altNN; · finish (splits := 3) (ematch := 1)) (apply valK_altS) (apply valK_altNS) (apply effK_altS) (apply appS_go) (apply brC_y; · finish (splits := 3) (ematch := 1)) (apply brC_n; · finish (splits := 3) (ematch := 1)) (apply brC_yN; · finish (splits := 3) (ematch := 1)) (apply brC_nN; · finish (splits := 3) (ematch := 1)) (apply brC_s) (apply brC_sN) (apply wantK_y; · finish (splits := 3) (ematch := 1)) (apply wantK_n; · finish (splits := 3) (ematch := 1)) (apply wantK_yN; · finish (splits := 3) (ematch := 1)) (apply wantK_nN; · finish (splits := 3) (ematch := 1)) (apply wantK_s) (apply wantK_sN) (apply rowG_y; · finish (splits := 3) (ematch := 1)) (apply rowG_n; · finish (splits := 3) (ematch := 1)) (apply rowG_yN; · finish (splits := 3) (ematch := 1)) (apply rowG_nN; · finish (splits := 3) (ematch := 1)) (apply rowG_s) (apply rowG_sN) (simp [h0, h1, ht, e17Op_eq, e19Op_eq, eAbuffertile_eq, eColour_eq, eFrag_eq, eKey_eq, cx18_P, cx18_l0, cx18_l1, cx18_l2, cx18_l3, cx18_l4, cx18_pu, Try.f18.eq_1, ty_arrOf_24, ty_arrOf_3, ty_arrOf_88, ty_bytesE_88, ty_fldOf_90_0, ty_fldOf_90_1, ty_fldOf_90_2, ty_fldOf_90_3, ty_fldOf_90_4, ty_fldOf_93_0, ty_fldOf_93_1, ty_fldOf_93_2, ty_intOf_3, ty_isPtrTy_24, ty_lay_24, ty_lay_3, ty_lay_88, ty_lay_93, ty_notInt_24, ty_notInt_88, ty_placesOf_90, ty_placesOf_93, ty_slcOf_24, ty_slcOf_3, ty_slcOf_88, ty_zeroA_24, ty_zeroA_3, ty_zeroA_90, ty_zeroA_93, ty_zeroE_88, valK_some, effK_some, opE_move, opE_assign, opE_load, opE_nilCheck, opE_bin, opE_un, opE_fieldAddr, opE_indexAddr, callK_fn, callK_yld, callG_some, callG_none, opE_store_r, opE_call_r, ev_seq, ev_skip, ev_label, ev_region, ev_cond, condC_some, brC_true, brC_false, ev_block, ev_scope, ev_exit, ev_ret, nx_seq, nx_seqE, nx_seqR, nx_blk, nx_blkE, nx_blkR, nx_top, nx_topR, topO_some, evR_nil, evR_op, evR_guard, finK_reg, getT_cons, putT_some, putT_none, trimT_some, trimT_none, keepT_nil, keepT_cons, consT_some, consT_none, getT_nil, getO_tmp, getO_const, getO_func, ofC_int, ofC_bool, ofC_ptr, ofC_slc, ofC_map, ofC_fn, getOs_nil, getOs_cons, consO_some, hget_cons, hset_cons, wrap_lit, wrap_neg, cast_lit, toNat_lit, get_zero, get_succ, take_zero, take_succ, set_zero, set_succ, length_nil, length_cons, length_set, append_nil, nil_append, cons_append, toList_arr, bnot_true, bnot_false, band_true, band_false, beq_tt, beq_ff, beq_tf, beq_ft, beq_nat, beq_int, bne_nat, map_some, map_none, true_eq_false, false_eq_true, true_eq_true, fbody_mk, fresults_mk, getD_some, bol_true, binO_some, unO_some, un_not, nilO_some, nilA_ptr, nilA_fn, nilA_yld, nilA_map, nilA_slc, size_int, size_bool, size_str, size_ptr, size_nilp, size_slc, size_nils, size_map, size_nilm, size_fn, size_yld, size_nilf, size_agg, size_rows, sizeL_nil, sizeL_cons, layOK_int, layOK_bool, layOK_str, layOK_ptr, layOK_nilp, layOK_slc, layOK_nils, layOK_map, layOK_nilm, layOK_fn, layOK_yld, layOK_nilf, layOK_agg, layOK_rows, isTup_int, isTup_bool, isTup_str, isTup_ptr, isTup_nilp, isTup_slc, isTup_nils, isTup_map, isTup_nilm, isTup_fn, isTup_yld, isTup_nilf, isTup_agg, isTup_rows, getP_nil, getP_cons, getS_some, stepP_agg, stepP_rows, putP_nil, putP_cons, putS_some, putU_some, setS_agg, setS_rows, loadO_some, loadA_ptr, loadE_cel, loadE_vec, loadE_ro, chkL_some, storeO_some, stH_some, storeA_ptr, storeE_cel, storeE_vec, storeB_cel, faO_some, fa_ptr, iaO_some, resF_eq, resAll_nil, resAll_cons, resOne_tmp, resOne_cell, tupO_none, tupO_one, tupO_more, argT_nil, argT_cons, lookU_nil, lookU_cons, lookL_cons, lookL_nil, lookP_cons, roundS_eq, mun_neg, wrapO_lit, wrapO_neg, mia_ptr, mia_slc, mstoreB_vec, len_set, not_tf, not_ft, and_tf, not_not_b, alt_true, alt_false, bol_false, getS_bol, getS_alt, chkL_bol, chkL_alt, putS_bol, putS_alt, putU_bol, putU_alt, storeB_bol, storeB_alt, stH_bol, stH_alt, consO_bol, consO_bol2, tupO_bol, bol_bol, get_mapB, get_setB, get_appB, len_map, nat_zero_add, hideH_nil, and_self, and_true, true_and, and_false, false_and]) (apply valK_bolB; · finish (splits := 3) (ematch := 1)) (apply valK_altT; · finish (splits := 3) (ematch := 1)) (apply valK_altF; · finish (splits := 3) (ematch := 1)) (apply valK_altB) (apply brC_t; · finish (splits := 3) (ematch := 1)) (apply brC_f; · finish (splits := 3) (ematch := 1)) (apply brC_sBN) (apply brC_sB) (apply wantK_t; · finish (splits := 3) (ematch := 1)) (apply wantK_f; · finish (splits := 3) (ematch := 1)) (apply wantK_sBN) (apply wantK_sB) (apply rowG_t; · finish (splits := 3) (ematch := 1)) (apply rowG_f; · finish (splits := 3) (ematch := 1)) (apply rowG_sBN) (apply rowG_sB) (intro~ hr) (tactic => exact hq))
theorem stk_un {xs : List Int} {h : Int} (hh : ¬ (0 ≤ h ∧ h < (xs.length : Int))) : takenP (stk xs) h = false := by rw [stk_taken, if_neg hh]
theorem setT_call {ns : List Node} {room free live most h x : Int} {cap len : Nat} (hl : len = ns.length) (ht : takenP ns h = true) :
    callA Try.prog 18 [.ptr 0 0 [], .int .i64 h, .int .i64 x] [(1, .vec cap 3 (ns.map nodeV)), (0, .cel (.agg [.int .i64 room, .int .i64 free, .int .i64 live, .int .i64 most, .slc 1 0 [] 3 0 0 len cap]))] 2
      fun v H' n' => v = .bool true ∧ H' = [(1, .vec cap 3 ((setG ns h.toNat (x, gN ns h.toNat, gT ns h.toNat)).map nodeV)), (0, .cel (.agg [.int .i64 room, .int .i64 free, .int .i64 live, .int .i64 most, .slc 1 0 [] 3 0 0 len cap]))] ∧ n' = 2 := by
  have b0 := taken_bd ht
  have b1 : 0 ≤ h ∧ h < (len : Int) := by omega
  have b2 : h.toNat < gLen ns := by unfold gLen; omega
  have b3 : gLen (setG ns h.toNat (x, gN ns h.toNat, gT ns h.toNat)) = gLen ns := by unfold gLen setG; rw [List.length_set]
  clear b0
  show callA _ _ _ _ _ _
  sym =>
    repeat (first (apply enter18) (apply taken3_use; (tactic => rfl); (tactic => rfl); (tactic => exact hl)) (apply imp_go; intro hp) (apply valK_w64; · finish (splits := 3) (ematch := 1)) (apply valK_wu8; · finish (splits := 3) (ematch := 1)) (apply valK_wu64; · finish (splits := 3) (ematch := 1)) (apply valK_w32; · finish (splits := 3) (ematch := 1)) (apply valK_wu16; · finish (splits := 3) (ematch := 1)) (apply valK_wu32; · finish (splits := 3) (ematch := 1)) (apply valK_wr) (apply valK_andR) (apply valK_quo; · finish (splits := 3) (ematch := 1)) (apply valK_quoR; · finish (splits := 3) (ematch := 1)) (apply valK_rem; · finish (splits := 3) (ematch := 1)) (apply valK_remR; · finish (splits := 3) (ematch := 1)) (apply valK_bol; · finish (splits := 3) (ematch := 1)) (apply effK_bol; · finish (splits := 3) (ematch := 1)) (apply newK_bol; · finish (splits := 3) (ematch := 1)) (apply appK_bol; · finish (splits := 3) (ematch := 1)) (apply topO_bol; · finish (splits := 3) (ematch := 1)) (apply valK_altY; · finish (splits := 3) (ematch := 1)) (apply valK_altN; · finish (splits := 3) (ematch := 1)) (apply effK_altY; · finish (splits := 3) (ematch := 1)) (apply effK_altN; · finish (splits := 3) (ematch := 1)) (apply valK_altNY; · finish (splits := 3) (ematch := 1)) (apply valK_altNN; · finish (splits := 3) (ematch := 1)) (apply valK_altS) (apply valK_altNS) (apply effK_altS) (apply appS_go) (apply brC_y; · finish (splits := 3) (ematch := 1)) (apply brC_n; · finish (splits := 3) (ematch := 1)) (apply brC_yN; · finish (splits := 3) (ematch := 1)) (apply brC_nN; · finish (splits := 3) (ematch := 1)) (apply brC_s) (apply brC_sN) (apply wantK_y; · finish (splits := 3) (ematch := 1)) (apply wantK_n; · finish (splits := 3) (ematch := 1)) (apply wantK_yN; · finish (splits := 3) (ematch := 1)) (apply wantK_nN; · finish (splits := 3) (ematch := 1)) (apply wantK_s) (apply wantK_sN) (apply rowG_y; · finish (splits := 3) (ematch := 1)) (apply rowG_n; · finish (splits := 3) (ematch := 1)) (apply rowG_yN; · finish (splits := 3) (ematch := 1)) (apply rowG_nN; · finish (splits := 3) (ematch := 1)) (apply rowG_s) (apply rowG_sN) (simp [ht, nodeG_eq, gLen_eq, setG_eq, e17Op_eq, e19Op_eq, eAbuffertile_eq, eColour_eq, eFrag_eq, eKey_eq, cx18_P, cx18_l0, cx18_l1, cx18_l2, cx18_l3, cx18_l4, cx18_pu, Try.f18.eq_1, ty_arrOf_24, ty_arrOf_3, ty_arrOf_88, ty_bytesE_88, ty_fldOf_90_0, ty_fldOf_90_1, ty_fldOf_90_2, ty_fldOf_90_3, ty_fldOf_90_4, ty_fldOf_93_0, ty_fldOf_93_1, ty_fldOf_93_2, ty_intOf_3, ty_isPtrTy_24, ty_lay_24, ty_lay_3, ty_lay_88, ty_lay_93, ty_notInt_24, ty_notInt_88, ty_placesOf_90, ty_placesOf_93, ty_slcOf_24, ty_slcOf_3, ty_slcOf_88, ty_zeroA_24, ty_zeroA_3, ty_zeroA_90, ty_zeroA_93, ty_zeroE_88, valK_some, effK_some, opE_move, opE_assign, opE_load, opE_nilCheck, opE_bin, opE_un, opE_fieldAddr, opE_indexAddr, callK_fn, callK_yld, callG_some, callG_none, opE_store_r, opE_call_r, ev_seq, ev_skip, ev_label, ev_region, ev_cond, condC_some, brC_true, brC_false, ev_block, ev_scope, ev_exit, ev_ret, nx_seq, nx_seqE, nx_seqR, nx_blk, nx_blkE, nx_blkR, nx_top, nx_topR, topO_some, evR_nil, evR_op, evR_guard, finK_reg, getT_cons, putT_some, putT_none, trimT_some, trimT_none, keepT_nil, keepT_cons, consT_some, consT_none, getT_nil, getO_tmp, getO_const, getO_func, ofC_int, ofC_bool, ofC_ptr, ofC_slc, ofC_map, ofC_fn, getOs_nil, getOs_cons, consO_some, hget_cons, hset_cons, wrap_lit, wrap_neg, cast_lit, toNat_lit, get_zero, get_succ, take_zero, take_succ, set_zero, set_succ, length_nil, length_cons, length_set, append_nil, nil_append, cons_append, toList_arr, bnot_true, bnot_false, band_true, band_false, beq_tt, beq_ff, beq_tf, beq_ft, beq_nat, beq_int, bne_nat, map_some, map_none, true_eq_false, false_eq_true, true_eq_true, fbody_mk, fresults_mk, getD_some, bol_true, binO_some, unO_some, un_not, nilO_some, nilA_ptr, nilA_fn, nilA_yld, nilA_map, nilA_slc, size_int, size_bool, size_str, size_ptr, size_nilp, size_slc, size_nils, size_map, size_nilm, size_fn, size_yld, size_nilf, size_agg, size_rows, sizeL_nil, sizeL_cons, layOK_int, layOK_bool, layOK_str, layOK_ptr, layOK_nilp, layOK_slc, layOK_nils, layOK_map, layOK_nilm, layOK_fn, layOK_yld, layOK_nilf, layOK_agg, layOK_rows, isTup_int, isTup_bool, isTup_str, isTup_ptr, isTup_nilp, isTup_slc, isTup_nils, isTup_map, isTup_nilm, isTup_fn, isTup_yld, isTup_nilf, isTup_agg, isTup_rows, getP_nil, getP_cons, getS_some, stepP_agg, stepP_rows, putP_nil, putP_cons, putS_some, putU_some, setS_agg, setS_rows, loadO_some, loadA_ptr, loadE_cel, loadE_vec, loadE_ro, chkL_some, storeO_some, stH_some, storeA_ptr, storeE_cel, storeE_vec, storeB_cel, faO_some, fa_ptr, iaO_some, resF_eq, resAll_nil, resAll_cons, resOne_tmp, resOne_cell, tupO_none, tupO_one, tupO_more, argT_nil, argT_cons, lookU_nil, lookU_cons, lookL_cons, lookL_nil, lookP_cons, roundS_eq, mun_neg, wrapO_lit, wrapO_neg, mia_ptr, mia_slc, mstoreB_vec, len_set, not_tf, not_ft, and_tf, not_not_b, alt_true, alt_false, bol_false, getS_bol, getS_alt, chkL_bol, chkL_alt, putS_bol, putS_alt, putU_bol, putU_alt, storeB_bol, storeB_alt, stH_bol, stH_alt, consO_bol, consO_bol2, tupO_bol, bol_bol, get_mapB, get_setB, get_appB, len_map, nat_zero_add, hideH_nil, and_self, and_true, true_and, and_false, false_and]) (apply valK_bolB; · finish (splits := 3) (ematch := 1)) (apply valK_altT; · finish (splits := 3) (ematch := 1)) (apply valK_altF; · finish (splits := 3) (ematch := 1)) (apply valK_altB) (apply brC_t; · finish (splits := 3) (ematch := 1)) (apply brC_f; · finish (splits := 3) (ematch := 1)) (apply brC_sBN) (apply brC_sB) (apply wantK_t; · finish (splits := 3) (ematch := 1)) (apply wantK_f; · finish (splits := 3) (ematch := 1)) (apply wantK_sBN) (apply wantK_sB) (apply rowG_t; · finish (splits := 3) (ematch := 1)) (apply rowG_f; · finish (splits := 3) (ematch := 1)) (apply rowG_sBN) (apply rowG_sB) (intro~ hr) (tactic => first | exact ⟨rfl, rfl, rfl⟩ | rfl | (trace_state; exact test_fail)))
def setX (xs : List Int) (i : Nat) (x : Int) : List Int := xs.set i x
theorem setX_len (xs : List Int) (i : Nat) (x : Int) : (setX xs i x).length = xs.length := List.length_set
theorem setG_stk {xs : List Int} {j : Nat} (x : Int) (h : j < xs.length) : setG (stk xs) j (x, gN (stk xs) j, gT (stk xs) j) = stk (setX xs j x) := by
  rw [setG, gN, gT, stk_get h, setX, ← stk_set]
theorem set_stk_use {k m len cap : Nat} {xs : List Int} {room free live most h x : Int} {H : Hp} {n : Nat} {Q : AV → Hp → Nat → Prop} (hk : hget k H = some (.cel (.agg [.int .i64 room, .int .i64 free, .int .i64 live, .int .i64 most, .slc m 0 [] 3 0 0 len cap]))) (hm : hget m H = some (.vec cap 3 ((stk xs).map nodeV)))
    (hlt : k < n ∧ m < n ∧ k ≠ m) (hl : len = xs.length) (hh : 0 ≤ h ∧ h < (len : Int))
    (hq : Q (.bool true) ((m, .vec cap 3 ((stk (setX xs h.toNat x)).map nodeV)) :: (k, .cel (.agg [.int .i64 room, .int .i64 free, .int .i64 live, .int .i64 most, .slc m 0 [] 3 0 0 len cap])) :: hideH [m, k] H) n) :
    callA Try.prog 18 [.ptr k 0 [], .int .i64 h, .int .i64 x] H n Q := by
  subst hl
  have ek : idx [k, m] n 0 = k := rfl
  have em : idx [k, m] n 1 = m := rfl
  refine callA_use (setT_call (room := room) (free := free) (live := live) (most := most) (x := x) (cap := cap) (stk_len xs).symm (by rw [stk_taken, if_pos hh])) [k, m] rfl (by simp; exact hlt.2.2) (by simp; exact ⟨hlt.1, hlt.2.1⟩) (by simp [keysB]) rfl ?_ ?_
  · refine ⟨?_, ?_, trivial⟩
    · have := hm
      simpa [Ent.ren, em, nodes_ren] using this
    · have := hk
      simpa [Ent.ren, ek, em, AV.ren, renL] using this
  · rintro v H1 m1 _ ⟨rfl, rfl, rfl⟩
    rw [setG_stk x (by omega)]
    simpa [renH, renL, AV.ren, Ent.ren, idx, keysB, nodes_ren] using hq
structure FiA where
  i : Int
  len : Nat
  xs : List Int
  cap : Nat
def fiInv (nv : Int) (a : FiA) : Prop := a.i ≤ nv ∧ a.len = a.xs.length ∧ (a.len : Int) = a.i
def nI (l : List Int) : Int := if 20 < (l.length : Int) then 20 else (l.length : Int)
theorem nI_bd (l : List Int) : 0 ≤ nI l ∧ nI l ≤ 20 ∧ nI l ≤ l.length := by unfold nI; split <;> omega
noncomputable def cx6 : Cx := ⟨Try.prog, [], [], ((0, [2, 1, 0]) :: (1, [7, 2, 1, 0]) :: (2, [8, 7, 2, 1, 0]) :: (3, [37, 8, 2, 1, 0]) :: (4, [6]) :: (5, [9, 8, 2, 1, 0]) :: (6, [10, 9, 8, 2, 1, 0]) :: (7, [11, 10, 9, 8, 2, 1, 0]) :: (8, [43, 11, 10, 9, 8, 2, 1, 0]) :: (9, [11, 10, 9, 8, 2, 1, 0]) :: (10, [13, 12, 11, 10, 8, 2, 1, 0]) :: (11, [57, 12, 11, 10, 8, 2, 1, 0]) :: (12, [6]) :: (13, [11, 10, 9, 8, 2, 1, 0]) :: (14, [60, 10, 9, 8, 2, 1]) :: (15, [6]) :: (16, [16, 15, 14, 10, 9, 8, 2, 1]) :: (17, [85, 15, 14, 10, 9, 8, 2, 1]) :: (18, [6]) :: (19, [17, 15, 14, 10, 9, 8, 2]) :: (20, [97, 17, 15, 14, 10, 9, 8, 2]) :: (21, [6]) :: (22, [20, 19, 18, 17, 15, 14, 10, 9, 8, 2]) :: (23, [20, 19, 18, 17, 15, 14, 10, 9, 8]) :: (24, [21, 20, 19, 17, 15, 14, 10, 9, 8]) :: (25, [22, 21, 20, 17, 14, 10, 9, 8]) :: (26, [23, 22, 21, 20, 17, 14, 10, 8]) :: (27, [24, 23, 22, 21, 20, 14, 10, 8]) :: (28, [26, 25, 24, 23, 22, 21, 20, 14, 10, 8]) :: (29, [29, 28, 26, 25, 24, 23, 22, 21, 20, 14, 10]) :: (30, [6]) :: [])⟩
theorem cx6_P : cx6.P = Try.prog := rfl
theorem cx6_l0 : lookL 0 cx6.lv = some [2, 1, 0] := rfl
theorem cx6_l1 : lookL 1 cx6.lv = some [7, 2, 1, 0] := rfl
theorem cx6_l2 : lookL 2 cx6.lv = some [8, 7, 2, 1, 0] := rfl
theorem cx6_l3 : lookL 3 cx6.lv = some [37, 8, 2, 1, 0] := rfl
theorem cx6_l4 : lookL 4 cx6.lv = some [6] := rfl
theorem cx6_l5 : lookL 5 cx6.lv = some [9, 8, 2, 1, 0] := rfl
theorem cx6_l6 : lookL 6 cx6.lv = some [10, 9, 8, 2, 1, 0] := rfl
theorem cx6_l7 : lookL 7 cx6.lv = some [11, 10, 9, 8, 2, 1, 0] := rfl
theorem cx6_l8 : lookL 8 cx6.lv = some [43, 11, 10, 9, 8, 2, 1, 0] := rfl
theorem cx6_l10 : lookL 10 cx6.lv = some [13, 12, 11, 10, 8, 2, 1, 0] := rfl
theorem cx6_l11 : lookL 11 cx6.lv = some [57, 12, 11, 10, 8, 2, 1, 0] := rfl
theorem cx6_l12 : lookL 12 cx6.lv = some [6] := rfl
theorem cx6_l13 : lookL 13 cx6.lv = some [11, 10, 9, 8, 2, 1, 0] := rfl
theorem cx6_l9 : lookL 9 cx6.lv = some [11, 10, 9, 8, 2, 1, 0] := rfl
theorem cx6_l14 : lookL 14 cx6.lv = some [60, 10, 9, 8, 2, 1] := rfl
theorem cx6_l15 : lookL 15 cx6.lv = some [6] := rfl
theorem cx6_l16 : lookL 16 cx6.lv = some [16, 15, 14, 10, 9, 8, 2, 1] := rfl
theorem cx6_l17 : lookL 17 cx6.lv = some [85, 15, 14, 10, 9, 8, 2, 1] := rfl
theorem cx6_l18 : lookL 18 cx6.lv = some [6] := rfl
theorem cx6_l19 : lookL 19 cx6.lv = some [17, 15, 14, 10, 9, 8, 2] := rfl
theorem cx6_l20 : lookL 20 cx6.lv = some [97, 17, 15, 14, 10, 9, 8, 2] := rfl
theorem cx6_l21 : lookL 21 cx6.lv = some [6] := rfl
theorem cx6_l22 : lookL 22 cx6.lv = some [20, 19, 18, 17, 15, 14, 10, 9, 8, 2] := rfl
theorem cx6_l23 : lookL 23 cx6.lv = some [20, 19, 18, 17, 15, 14, 10, 9, 8] := rfl
theorem cx6_l24 : lookL 24 cx6.lv = some [21, 20, 19, 17, 15, 14, 10, 9, 8] := rfl
theorem cx6_l25 : lookL 25 cx6.lv = some [22, 21, 20, 17, 14, 10, 9, 8] := rfl
theorem cx6_l26 : lookL 26 cx6.lv = some [23, 22, 21, 20, 17, 14, 10, 8] := rfl
theorem cx6_l27 : lookL 27 cx6.lv = some [24, 23, 22, 21, 20, 14, 10, 8] := rfl
theorem cx6_l28 : lookL 28 cx6.lv = some [26, 25, 24, 23, 22, 21, 20, 14, 10, 8] := rfl
theorem cx6_l29 : lookL 29 cx6.lv = some [29, 28, 26, 25, 24, 23, 22, 21, 20, 14, 10] := rfl
theorem cx6_l30 : lookL 30 cx6.lv = some [6] := rfl
theorem cx6_pu : cx6.pu = [] := rfl
theorem cx6_ok : okc cx6 Try.f6.ntmps (Try.f6.body.getD .skip) = true := by kernel_rfl
theorem enter6 {args : List AV} {H : Hp} {n : Nat} {Q : AV → Hp → Nat → Prop} (h : args.length ≤ 183 ∧ Ev cx6 ⟨183, n, none, 6⟩ (Try.f6.body.getD .skip) ⟨argT 0 args, H, n⟩ (.top Try.f6.results.toList Q)) : callA Try.prog 6 args H n Q :=
  callA_ev (cx := cx6) puOk_nil (f := 6) (fn := Try.f6) Try.func6 rfl (by kernel_rfl) h.1 cx6_ok h.2
theorem fi_x {a : FiA} {nv m : Int} (hi : fiInv nv a) (h : a.i < nv) (hn : 0 ≤ nv ∧ nv ≤ 20 ∧ nv ≤ m) : (a.len : Int) < 65536 ∧ 0 ≤ a.i ∧ a.i < 20 ∧ (20 : Int) ≤ 65536 := by
  obtain ⟨h1, h2, h3⟩ := hi; omega
theorem fi_h {a : FiA} {nv : Int} (hi : fiInv nv a) : a.i - 1 = (a.len : Int) - 1 := by rw [hi.2.2]
theorem fi_0 {a : FiA} {nv : Int} (hi : fiInv nv a) : 0 ≤ a.i := by have := hi.2.2; omega
theorem fi_next {a : FiA} {nv x : Int} {c : Nat} (hi : fiInv nv a) (h : a.i < nv) : fiInv nv ⟨a.i + 1, a.len + 1, a.xs ++ [x], c⟩ := by
  obtain ⟨h1, h2, h3⟩ := hi
  exact ⟨by show a.i + 1 ≤ nv; omega, by simp [h2], by show ((a.len + 1 : Nat) : Int) = a.i + 1; omega⟩
theorem fi_end {a : FiA} {nv : Int} (hi : fiInv nv a) (h : ¬ a.i < nv) : a.i = nv ∧ a.len = a.xs.length ∧ (a.len : Int) = nv := by
  obtain ⟨h1, h2, h3⟩ := hi
  exact ⟨by omega, h2, by omega⟩
theorem fi_ok {a : FiA} {nv m : Int} (e : a.i = nv ∧ a.len = a.xs.length ∧ (a.len : Int) = nv) (hn : 0 ≤ nv ∧ nv ≤ 20 ∧ nv ≤ m) : a.len = a.xs.length ∧ a.len ≤ 20 := ⟨e.2.1, by omega⟩
theorem fi_meas {a : FiA} {nv : Int} (h : a.i < nv) : (nv - (a.i + 1)).toNat < (nv - a.i).toNat := by omega
theorem fill_loop {c : Code} {k : Kd} {l : List Int} {c0 : Nat} {nv x1 x2 : Int} (hcd : (subC [1, 1, 1, 1, 1, 1, 0, 1, 0, 0] (Try.f6.body.getD .skip)) = c) (hn : 0 ≤ nv ∧ nv ≤ 20 ∧ nv ≤ l.length)
    (hexit : ∀ (xs : List Int) (len cap : Nat), Imp (len = xs.length ∧ len ≤ 20) (Nx cx6 ⟨183, 1, none, 6⟩ (.exi 0) ⟨[(43, .bool false), (11, .int .i64 (len : Int)), (10, .int .i64 (len : Int)), (9, .int .i64 ((len : Int) - 1)), (8, .ptr 1 0 []), (2, .int .i64 x2), (1, .int .u8 x1), (0, .slc 0 0 [] 1 0 0 l.length c0)], [(2, .vec cap 3 ((stk xs).map nodeV)), (1, .cel (.agg [.int .i64 20, .int .i64 (-1), .int .i64 (len : Int), .int .i64 (len : Int), .slc 2 0 [] 3 0 0 len cap])), (0, .ro fun _ => .rows 1 (l.map (AV.int .i64)))], 3⟩ k)) :
    LoopS cx6 ⟨183, 1, none, 6⟩ c ⟨[(11, .int .i64 0), (10, .int .i64 nv), (9, .int .i64 (-1)), (8, .ptr 1 0 []), (2, .int .i64 x2), (1, .int .u8 x1), (0, .slc 0 0 [] 1 0 0 l.length c0)], [(2, .vec 0 3 []), (1, .cel (.agg [.int .i64 20, .int .i64 (-1), .int .i64 0, .int .i64 0, .slc 2 0 [] 3 0 0 0 0])), (0, .ro fun _ => .rows 1 (l.map (AV.int .i64)))], 3⟩ k := by
  subst hcd
  refine loop_par (fun a => ⟨[(11, .int .i64 a.i), (10, .int .i64 nv), (9, .int .i64 (a.i - 1)), (8, .ptr 1 0 []), (2, .int .i64 x2), (1, .int .u8 x1), (0, .slc 0 0 [] 1 0 0 l.length c0)], [(2, .vec a.cap 3 ((stk a.xs).map nodeV)), (1, .cel (.agg [.int .i64 20, .int .i64 (-1), .int .i64 a.i, .int .i64 a.i, .slc 2 0 [] 3 0 0 a.len a.cap])), (0, .ro fun _ => .rows 1 (l.map (AV.int .i64)))], 3⟩) (fiInv nv) (fun a => (nv - a.i).toNat) ?_ ⟨0, 0, [], 0⟩ ⟨hn.1, rfl, rfl⟩
  intro a hi J hJ
  have h00 := fi_0 hi
  show Ev _ _ _ _ _
  sym =>
    repeat (first (apply enter6) (apply pushS_use; (tactic => rfl); (tactic => rfl); (tactic => exact hi.2.1); (tactic => decide); (tactic => exact fi_x hi hp hn); (tactic => exact fi_h hi)) (apply imp_go; intro hp) (apply valK_w64; · finish (splits := 3) (ematch := 1)) (apply valK_wu8; · finish (splits := 3) (ematch := 1)) (apply valK_wu64; · finish (splits := 3) (ematch := 1)) (apply valK_w32; · finish (splits := 3) (ematch := 1)) (apply valK_wu16; · finish (splits := 3) (ematch := 1)) (apply valK_wu32; · finish (splits := 3) (ematch := 1)) (apply valK_wr) (apply valK_andR) (apply valK_quo; · finish (splits := 3) (ematch := 1)) (apply valK_quoR; · finish (splits := 3) (ematch := 1)) (apply valK_rem; · finish (splits := 3) (ematch := 1)) (apply valK_remR; · finish (splits := 3) (ematch := 1)) (apply valK_bol; · finish (splits := 3) (ematch := 1)) (apply effK_bol; · finish (splits := 3) (ematch := 1)) (apply newK_bol; · finish (splits := 3) (ematch := 1)) (apply appK_bol; · finish (splits := 3) (ematch := 1)) (apply topO_bol; · finish (splits := 3) (ematch := 1)) (apply valK_altY; · finish (splits := 3) (ematch := 1)) (apply valK_altN; · finish (splits := 3) (ematch := 1)) (apply effK_altY; · finish (splits := 3) (ematch := 1)) (apply effK_altN; · finish (splits := 3) (ematch := 1)) (apply valK_altNY; · finish (splits := 3) (ematch := 1)) (apply valK_altNN; · finish (splits := 3) (ematch := 1)) (apply valK_altS) (apply valK_altNS) (apply effK_altS) (apply appS_go) (apply brC_y; · finish (splits := 3) (ematch := 1)) (apply brC_n; · finish (splits := 3) (ematch := 1)) (apply brC_yN; · finish (splits := 3) (ematch := 1)) (apply brC_nN; · finish (splits := 3) (ematch := 1)) (apply brC_s) (apply brC_sN) (apply wantK_y; · finish (splits := 3) (ematch := 1)) (apply wantK_n; · finish (splits := 3) (ematch := 1)) (apply wantK_yN; · finish (splits := 3) (ematch := 1)) (apply wantK_nN; · finish (splits := 3) (ematch := 1)) (apply wantK_s) (apply wantK_sN) (apply rowG_y; · finish (splits := 3) (ematch := 1)) (apply rowG_n; · finish (splits := 3) (ematch := 1)) (apply rowG_yN; · finish (splits := 3) (ematch := 1)) (apply rowG_nN; · finish (splits := 3) (ematch := 1)) (apply rowG_s) (apply rowG_sN) (simp [newP_20, hideH_cons, hide_e, memb_cons, memb_nil, e17Op_eq, e19Op_eq, eAbuffertile_eq, eColour_eq, eFrag_eq, eKey_eq, cx6_P, cx6_l0, cx6_l1, cx6_l2, cx6_l3, cx6_l4, cx6_l5, cx6_l6, cx6_l7, cx6_l8, cx6_l10, cx6_l11, cx6_l12, cx6_l13, cx6_l9, cx6_l14, cx6_l15, cx6_l16, cx6_l17, cx6_l18, cx6_l19, cx6_l20, cx6_l21, cx6_l22, cx6_l23, cx6_l24, cx6_l25, cx6_l26, cx6_l27, cx6_l28, cx6_l29, cx6_l30, cx6_pu, Try.f6.eq_1, ty_arrOf_22, ty_arrOf_24, ty_arrOf_3, ty_bytesE_22, ty_hasTy_5, ty_intOf_3, ty_isPtrTy_24, ty_lay_22, ty_lay_24, ty_lay_3, ty_lay_5, ty_notInt_22, ty_notInt_24, ty_slcOf_22, ty_slcOf_24, ty_slcOf_3, ty_zeroA_22, ty_zeroA_24, ty_zeroA_3, ty_zeroE_22, valK_some, effK_some, opE_move, opE_assign, opE_pick, opE_load, opE_bin, opE_un, opE_conv, opE_indexAddr, opE_extract, opE_len, opE_min, callK_fn, callK_yld, callG_some, callG_none, opE_store_r, opE_call_r, ev_seq, ev_skip, ev_label, ev_region, ev_cond, condC_some, brC_true, brC_false, ev_block, ev_scope, ev_exit, ev_ret, ev_loop, nx_seq, nx_seqE, nx_seqR, nx_blk, nx_blkE, nx_blkR, nx_loop, nx_loopE, nx_loopR, nx_inv, nx_invE, nx_invR, nx_top, nx_topR, topO_some, evR_nil, wantK_tup, wantK_tt, wantK_ff, wantK_tf, wantK_ft, evR_op, evR_guard, finK_reg, getT_cons, putT_some, putT_none, trimT_some, trimT_none, keepT_nil, keepT_cons, consT_some, consT_none, getT_nil, getO_tmp, getO_const, getO_func, ofC_int, ofC_bool, ofC_ptr, ofC_slc, ofC_map, ofC_fn, getOs_nil, getOs_cons, consO_some, guardT_eq, guardO_some, hget_cons, hset_cons, wrap_lit, wrap_neg, top_i64, bot_i64, bits_i64, cast_lit, toNat_lit, get_zero, get_succ, take_zero, take_succ, set_zero, set_succ, length_nil, length_cons, length_set, append_nil, nil_append, cons_append, toList_arr, bnot_true, bnot_false, band_true, band_false, beq_tt, beq_ff, beq_tf, beq_ft, beq_nat, beq_int, bne_nat, map_some, map_none, true_eq_false, false_eq_true, true_eq_true, fbody_mk, fresults_mk, getD_some, bol_true, binO_some, rem_lit, rem_neg, bin_eql, bin_neq, bin_lss, bin_beql, bin_bneq, eqO_eq, eqO_ne, bin_aeql, bin_aneq, bin_reql, bin_rneq, aggEq_some, flatL_nil, flatL_cons, appV_some, flatV_int, flatV_bool, flatV_agg, flatV_rows, bin_feql, bin_fneq, bin_nfeql, bin_nfneq, bin_peql, bin_pneq, bin_npeql, bin_npneq, unO_some, un_not, convO_some, conv_int, pickA_true, pickA_false, exO_some, ext_tup, size_int, size_bool, size_str, size_ptr, size_nilp, size_slc, size_nils, size_map, size_nilm, size_fn, size_yld, size_nilf, size_agg, size_rows, sizeL_nil, sizeL_cons, layOK_int, layOK_bool, layOK_str, layOK_ptr, layOK_nilp, layOK_slc, layOK_nils, layOK_map, layOK_nilm, layOK_fn, layOK_yld, layOK_nilf, layOK_agg, layOK_rows, isTup_int, isTup_bool, isTup_str, isTup_ptr, isTup_nilp, isTup_slc, isTup_nils, isTup_map, isTup_nilm, isTup_fn, isTup_yld, isTup_nilf, isTup_agg, isTup_rows, getP_nil, getP_cons, getS_some, stepP_agg, stepP_rows, putP_nil, putP_cons, putS_some, putU_some, setS_agg, setS_rows, loadO_some, loadA_ptr, loadE_cel, loadE_vec, loadE_ro, chkL_some, storeO_some, stH_some, storeA_ptr, storeE_cel, storeE_vec, storeB_cel, iaO_some, slN_some, builtO_some, len_slc, len_nils, len_rows, arN_some, min_two, resF_eq, resAll_nil, resAll_cons, resOne_tmp, resOne_cell, tupO_none, tupO_one, tupO_more, argT_nil, argT_cons, lookU_nil, lookU_cons, lookL_cons, lookL_nil, lookP_cons, roundS_eq, mbin_add, mbin_sub, mbin_rem, mun_neg, mcvI_some, wrapO_lit, wrapO_neg, mia_ptr, mia_slc, mstoreB_vec, len_set, not_tf, not_ft, and_tf, not_not_b, alt_true, alt_false, pick_alt, bol_false, getS_bol, getS_alt, chkL_bol, chkL_alt, putS_bol, putS_alt, putU_bol, putU_alt, storeB_bol, storeB_alt, stH_bol, stH_alt, consO_bol, consO_bol2, tupO_bol, eqO_bol, bol_bol, get_mapB, get_setB, get_appB, len_map, nat_zero_add, subC_nil, subC_seq0, subC_seq1, subC_cond0, subC_cond1, subC_block, subC_scope, subC_loop, subC_ran0, subC_ran1, hideH_nil, and_self, and_true, true_and, and_false, false_and]) (apply valK_bolB; · finish (splits := 3) (ematch := 1)) (apply valK_altT; · finish (splits := 3) (ematch := 1)) (apply valK_altF; · finish (splits := 3) (ematch := 1)) (apply valK_altB) (apply brC_t; · finish (splits := 3) (ematch := 1)) (apply brC_f; · finish (splits := 3) (ematch := 1)) (apply brC_sBN) (apply brC_sB) (apply wantK_t; · finish (splits := 3) (ematch := 1)) (apply wantK_f; · finish (splits := 3) (ematch := 1)) (apply wantK_sBN) (apply wantK_sB) (apply rowG_t; · finish (splits := 3) (ematch := 1)) (apply rowG_f; · finish (splits := 3) (ematch := 1)) (apply rowG_sBN) (apply rowG_sB) (intro~ hr) (tactic => first | (refine hJ [0, 1, 3] ⟨a.i + 1, a.len + 1, a.xs ++ [l.getD a.i.toNat default], hr⟩ _ (reid_of rfl (by decide) rfl ?_ ?_ (ndB_nodup rfl) ?_) (fi_next hi hp) (fi_meas hp) <;> simp [subT, subH, okW, getT, hget, hset, hdel, idx, AV.ren, renL, renT, Ent.ren, Ent.writes, renL_ints, nodes_ren, if_pos (Int.lt_succ _), hi.2.2]; done) | (have e := fi_end hi hp; exact nx_at (hexit a.xs a.len a.cap (fi_ok e hn)) (by rw [if_neg hp, e.1, show nv = (a.len : Int) from e.2.2.symm]))))
noncomputable def cx23 : Cx := ⟨Try.prog, [], [], [(0, [1, 0]), (1, [6, 5, 4])]⟩
theorem cx23_P : cx23.P = Try.prog := rfl
theorem cx23_l0 : lookL 0 cx23.lv = some [1, 0] := rfl
theorem cx23_l1 : lookL 1 cx23.lv = some [6, 5, 4] := rfl
theorem cx23_pu : cx23.pu = [] := rfl
theorem cx23_ok : okc cx23 Try.f23.ntmps (Try.f23.body.getD .skip) = true := by kernel_rfl
theorem enter23 {args : List AV} {H : Hp} {n : Nat} {Q : AV → Hp → Nat → Prop} (h : args.length ≤ 13 ∧ Ev cx23 ⟨13, n, none, 23⟩ (Try.f23.body.getD .skip) ⟨argT 0 args, H, n⟩ (.top Try.f23.results.toList Q)) : callA Try.prog 23 args H n Q :=
  callA_ev (cx := cx23) puOk_nil (f := 23) (fn := Try.f23) Try.func23 rfl (by kernel_rfl) h.1 cx23_ok h.2
theorem setF0_use {k m len cap : Nat} {xs : List Int} {room free live most x : Int} {H : Hp} {n : Nat} {Q : AV → Hp → Nat → Prop} (h0 : hget k H = some (.cel (.agg [.int .i64 room, .int .i64 free, .int .i64 live, .int .i64 most, .slc m 0 [] 3 0 0 len cap]))) (h1 : hget m H = some (.vec cap 3 ((stk xs).map nodeV))) (hl : len = xs.length ∧ len ≤ 20) (hz : (len : Int) = 0)
    (hq : Q (.bool false) H n) : callA Try.prog 18 [.ptr k 0 [], .int .i64 0, .int .i64 x] H n Q := setF_use h0 h1 (by rw [stk_len]; exact hl.1) (stk_un (by omega)) hq
theorem setFm_use {k m len cap : Nat} {xs : List Int} {room free live most x : Int} {H : Hp} {n : Nat} {Q : AV → Hp → Nat → Prop} (h0 : hget k H = some (.cel (.agg [.int .i64 room, .int .i64 free, .int .i64 live, .int .i64 most, .slc m 0 [] 3 0 0 len cap]))) (h1 : hget m H = some (.vec cap 3 ((stk xs).map nodeV))) (hl : len = xs.length ∧ len ≤ 20)
    (hq : Q (.bool false) H n) : callA Try.prog 18 [.ptr k 0 [], .int .i64 (-1), .int .i64 x] H n Q := setF_use h0 h1 (by rw [stk_len]; exact hl.1) (stk_un (by omega)) hq
theorem setF1_use {k m len cap : Nat} {xs : List Int} {room free live most h : Int} {H : Hp} {n : Nat} {Q : AV → Hp → Nat → Prop} (h0 : hget k H = some (.cel (.agg [.int .i64 room, .int .i64 free, .int .i64 live, .int .i64 most, .slc m 0 [] 3 0 0 len cap]))) (h1 : hget m H = some (.vec cap 3 ((frS xs).map nodeV))) (hl : len = xs.length ∧ len ≤ 20)
    (hq : Q (.bool false) H n) : callA Try.prog 18 [.ptr k 0 [], .int .i64 h, .int .i64 1] H n Q := setF_use h0 h1 (by rw [frS_len]; exact hl.1) (frS_un _ _) hq
theorem valK_remN {cx : Cx} {fx : Fx} {kt : Kt} {k : IntKind} {a : Int} {m : Nat} {H : Hp} {n : Nat} (h : 0 ≤ a) (h0 : ¬ (m : Int) = 0) (hk : ∀ q : Nat, Imp (q < m) (ValK cx fx kt (some (.int k (q : Int))) H n)) : ValK cx fx kt (remO k a (m : Int)) H n := by
  have h1 := Int.emod_nonneg a (show (m : Int) ≠ 0 by omega)
  have h2 := Int.emod_lt_of_pos a (show 0 < (m : Int) by omega)
  refine valK_rem ⟨h, by omega⟩ ?_
  have h3 := hk (a % (m : Int)).toNat (show (a % (m : Int)).toNat < m by omega)
  rw [show (((a % (m : Int)).toNat : Nat) : Int) = a % (m : Int) by omega] at h3
  exact h3
theorem down_bd {len q : Nat} (h : q < len) : 0 ≤ (down len).getD q default ∧ (down len).getD q default < (len : Int) := by rw [down_get h]; omega
theorem setX_ok {len i : Nat} {x : Int} {xs : List Int} (h : len = xs.length ∧ len ≤ 20) : len = (setX xs i x).length ∧ len ≤ 20 := by rw [setX_len]; exact h
theorem thousand {len : Nat} {xs : List Int} (h : len = xs.length ∧ len ≤ 20) : len = xs.length ∧ len ≤ 1000 := by omega
theorem free_ok {len : Nat} {xs : List Int} (h : len = xs.length ∧ len ≤ 20) (h0 : ¬ (len : Int) = 0) : len = xs.length ∧ 1 ≤ len ∧ len ≤ 1000 := by omega
theorem one_ok {len : Nat} {xs : List Int} (h : len = xs.length ∧ len ≤ 20) (h0 : ¬ (len : Int) = 0) : len = xs.length ∧ 1 ≤ len := by omega
theorem live_ok {len : Nat} {P : Prop} (h : P ∧ len ≤ 20) : 0 ≤ (len : Int) ∧ (len : Int) ≤ 70000 := by omega
theorem push_ok {len : Nat} : 0 ≤ (len : Int) - len ∧ (len : Int) - len < 20 ∧ (20 : Int) ≤ 65536 := by omega
theorem down_le {len : Nat} {P : Prop} (h : P ∧ len ≤ 20) : (down len).length ≤ 100000 := by rw [down_len]; omega
theorem rev_len {len i : Nat} {x : Int} {xs : List Int} (h : len = xs.length ∧ len ≤ 20) : len = (setX xs i x).reverse.length ∧ len = (setX xs i x).reverse.length := by rw [List.length_reverse, setX_len]; exact ⟨h.1, h.1⟩
theorem rev_le {len i : Nat} {x : Int} {xs : List Int} (h : len = xs.length ∧ len ≤ 20) : (setX xs i x).reverse.length ≤ 100000 := by rw [List.length_reverse, setX_len]; omega
theorem things_set {len q : Nat} {x : Int} {xs : List Int} (h : len = xs.length ∧ len ≤ 20) (hq : q < len) : (List.map (AV.int .i64) xs.reverse).set q (.int .i64 x) = (setX xs ((down len).getD q default).toNat x).reverse.map (AV.int .i64) := by
  rw [down_get hq, show ((len : Int) - 1 - q).toNat = len - 1 - q by omega, ← List.map_set]
  congr 1
  apply List.ext_getElem
  · simp [setX]
  · intro i h1 h2
    simp only [List.length_set, List.length_reverse] at h1
    simp only [setX, List.getElem_set, List.getElem_reverse, List.length_set]
    have e : (q = i) ↔ (len - 1 - q = xs.length - 1 - i) := by omega
    by_cases hh : q = i
    · rw [if_pos hh, if_pos (e.1 hh)]
    · rw [if_neg hh, if_neg (fun h => hh (e.2 h))]
theorem down_last {len : Nat} (h : ¬ (len : Int) = 0) : (down len).getD ((len : Int) - 1).toNat default = 0 := by rw [down_get (by omega)]; omega
theorem sets_walk (x0 : List Int) (c0 : Nat) (x1 : Int) (x2 : Int) (h0 : x0.length ≤ c0 ∧ c0 ≤ 9223372036854775807) (w0 : ∀ a ∈ x0, -9223372036854775808 ≤ a ∧ a ≤ 9223372036854775807) (h1 : (0 ≤ x1 ∧ x1 ≤ 255)) (h2 : (-9223372036854775808 ≤ x2 ∧ x2 ≤ 9223372036854775807)) : callA Try.prog 6 [.slc 0 0 [] 1 0 0 x0.length c0, .int .u8 x1, .int .i64 x2] [(0, .ro fun _ => .rows 1 (x0.map (AV.int .i64)))] 1 fun v _ _ => v = .bool true := by
  sym =>
    repeat (first (apply enter6) (apply enter23) (apply shown17_use) (apply new_use) (apply fill_loop; (tactic => rfl); (tactic => exact nI_bd x0)) (apply setF0_use; (tactic => rfl); (tactic => rfl); (tactic => assumption); (tactic => exact hp)) (apply setFm_use; (tactic => rfl); (tactic => rfl); (tactic => assumption)) (apply setF1_use; (tactic => rfl); (tactic => rfl); (tactic => exact setX_ok (by assumption))) (apply gone_one_use; (tactic => rfl); (tactic => rfl); (tactic => decide); (tactic => exact one_ok (setX_ok (by assumption)) (by assumption))) (apply gone_stk_use; (tactic => rfl); (tactic => rfl); (tactic => decide); (tactic => first | exact thousand (by assumption) | exact thousand (setX_ok (by assumption))); (tactic => rfl)) (apply valK_remN; (tactic => exact h1.1); (tactic => exact hp)) (apply set_stk_use; (tactic => rfl); (tactic => rfl); (tactic => decide); (tactic => exact (And.left (by assumption))); (tactic => exact down_bd (by assumption))) (apply same_use; (tactic => rfl); (tactic => rfl); (tactic => rfl); (tactic => first | rfl | exact things_set (by assumption) (by assumption)); (tactic => first | exact ⟨(down_len _).symm, (down_len _).symm⟩ | exact rev_len (by assumption)); (tactic => first | exact down_le (by assumption) | exact rev_le (by assumption))) (apply free_stk_use; (tactic => rfl); (tactic => rfl); (tactic => decide); (tactic => exact free_ok (setX_ok (by assumption)) (by assumption)); (tactic => rfl); (tactic => exact live_ok (by assumption))) (apply push77_use; (tactic => rfl); (tactic => rfl); (tactic => decide); (tactic => exact free_ok (setX_ok (by assumption)) (by assumption)); (tactic => first | decide | exact push_ok)) (apply imp_go; intro hp) (apply valK_w64; · finish (splits := 3) (ematch := 1)) (apply valK_wu8; · finish (splits := 3) (ematch := 1)) (apply valK_wu64; · finish (splits := 3) (ematch := 1)) (apply valK_w32; · finish (splits := 3) (ematch := 1)) (apply valK_wu16; · finish (splits := 3) (ematch := 1)) (apply valK_wu32; · finish (splits := 3) (ematch := 1)) (apply valK_wr) (apply valK_andR) (apply valK_quo; · finish (splits := 3) (ematch := 1)) (apply valK_quoR; · finish (splits := 3) (ematch := 1)) (apply valK_rem; · finish (splits := 3) (ematch := 1)) (apply valK_remR; · finish (splits := 3) (ematch := 1)) (apply valK_bol; · finish (splits := 3) (ematch := 1)) (apply effK_bol; · finish (splits := 3) (ematch := 1)) (apply newK_bol; · finish (splits := 3) (ematch := 1)) (apply appK_bol; · finish (splits := 3) (ematch := 1)) (apply topO_bol; · finish (splits := 3) (ematch := 1)) (apply valK_altY; · finish (splits := 3) (ematch := 1)) (apply valK_altN; · finish (splits := 3) (ematch := 1)) (apply effK_altY; · finish (splits := 3) (ematch := 1)) (apply effK_altN; · finish (splits := 3) (ematch := 1)) (apply valK_altNY; · finish (splits := 3) (ematch := 1)) (apply valK_altNN; · finish (splits := 3) (ematch := 1)) (apply valK_altS) (apply valK_altNS) (apply effK_altS) (apply appS_go) (apply brC_y; · finish (splits := 3) (ematch := 1)) (apply brC_n; · finish (splits := 3) (ematch := 1)) (apply brC_yN; · finish (splits := 3) (ematch := 1)) (apply brC_nN; · finish (splits := 3) (ematch := 1)) (apply brC_s) (apply brC_sN) (apply wantK_y; · finish (splits := 3) (ematch := 1)) (apply wantK_n; · finish (splits := 3) (ematch := 1)) (apply wantK_yN; · finish (splits := 3) (ematch := 1)) (apply wantK_nN; · finish (splits := 3) (ematch := 1)) (apply wantK_s) (apply wantK_sN) (apply rowG_y; · finish (splits := 3) (ematch := 1)) (apply rowG_n; · finish (splits := 3) (ematch := 1)) (apply rowG_yN; · finish (splits := 3) (ematch := 1)) (apply rowG_nN; · finish (splits := 3) (ematch := 1)) (apply rowG_s) (apply rowG_sN) (simp [newP_20, hideH_cons, hide_e, memb_cons, memb_nil, Int.toNat_natCast, down_len, List.length_reverse, e17Op_eq, e19Op_eq, eAbuffertile_eq, eColour_eq, eFrag_eq, eKey_eq, cx6_P, cx6_l0, cx6_l1, cx6_l2, cx6_l3, cx6_l4, cx6_l5, cx6_l6, cx6_l7, cx6_l8, cx6_l10, cx6_l11, cx6_l12, cx6_l13, cx6_l9, cx6_l14, cx6_l15, cx6_l16, cx6_l17, cx6_l18, cx6_l19, cx6_l20, cx6_l21, cx6_l22, cx6_l23, cx6_l24, cx6_l25, cx6_l26, cx6_l27, cx6_l28, cx6_l29, cx6_l30, cx6_pu, Try.f6.eq_1, ty_arrOf_22, ty_arrOf_24, ty_arrOf_3, ty_bytesE_22, ty_hasTy_5, ty_intOf_3, ty_isPtrTy_24, ty_lay_22, ty_lay_24, ty_lay_3, ty_lay_5, ty_notInt_22, ty_notInt_24, ty_slcOf_22, ty_slcOf_24, ty_slcOf_3, ty_zeroA_22, ty_zeroA_24, ty_zeroA_3, ty_zeroE_22, cx23_P, cx23_l0, cx23_l1, cx23_pu, Try.f23.eq_1, valK_some, effK_some, opE_move, opE_assign, opE_pick, opE_load, opE_bin, opE_un, opE_conv, opE_indexAddr, opE_extract, opE_len, opE_min, callK_fn, callK_yld, callG_some, callG_none, opE_store_r, opE_call_r, ev_seq, ev_skip, ev_label, ev_region, ev_cond, condC_some, brC_true, brC_false, ev_block, ev_scope, ev_exit, ev_ret, ev_loop, nx_seq, nx_seqE, nx_seqR, nx_blk, nx_blkE, nx_blkR, nx_loop, nx_loopE, nx_loopR, nx_inv, nx_invE, nx_invR, nx_top, nx_topR, topO_some, evR_nil, wantK_tup, wantK_tt, wantK_ff, wantK_tf, wantK_ft, evR_op, evR_guard, finK_reg, getT_cons, putT_some, putT_none, trimT_some, trimT_none, keepT_nil, keepT_cons, consT_some, consT_none, getT_nil, getO_tmp, getO_const, getO_func, ofC_int, ofC_bool, ofC_ptr, ofC_slc, ofC_map, ofC_fn, getOs_nil, getOs_cons, consO_some, guardT_eq, guardO_some, hget_cons, hset_cons, wrap_lit, wrap_neg, top_i64, bot_i64, bits_i64, cast_lit, toNat_lit, get_zero, get_succ, take_zero, take_succ, set_zero, set_succ, length_nil, length_cons, length_set, append_nil, nil_append, cons_append, toList_arr, bnot_true, bnot_false, band_true, band_false, beq_tt, beq_ff, beq_tf, beq_ft, beq_nat, beq_int, bne_nat, map_some, map_none, true_eq_false, false_eq_true, true_eq_true, fbody_mk, fresults_mk, getD_some, bol_true, binO_some, rem_lit, rem_neg, bin_eql, bin_neq, bin_lss, bin_beql, bin_bneq, eqO_eq, eqO_ne, bin_aeql, bin_aneq, bin_reql, bin_rneq, aggEq_some, flatL_nil, flatL_cons, appV_some, flatV_int, flatV_bool, flatV_agg, flatV_rows, bin_feql, bin_fneq, bin_nfeql, bin_nfneq, bin_peql, bin_pneq, bin_npeql, bin_npneq, unO_some, un_not, convO_some, conv_int, pickA_true, pickA_false, exO_some, ext_tup, size_int, size_bool, size_str, size_ptr, size_nilp, size_slc, size_nils, size_map, size_nilm, size_fn, size_yld, size_nilf, size_agg, size_rows, sizeL_nil, sizeL_cons, layOK_int, layOK_bool, layOK_str, layOK_ptr, layOK_nilp, layOK_slc, layOK_nils, layOK_map, layOK_nilm, layOK_fn, layOK_yld, layOK_nilf, layOK_agg, layOK_rows, isTup_int, isTup_bool, isTup_str, isTup_ptr, isTup_nilp, isTup_slc, isTup_nils, isTup_map, isTup_nilm, isTup_fn, isTup_yld, isTup_nilf, isTup_agg, isTup_rows, getP_nil, getP_cons, getS_some, stepP_agg, stepP_rows, putP_nil, putP_cons, putS_some, putU_some, setS_agg, setS_rows, loadO_some, loadA_ptr, loadE_cel, loadE_vec, loadE_ro, chkL_some, storeO_some, stH_some, storeA_ptr, storeE_cel, storeE_vec, storeB_cel, iaO_some, slN_some, builtO_some, len_slc, len_nils, len_rows, arN_some, min_two, resF_eq, resAll_nil, resAll_cons, resOne_tmp, resOne_cell, tupO_none, tupO_one, tupO_more, argT_nil, argT_cons, lookU_nil, lookU_cons, lookL_cons, lookL_nil, lookP_cons, roundS_eq, mbin_add, mbin_sub, mbin_rem, mun_neg, mcvI_some, wrapO_lit, wrapO_neg, mia_ptr, mia_slc, mstoreB_vec, len_set, not_tf, not_ft, and_tf, not_not_b, alt_true, alt_false, pick_alt, bol_false, getS_bol, getS_alt, chkL_bol, chkL_alt, putS_bol, putS_alt, putU_bol, putU_alt, storeB_bol, storeB_alt, stH_bol, stH_alt, consO_bol, consO_bol2, tupO_bol, eqO_bol, bol_bol, get_mapB, get_setB, get_appB, len_map, nat_zero_add, subC_nil, subC_seq0, subC_seq1, subC_cond0, subC_cond1, subC_block, subC_scope, subC_loop, subC_ran0, subC_ran1, hideH_nil, and_self, and_true, true_and, and_false, false_and]) (apply valK_bolB; · finish (splits := 3) (ematch := 1)) (apply valK_altT; · finish (splits := 3) (ematch := 1)) (apply valK_altF; · finish (splits := 3) (ematch := 1)) (apply valK_altB) (apply brC_t; · finish (splits := 3) (ematch := 1)) (apply brC_f; · finish (splits := 3) (ematch := 1)) (apply brC_sBN) (apply brC_sB) (apply wantK_t; · finish (splits := 3) (ematch := 1)) (apply wantK_f; · finish (splits := 3) (ematch := 1)) (apply wantK_sBN) (apply wantK_sB) (apply rowG_t; · finish (splits := 3) (ematch := 1)) (apply rowG_f; · finish (splits := 3) (ematch := 1)) (apply rowG_sBN) (apply rowG_sB) (intro~ hr) (tactic => exact absurd (down_last (by assumption)).symm hp))
end Go.Proofs.Ytbkmhkeihbgcfaa
