/-
  The pool's functions, used: one list, its nodes in order.
-/
import Derived.Test.YtbkmhkeihbgcfaaPa
set_option linter.unusedVariables false
set_option linter.unusedSimpArgs false
set_option maxRecDepth 10000
set_option maxHeartbeats 0
namespace Go.Proofs.Ytbkmhkeihbgcfaa
open Go.Y
theorem new_use {room : Int} {H : Hp} {n : Nat} {Q : AV → Hp → Nat → Prop} (hq : Q (.ptr n 0 []) ((n + 1, .vec 0 3 []) :: (n, .cel (.agg [.int .i64 (newP room).room, .int .i64 (-1), .int .i64 0, .int .i64 0, .slc (n + 1) 0 [] 3 0 0 0 0])) :: H) (n + 2)) : callA Try.prog 14 [.int .i64 room] H n Q := by
  refine callA_use (new_call room) [] rfl List.nodup_nil (by simp) (by simp [keysB]) rfl trivial ?_
  rintro v H1 m1 _ ⟨rfl, rfl, rfl⟩
  have e : hideH (keysB (renH (idx [] n) [])) H = H := hideH_nil H
  rw [e]
  simpa [poolH, poolV, newP, renH, renL, AV.ren, Ent.ren, idx] using hq
/-- A row that a cell names goes on under a new number: also ahead of a loop. -/
theorem awp_fresh {P : Program} {fx : Fx} {c : Code} {T : Sl} {H : Hp} {n : Nat} {K : Ex → St → Prop} (kc : Nat) (p : List PE) {kv cap sz len : Nat} {l : List AV} {u u' : AV} (hne : kc ≠ kv) (hc : hget kc H = some (.cel u)) (hv : hget kv H = some (.vec cap sz l))
    (hg : getP u p = some (.slc kv 0 [] sz 0 0 len cap)) (hp : putP u p (.slc n 0 [] sz 0 0 len cap) = some u')
    (h : awp P fx c ⟨T, (n, .vec cap sz l) :: hset kc (.cel u') (hdel kv H), n + 1⟩ K) : awp P fx c ⟨T, H, n⟩ K := by
  intro N D b kk cs tmps rs w lam hs hn hb
  have ha := setLam_agree lam n (lam kv 0)
  have hn' : fx.n0 ≤ n := hn
  obtain ⟨e, st', tmps', rs', w', lam', hK, hS, hn2, hU, hag, hky, hA⟩ := h N D b kk cs tmps rs w (setLam lam n (lam kv 0)) ⟨hs.tmp.mono ha.keeps (Nat.le_succ n), hsit_fresh hs.heap hne hc hv hg hp, hs.size, hs.nt, hs.marks, hs.once⟩ (by show fx.n0 ≤ n + 1; omega) (hb.agree (ha.mono hn'))
  refine ⟨e, st', tmps', rs', w', lam', hK, hS, hn2, hU, (ha.mono hn').trans hag, ?_, hA⟩
  have hnd : ((hdel kv H).map (·.1)).Nodup := hs.heap.nd.sublist ((hdel_sub' kv H).map _)
  exact (KeyS.cons ((KeyS.sub (hdel_sub' kv H)).trans (KeyS.set hnd (by rw [hget_hdel hne]; exact hc) rfl)) rfl hn').trans hky
theorem loopS_fresh {cx : Cx} {fx : Fx} {k : Kd} {c : Code} {T : Sl} {H : Hp} {n : Nat} (kc : Nat) (p : List PE) {kv cap sz len : Nat} {l : List AV} {u u' : AV} (hne : kc ≠ kv) (hc : hget kc H = some (.cel u)) (hv : hget kv H = some (.vec cap sz l))
    (hg : getP u p = some (.slc kv 0 [] sz 0 0 len cap)) (hp : putP u p (.slc n 0 [] sz 0 0 len cap) = some u')
    (h : LoopS cx fx c ⟨T, (n, .vec cap sz l) :: hset kc (.cel u') (hdel kv H), n + 1⟩ k) : LoopS cx fx c ⟨T, H, n⟩ k := fun hpu hok => awp_fresh kc p hne hc hv hg hp (h hpu hok)
/-- One list, its nodes in order. -/
def stk (xs : List Int) : List Node := xs.mapIdx fun j x => (x, (j : Int) - 1, true)
theorem stk_len (xs : List Int) : (stk xs).length = xs.length := by simp [stk]
theorem stk_get {xs : List Int} {j : Nat} (h : j < xs.length) : (stk xs).getD j default = (xs.getD j 0, (j : Int) - 1, true) := by
  rw [List.getD_eq_getElem?_getD, List.getElem?_eq_getElem (by rw [stk_len]; exact h), List.getD_eq_getElem?_getD, List.getElem?_eq_getElem h]
  simp [stk]
theorem stk_app (xs : List Int) (x : Int) : stk xs ++ [(x, (xs.length : Int) - 1, true)] = stk (xs ++ [x]) := by simp [stk, List.mapIdx_append]
theorem stk_set (xs : List Int) (j : Nat) (y : Int) : (stk xs).set j (y, (j : Int) - 1, true) = stk (xs.set j y) := by
  apply List.ext_getElem
  · simp [stk]
  · intro i h1 h2
    simp only [stk, List.getElem_set, List.getElem_mapIdx]
    split
    · rename_i h; subst h; rfl
    · rfl
theorem stk_taken (xs : List Int) (h : Int) : takenP (stk xs) h = if 0 ≤ h ∧ h < xs.length then true else false := by
  unfold takenP
  rw [stk_len]
  split
  · rename_i hh
    rw [stk_get (by omega)]
  · rfl
theorem push_stk_use {k m cap : Nat} {xs : List Int} {room live most h x : Int} {H : Hp} {n : Nat} {Q : AV → Hp → Nat → Prop} (hk : hget k H = some (.cel (.agg [.int .i64 room, .int .i64 (-1), .int .i64 live, .int .i64 most, .slc m 0 [] 3 0 0 xs.length cap]))) (hm : hget m H = some (.vec cap 3 ((stk xs).map nodeV)))
    (hlt : k < n ∧ m < n ∧ k ≠ m) (hx : (xs.length : Int) < 65536 ∧ 0 ≤ live ∧ live < room ∧ room ≤ 65536) (hh : h = (xs.length : Int) - 1)
    (hq : ∀ cap', Q (.tup [.int .i64 xs.length, .bool true]) ((n, .vec cap' 3 ((stk (xs ++ [x])).map nodeV)) :: (k, .cel (.agg [.int .i64 room, .int .i64 (-1), .int .i64 (live + 1), .int .i64 (if most < live + 1 then live + 1 else most), .slc n 0 [] 3 0 0 (xs.length + 1) cap'])) :: hideH [m, k] H) (n + 1)) :
    callA Try.prog 15 [.ptr k 0 [], .int .i64 h, .int .i64 x] H n Q := by
  have e := stk_len xs
  have ek : idx [k, m] n 0 = k := rfl
  have em : idx [k, m] n 1 = m := rfl
  refine callA_use (push_call ⟨room, -1, live, most, stk xs⟩ cap h x ⟨hx.2.1, show live < 70000 by omega⟩ (.inl rfl) (show (stk xs).length < 70000 by omega)) [k, m] rfl (by simp; exact hlt.2.2) (by simp; exact ⟨hlt.1, hlt.2.1⟩) (by simp [keysB, poolH]) rfl ?_ ?_
  · refine ⟨?_, ?_, trivial⟩
    · have := hm
      simpa [Ent.ren, em, nodes_ren] using this
    · have := hk
      simpa [Ent.ren, ek, em, poolV, AV.ren, renL, e] using this
  · rintro v H1 m1 _ ⟨cap', rfl, rfl, rfl⟩
    have hp : pushP ⟨room, -1, live, most, stk xs⟩ h x = ((xs.length : Int), true, ⟨room, -1, live + 1, (if most < live + 1 then live + 1 else most), stk (xs ++ [x])⟩) := by
      unfold pushP
      have ht : ¬ ((h ≠ -1 ∧ takenP (stk xs) h = false) ∨ live = room) := by
        rw [stk_taken]
        intro hc
        rcases hc with ⟨h1, h2⟩ | h1
        · rw [if_pos (by omega)] at h2; exact Bool.noConfusion h2
        · omega
      rw [if_neg ht]
      simp only [if_true, e, hh, stk_app]
    rw [hp]
    have := hq cap'
    have e2 : (stk (xs ++ [x])).length = xs.length + 1 := by rw [stk_len]; simp
    simpa [poolH, poolV, renH, renL, AV.ren, Ent.ren, idx, keysB, nodes_ren, e2] using this
theorem push_first_use {k m cap : Nat} {room live most x : Int} {H : Hp} {n : Nat} {Q : AV → Hp → Nat → Prop} (hk : hget k H = some (.cel (.agg [.int .i64 room, .int .i64 (-1), .int .i64 live, .int .i64 most, .slc m 0 [] 3 0 0 0 cap]))) (hm : hget m H = some (.vec cap 3 []))
    (hlt : k < n ∧ m < n ∧ k ≠ m) (hx : 0 ≤ live ∧ live < room ∧ room ≤ 65536)
    (hq : ∀ cap', Q (.tup [.int .i64 0, .bool true]) ((n, .vec cap' 3 ((stk [x]).map nodeV)) :: (k, .cel (.agg [.int .i64 room, .int .i64 (-1), .int .i64 (live + 1), .int .i64 (if most < live + 1 then live + 1 else most), .slc n 0 [] 3 0 0 1 cap'])) :: hideH [m, k] H) (n + 1)) :
    callA Try.prog 15 [.ptr k 0 [], .int .i64 (-1), .int .i64 x] H n Q :=
  push_stk_use (xs := []) hk hm hlt ⟨by decide, hx⟩ rfl hq
theorem push_full_use {k m cap : Nat} {xs : List Int} {room most h x : Int} {H : Hp} {n : Nat} {Q : AV → Hp → Nat → Prop} (hk : hget k H = some (.cel (.agg [.int .i64 room, .int .i64 (-1), .int .i64 room, .int .i64 most, .slc m 0 [] 3 0 0 xs.length cap]))) (hm : hget m H = some (.vec cap 3 ((stk xs).map nodeV)))
    (hlt : k < n ∧ m < n ∧ k ≠ m) (hx : (xs.length : Int) < 65536 ∧ 0 ≤ room ∧ room ≤ 65536)
    (hq : ∀ cap', Q (.tup [.int .i64 h, .bool false]) ((n, .vec cap' 3 ((stk xs).map nodeV)) :: (k, .cel (.agg [.int .i64 room, .int .i64 (-1), .int .i64 room, .int .i64 most, .slc n 0 [] 3 0 0 xs.length cap'])) :: hideH [m, k] H) (n + 1)) :
    callA Try.prog 15 [.ptr k 0 [], .int .i64 h, .int .i64 x] H n Q := by
  have e := stk_len xs
  have ek : idx [k, m] n 0 = k := rfl
  have em : idx [k, m] n 1 = m := rfl
  refine callA_use (push_call ⟨room, -1, room, most, stk xs⟩ cap h x ⟨hx.2.1, show room < 70000 by omega⟩ (.inl rfl) (show (stk xs).length < 70000 by omega)) [k, m] rfl (by simp; exact hlt.2.2) (by simp; exact ⟨hlt.1, hlt.2.1⟩) (by simp [keysB, poolH]) rfl ?_ ?_
  · refine ⟨?_, ?_, trivial⟩
    · have := hm
      simpa [Ent.ren, em, nodes_ren] using this
    · have := hk
      simpa [Ent.ren, ek, em, poolV, AV.ren, renL, e] using this
  · rintro v H1 m1 _ ⟨cap', rfl, rfl, rfl⟩
    have hp : pushP ⟨room, -1, room, most, stk xs⟩ h x = (h, false, ⟨room, -1, room, most, stk xs⟩) := by
      unfold pushP
      rw [if_pos (.inr rfl)]
    rw [hp]
    have := hq cap'
    simpa [poolH, poolV, renH, renL, AV.ren, Ent.ren, idx, keysB, nodes_ren, e] using this
theorem pushS_use {k m len cap : Nat} {xs : List Int} {room live most h x : Int} {H : Hp} {n : Nat} {Q : AV → Hp → Nat → Prop} (hk : hget k H = some (.cel (.agg [.int .i64 room, .int .i64 (-1), .int .i64 live, .int .i64 most, .slc m 0 [] 3 0 0 len cap]))) (hm : hget m H = some (.vec cap 3 ((stk xs).map nodeV)))
    (hl : len = xs.length) (hlt : k < n ∧ m < n ∧ k ≠ m) (hx : (len : Int) < 65536 ∧ 0 ≤ live ∧ live < room ∧ room ≤ 65536) (hh : h = (len : Int) - 1)
    (hq : ∀ cap', Q (.tup [.int .i64 len, .bool true]) ((n, .vec cap' 3 ((stk (xs ++ [x])).map nodeV)) :: (k, .cel (.agg [.int .i64 room, .int .i64 (-1), .int .i64 (live + 1), .int .i64 (if most < live + 1 then live + 1 else most), .slc n 0 [] 3 0 0 (len + 1) cap'])) :: hideH [m, k] H) (n + 1)) :
    callA Try.prog 15 [.ptr k 0 [], .int .i64 h, .int .i64 x] H n Q := by
  subst hl
  exact push_stk_use hk hm hlt hx hh hq
theorem pushF_use {k m len cap : Nat} {xs : List Int} {room most h x : Int} {H : Hp} {n : Nat} {Q : AV → Hp → Nat → Prop} (hk : hget k H = some (.cel (.agg [.int .i64 room, .int .i64 (-1), .int .i64 room, .int .i64 most, .slc m 0 [] 3 0 0 len cap]))) (hm : hget m H = some (.vec cap 3 ((stk xs).map nodeV)))
    (hl : len = xs.length) (hlt : k < n ∧ m < n ∧ k ≠ m) (hx : (len : Int) < 65536 ∧ 0 ≤ room ∧ room ≤ 65536)
    (hq : ∀ cap', Q (.tup [.int .i64 h, .bool false]) ((n, .vec cap' 3 ((stk xs).map nodeV)) :: (k, .cel (.agg [.int .i64 room, .int .i64 (-1), .int .i64 room, .int .i64 most, .slc n 0 [] 3 0 0 len cap'])) :: hideH [m, k] H) (n + 1)) :
    callA Try.prog 15 [.ptr k 0 [], .int .i64 h, .int .i64 x] H n Q := by
  subst hl
  exact push_full_use hk hm hlt hx hq
theorem newP_2 : (newP 2).room = 2 := by decide
theorem newP_60 : (newP 60).room = 60 := by decide
theorem newP_20 : (newP 20).room = 20 := by decide
theorem newP_40 : (newP 40).room = 40 := by decide
theorem hide_e (ks : List Nat) : hideH ks [] = [] := rfl
theorem push9_use {k m len cap : Nat} {xs : List Int} {room most h : Int} {H : Hp} {n : Nat} {Q : AV → Hp → Nat → Prop} (hk : hget k H = some (.cel (.agg [.int .i64 room, .int .i64 (-1), .int .i64 room, .int .i64 most, .slc m 0 [] 3 0 0 len cap]))) (hm : hget m H = some (.vec cap 3 ((stk xs).map nodeV)))
    (hl : len = xs.length) (hlt : k < n ∧ m < n ∧ k ≠ m) (hx : (len : Int) < 65536 ∧ 0 ≤ room ∧ room ≤ 65536)
    (hq : ∀ cap', Q (.tup [.int .i64 h, .bool false]) ((n, .vec cap' 3 ((stk xs).map nodeV)) :: (k, .cel (.agg [.int .i64 room, .int .i64 (-1), .int .i64 room, .int .i64 most, .slc n 0 [] 3 0 0 len cap'])) :: hideH [m, k] H) (n + 1)) :
    callA Try.prog 15 [.ptr k 0 [], .int .i64 h, .int .i64 9] H n Q := pushF_use hk hm hl hlt hx hq
theorem taken_stk_use {k m len cap : Nat} {xs : List Int} {room free live most h : Int} {H : Hp} {n : Nat} {Q : AV → Hp → Nat → Prop} (hk : hget k H = some (.cel (.agg [.int .i64 room, .int .i64 free, .int .i64 live, .int .i64 most, .slc m 0 [] 3 0 0 len cap]))) (hm : hget m H = some (.vec cap 3 ((stk xs).map nodeV)))
    (hl : len = xs.length) (hq : Q (.bool (if 0 ≤ h ∧ h < (len : Int) then true else false)) H n) : callA Try.prog 45 [.ptr k 0 [], .int .i64 h] H n Q := by
  subst hl
  refine taken_use (s := ⟨room, free, live, most, stk xs⟩) (m := m) (cap := cap) (by rw [hk, poolV, stk_len]) hm h ?_
  rw [stk_taken]; exact hq

noncomputable def cx19 : Cx := ⟨Try.prog, [], [], [(0, [0]), (1, [2])]⟩
theorem cx19_P : cx19.P = Try.prog := rfl
theorem cx19_l0 : lookL 0 cx19.lv = some [0] := rfl
theorem cx19_l1 : lookL 1 cx19.lv = some [2] := rfl
theorem cx19_pu : cx19.pu = [] := rfl
theorem cx19_ok : okc cx19 Try.f19.ntmps (Try.f19.body.getD .skip) = true := by kernel_rfl
theorem enter19 {args : List AV} {H : Hp} {n : Nat} {Q : AV → Hp → Nat → Prop} (h : args.length ≤ 7 ∧ Ev cx19 ⟨7, n, none, 19⟩ (Try.f19.body.getD .skip) ⟨argT 0 args, H, n⟩ (.top Try.f19.results.toList Q)) : callA Try.prog 19 args H n Q :=
  callA_ev (cx := cx19) puOk_nil (f := 19) (fn := Try.f19) Try.func19 rfl (by kernel_rfl) h.1 cx19_ok h.2
noncomputable def cx22 : Cx := ⟨Try.prog, [], [], [(0, [0]), (1, [2])]⟩
theorem cx22_P : cx22.P = Try.prog := rfl
theorem cx22_l0 : lookL 0 cx22.lv = some [0] := rfl
theorem cx22_l1 : lookL 1 cx22.lv = some [2] := rfl
theorem cx22_pu : cx22.pu = [] := rfl
theorem cx22_ok : okc cx22 Try.f22.ntmps (Try.f22.body.getD .skip) = true := by kernel_rfl
theorem enter22 {args : List AV} {H : Hp} {n : Nat} {Q : AV → Hp → Nat → Prop} (h : args.length ≤ 7 ∧ Ev cx22 ⟨7, n, none, 22⟩ (Try.f22.body.getD .skip) ⟨argT 0 args, H, n⟩ (.top Try.f22.results.toList Q)) : callA Try.prog 22 args H n Q :=
  callA_ev (cx := cx22) puOk_nil (f := 22) (fn := Try.f22) Try.func22 rfl (by kernel_rfl) h.1 cx22_ok h.2
noncomputable def cx16 : Cx := ⟨Try.prog, [], [], [(0, [3, 2]), (1, [4])]⟩
theorem cx16_P : cx16.P = Try.prog := rfl
theorem cx16_l0 : lookL 0 cx16.lv = some [3, 2] := rfl
theorem cx16_l1 : lookL 1 cx16.lv = some [4] := rfl
theorem cx16_pu : cx16.pu = [] := rfl
theorem cx16_ok : okc cx16 Try.f16.ntmps (Try.f16.body.getD .skip) = true := by kernel_rfl
theorem enter16 {args : List AV} {H : Hp} {n : Nat} {Q : AV → Hp → Nat → Prop} (h : args.length ≤ 6 ∧ Ev cx16 ⟨6, n, none, 16⟩ (Try.f16.body.getD .skip) ⟨argT 0 args, H, n⟩ (.top Try.f16.results.toList Q)) : callA Try.prog 16 args H n Q :=
  callA_ev (cx := cx16) puOk_nil (f := 16) (fn := Try.f16) Try.func16 rfl (by kernel_rfl) h.1 cx16_ok h.2
noncomputable def cx13 : Cx := ⟨Try.prog, [], [], [(0, []), (1, [1]), (2, [10, 1]), (3, [0]), (4, [3, 2, 1]), (5, [5, 4, 3, 2, 1]), (6, [7, 5, 4, 3, 2, 1]), (7, [0])]⟩
theorem cx13_P : cx13.P = Try.prog := rfl
theorem cx13_l0 : lookL 0 cx13.lv = some [] := rfl
theorem cx13_l1 : lookL 1 cx13.lv = some [1] := rfl
theorem cx13_l2 : lookL 2 cx13.lv = some [10, 1] := rfl
theorem cx13_l3 : lookL 3 cx13.lv = some [0] := rfl
theorem cx13_l4 : lookL 4 cx13.lv = some [3, 2, 1] := rfl
theorem cx13_l5 : lookL 5 cx13.lv = some [5, 4, 3, 2, 1] := rfl
theorem cx13_l6 : lookL 6 cx13.lv = some [7, 5, 4, 3, 2, 1] := rfl
theorem cx13_l7 : lookL 7 cx13.lv = some [0] := rfl
theorem cx13_pu : cx13.pu = [] := rfl
theorem cx13_ok : okc cx13 Try.f13.ntmps (Try.f13.body.getD .skip) = true := by kernel_rfl
theorem enter13 {args : List AV} {H : Hp} {n : Nat} {Q : AV → Hp → Nat → Prop} (h : args.length ≤ 47 ∧ Ev cx13 ⟨47, n, none, 13⟩ (Try.f13.body.getD .skip) ⟨argT 0 args, H, n⟩ (.top Try.f13.results.toList Q)) : callA Try.prog 13 args H n Q :=
  callA_ev (cx := cx13) puOk_nil (f := 13) (fn := Try.f13) Try.func13 rfl (by kernel_rfl) h.1 cx13_ok h.2
theorem shown17_use {H : Hp} {n : Nat} {Q : AV → Hp → Nat → Prop} (hq : Q (.bool true) H n) : callA Try.prog 13 [] H n Q := by
  refine callA_pure ?_ rfl (by rfl) hq
  sym =>
    repeat (first (apply enter13) (apply enter16) (apply new_use) (apply push_first_use; (tactic => rfl); (tactic => rfl); (tactic => decide); (tactic => decide)) (apply push9_use; (tactic => rfl); (tactic => rfl); (tactic => rfl); (tactic => decide); (tactic => decide)) (apply pushS_use; (tactic => rfl); (tactic => rfl); (tactic => rfl); (tactic => decide); (tactic => decide); (tactic => rfl)) (apply imp_go; intro hp) (apply valK_w64; · finish (splits := 3) (ematch := 1)) (apply valK_wr) ((first (apply valK_bol) (apply effK_bol) (apply newK_bol) (apply appK_bol) (apply topO_bol)); · finish (splits := 3) (ematch := 1)) ((first (apply valK_altY) (apply effK_altY)); · finish (splits := 3) (ematch := 1)) ((first (apply valK_altN) (apply effK_altN)); · finish (splits := 3) (ematch := 1)) (apply valK_altNY; · finish (splits := 3) (ematch := 1)) (apply valK_altNN; · finish (splits := 3) (ematch := 1)) (apply valK_altS) (apply valK_altNS) (apply effK_altS) (apply appS_go) ((first (apply brC_y) (apply wantK_y)); · finish (splits := 3) (ematch := 1)) ((first (apply brC_n) (apply wantK_n)); · finish (splits := 3) (ematch := 1)) ((first (apply brC_yN) (apply wantK_yN)); · finish (splits := 3) (ematch := 1)) ((first (apply brC_nN) (apply wantK_nN)); · finish (splits := 3) (ematch := 1)) (apply brC_s) (apply brC_sN) (apply wantK_s) (apply wantK_sN) (simp [newP_2, hideH_cons, hide_e, memb_cons, memb_nil, e17Op_eq, e19Op_eq, eAbuffertile_eq, eColour_eq, eFrag_eq, eKey_eq, cx13_P, cx13_l0, cx13_l1, cx13_l2, cx13_l3, cx13_l4, cx13_l5, cx13_l6, cx13_l7, cx13_pu, Try.f13.eq_1, ty_arrOf_24, ty_arrOf_3, ty_intOf_3, ty_isFuncTy_29, ty_isInt_3, ty_notInt_3, ty_isPtrTy_24, ty_lay_24, ty_lay_3, ty_notInt_24, ty_slcOf_24, ty_slcOf_3, ty_zeroA_24, ty_zeroA_3, cx16_P, cx16_l0, cx16_l1, cx16_pu, Try.f16.eq_1, valK_some, newK_some, opE_move, opE_assign, opE_pick, opE_load, opE_bin, opE_un, opE_makeFunc, opE_extract, opE_alloc, opE_box, callK_fn, callK_yld, callG_some, callG_none, opE_call_r, ev_seq, ev_skip, ev_label, ev_region, ev_cond, condC_some, brC_true, brC_false, ev_block, ev_scope, ev_exit, ev_ret, nx_seq, nx_seqE, nx_seqR, nx_blk, nx_blkE, nx_blkR, nx_top, nx_topR, topO_some, evR_nil, wantK_tup, wantK_tt, wantK_ff, wantK_tf, wantK_ft, evR_op, evR_guard, finK_reg, finN_reg, nid_reg, getT_cons, putT_some, putT_none, trimT_some, trimT_none, keepT_nil, keepT_cons, consT_some, consT_none, getT_nil, getO_tmp, getO_const, getO_func, ofC_int, ofC_bool, ofC_ptr, ofC_slc, ofC_map, ofC_fn, getOs_nil, getOs_cons, consO_some, guardT_eq, guardO_some, hget_cons, wrap_lit, wrap_neg, top_i64, bot_i64, bits_i64, cast_lit, toNat_lit, get_zero, get_succ, take_zero, take_succ, set_zero, set_succ, length_nil, length_cons, append_nil, nil_append, cons_append, toList_arr, bnot_true, bnot_false, band_true, band_false, beq_tt, beq_ff, beq_tf, beq_ft, beq_nat, beq_int, bne_nat, map_some, map_none, true_eq_false, false_eq_true, true_eq_true, fbody_mk, fresults_mk, getD_some, bol_true, binO_some, bin_eql, bin_neq, bin_beql, bin_bneq, eqO_eq, eqO_ne, bin_aeql, bin_aneq, bin_reql, bin_rneq, aggEq_some, flatL_nil, flatL_cons, appV_some, flatV_int, flatV_bool, flatV_agg, flatV_rows, bin_feql, bin_fneq, bin_nfeql, bin_nfneq, bin_peql, bin_pneq, bin_npeql, bin_npneq, unO_some, un_not, pickA_true, pickA_false, exO_some, ext_tup, mkFnO_some, size_int, size_bool, size_str, size_ptr, size_nilp, size_slc, size_nils, size_map, size_nilm, size_fn, size_yld, size_nilf, size_agg, size_rows, sizeL_nil, sizeL_cons, layOK_int, layOK_bool, layOK_str, layOK_ptr, layOK_nilp, layOK_slc, layOK_nils, layOK_map, layOK_nilm, layOK_fn, layOK_yld, layOK_nilf, layOK_agg, layOK_rows, isTup_int, isTup_bool, isTup_str, isTup_ptr, isTup_nilp, isTup_slc, isTup_nils, isTup_map, isTup_nilm, isTup_fn, isTup_yld, isTup_nilf, isTup_agg, isTup_rows, getP_nil, getP_cons, getS_some, stepP_agg, stepP_rows, loadO_some, loadA_ptr, loadE_cel, loadE_vec, loadE_ro, chkL_some, newA_some, slN_some, resF_eq, resAll_nil, resAll_cons, resOne_tmp, resOne_cell, tupO_none, tupO_one, tupO_more, argT_nil, argT_cons, lookU_nil, lookU_cons, lookL_cons, lookL_nil, lookP_cons, roundS_eq, mun_neg, wrapO_lit, wrapO_neg, not_tf, not_ft, and_tf, not_not_b, alt_true, alt_false, pick_alt, bol_false, getS_bol, getS_alt, chkL_bol, chkL_alt, consO_bol, consO_bol2, tupO_bol, eqO_bol, bol_bol, get_mapB, get_setB, get_appB, len_map, nat_zero_add, bin_nsleql, bin_nslneq, bin_nnleql, bin_nnlneq, slN_bol, beq_str, hideH_nil, and_self, and_true, true_and, and_false, false_and]) (apply valK_bolB; · finish (splits := 3) (ematch := 1)) (apply valK_altT; · finish (splits := 3) (ematch := 1)) (apply valK_altF; · finish (splits := 3) (ematch := 1)) (apply valK_altB) ((first (apply brC_t) (apply wantK_t)); · finish (splits := 3) (ematch := 1)) ((first (apply brC_f) (apply wantK_f)); · finish (splits := 3) (ematch := 1)) (apply brC_sBN) (apply brC_sB) (apply wantK_sBN) (apply wantK_sB) (intro~ hr) (tactic => (trace_state; exact test_fail)))
end Go.Proofs.Ytbkmhkeihbgcfaa
