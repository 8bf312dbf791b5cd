/-
  Chapter 16: slices.Insert.
-/
import Derived.Test.YtcmacobhnpgpaaaKa
set_option linter.unusedVariables false
set_option linter.unusedSimpArgs false
set_option maxRecDepth 10000
set_option maxHeartbeats 0
namespace Go.Proofs.Ytcmacobhnpgpaaa
open Go.Y
theorem ovS_ok : ∀ args H v, ovS args H = some v → PureA Try.prog 47 args v ∨ ExtA Try.prog 47 args H v :=
  ov_ext (P := Try.prog) (f := 47) (fn := Try.f47) (tS := 28) (e := 33) (tR := 4) (size := 11) Try.func47 (by kernel_rfl) (by kernel_rfl) (by kernel_rfl) (by kernel_rfl) (by kernel_rfl) (fun w => by kernel_rfl)
noncomputable def cx36 : Cx := ⟨Try.prog, [(47, ovS)], [(11, ⟨0, [⟨0, false, [], [], [], 0⟩, ⟨1, false, [], [], [], 0⟩, ⟨2, false, [], [], [], 0⟩, ⟨3, false, [1, 2], [], [], 0⟩, ⟨4, false, [0, 3], [], [], 0⟩, ⟨5, false, [], [], [], 0⟩, ⟨6, false, [], [], [], 0⟩, ⟨7, false, [5, 6], [], [], 0⟩, ⟨8, true, [4, 7], [], [], 0⟩]⟩), (15, ⟨0, [⟨0, false, [], [], [], 0⟩, ⟨1, false, [], [], [], 0⟩, ⟨2, false, [], [], [], 0⟩, ⟨3, false, [1, 2], [], [], 0⟩, ⟨4, false, [0, 3], [], [], 0⟩, ⟨5, false, [], [], [], 0⟩, ⟨6, false, [], [], [], 0⟩, ⟨7, false, [5, 6], [], [], 0⟩, ⟨8, true, [4, 7], [], [], 0⟩]⟩)], ((0, [2, 1, 0]) :: (1, [2, 1, 0]) :: (2, [7, 2, 1, 0]) :: (3, [16, 7, 2, 1, 0]) :: (4, [6]) :: (5, [8, 7, 2, 1, 0]) :: (6, [22, 8, 7, 2, 1, 0]) :: (7, [6]) :: (8, [31, 8, 7, 2, 1, 0]) :: (9, [9, 7, 2, 1, 0]) :: (10, [9, 7, 1, 0]) :: (11, [9]) :: (12, [6]) :: (13, [8, 7, 2, 1, 0]) :: (14, [68, 8, 7, 2, 1, 0]) :: (15, [2, 1, 0]) :: (16, [0]) :: (17, [6]) :: (18, [7, 1, 0]) :: (19, [0]) :: (20, [6]) :: [])⟩
theorem cx36_P : cx36.P = Try.prog := rfl
theorem cx36_l0 : lookL 0 cx36.lv = some [2, 1, 0] := rfl
theorem cx36_l1 : lookL 1 cx36.lv = some [2, 1, 0] := rfl
theorem cx36_l2 : lookL 2 cx36.lv = some [7, 2, 1, 0] := rfl
theorem cx36_l3 : lookL 3 cx36.lv = some [16, 7, 2, 1, 0] := rfl
theorem cx36_l4 : lookL 4 cx36.lv = some [6] := rfl
theorem cx36_l5 : lookL 5 cx36.lv = some [8, 7, 2, 1, 0] := rfl
theorem cx36_l6 : lookL 6 cx36.lv = some [22, 8, 7, 2, 1, 0] := rfl
theorem cx36_l7 : lookL 7 cx36.lv = some [6] := rfl
theorem cx36_l8 : lookL 8 cx36.lv = some [31, 8, 7, 2, 1, 0] := rfl
theorem cx36_l9 : lookL 9 cx36.lv = some [9, 7, 2, 1, 0] := rfl
theorem cx36_l10 : lookL 10 cx36.lv = some [9, 7, 1, 0] := rfl
theorem cx36_l11 : lookL 11 cx36.lv = some [9] := rfl
theorem cx36_l12 : lookL 12 cx36.lv = some [6] := rfl
theorem cx36_l13 : lookL 13 cx36.lv = some [8, 7, 2, 1, 0] := rfl
theorem cx36_l14 : lookL 14 cx36.lv = some [68, 8, 7, 2, 1, 0] := rfl
theorem cx36_l15 : lookL 15 cx36.lv = some [2, 1, 0] := rfl
theorem cx36_l16 : lookL 16 cx36.lv = some [0] := rfl
theorem cx36_l17 : lookL 17 cx36.lv = some [6] := rfl
theorem cx36_l18 : lookL 18 cx36.lv = some [7, 1, 0] := rfl
theorem cx36_l19 : lookL 19 cx36.lv = some [0] := rfl
theorem cx36_l20 : lookL 20 cx36.lv = some [6] := rfl
theorem cx36_p11 : lookP 11 cx36.pl = some ⟨0, [⟨0, false, [], [], [], 0⟩, ⟨1, false, [], [], [], 0⟩, ⟨2, false, [], [], [], 0⟩, ⟨3, false, [1, 2], [], [], 0⟩, ⟨4, false, [0, 3], [], [], 0⟩, ⟨5, false, [], [], [], 0⟩, ⟨6, false, [], [], [], 0⟩, ⟨7, false, [5, 6], [], [], 0⟩, ⟨8, true, [4, 7], [], [], 0⟩]⟩ := rfl
theorem cx36_p15 : lookP 15 cx36.pl = some ⟨0, [⟨0, false, [], [], [], 0⟩, ⟨1, false, [], [], [], 0⟩, ⟨2, false, [], [], [], 0⟩, ⟨3, false, [1, 2], [], [], 0⟩, ⟨4, false, [0, 3], [], [], 0⟩, ⟨5, false, [], [], [], 0⟩, ⟨6, false, [], [], [], 0⟩, ⟨7, false, [5, 6], [], [], 0⟩, ⟨8, true, [4, 7], [], [], 0⟩]⟩ := rfl
theorem cx36_u47 : lookU 47 cx36.pu = some ovS := rfl
theorem cx36_pu : cx36.pu = [(47, ovS)] := rfl
theorem cx36_ok : okc cx36 Try.f36.ntmps (Try.f36.body.getD .skip) = true := by kernel_rfl
theorem cx36_puOk : PuOk cx36 := (puOk_cons ovS_ok puOk_nil)
theorem enter36 {args : List AV} {H : Hp} {n : Nat} {Q : AV → Hp → Nat → Prop} (h : args.length ≤ 95 ∧ Ev cx36 ⟨95, n, none, 36⟩ (Try.f36.body.getD .skip) ⟨argT 0 args, H, n⟩ (.top Try.f36.results.toList Q)) : callA Try.prog 36 args H n Q :=
  callA_ev (cx := cx36) cx36_puOk (f := 36) (fn := Try.f36) Try.func36 rfl (by kernel_rfl) h.1 cx36_ok h.2
def insA (L : List TFrag) (i : Nat) (x : TFrag) : List TFrag := L.take i ++ x :: L.drop i
def zFrag : TFrag := ⟨0, 0, 0, ⟨0, 0, 0, 0⟩, ⟨0, 0, 0, 0⟩⟩
theorem ins_room {l : Nat} {p q : Prop} (h : p ∧ q ∧ l ≤ 100000) : (l + 1) * 64 ≤ 140737488355328 ∧ l + 1 ≤ 9223372036854775807 := by omega
theorem ins_a {L : List TFrag} {i : Nat} {x : TFrag} (h : (i : Int) = (L.length : Int)) : L.map eFrag ++ [eFrag x] = (insA L i x).map eFrag := by
  have e : i = L.length := by omega
  subst e
  unfold insA
  rw [List.take_length, List.drop_length, List.map_append]; rfl
theorem ins_grow {L Z Z2 Z3 : List TFrag} {i m d : Nat} {x : TFrag} {p : Prop} (h : i ≤ L.length) (hm : i + m = L.length + 1) (hd : i + d = L.length) (h1 : Z = L.take i ++ List.replicate m zFrag ∧ p) (h2 : Z2 = Z.take i ++ ([x].drop 0).take 1 ++ Z.drop (i + 1)) (h3 : Z3 = Z2.take (i + 1) ++ (L.drop i).take d ++ Z2.drop (i + 1 + d)) : Z3 = insA L i x := by
  have hl : (L.take i).length = i := by rw [List.length_take]; omega
  have hdl : (L.drop i).length = d := by rw [List.length_drop]; omega
  have e1 : Z.take i = L.take i := by
    rw [h1.1]; exact List.take_left' hl
  have e2 : Z2.take (i + 1) = L.take i ++ [x] := by
    rw [h2, e1]
    exact List.take_left' (by rw [List.length_append, hl]; rfl)
  have e3 : Z2.length = L.length + 1 := by
    rw [h2, e1, h1.1]; simp [hl]; omega
  have e4 : Z2.drop (i + 1 + d) = [] := List.drop_of_length_le (by omega)
  have e5 : (L.drop i).take d = L.drop i := List.take_of_length_le (by omega)
  rw [h3, e2, e4, e5]
  unfold insA; simp
theorem ins_in {L Z2 Z3 : List TFrag} {i d : Nat} {x : TFrag} (h : i < L.length) (hd : i + d = L.length) (h2 : Z2 = L.take (i + 1) ++ (L.drop i).take d ++ L.drop (i + 1 + d)) (h3 : Z3 = Z2.take i ++ ([x].drop 0).take 1 ++ Z2.drop (i + 1)) : Z3 = insA L i x := by
  have hl : (L.take (i + 1)).length = i + 1 := by rw [List.length_take]; omega
  have hdl : (L.drop i).length = d := by rw [List.length_drop]; omega
  have e4 : L.drop (i + 1 + d) = [] := List.drop_of_length_le (by omega)
  have e5 : (L.drop i).take d = L.drop i := List.take_of_length_le (by omega)
  have h2 : Z2 = L.take (i + 1) ++ L.drop i := by rw [h2, e4, e5, List.append_nil]
  have e1 : Z2.take i = L.take i := by
    rw [h2, List.take_append_of_le_length (by omega), List.take_take, Nat.min_eq_left (by omega)]
  have e2 : Z2.drop (i + 1) = L.drop i := by rw [h2]; exact List.drop_left' hl
  rw [h3, e1, e2]
  unfold insA; simp
theorem grow_frag {cx : Cx} {fx : Fx} {kt : Kt} {H : Hp} {n : Nat} {b : Bool} {k a i l cap cap' : Nat} {X : List TFrag} {RA : List AV} {s : Option (Bool × Nat)} {z' xv : Option AV}
    (hg : hget k H = some (.vec cap' 11 RA)) (hR : RA = X.map eFrag) (hP : cx.P = Try.prog) (h : (i ≤ X.length ∧ i ≤ l) ∧ l ≤ 100000) (hcap : (cap : Int) < (l : Int) + 1)
    (hk : ∀ (Z : List TFrag) (c2 : Nat), Imp (Z = X.take i ++ List.replicate (l + 1 - i) zFrag ∧ l + 1 ≤ c2) (FinK cx fx kt (.slc n 0 [] 11 0 0 (l + 1) c2) ((n, .vec c2 11 (Z.map eFrag)) :: H) (n + 1))) :
    AppK cx fx kt 28 (appO s z' false xv (some (.int .i64 ((l : Int) + 1 - (i : Int)))) H) (growO (some (b, 11)) (some (.agg [.int .i64 0, .int .i64 0, .int .u8 0, .agg [.int .i64 0, .int .i64 0, .int .i64 0, .int .i64 0], .agg [.int .u8 0, .int .u8 0, .int .u8 0, .int .u8 0]])) false true (some (.slc k 0 [] 11 a 0 i cap)) (some (.int .i64 ((l : Int) + 1 - (i : Int)))) H) H n := by
  obtain ⟨m, hm⟩ : ∃ m, m = l + 1 - i := ⟨_, rfl⟩
  rw [← hm] at hk
  have e : l + 1 = i + m := by omega
  rw [e] at hk
  exact appK_growZ (z := eFrag zFrag) (e := eFrag) (z0 := zFrag) (m := m) hg hR rfl rfl (by rw [hP]; exact ty_bytesE_28) (by omega) (by omega) (by omega) (by omega) hk
theorem toNat_succ (n : Nat) : ((n : Int) + 1).toNat = n + 1 := by omega
theorem ins_n {l i cap : Nat} (h : i ≤ l ∧ l ≤ cap ∧ l ≤ 100000) : (i ≤ l ∧ i ≤ l) ∧ l ≤ 100000 := by omega
theorem cpv {cx : Cx} {fx : Fx} {kt : Kt} {H : Hp} {n k a s len c cap : Nat} {X : List TFrag} {RA : List AV} {x : TFrag} (hg : hget k H = some (.vec cap 11 RA)) (hgs : hget 1 H = some (.vec 1 11 [eFrag x])) (hR : RA = X.map eFrag)
    (h1 : (s ≤ X.length ∧ s + len ≤ cap) ∧ 1 ≤ len) (hk : ∀ Z : List TFrag, Imp (Z = X.take s ++ ([x].drop 0).take 1 ++ X.drop (s + 1)) (EffK cx fx kt (some (.int .i64 (1 : Nat), hset k (.vec cap 11 (Z.map eFrag)) H)) n)) :
    EffK cx fx kt (copyA 11 (.slc k 0 [] 11 a s len c) (.slc 1 0 [] 11 0 0 1 1) H) n :=
  effK_cp (Y := [x]) (c0 := 1) hg hgs hR rfl ⟨⟨Nat.le_refl _, h1.2⟩, .inl rfl⟩ h1.1 (Nat.le_refl _) hk
theorem cps {cx : Cx} {fx : Fx} {kt : Kt} {H : Hp} {n k a s len c a2 s2 l2 c2 cap cap2 : Nat} {X Y : List TFrag} {RA SA : List AV} (hg : hget k H = some (.vec cap 11 RA)) (hgs : hget 0 H = some (.vec cap2 11 SA)) (hR : RA = X.map eFrag) (hS : SA = Y.map eFrag)
    (h1 : (s ≤ X.length ∧ s + len ≤ cap) ∧ len ≤ l2 ∧ s2 + len ≤ Y.length) (hk : ∀ Z : List TFrag, Imp (Z = X.take s ++ (Y.drop s2).take len ++ X.drop (s + len)) (EffK cx fx kt (some (.int .i64 (len : Nat), hset k (.vec cap 11 (Z.map eFrag)) H)) n)) :
    EffK cx fx kt (copyA 11 (.slc k 0 [] 11 a s len c) (.slc 0 0 [] 11 a2 s2 l2 c2) H) n :=
  effK_cp (c0 := len) hg hgs hR hS ⟨⟨h1.2.1, Nat.le_refl _⟩, .inr rfl⟩ h1.1 h1.2.2 hk
theorem ins_fin {Q : AV → Hp → Nat → Prop} {L : List TFrag} {i kv n' c : Nat} {x : TFrag} {RA : List AV} {H' : Hp} (hq : ∀ c : Nat, Imp (L.length + 1 ≤ c) (Q (.slc 2 0 [] 11 0 0 (L.length + 1) c) [(2, .vec c 11 ((insA L i x).map eFrag))] 3))
    (hg : hget kv H' = some (.vec c 11 RA)) (hR : RA = (insA L i x).map eFrag) (hc : L.length + 1 ≤ c) (hn : 2 ≤ n') : FreshV (ReidP 2 Q) (.slc kv 0 [] 11 0 0 (L.length + 1) c) H' n' := by
  subst hR
  have h1 : ¬ n' = 0 := by omega
  have h2 : ¬ n' = 1 := by omega
  have h3 : ¬ 0 = n' := by omega
  have h4 : ¬ 1 = n' := by omega
  refine ⟨kv, 11, _, c, _, rfl, hg, ?_⟩
  refine reidP_of [0, 1, n'] _ _ ?_ ?_ rfl ?_ ?_ ?_ (hq _ hc)
  · simp [ndB, memb, h1, h2, h3, h4]
  · simp [lowB, idx, List.range, List.range.loop]; omega
  all_goals simp [subT, subH, okW, getT, hget, hset, hdel, idx, AV.ren, renL, renT, Ent.ren, Ent.writes, lFrag_ren, h1, h2, h3, h4, -List.map_drop, -List.map_take]
theorem ins_s1 {l i cap : Nat} (h : i ≤ l ∧ l ≤ cap ∧ l ≤ 100000) (h1 : ¬ (i : Int) = (l : Int)) (h2 : ¬ (cap : Int) < (l : Int) + 1) : (i + 1 ≤ l ∧ i + 1 + (l + 1 - (i + 1)) ≤ cap) ∧ l + 1 - (i + 1) ≤ l + 1 - i ∧ i + (l + 1 - (i + 1)) ≤ l := by omega
theorem ins_v1 {L Z : List TFrag} {i cap c : Nat} (h : i ≤ L.length ∧ L.length ≤ cap ∧ L.length ≤ 100000) (hn : ¬ (i : Int) = (L.length : Int)) (h1 : Z = L.take i ++ List.replicate (L.length + 1 - i) zFrag ∧ L.length + 1 ≤ c) : (i ≤ Z.length ∧ i + (L.length + 1 - i) ≤ c) ∧ 1 ≤ L.length + 1 - i := by
  rw [h1.1, List.length_append, List.length_replicate, List.length_take]; omega
theorem ins_v2 {L Z : List TFrag} {i cap d : Nat} (h : i ≤ L.length ∧ L.length ≤ cap ∧ L.length ≤ 100000) (hn : ¬ (i : Int) = (L.length : Int)) (h0 : ¬ (cap : Int) < (L.length : Int) + 1) (h1 : Z = L.take (i + 1) ++ (L.drop i).take d ++ L.drop (i + 1 + d)) : (i ≤ Z.length ∧ i + (L.length + 1 - i) ≤ cap) ∧ 1 ≤ L.length + 1 - i := by
  rw [h1, List.length_append, List.length_append, List.length_take]; omega
theorem ins_s2 {L Z Z2 : List TFrag} {i cap c : Nat} {x : TFrag} (h : i ≤ L.length ∧ L.length ≤ cap ∧ L.length ≤ 100000) (hn : ¬ (i : Int) = (L.length : Int)) (h1 : Z = L.take i ++ List.replicate (L.length + 1 - i) zFrag ∧ L.length + 1 ≤ c) (h2 : Z2 = Z.take i ++ ([x].drop 0).take 1 ++ Z.drop (i + 1)) :
    (i + 1 ≤ Z2.length ∧ i + 1 + (L.length + 1 - (i + 1)) ≤ c) ∧ L.length + 1 - (i + 1) ≤ L.length - i ∧ i + (L.length + 1 - (i + 1)) ≤ L.length := by
  have e : ([x].drop 0).take 1 = [x] := rfl
  have hz : Z.length = L.length + 1 := by rw [h1.1, List.length_append, List.length_replicate, List.length_take]; omega
  rw [h2, e, List.length_append, List.length_append, List.length_take, List.length_singleton, List.length_drop]; omega
theorem ins_b {L Z Z2 Z3 : List TFrag} {i cap c : Nat} {x : TFrag} (h : i ≤ L.length ∧ L.length ≤ cap ∧ L.length ≤ 100000) (h1 : Z = L.take i ++ List.replicate (L.length + 1 - i) zFrag ∧ L.length + 1 ≤ c) (h2 : Z2 = Z.take i ++ ([x].drop 0).take 1 ++ Z.drop (i + 1)) (h3 : Z3 = Z2.take (i + 1) ++ (L.drop i).take (L.length + 1 - (i + 1)) ++ Z2.drop (i + 1 + (L.length + 1 - (i + 1)))) : Z3.map eFrag = (insA L i x).map eFrag := by
  rw [ins_grow (m := L.length + 1 - i) (d := L.length + 1 - (i + 1)) h.1 (by omega) (by omega) h1 h2 h3]
theorem ins_c {L Z2 Z3 : List TFrag} {i cap : Nat} {x : TFrag} (h : i ≤ L.length ∧ L.length ≤ cap ∧ L.length ≤ 100000) (hn : ¬ (i : Int) = (L.length : Int)) (h2 : Z2 = L.take (i + 1) ++ (L.drop i).take (L.length + 1 - (i + 1)) ++ L.drop (i + 1 + (L.length + 1 - (i + 1)))) (h3 : Z3 = Z2.take i ++ ([x].drop 0).take 1 ++ Z2.drop (i + 1)) : Z3.map eFrag = (insA L i x).map eFrag := by
  rw [ins_in (d := L.length + 1 - (i + 1)) (by omega) (by omega) h2 h3]
theorem ins_cc {l cap : Nat} (h0 : ¬ (cap : Int) < (l : Int) + 1) : l + 1 ≤ cap := by omega
theorem insert_walk {L : List TFrag} {i cap : Nat} {x : TFrag} {Q : AV → Hp → Nat → Prop} (h : i ≤ L.length ∧ L.length ≤ cap ∧ L.length ≤ 100000)
    (hq : ∀ c : Nat, Imp (L.length + 1 ≤ c) (Q (.slc 2 0 [] 11 0 0 (L.length + 1) c) [(2, .vec c 11 ((insA L i x).map eFrag))] 3)) :
    callA Try.prog 36 [.slc 0 0 [] 11 0 0 L.length cap, .int .i64 i, .slc 1 0 [] 11 0 0 1 1] [(1, .vec 1 11 [eFrag x]), (0, .vec cap 11 (L.map eFrag))] 2 Q := by
  refine callA_reid (callA_freshV ?_)
  sym =>
    repeat (first (apply enter36) (apply grow_frag; (tactic => rfl); (tactic => rfl); (tactic => rfl); (tactic => exact ins_n h); (tactic => assumption)) (apply cpv; (tactic => rfl); (tactic => rfl); (tactic => rfl); (tactic => first | exact ins_v1 h ‹_› hp | exact ins_v2 h ‹_› ‹_› hp | (trace_state; exact test_fail))) (apply cps; (tactic => rfl); (tactic => rfl); (tactic => rfl); (tactic => rfl); (tactic => first | exact ins_s1 h ‹_› ‹_› | exact ins_s2 h ‹_› ‹_› hp | (trace_state; exact test_fail))) (apply imp_go; intro hp) (apply valK_w64; · finish (splits := 3) (ematch := 1)) (apply valK_wu8; · finish (splits := 3) (ematch := 1)) (apply valK_wu64; · finish (splits := 3) (ematch := 1)) (apply valK_w32; · finish (splits := 3) (ematch := 1)) (apply valK_wu16; · finish (splits := 3) (ematch := 1)) (apply valK_wu32; · finish (splits := 3) (ematch := 1)) (apply valK_wr) (apply valK_andR) (apply valK_quo; · finish (splits := 3) (ematch := 1)) (apply valK_quoR; · finish (splits := 3) (ematch := 1)) (apply valK_rem; · finish (splits := 3) (ematch := 1)) (apply valK_remR; · finish (splits := 3) (ematch := 1)) (apply valK_bol; · finish (splits := 3) (ematch := 1)) (apply effK_bol; · finish (splits := 3) (ematch := 1)) (apply newK_bol; · finish (splits := 3) (ematch := 1)) (apply appK_bol; · finish (splits := 3) (ematch := 1)) (apply topO_bol; · finish (splits := 3) (ematch := 1)) (apply valK_altY; · finish (splits := 3) (ematch := 1)) (apply valK_altN; · finish (splits := 3) (ematch := 1)) (apply effK_altY; · finish (splits := 3) (ematch := 1)) (apply effK_altN; · finish (splits := 3) (ematch := 1)) (apply valK_altNY; · finish (splits := 3) (ematch := 1)) (apply valK_altNN; · finish (splits := 3) (ematch := 1)) (apply valK_altS) (apply valK_altNS) (apply effK_altS) (apply appS_go) (apply brC_y; · finish (splits := 3) (ematch := 1)) (apply brC_n; · finish (splits := 3) (ematch := 1)) (apply brC_yN; · finish (splits := 3) (ematch := 1)) (apply brC_nN; · finish (splits := 3) (ematch := 1)) (apply brC_s) (apply brC_sN) (apply wantK_y; · finish (splits := 3) (ematch := 1)) (apply wantK_n; · finish (splits := 3) (ematch := 1)) (apply wantK_yN; · finish (splits := 3) (ematch := 1)) (apply wantK_nN; · finish (splits := 3) (ematch := 1)) (apply wantK_s) (apply wantK_sN) (apply rowG_y; · finish (splits := 3) (ematch := 1)) (apply rowG_n; · finish (splits := 3) (ematch := 1)) (apply rowG_yN; · finish (splits := 3) (ematch := 1)) (apply rowG_nN; · finish (splits := 3) (ematch := 1)) (apply rowG_s) (apply rowG_sN) (simp [ovS_slc, ovE_vec, mv_zero, Nat.sub_zero, Int.toNat_natCast, toNat_succ, eColour_eq, eKey_eq, ePeellast_eq, ePeelpixel_eq, cx36_P, cx36_l0, cx36_l1, cx36_l2, cx36_l3, cx36_l4, cx36_l5, cx36_l6, cx36_l7, cx36_l8, cx36_l9, cx36_l10, cx36_l11, cx36_l12, cx36_l13, cx36_l14, cx36_l15, cx36_l16, cx36_l17, cx36_l18, cx36_l19, cx36_l20, cx36_p11, cx36_p15, cx36_u47, cx36_pu, Try.f36.eq_1, ty_arrOf_28, ty_arrOf_3, ty_bytesE_28, ty_intOf_3, ty_isInt_3, ty_notInt_3, ty_lay_28, ty_lay_3, ty_notInt_28, ty_slcOf_28, ty_slcOf_3, ty_zeroA_28, ty_zeroA_3, ty_zeroE_28, valK_some, effK_some, opE_move, opE_assign, opE_load, opE_bin, opE_un, opE_slice, opE_len, opE_cap, callK_fn, callK_yld, callG_some, callG_none, appK_some, opE_call_r, opE_append_r, opE_store_w, opE_call_w, opE_append_w, opE_copy_r, opE_copy_w, ev_seq, ev_skip, ev_label, ev_region, ev_draw, evDO_some, ev_cond, condC_some, brC_true, brC_false, ev_block, ev_scope, ev_exit, ev_ret, nx_seq, nx_seqE, nx_seqR, nx_blk, nx_blkE, nx_blkR, nx_top, nx_topR, topO_some, evR_nil, evR_op, evR_guard, evD_nil, evD_row, rowK_eff, rowK_calm, rowK_guard, rowG_tup, rowG_tt, rowG_ff, rowG_tf, rowG_ft, rowN_eq, chkA_nil, chkA_cons, chkO_some, chkW_false, sameO_some, chkW_load, chkW_len, finK_reg, finK_row, finK_calm, getT_cons, putT_some, putT_none, trimT_some, trimT_none, keepT_nil, keepT_cons, consT_some, consT_none, getT_nil, getO_tmp, getO_const, getO_func, ofC_int, ofC_bool, ofC_ptr, ofC_slc, ofC_map, ofC_fn, getOs_nil, getOs_cons, consO_some, wantA_none, wantA_some, wantO_tup, wantO_tt, wantO_ff, wantO_tf, wantO_ft, hget_cons, hset_cons, hdel_cons, memb_nil, memb_cons, hideH_cons, showH_cons, hideH_none, showH_none, showH_nil, outs_nil, outs_cons, app_nil, nil_app, cons_app, dropO_some, dropO_none, rowOf_cons, wrap_lit, wrap_neg, top_i64, bot_i64, bits_i64, cast_lit, toNat_lit, get_zero, get_succ, take_zero, take_succ, set_zero, set_succ, length_nil, length_cons, append_nil, nil_append, cons_append, toList_arr, bnot_true, bnot_false, band_true, band_false, beq_tt, beq_ff, beq_tf, beq_ft, beq_nat, beq_int, bne_nat, map_some, map_none, true_eq_false, false_eq_true, true_eq_true, fbody_mk, fresults_mk, getD_some, bol_true, binO_some, bin_eql, bin_gtr, bin_beql, bin_bneq, eqO_eq, eqO_ne, bin_aeql, bin_aneq, bin_reql, bin_rneq, aggEq_some, flatL_nil, flatL_cons, appV_some, flatV_int, flatV_bool, flatV_agg, flatV_rows, bin_feql, bin_fneq, bin_nfeql, bin_nfneq, bin_peql, bin_pneq, bin_npeql, bin_npneq, unO_some, un_not, size_int, size_bool, size_str, size_ptr, size_nilp, size_slc, size_nils, size_map, size_nilm, size_fn, size_yld, size_nilf, size_agg, size_rows, sizeL_nil, sizeL_cons, layOK_int, layOK_bool, layOK_str, layOK_ptr, layOK_nilp, layOK_slc, layOK_nils, layOK_map, layOK_nilm, layOK_fn, layOK_yld, layOK_nilf, layOK_agg, layOK_rows, isTup_int, isTup_bool, isTup_str, isTup_ptr, isTup_nilp, isTup_slc, isTup_nils, isTup_map, isTup_nilm, isTup_fn, isTup_yld, isTup_nilf, isTup_agg, isTup_rows, getP_nil, getP_cons, getS_some, stepP_agg, stepP_rows, loadO_some, loadA_ptr, loadE_cel, loadE_vec, loadE_ro, chkL_some, fitZ_some, sliceO_some, slice_slc, slO_some, slice_nils, slN_some, slice_ptr, slA_some, cutA_some, cutN_some, sliceB_none, sliceB_hi, sbH_some, sbL_none, sbL_some, sbX_some, builtO_some, len_slc, len_nils, cap_slc, len_rows, arN_some, appO_some, apO_some, own_nils, own_slc, more_nils, more_slc, resF_eq, resAll_nil, resAll_cons, resOne_tmp, resOne_cell, tupO_none, tupO_one, tupO_more, argT_nil, argT_cons, lookU_nil, lookU_cons, lookL_cons, lookL_nil, lookP_cons, copyO_some, roundS_eq, mbin_add, mbin_sub, mun_neg, wrapO_lit, wrapO_neg, mbndA_int, mowO_vec, not_tf, not_ft, and_tf, not_not_b, alt_true, alt_false, bol_false, getS_bol, getS_alt, chkL_bol, chkL_alt, consO_bol, consO_bol2, tupO_bol, sbX_bol, sbH_bol, cutA_bol, cutN_bol, apO_bol, apO_bol2, eqO_bol, bol_bol, get_mapB, get_setB, get_appB, len_map, len_app, nat_zero_add, take_map, take_self, drop_zero, elemsE_vec, elemsE_ro, elemsE_cel, elemsC_rows, elemsC_bol, bin_nsleql, bin_nslneq, bin_nnleql, bin_nnlneq, slN_bol, beq_str, roomOk_eq, roomB_some, appK_none, appG_some, hideH_nil, and_self, and_true, true_and, and_false, false_and]) (apply chkW_want) (apply chkW_wantA) (apply valK_bolB; · finish (splits := 3) (ematch := 1)) (apply valK_altT; · finish (splits := 3) (ematch := 1)) (apply valK_altF; · finish (splits := 3) (ematch := 1)) (apply valK_altB) (apply brC_t; · finish (splits := 3) (ematch := 1)) (apply brC_f; · finish (splits := 3) (ematch := 1)) (apply brC_sBN) (apply brC_sB) (apply wantK_t; · finish (splits := 3) (ematch := 1)) (apply wantK_f; · finish (splits := 3) (ematch := 1)) (apply wantK_sBN) (apply wantK_sB) (apply rowG_t; · finish (splits := 3) (ematch := 1)) (apply rowG_f; · finish (splits := 3) (ematch := 1)) (apply rowG_sBN) (apply rowG_sB) (intro~ hr) (tactic => first | exact ins_room h | exact ins_fin hq rfl (ins_a ‹_›) hp (by decide) | exact ins_fin hq rfl (ins_b h ‹_› ‹_› hp) (‹_ ∧ _ + 1 ≤ _› : _ ∧ _).2 (by decide) | exact ins_fin hq rfl (ins_c h ‹¬ _ = _› ‹_› hp) (ins_cc ‹¬ _ < _›) (by decide) | (trace_state; exact test_fail)))
end Go.Proofs.Ytcmacobhnpgpaaa
