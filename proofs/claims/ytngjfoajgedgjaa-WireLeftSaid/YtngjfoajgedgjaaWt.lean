/-
  Chapter 3: the law WireBack.
-/
import Derived.Test.YtngjfoajgedgjaaWs
set_option linter.unusedVariables false
set_option linter.unusedSimpArgs false
set_option maxRecDepth 10000
set_option maxHeartbeats 0
namespace Go.Proofs.Ytngjfoajgedgjaa
open Go.Y
theorem putL_ge : ∀ l : List Int, l.length ≤ (putL l).length
  | [] => Nat.le_refl _
  | x :: l => by
    have := putL_ge l
    have := (eN_len x).1
    rw [putL_cons, List.length_append, List.length_cons]; omega
/-- A number's bytes, cut, are none. -/
theorem dec_cut {x : Int} (hx : i64R x) {c : Nat} (h : c < (eN x).length) : dec ((eN x).take c) = none := by
  rcases hd : dec ((eN x).take c) with _ | ⟨m, j⟩
  · rfl
  · obtain ⟨g1, g2, g3, g4, g5, g6, g7⟩ := dec_some (okB_take (eN_ok hx) c) hd
    have e : eN x = eN m ++ (((eN x).take c).drop j ++ (eN x).drop c) := by
      rw [← List.append_assoc, ← g4, List.take_append_drop]
    have e1 := dec_app g1 (((eN x).take c).drop j ++ (eN x).drop c)
    rw [← e] at e1
    have e2 := dec_app hx []
    rw [List.append_nil, e1] at e2
    simp only [Option.some.injEq, Prod.mk.injEq] at e2
    rw [List.length_take] at g7
    omega
theorem alls_cut : ∀ {L : List Int}, ok64 L → ∀ c : Nat, ∃ i, i ≤ L.length ∧ (alls ((putL L).take c)).1 = L.take i ∧ (c < (putL L).length → i < L.length)
  | [], _, c => ⟨0, Nat.le_refl _, by simp [putL, alls_nil], fun h => by simp [putL] at h⟩
  | x :: L, h, c => by
    have hx : i64R x := h x (List.mem_cons_self ..)
    have hL : ok64 L := fun a ha => h a (List.mem_cons_of_mem _ ha)
    by_cases hc : c < (eN x).length
    · refine ⟨0, Nat.zero_le _, ?_, fun _ => Nat.succ_pos _⟩
      rw [putL_cons, List.take_append_of_le_length (Nat.le_of_lt hc), List.take_zero]
      by_cases h0 : c = 0
      · subst h0; rw [List.take_zero, alls_nil]
      · rw [alls_none (by intro e; have := congrArg List.length e; rw [List.length_take, List.length_nil] at this; omega) (dec_cut hx hc)]
    · obtain ⟨i, h1, h2, h3⟩ := alls_cut hL (c - (eN x).length)
      refine ⟨i + 1, by simpa using h1, ?_, fun hh => ?_⟩
      · rw [putL_cons, List.take_append, List.take_of_length_le (by omega), alls_cons hx (okB_take (putL_ok hL) _), List.take_succ_cons, ← h2]
      · rw [putL_cons, List.length_append] at hh
        have := h3 (by omega)
        simpa using this
/-- Numbers that were put are gone through, to the end. -/
theorem gonem_use {k m rc cap : Nat} {b : Bool} {L : List Int} {H : Hp} {n : Nat} {Q : AV → Hp → Nat → Prop} (hr : hget k H = some (rowE b rc 1 ((putL L).map (AV.int .u8)))) (hL : ok64 L) (hm : L.length = m ∧ m ≤ 100) (hlen : (putL L).length ≤ cap) (hk : k < n)
    (hq : ∀ c : Nat, Imp (m ≤ c) (Q (.tup [.slc n 0 [] 1 0 0 m c, .bool false, .bool true]) ((n, .vec c 1 (L.map (AV.int .i64))) :: (k, rowE b rc 1 ((putL L).map (AV.int .u8))) :: hideH [k] H) (n + 1))) :
    callA Try.prog 23 [.slc k 0 [] 1 0 0 (putL L).length cap, .int .i64 1000] H n Q := by
  obtain ⟨rfl, hm⟩ := hm
  exact gonep_use hr hL ⟨rfl, hlen⟩ (by omega) hk hq
/-- The same, and not all of the bytes. -/
theorem gonec_use {k m len rc cap : Nat} {b : Bool} {L : List Int} {H : Hp} {n : Nat} {Q : AV → Hp → Nat → Prop} (hr : hget k H = some (rowE b rc 1 ((putL L).map (AV.int .u8)))) (hL : ok64 L) (hm : L.length = m ∧ m ≤ 100) (hlen : len ≤ (putL L).length ∧ len ≤ cap) (hk : k < n)
    (hq : ∀ (i c : Nat) (lf : Bool), Imp (i ≤ c ∧ i ≤ m ∧ (¬ len < (putL L).length ∨ i < m)) (Q (.tup [.slc n 0 [] 1 0 0 i c, .bool lf, .bool true]) ((n, .vec c 1 ((L.take i).map (AV.int .i64))) :: (k, rowE b rc 1 ((putL L).map (AV.int .u8))) :: hideH [k] H) (n + 1))) :
    callA Try.prog 23 [.slc k 0 [] 1 0 0 len cap, .int .i64 1000] H n Q := by
  obtain ⟨rfl, hm⟩ := hm
  have hlL := putL_len L
  refine gone_use (putL_ok hL) ⟨hlen.1, hlen.2, by omega⟩ (by omega) hk hr (fun p lf c hg => ?_)
  obtain ⟨g1, g2, g3⟩ := hg
  obtain ⟨i, h1, h2, h3⟩ := alls_cut hL len
  have e1 : p = L.take i := by rw [g1, h2, List.take_of_length_le (by rw [List.length_take]; show _ ≤ 1000; omega)]
  subst e1
  have e2 : (L.take i).length = i := by rw [List.length_take]; omega
  rw [e2] at g2 ⊢
  exact hq i c lf ⟨g2, h1, by by_cases hc : len < (putL L).length; exact .inr (h3 hc); exact .inl hc⟩
theorem same_w {l1 l2 : List Int} {k1 k2 ca cb m : Nat} {r1 r2 : List AV} {H : Hp} {n : Nat} {Q : AV → Hp → Nat → Prop} (hv1 : viewE (hget k1 H) = some (1, r1)) (hv2 : viewE (hget k2 H) = some (1, r2)) (h1 : r1 = l1.map (AV.int .i64)) (h2 : r2 = l2.map (AV.int .i64)) (he : l1.take m = l2.take m) (hm : m ≤ l1.length ∧ m ≤ l2.length ∧ m ≤ 100000)
    (hq : Q (.bool true) H n) : callA Try.prog 24 [.slc k1 0 [] 1 0 0 m ca, .slc k2 0 [] 1 0 0 m cb] H n Q := by
  refine same_use (l := l1.take m) (r := l2.take m) hv1 hv2 h1 h2 rfl rfl (by omega) ?_
  have : sameI (l1.take m) (l2.take m) = true := by unfold sameI; simp [he]
  rw [this]; exact hq
theorem valK_cutN {P : Program} {cx : Cx} {fx : Fx} {kt : Kt} {t : TypeId} {H : Hp} {n : Nat} {x : Int} {y : Nat} (h : 0 ≤ x) (hk : ∀ z : Nat, Imp (z ≤ y) (ValK cx fx kt (some (.int .i64 z)) H n)) : ValK cx fx kt (binA P .rem t (.int .i64 x) (.int .i64 ((y : Int) + 1))) H n := by
  rw [bin_rem, if_neg (by omega)]
  have e : remI x ((y : Int) + 1) = ((x % ((y : Int) + 1)).toNat : Nat) := by
    show x.tmod _ = _
    rw [Int.tmod_eq_emod_of_nonneg h, Int.toNat_of_nonneg (Int.emod_nonneg _ (by omega))]
  rw [e]
  refine hk _ ?_
  show _ ≤ y
  have := Int.emod_lt_of_pos x (b := (y : Int) + 1) (by omega)
  omega
noncomputable def cx13 : Cx := ⟨Try.prog, [], [], ((0, [1, 0]) :: (1, [5, 1, 0]) :: (2, [5, 1, 0]) :: (3, [6, 5, 1, 0]) :: (4, [42, 6, 1, 0]) :: (5, [4]) :: (6, [9, 8, 7, 6, 1, 0]) :: (7, [10, 9, 8, 6, 1, 0]) :: (8, [60, 6, 1, 0]) :: (9, [4]) :: (10, [11, 6, 0]) :: (11, [14, 12, 11, 6, 0]) :: (12, [96, 12, 6, 0]) :: (13, [4]) :: (14, [15, 6, 0]) :: (15, [16, 15, 0]) :: (16, [17, 16, 15, 0]) :: (17, [107, 17, 16, 15, 0]) :: (18, [17, 16, 15, 0]) :: (19, [20, 19, 18, 17, 15, 0]) :: (20, [125, 19, 17, 15, 0]) :: (21, [4]) :: (22, [17, 16, 15, 0]) :: (23, [4]) :: [])⟩
theorem cx13_P : cx13.P = Try.prog := rfl
theorem cx13_l0 : lookL 0 cx13.lv = some [1, 0] := rfl
theorem cx13_l1 : lookL 1 cx13.lv = some [5, 1, 0] := rfl
theorem cx13_l2 : lookL 2 cx13.lv = some [5, 1, 0] := rfl
theorem cx13_l3 : lookL 3 cx13.lv = some [6, 5, 1, 0] := rfl
theorem cx13_l4 : lookL 4 cx13.lv = some [42, 6, 1, 0] := rfl
theorem cx13_l5 : lookL 5 cx13.lv = some [4] := rfl
theorem cx13_l6 : lookL 6 cx13.lv = some [9, 8, 7, 6, 1, 0] := rfl
theorem cx13_l7 : lookL 7 cx13.lv = some [10, 9, 8, 6, 1, 0] := rfl
theorem cx13_l8 : lookL 8 cx13.lv = some [60, 6, 1, 0] := rfl
theorem cx13_l9 : lookL 9 cx13.lv = some [4] := rfl
theorem cx13_l10 : lookL 10 cx13.lv = some [11, 6, 0] := rfl
theorem cx13_l11 : lookL 11 cx13.lv = some [14, 12, 11, 6, 0] := rfl
theorem cx13_l12 : lookL 12 cx13.lv = some [96, 12, 6, 0] := rfl
theorem cx13_l13 : lookL 13 cx13.lv = some [4] := rfl
theorem cx13_l14 : lookL 14 cx13.lv = some [15, 6, 0] := rfl
theorem cx13_l15 : lookL 15 cx13.lv = some [16, 15, 0] := rfl
theorem cx13_l16 : lookL 16 cx13.lv = some [17, 16, 15, 0] := rfl
theorem cx13_l17 : lookL 17 cx13.lv = some [107, 17, 16, 15, 0] := rfl
theorem cx13_l19 : lookL 19 cx13.lv = some [20, 19, 18, 17, 15, 0] := rfl
theorem cx13_l20 : lookL 20 cx13.lv = some [125, 19, 17, 15, 0] := rfl
theorem cx13_l21 : lookL 21 cx13.lv = some [4] := rfl
theorem cx13_l22 : lookL 22 cx13.lv = some [17, 16, 15, 0] := rfl
theorem cx13_l18 : lookL 18 cx13.lv = some [17, 16, 15, 0] := rfl
theorem cx13_l23 : lookL 23 cx13.lv = some [4] := rfl
theorem cx13_pu : cx13.pu = [] := rfl
theorem cx13_ok : okc cx13 Try.f13.ntmps (Try.f13.body.getD .skip) = true := by kernel_rfl
theorem enter13 {args : List AV} {H : Hp} {n : Nat} {Q : AV → Hp → Nat → Prop} (h : args.length ≤ 133 ∧ Ev cx13 ⟨133, n, none, 13⟩ (Try.f13.body.getD .skip) ⟨argT 0 args, H, n⟩ (.top Try.f13.results.toList Q)) : callA Try.prog 13 args H n Q :=
  callA_ev (cx := cx13) puOk_nil (f := 13) (fn := Try.f13) Try.func13 rfl (by kernel_rfl) h.1 cx13_ok h.2
theorem bk_len {m l c : Nat} (h : m ≤ l ∧ m ≤ 40 ∧ m ≤ c) {x0 : List Int} (hl : l = x0.length) : (x0.take m).length = m ∧ m ≤ 100 := by
  subst hl; rw [List.length_take]; omega
theorem bk_s1 {x0 : List Int} {m : Nat} : (x0.take m).take m = x0.take m := by rw [List.take_take, Nat.min_self]
theorem bk_s2 {x0 : List Int} {m i c : Nat} {p : Prop} (h : i ≤ c ∧ i ≤ m ∧ p) : ((x0.take m).take i).take i = x0.take i := by rw [List.take_take, Nat.min_self, List.take_take, Nat.min_eq_left h.2.1]
theorem bk_t1 {x0 : List Int} {m c : Nat} (h : m ≤ x0.length ∧ m ≤ 40 ∧ m ≤ c) : m ≤ (x0.take m).length ∧ m ≤ x0.length ∧ m ≤ 100000 := by rw [List.length_take]; omega
theorem bk_t2 {x0 : List Int} {m i c c' : Nat} {p : Prop} (h : m ≤ x0.length ∧ m ≤ 40 ∧ m ≤ c') (h2 : i ≤ c ∧ i ≤ m ∧ p) : i ≤ ((x0.take m).take i).length ∧ i ≤ x0.length ∧ i ≤ 100000 := by rw [List.length_take, List.length_take]; omega
theorem bk_lo {x0 : List Int} {m c : Nat} {v : AV} (h : m ≤ x0.length ∧ m ≤ 40 ∧ m ≤ c) (hp : ((putL (x0.take m)).length : Int) < (m : Int)) : v = .bool true := by
  have := putL_ge (x0.take m)
  rw [List.length_take] at this; omega
theorem bk_hi {x0 : List Int} {m c : Nat} {v : AV} (h : m ≤ x0.length ∧ m ≤ 40 ∧ m ≤ c) (hp : 10 * (m : Int) < ((putL (x0.take m)).length : Int)) : v = .bool true := by
  have := putL_len (x0.take m)
  rw [List.length_take] at this; omega
theorem bk_all {m i z l c : Nat} {v : AV} (h : i ≤ c ∧ i ≤ m ∧ (¬ z < l ∨ i < m)) (h1 : (z : Int) < (l : Int)) (h2 : ¬ (i : Int) < (m : Int)) : v = .bool true := by omega
def mOf {m a b c : Nat} (h : m ≤ a ∧ m ≤ b ∧ m ≤ c) : Nat := m
def rOf {a c : Nat} (h : a ≤ c) : Nat := c
structure BkA where
  i : Nat
  r : List Int
  c : Nat
def bkInv (L : List Int) (a : BkA) : Prop := a.i ≤ L.length ∧ a.r = putL (L.drop a.i) ∧ a.r.length ≤ a.c
theorem bk_start {L : List Int} {c : Nat} (h : (putL L).length ≤ c) : bkInv L ⟨0, putL L, c⟩ := ⟨Nat.zero_le _, rfl, h⟩
theorem bk_drop {L : List Int} {i : Nat} (h : i < L.length) : putL (L.drop i) = eN (L.getD i default) ++ putL (L.drop (i + 1)) := by
  rw [List.drop_eq_getElem_cons h, putL_cons, List.getD_eq_getElem?_getD, List.getElem?_eq_getElem h]; rfl
theorem ok64_drop {L : List Int} (h : ok64 L) (i : Nat) : ok64 (L.drop i) := fun a ha => h a (List.mem_of_mem_drop ha)
theorem bk_g64 {L : List Int} (h : ok64 L) {i : Nat} (hi : i < L.length) : i64R (L.getD i default) := by
  rw [List.getD_eq_getElem?_getD, List.getElem?_eq_getElem hi]; exact h _ (List.getElem_mem hi)
theorem bk_dec {L : List Int} {a : BkA} (hL : ok64 L) (hi : bkInv L a) (h : a.i < L.length) : dec (a.r.take a.r.length) = some (L.getD a.i default, (eN (L.getD a.i default)).length) := by
  rw [List.take_length, hi.2.1, bk_drop h]; exact dec_app (bk_g64 hL h) _
theorem bk_okr {L : List Int} {a : BkA} (hL : ok64 L) (hi : bkInv L a) : okB a.r := by rw [hi.2.1]; exact putL_ok (ok64_drop hL _)
theorem bk_rl {L : List Int} {a : BkA} {m : Nat} (hi : bkInv L a) (hm : L.length = m ∧ m ≤ 100) : a.r.length ≤ a.r.length ∧ a.r.length ≤ a.c ∧ a.r.length ≤ 1000000 := by
  have := putL_len (L.drop a.i)
  rw [← hi.2.1, List.length_drop] at this
  have := hi.2.2; omega
theorem bk_no {L : List Int} {a : BkA} {m : Nat} {v : AV} (hL : ok64 L) (hi : bkInv L a) (hm : L.length = m ∧ m ≤ 100) (h : (a.i : Int) < (m : Int)) (hd : dec (a.r.take a.r.length) = none) : v = .bool true := by
  rw [bk_dec hL hi (by omega)] at hd; cases hd
theorem bk_get {x0 : List Int} {m i : Nat} (h : i < m) : (x0.take m).getD i default = x0.getD i default := by
  rw [List.getD_eq_getElem?_getD, List.getD_eq_getElem?_getD, List.getElem?_take, if_pos h]
theorem bk_uni {L : List Int} {a : BkA} {m : Nat} {x : Int} {r : List Int} {p : Prop} (hL : ok64 L) (hi : bkInv L a) (hm : L.length = m ∧ m ≤ 100) (h : (a.i : Int) < (m : Int)) (hb : begins (a.r.take a.r.length) x r ∧ p) : x = L.getD a.i default ∧ r = putL (L.drop (a.i + 1)) := by
  have e := bk_dec hL hi (by omega)
  rw [beg_dec hb] at e
  simp only [Option.some.injEq, Prod.mk.injEq] at e
  refine ⟨e.1, ?_⟩
  have e1 := hb.1.1
  rw [List.take_length, hi.2.1, bk_drop (by omega), e.1] at e1
  exact (List.append_cancel_left e1).symm
theorem bk_ne {x0 : List Int} {a : BkA} {m : Nat} {x : Int} {r : List Int} {p : Prop} {v : AV} (hL : ok64 (x0.take m)) (hi : bkInv (x0.take m) a) (hm : (x0.take m).length = m ∧ m ≤ 100) (h : (a.i : Int) < (m : Int)) (hb : begins (a.r.take a.r.length) x r ∧ p) (hne : ¬ x = x0.getD a.i default) : v = .bool true := by
  have := (bk_uni hL hi hm h hb).1
  rw [bk_get (by omega)] at this
  exact absurd this hne
theorem bk_next {L : List Int} {a : BkA} {m c : Nat} {x : Int} {r : List Int} {p : Prop} (hL : ok64 L) (hi : bkInv L a) (hm : L.length = m ∧ m ≤ 100) (h : (a.i : Int) < (m : Int)) (hb : begins (a.r.take a.r.length) x r ∧ p ∧ r.length ≤ c) : bkInv L ⟨a.i + 1, r, c⟩ := ⟨by show a.i + 1 ≤ _; omega, (bk_uni hL hi hm h hb).2, hb.2.2⟩
theorem bk_meas {i m : Nat} (h : (i : Int) < (m : Int)) : m - (i + 1) < m - i := by omega
theorem bk_end {L : List Int} {a : BkA} {m : Nat} (hi : bkInv L a) (hm : L.length = m ∧ m ≤ 100) (h : ¬ (a.i : Int) < (m : Int)) : AV.bool (if (a.r.length : Int) = 0 then true else false) = .bool true := by
  have e : L.drop a.i = [] := List.drop_of_length_le (by omega)
  rw [hi.2.1, e]; rfl
theorem back_walk3 (x0 : List Int) (c0 : Nat) (x1 : Int) (h0 : x0.length ≤ c0 ∧ c0 ≤ 9223372036854775807) (w0 : ∀ a ∈ x0, -9223372036854775808 ≤ a ∧ a ≤ 9223372036854775807) (h1 : (0 ≤ x1 ∧ x1 ≤ 65535)) : callA Try.prog 13 [.slc 0 0 [] 1 0 0 x0.length c0, .int .u16 x1] [(0, .ro fun _ => .rows 1 (x0.map (AV.int .i64)))] 1 fun v _ _ => v = .bool true := by
  sym =>
    repeat (first (apply enter13) (apply shown_use) (apply few_use; (tactic => exact h0.1)) (apply putr_use; (tactic => exact (rfl : _ = some (rowE false 0 1 (x0.map (AV.int .i64))))); (tactic => exact w0); (tactic => exact pl_1 ‹_ ≤ x0.length ∧ _ ∧ _›); (tactic => decide)) (apply gonem_use; (tactic => exact (rfl : _ = some (rowE true _ 1 (List.map (AV.int .u8) (putL _))))); (tactic => exact ok64_take w0 _); (tactic => exact bk_len ‹_ ≤ x0.length ∧ _ ∧ _› rfl); (tactic => assumption); (tactic => decide)) (apply same_w; (tactic => rfl); (tactic => rfl); (tactic => rfl); (tactic => rfl); (tactic => first | exact bk_s1 | exact bk_s2 ‹_ ≤ _ ∧ _ ≤ _ ∧ (_ ∨ _)› | (trace_state; exact test_fail)); (tactic => first | exact bk_t1 ‹_ ≤ x0.length ∧ _ ∧ _› | exact bk_t2 ‹_ ≤ x0.length ∧ _ ∧ _› ‹_ ≤ _ ∧ _ ≤ _ ∧ (_ ∨ _)› | (trace_state; exact test_fail))) (apply gonec_use; (tactic => exact (rfl : _ = some (rowE true _ 1 (List.map (AV.int .u8) (putL _))))); (tactic => exact ok64_take w0 _); (tactic => exact bk_len ‹_ ≤ x0.length ∧ _ ∧ _› rfl); (tactic => exact ⟨by assumption, by omega⟩); (tactic => decide)) (apply loop_here; (tactic => (have hS := ‹_ ≤ x0.length ∧ _ ∧ _›; obtain ⟨m, hmm⟩ : ∃ k, k = mOf hS := ⟨_, rfl⟩; unfold mOf at hmm; subst hmm; have e1 := ‹(putL _).length ≤ _›; obtain ⟨cc, hcc⟩ : ∃ k, k = rOf e1 := ⟨_, rfl⟩; unfold rOf at hcc; subst hcc; have hm := bk_len hS rfl; have hL := ok64_take w0 m; refine loopS_reid (st0 := (fun a : BkA => (⟨[(17, .int .i64 a.i), (16, .slc 1 0 [] 1 0 0 a.r.length a.c), (15, .bool true), (0, .slc 0 0 [] 1 0 0 m c0)], [(1, .vec a.c 1 (a.r.map (AV.int .u8))), (0, rowE false 0 1 (x0.map (AV.int .i64)))], 4⟩ : St)) ⟨0, putL (x0.take m), cc⟩) [0, 1, 2, 3] (reid_of rfl (by decide) rfl (by simp [subT, subH, okW, getT, hget, hset, hdel, idx, AV.ren, renL, renT, er_vec, er_cel, er_row, ew_vec, ew_cel, er_lp, ew_lp, renL_ints, rowE_ren, renL_app, -List.map_drop, -List.map_take]) (by simp [subT, subH, okW, getT, hget, hset, hdel, idx, AV.ren, renL, renT, er_vec, er_cel, er_row, ew_vec, ew_cel, er_lp, ew_lp, renL_ints, rowE_ren, renL_app, -List.map_drop, -List.map_take]) (ndB_nodup rfl) (by simp [subT, subH, okW, getT, hget, hset, hdel, idx, AV.ren, renL, renT, er_vec, er_cel, er_row, ew_vec, ew_cel, er_lp, ew_lp, renL_ints, rowE_ren, renL_app, -List.map_drop, -List.map_take])) ?_; refine loop_par (fun a : BkA => (⟨[(17, .int .i64 a.i), (16, .slc 1 0 [] 1 0 0 a.r.length a.c), (15, .bool true), (0, .slc 0 0 [] 1 0 0 m c0)], [(1, .vec a.c 1 (a.r.map (AV.int .u8))), (0, rowE false 0 1 (x0.map (AV.int .i64)))], 4⟩ : St)) (bkInv (x0.take m)) (fun a => m - a.i) ?_ ⟨0, putL (x0.take m), cc⟩ (bk_start e1); intro a hi J hJ; show Ev _ _ _ _ _; sym => repeat (first (apply enter13) (apply take2_use; (tactic => exact (rfl : _ = some (rowE true a.c 1 (a.r.map (AV.int .u8))))); (tactic => exact bk_okr hL hi); (tactic => exact bk_rl hi hm); (tactic => decide)) (apply imp_go; intro hp) (apply valK_w64; · finish (splits := 3) (ematch := 1)) (apply valK_wu8; · finish (splits := 3) (ematch := 1)) (apply valK_wu64; · finish (splits := 3) (ematch := 1)) (apply valK_w32; · finish (splits := 3) (ematch := 1)) (apply valK_wu16; · finish (splits := 3) (ematch := 1)) (apply valK_wu32; · finish (splits := 3) (ematch := 1)) (apply valK_wr) (apply valK_andR) (apply valK_quo; · finish (splits := 3) (ematch := 1)) (apply valK_quoR; · finish (splits := 3) (ematch := 1)) (apply valK_rem; · finish (splits := 3) (ematch := 1)) (apply valK_remR; · finish (splits := 3) (ematch := 1)) (apply valK_bol; · finish (splits := 3) (ematch := 1)) (apply effK_bol; · finish (splits := 3) (ematch := 1)) (apply newK_bol; · finish (splits := 3) (ematch := 1)) (apply appK_bol; · finish (splits := 3) (ematch := 1)) (apply topO_bol; · finish (splits := 3) (ematch := 1)) (apply valK_altY; · finish (splits := 3) (ematch := 1)) (apply valK_altN; · finish (splits := 3) (ematch := 1)) (apply effK_altY; · finish (splits := 3) (ematch := 1)) (apply effK_altN; · finish (splits := 3) (ematch := 1)) (apply valK_altNY; · finish (splits := 3) (ematch := 1)) (apply valK_altNN; · finish (splits := 3) (ematch := 1)) (apply valK_altS) (apply valK_altNS) (apply effK_altS) (apply appS_go) (apply brC_y; · finish (splits := 3) (ematch := 1)) (apply brC_n; · finish (splits := 3) (ematch := 1)) (apply brC_yN; · finish (splits := 3) (ematch := 1)) (apply brC_nN; · finish (splits := 3) (ematch := 1)) (apply brC_s) (apply brC_sN) (apply wantK_y; · finish (splits := 3) (ematch := 1)) (apply wantK_n; · finish (splits := 3) (ematch := 1)) (apply wantK_yN; · finish (splits := 3) (ematch := 1)) (apply wantK_nN; · finish (splits := 3) (ematch := 1)) (apply wantK_s) (apply wantK_sN) (apply rowG_y; · finish (splits := 3) (ematch := 1)) (apply rowG_n; · finish (splits := 3) (ematch := 1)) (apply rowG_yN; · finish (splits := 3) (ematch := 1)) (apply rowG_nN; · finish (splits := 3) (ematch := 1)) (apply rowG_s) (apply rowG_sN) (simp [mv_zero, Nat.sub_zero, hideH_cons, hideH_none, memb_nil, memb_cons, elemsE_rowE, loadE_rowE, rowE_true, chkW_conv, sameO_bol, Int.toNat_natCast, eIns_eq, cx13_P, cx13_l0, cx13_l1, cx13_l2, cx13_l3, cx13_l4, cx13_l5, cx13_l6, cx13_l7, cx13_l8, cx13_l9, cx13_l10, cx13_l11, cx13_l12, cx13_l13, cx13_l14, cx13_l15, cx13_l16, cx13_l17, cx13_l19, cx13_l20, cx13_l21, cx13_l22, cx13_l18, cx13_l23, cx13_pu, Try.f13.eq_1, ty_arrOf_3, ty_arrOf_39, ty_arrOf_41, ty_bytesE_39, ty_bytesE_41, ty_hasTy_3, ty_hasTy_39, ty_hasTy_61, ty_intOf_3, ty_isByteSlc_39, ty_lay_3, ty_lay_39, ty_lay_41, ty_notInt_39, ty_notInt_41, ty_slcOf_3, ty_slcOf_39, ty_slcOf_41, ty_zeroA_3, ty_zeroA_41, ty_zeroE_39, ty_zeroE_41, valK_some, opE_move, opE_assign, opE_pick, opE_load, opE_bin, opE_un, opE_conv, opE_slice, opE_indexAddr, opE_extract, opE_len, callK_fn, callK_yld, callG_some, callG_none, opE_call_r, ev_seq, ev_skip, ev_label, ev_region, ev_cond, condC_some, brC_true, brC_false, ev_block, ev_scope, ev_exit, ev_ret, ev_loop, nx_seq, nx_seqE, nx_seqR, nx_blk, nx_blkE, nx_blkR, nx_loop, nx_loopE, nx_loopR, nx_inv, nx_invE, nx_invR, nx_top, nx_topR, topO_some, evR_nil, wantK_tup, wantK_tt, wantK_ff, wantK_tf, wantK_ft, evR_op, evR_guard, finK_reg, getT_cons, putT_some, putT_none, trimT_some, trimT_none, keepT_nil, keepT_cons, consT_some, consT_none, getT_nil, getO_tmp, getO_const, getO_func, ofC_int, ofC_bool, ofC_ptr, ofC_slc, ofC_map, ofC_fn, getOs_nil, getOs_cons, consO_some, guardT_eq, guardO_some, hget_cons, wrap_lit, wrap_neg, top_i64, bot_i64, bits_i64, cast_lit, toNat_lit, get_zero, get_succ, take_zero, take_succ, set_zero, set_succ, length_nil, length_cons, append_nil, nil_append, cons_append, toList_arr, bnot_true, bnot_false, band_true, band_false, beq_tt, beq_ff, beq_tf, beq_ft, beq_nat, beq_int, bne_nat, map_some, map_none, true_eq_false, false_eq_true, true_eq_true, fbody_mk, fresults_mk, getD_some, bol_true, binO_some, rem_lit, rem_neg, bin_eql, bin_neq, bin_lss, bin_gtr, bin_beql, bin_bneq, bin_seql, bin_sneq, eqO_eq, eqO_ne, bin_aeql, bin_aneq, bin_reql, bin_rneq, aggEq_some, flatL_nil, flatL_cons, appV_some, flatV_int, flatV_bool, flatV_agg, flatV_rows, bin_feql, bin_fneq, bin_nfeql, bin_nfneq, bin_peql, bin_pneq, bin_npeql, bin_npneq, unO_some, un_not, convO_some, conv_int, pickA_true, pickA_false, exO_some, ext_tup, size_int, size_bool, size_str, size_ptr, size_nilp, size_slc, size_nils, size_map, size_nilm, size_fn, size_yld, size_nilf, size_agg, size_rows, sizeL_nil, sizeL_cons, layOK_int, layOK_bool, layOK_str, layOK_ptr, layOK_nilp, layOK_slc, layOK_nils, layOK_map, layOK_nilm, layOK_fn, layOK_yld, layOK_nilf, layOK_agg, layOK_rows, isTup_int, isTup_bool, isTup_str, isTup_ptr, isTup_nilp, isTup_slc, isTup_nils, isTup_map, isTup_nilm, isTup_fn, isTup_yld, isTup_nilf, isTup_agg, isTup_rows, getP_nil, getP_cons, getS_some, stepP_agg, stepP_rows, loadO_some, loadA_ptr, loadE_cel, loadE_vec, loadE_ro, chkL_some, iaO_some, sliceO_some, slice_slc, slO_some, slice_nils, slN_some, slice_ptr, slA_some, cutA_some, cutN_some, sliceB_none, sliceB_hi, sbH_some, sbL_none, sbL_some, sbX_some, builtO_some, len_slc, len_nils, len_rows, arN_some, resF_eq, resAll_nil, resAll_cons, resOne_tmp, resOne_cell, tupO_none, tupO_one, tupO_more, argT_nil, argT_cons, lookU_nil, lookU_cons, lookL_cons, lookL_nil, lookP_cons, roundS_eq, mbin_add, mbin_mul, mbin_rem, mun_neg, mcvI_some, wrapO_lit, wrapO_neg, mia_ptr, mia_slc, mbndA_int, not_tf, not_ft, and_tf, not_not_b, alt_true, alt_false, pick_alt, bol_false, getS_bol, getS_alt, chkL_bol, chkL_alt, consO_bol, consO_bol2, tupO_bol, sbX_bol, sbH_bol, cutA_bol, cutN_bol, eqO_bol, bol_bol, get_mapB, get_setB, get_appB, len_map, nat_zero_add, take_map, take_self, drop_zero, elemsE_vec, elemsE_ro, elemsE_cel, elemsC_rows, elemsC_bol, bin_nsleql, bin_nslneq, bin_nnleql, bin_nnlneq, slN_bol, conv_slc, conv_nils, cvS_some, cvS_bol, strO_map, strO_win, strO_take, strO_drop, strO_nil, beq_str, subC_nil, subC_seq0, subC_seq1, subC_cond0, subC_cond1, subC_block, subC_scope, subC_loop, subC_ran0, subC_ran1, hideH_nil, and_self, and_true, true_and, and_false, false_and]) (apply valK_bolB; · finish (splits := 3) (ematch := 1)) (apply valK_altT; · finish (splits := 3) (ematch := 1)) (apply valK_altF; · finish (splits := 3) (ematch := 1)) (apply valK_altB) (apply brC_t; · finish (splits := 3) (ematch := 1)) (apply brC_f; · finish (splits := 3) (ematch := 1)) (apply brC_sBN) (apply brC_sB) (apply wantK_t; · finish (splits := 3) (ematch := 1)) (apply wantK_f; · finish (splits := 3) (ematch := 1)) (apply wantK_sBN) (apply wantK_sB) (apply rowG_t; · finish (splits := 3) (ematch := 1)) (apply rowG_f; · finish (splits := 3) (ematch := 1)) (apply rowG_sBN) (apply rowG_sB) (intro~ hr) (tactic => first | exact bk_no hL hi hm ‹_› ‹_› | exact bk_ne hL hi hm ‹_› ‹begins _ _ _ ∧ _› hp | exact bk_end hi hm hp | (rename_i x r hb; refine hJ [0, 4, 2, 3] ⟨a.i + 1, r, hr⟩ _ (reid_of rfl (by decide) rfl ?_ ?_ (ndB_nodup rfl) ?_) (bk_next hL hi hm ‹_› hb) (bk_meas ‹_›) <;> simp [subT, subH, okW, getT, hget, hset, hdel, idx, AV.ren, renL, renT, er_vec, er_cel, er_row, ew_vec, ew_cel, er_lp, ew_lp, renL_ints, rowE_ren, renL_app, -List.map_drop, -List.map_take]; done) | (trace_state; exact test_fail)))))) (apply valK_cutN; (tactic => exact h1.1)) (apply imp_go; intro hp) (apply valK_w64; · finish (splits := 3) (ematch := 1)) (apply valK_wu8; · finish (splits := 3) (ematch := 1)) (apply valK_wu64; · finish (splits := 3) (ematch := 1)) (apply valK_w32; · finish (splits := 3) (ematch := 1)) (apply valK_wu16; · finish (splits := 3) (ematch := 1)) (apply valK_wu32; · finish (splits := 3) (ematch := 1)) (apply valK_wr) (apply valK_andR) (apply valK_quo; · finish (splits := 3) (ematch := 1)) (apply valK_quoR; · finish (splits := 3) (ematch := 1)) (apply valK_rem; · finish (splits := 3) (ematch := 1)) (apply valK_remR; · finish (splits := 3) (ematch := 1)) (apply valK_bol; · finish (splits := 3) (ematch := 1)) (apply effK_bol; · finish (splits := 3) (ematch := 1)) (apply newK_bol; · finish (splits := 3) (ematch := 1)) (apply appK_bol; · finish (splits := 3) (ematch := 1)) (apply topO_bol; · finish (splits := 3) (ematch := 1)) (apply valK_altY; · finish (splits := 3) (ematch := 1)) (apply valK_altN; · finish (splits := 3) (ematch := 1)) (apply effK_altY; · finish (splits := 3) (ematch := 1)) (apply effK_altN; · finish (splits := 3) (ematch := 1)) (apply valK_altNY; · finish (splits := 3) (ematch := 1)) (apply valK_altNN; · finish (splits := 3) (ematch := 1)) (apply valK_altS) (apply valK_altNS) (apply effK_altS) (apply appS_go) (apply brC_y; · finish (splits := 3) (ematch := 1)) (apply brC_n; · finish (splits := 3) (ematch := 1)) (apply brC_yN; · finish (splits := 3) (ematch := 1)) (apply brC_nN; · finish (splits := 3) (ematch := 1)) (apply brC_s) (apply brC_sN) (apply wantK_y; · finish (splits := 3) (ematch := 1)) (apply wantK_n; · finish (splits := 3) (ematch := 1)) (apply wantK_yN; · finish (splits := 3) (ematch := 1)) (apply wantK_nN; · finish (splits := 3) (ematch := 1)) (apply wantK_s) (apply wantK_sN) (apply rowG_y; · finish (splits := 3) (ematch := 1)) (apply rowG_n; · finish (splits := 3) (ematch := 1)) (apply rowG_yN; · finish (splits := 3) (ematch := 1)) (apply rowG_nN; · finish (splits := 3) (ematch := 1)) (apply rowG_s) (apply rowG_sN) (simp [mv_zero, Nat.sub_zero, hideH_cons, hideH_none, memb_nil, memb_cons, elemsE_rowE, take_mapL, takeSelf, rowE_true, chkW_conv, sameO_bol, Int.toNat_natCast, eIns_eq, cx13_P, cx13_l0, cx13_l1, cx13_l2, cx13_l3, cx13_l4, cx13_l5, cx13_l6, cx13_l7, cx13_l8, cx13_l9, cx13_l10, cx13_l11, cx13_l12, cx13_l13, cx13_l14, cx13_l15, cx13_l16, cx13_l17, cx13_l19, cx13_l20, cx13_l21, cx13_l22, cx13_l18, cx13_l23, cx13_pu, Try.f13.eq_1, ty_arrOf_3, ty_arrOf_39, ty_arrOf_41, ty_bytesE_39, ty_bytesE_41, ty_hasTy_3, ty_hasTy_39, ty_hasTy_61, ty_intOf_3, ty_isByteSlc_39, ty_lay_3, ty_lay_39, ty_lay_41, ty_notInt_39, ty_notInt_41, ty_slcOf_3, ty_slcOf_39, ty_slcOf_41, ty_zeroA_3, ty_zeroA_41, ty_zeroE_39, ty_zeroE_41, valK_some, opE_move, opE_assign, opE_pick, opE_load, opE_bin, opE_un, opE_conv, opE_slice, opE_indexAddr, opE_extract, opE_len, callK_fn, callK_yld, callG_some, callG_none, opE_call_r, ev_seq, ev_skip, ev_label, ev_region, ev_cond, condC_some, brC_true, brC_false, ev_block, ev_scope, ev_exit, ev_ret, ev_loop, nx_seq, nx_seqE, nx_seqR, nx_blk, nx_blkE, nx_blkR, nx_loop, nx_loopE, nx_loopR, nx_inv, nx_invE, nx_invR, nx_top, nx_topR, topO_some, evR_nil, wantK_tup, wantK_tt, wantK_ff, wantK_tf, wantK_ft, evR_op, evR_guard, finK_reg, getT_cons, putT_some, putT_none, trimT_some, trimT_none, keepT_nil, keepT_cons, consT_some, consT_none, getT_nil, getO_tmp, getO_const, getO_func, ofC_int, ofC_bool, ofC_ptr, ofC_slc, ofC_map, ofC_fn, getOs_nil, getOs_cons, consO_some, guardT_eq, guardO_some, hget_cons, wrap_lit, wrap_neg, top_i64, bot_i64, bits_i64, cast_lit, toNat_lit, get_zero, get_succ, take_zero, take_succ, set_zero, set_succ, length_nil, length_cons, append_nil, nil_append, cons_append, toList_arr, bnot_true, bnot_false, band_true, band_false, beq_tt, beq_ff, beq_tf, beq_ft, beq_nat, beq_int, bne_nat, map_some, map_none, true_eq_false, false_eq_true, true_eq_true, fbody_mk, fresults_mk, getD_some, bol_true, binO_some, rem_lit, rem_neg, bin_eql, bin_neq, bin_lss, bin_gtr, bin_beql, bin_bneq, bin_seql, bin_sneq, eqO_eq, eqO_ne, bin_aeql, bin_aneq, bin_reql, bin_rneq, aggEq_some, flatL_nil, flatL_cons, appV_some, flatV_int, flatV_bool, flatV_agg, flatV_rows, bin_feql, bin_fneq, bin_nfeql, bin_nfneq, bin_peql, bin_pneq, bin_npeql, bin_npneq, unO_some, un_not, convO_some, conv_int, pickA_true, pickA_false, exO_some, ext_tup, size_int, size_bool, size_str, size_ptr, size_nilp, size_slc, size_nils, size_map, size_nilm, size_fn, size_yld, size_nilf, size_agg, size_rows, sizeL_nil, sizeL_cons, layOK_int, layOK_bool, layOK_str, layOK_ptr, layOK_nilp, layOK_slc, layOK_nils, layOK_map, layOK_nilm, layOK_fn, layOK_yld, layOK_nilf, layOK_agg, layOK_rows, isTup_int, isTup_bool, isTup_str, isTup_ptr, isTup_nilp, isTup_slc, isTup_nils, isTup_map, isTup_nilm, isTup_fn, isTup_yld, isTup_nilf, isTup_agg, isTup_rows, getP_nil, getP_cons, getS_some, stepP_agg, stepP_rows, loadO_some, loadA_ptr, loadE_cel, loadE_vec, loadE_ro, chkL_some, iaO_some, sliceO_some, slice_slc, slO_some, slice_nils, slN_some, slice_ptr, slA_some, cutA_some, cutN_some, sliceB_none, sliceB_hi, sbH_some, sbL_none, sbL_some, sbX_some, builtO_some, len_slc, len_nils, len_rows, arN_some, resF_eq, resAll_nil, resAll_cons, resOne_tmp, resOne_cell, tupO_none, tupO_one, tupO_more, argT_nil, argT_cons, lookU_nil, lookU_cons, lookL_cons, lookL_nil, lookP_cons, roundS_eq, mbin_add, mbin_mul, mun_neg, mcvI_some, wrapO_lit, wrapO_neg, mia_ptr, mia_slc, mbndA_int, not_tf, not_ft, and_tf, not_not_b, alt_true, alt_false, pick_alt, bol_false, getS_bol, getS_alt, chkL_bol, chkL_alt, consO_bol, consO_bol2, tupO_bol, sbX_bol, sbH_bol, cutA_bol, cutN_bol, eqO_bol, bol_bol, get_mapB, get_setB, get_appB, len_map, nat_zero_add, take_self, drop_zero, elemsE_vec, elemsE_ro, elemsE_cel, elemsC_rows, elemsC_bol, bin_nsleql, bin_nslneq, bin_nnleql, bin_nnlneq, slN_bol, conv_slc, conv_nils, cvS_some, cvS_bol, strO_map, strO_win, strO_take, strO_drop, strO_nil, beq_str, subC_nil, subC_seq0, subC_seq1, subC_cond0, subC_cond1, subC_block, subC_scope, subC_loop, subC_ran0, subC_ran1, hideH_nil, and_self, and_true, true_and, and_false, false_and]) (apply valK_bolB; · finish (splits := 3) (ematch := 1)) (apply valK_altT; · finish (splits := 3) (ematch := 1)) (apply valK_altF; · finish (splits := 3) (ematch := 1)) (apply valK_altB) (apply brC_t; · finish (splits := 3) (ematch := 1)) (apply brC_f; · finish (splits := 3) (ematch := 1)) (apply brC_sBN) (apply brC_sB) (apply wantK_t; · finish (splits := 3) (ematch := 1)) (apply wantK_f; · finish (splits := 3) (ematch := 1)) (apply wantK_sBN) (apply wantK_sB) (apply rowG_t; · finish (splits := 3) (ematch := 1)) (apply rowG_f; · finish (splits := 3) (ematch := 1)) (apply rowG_sBN) (apply rowG_sB) (intro~ hr) (tactic => first | exact bk_lo ‹_ ≤ x0.length ∧ _ ∧ _› hp | exact bk_hi ‹_ ≤ x0.length ∧ _ ∧ _› hp | exact bk_all ‹_ ≤ _ ∧ _ ≤ _ ∧ (_ ∨ _)› ‹_› hp | (trace_state; exact test_fail)))
end Go.Proofs.Ytngjfoajgedgjaa
