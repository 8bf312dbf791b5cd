/-
  Chapter 17: two lists of one pool; the law PoolApart.
-/
import Derived.Test.YtbkmhkeihbgcfaaPe
set_option linter.unusedVariables false
set_option linter.unusedSimpArgs false
set_option maxRecDepth 10000
set_option maxHeartbeats 0
namespace Go.Proofs.Ytbkmhkeihbgcfaa
open Go.Y
/-- A list that ends properly. -/
def chN (ns : List Node) : Int → List Int → Prop
  | h, [] => h = -1
  | h, j :: r => h = j ∧ takenP ns h = true ∧ chN ns (ns.getD j.toNat default).2.1 r
theorem taken_m1 (ns : List Node) : takenP ns (-1) = false := by unfold takenP; rw [if_neg (by omega)]
theorem chN_P {ns : List Node} : ∀ {js : List Int} {h : Int}, chN ns h js → chainP ns h js
  | [], h, hc => by rw [show h = -1 from hc]; exact taken_m1 ns
  | j :: r, h, hc => ⟨hc.1, hc.2.1, chN_P hc.2.2⟩
def appN (ns : List Node) (v : Node) : List Node := ns ++ [v]
theorem appN_len (ns : List Node) (v : Node) : (appN ns v).length = ns.length + 1 := by simp [appN]
theorem taken_app {ns : List Node} {v : Node} {h : Int} (ht : takenP ns h = true) : takenP (appN ns v) h = true := by
  have hb := taken_bd ht
  unfold takenP at *
  rw [if_pos hb] at ht
  rw [appN_len, if_pos (by omega), appN, List.getD_eq_getElem?_getD, List.getElem?_append_left (by omega), ← List.getD_eq_getElem?_getD]
  exact ht
theorem get_app {ns : List Node} {v : Node} {j : Int} (hb : 0 ≤ j ∧ j < ns.length) : (appN ns v).getD j.toNat default = ns.getD j.toNat default := by
  rw [appN, List.getD_eq_getElem?_getD, List.getElem?_append_left (by omega), ← List.getD_eq_getElem?_getD]
theorem chN_app {ns : List Node} {v : Node} : ∀ {js : List Int} {h : Int}, chN ns h js → chN (appN ns v) h js
  | [], h, hc => hc
  | j :: r, h, hc => by
    obtain ⟨rfl, h2, h3⟩ := hc
    refine ⟨rfl, taken_app h2, ?_⟩
    rw [get_app (taken_bd h2)]
    exact chN_app h3
theorem get_new (ns : List Node) (v : Node) : (appN ns v).getD ((ns.length : Int)).toNat default = v := by
  rw [show ((ns.length : Int)).toNat = ns.length by omega, appN, List.getD_eq_getElem?_getD, List.getElem?_append_right (Nat.le_refl _), Nat.sub_self]; rfl
theorem taken_new (ns : List Node) (x h : Int) : takenP (appN ns (x, h, true)) ns.length = true := by
  unfold takenP
  rw [appN_len, if_pos (by omega), get_new]
theorem chN_new {ns : List Node} {x h : Int} {js : List Int} (hc : chN ns h js) : chN (appN ns (x, h, true)) ns.length ((ns.length : Int) :: js) := by
  refine ⟨rfl, taken_new ns x h, ?_⟩
  rw [get_new]
  exact chN_app hc
theorem chN_bd {ns : List Node} : ∀ {js : List Int} {h : Int}, chN ns h js → ∀ j, j ∈ js → 0 ≤ j ∧ j < ns.length
  | [], h, hc, j, hj => absurd hj List.not_mem_nil
  | i :: r, h, hc, j, hj => by
    rcases List.mem_cons.1 hj with e | hj
    · subst e; rw [← hc.1]; exact taken_bd hc.2.1
    · exact chN_bd hc.2.2 j hj
theorem chN_ok {ns : List Node} {js : List Int} {h : Int} (hc : chN ns h js) : h = -1 ∨ takenP ns h = true := by
  cases js with
  | nil => exact .inl hc
  | cons j r => exact .inr hc.2.1
/-- The things of a list. -/
def thL (ns : List Node) (js : List Int) : List Int := js.map fun j => gX ns j.toNat
theorem thL_tg (ns : List Node) (js : List Int) : js.map (tgV ns) = (thL ns js).map (AV.int .i64) := by
  unfold thL; rw [List.map_map]; rfl
theorem thL_app {ns : List Node} {v : Node} {js : List Int} (hb : ∀ j, j ∈ js → 0 ≤ j ∧ j < ns.length) : thL (appN ns v) js = thL ns js := by
  unfold thL
  apply List.map_congr_left
  intro j hj
  rw [gX, gX, get_app (hb j hj)]
theorem thL_new {ns : List Node} {x h : Int} {js : List Int} (hb : ∀ j, j ∈ js → 0 ≤ j ∧ j < ns.length) : thL (appN ns (x, h, true)) ((ns.length : Int) :: js) = x :: thL ns js := by
  have h1 := thL_app (v := (x, h, true)) hb
  unfold thL at *
  rw [List.map_cons, h1, gX, get_new]
theorem pushN_use {k m len cap : Nat} {ns : List Node} {room live most h x : Int} {H : Hp} {n : Nat} {Q : AV → Hp → Nat → Prop} (hk : hget k H = some (.cel (.agg [.int .i64 room, .int .i64 (-1), .int .i64 live, .int .i64 most, .slc m 0 [] 3 0 0 len cap]))) (hm : hget m H = some (.vec cap 3 (ns.map nodeV)))
    (hlt : k < n ∧ m < n ∧ k ≠ m) (hlen : len = ns.length) (hx : (len : Int) < 65536 ∧ 0 ≤ live ∧ live < room ∧ room ≤ 65536) (hf : h = -1 ∨ takenP ns h = true)
    (hq : ∀ cap', Q (.tup [.int .i64 len, .bool true]) ((n, .vec cap' 3 ((appN ns (x, h, true)).map nodeV)) :: (k, .cel (.agg [.int .i64 room, .int .i64 (-1), .int .i64 (live + 1), .int .i64 (if most < live + 1 then live + 1 else most), .slc n 0 [] 3 0 0 (len + 1) cap'])) :: hideH [m, k] H) (n + 1)) :
    callA Try.prog 15 [.ptr k 0 [], .int .i64 h, .int .i64 x] H n Q := by
  subst hlen
  have ek : idx [k, m] n 0 = k := rfl
  have em : idx [k, m] n 1 = m := rfl
  refine callA_use (push_call ⟨room, -1, live, most, ns⟩ cap h x ⟨hx.2.1, show live < 70000 by omega⟩ (.inl rfl) (show ns.length < 70000 by omega)) [k, m] rfl (by simp; exact hlt.2.2) (by simp; exact ⟨hlt.1, hlt.2.1⟩) (by simp [keysB, poolH]) rfl ?_ ?_
  · refine ⟨?_, ?_, trivial⟩
    · have := hm
      simpa [Ent.ren, em, nodes_ren] using this
    · have := hk
      simpa [Ent.ren, ek, em, poolV, AV.ren, renL] using this
  · rintro v H1 m1 _ ⟨cap', rfl, rfl, rfl⟩
    have hp : pushP ⟨room, -1, live, most, ns⟩ h x = ((ns.length : Int), true, ⟨room, -1, live + 1, (if most < live + 1 then live + 1 else most), appN ns (x, h, true)⟩) := by
      unfold pushP
      have ht : ¬ ((h ≠ -1 ∧ takenP ns h = false) ∨ live = room) := by
        rintro (⟨h1, h2⟩ | h1)
        · rcases hf with hf | hf
          · exact h1 hf
          · rw [hf] at h2; exact Bool.noConfusion h2
        · omega
      rw [if_neg ht]
      simp only [if_true]
      rfl
    rw [hp]
    have := hq cap'
    simpa [poolH, poolV, renH, renL, AV.ren, Ent.ren, idx, keysB, nodes_ren, appN_len] using this
theorem valK_bit {cx : Cx} {fx : Fx} {kt : Kt} {k : IntKind} {a : Int} {H : Hp} {n : Nat} (h0 : ValK cx fx kt (some (.int k 0)) H n) (h1 : ValK cx fx kt (some (.int k 1)) H n) : ValK cx fx kt (andO k a 1) H n := by
  rw [andO_1]
  rcases Int.emod_two_eq a with h | h <;> rw [h] <;> assumption

noncomputable def cx4 : Cx := ⟨Try.prog, [], [(11, ⟨0, [⟨0, false, [], [], [], 0⟩, ⟨1, false, [], [], [], 0⟩, ⟨2, false, [1], [], [], 0⟩, ⟨3, false, [2], [], [], 0⟩, ⟨4, false, [], [], [], 0⟩, ⟨5, false, [], [], [], 0⟩, ⟨6, false, [4, 5], [], [], 0⟩, ⟨7, false, [6], [], [], 0⟩, ⟨8, true, [0, 3, 7], [], [], 0⟩, ⟨9, false, [8], [], [], 0⟩, ⟨10, false, [8, 9], [], [], 0⟩, ⟨11, false, [8, 9], [], [], 0⟩, ⟨12, false, [8, 10], [], [], 0⟩, ⟨13, false, [8, 11], [], [], 0⟩]⟩), (15, ⟨1, [⟨0, false, [], [], [], 0⟩, ⟨1, false, [], [], [], 0⟩, ⟨2, false, [], [], [], 0⟩, ⟨3, false, [1, 2], [], [], 0⟩, ⟨4, false, [3], [], [0], 0⟩, ⟨5, false, [4], [], [], 0⟩, ⟨6, false, [], [], [], 0⟩, ⟨7, false, [6], [], [], 0⟩, ⟨8, false, [7], [], [0], 0⟩, ⟨9, true, [4, 5, 8], [], [], 0⟩, ⟨10, false, [0, 9], [], [], 0⟩, ⟨11, true, [4, 5, 8, 9, 10], [], [], 0⟩]⟩), (24, ⟨0, [⟨0, false, [], [], [], 0⟩, ⟨1, false, [], [], [], 0⟩, ⟨2, false, [1], [], [], 0⟩, ⟨4, false, [], [], [], 0⟩, ⟨5, false, [4], [], [], 0⟩, ⟨6, false, [5], [], [], 0⟩, ⟨3, true, [0, 2], [5, 6], [], 0⟩, ⟨7, false, [3, 5, 6], [], [], 0⟩, ⟨8, false, [2, 3, 5, 6, 7], [], [], 0⟩, ⟨9, false, [3, 8], [], [], 0⟩, ⟨11, false, [3, 8], [], [], 0⟩, ⟨12, false, [3, 8, 11], [], [], 0⟩, ⟨13, false, [3, 8, 12], [], [], 0⟩, ⟨10, true, [2, 3, 5, 6, 8, 9], [12, 13], [], 0⟩, ⟨14, false, [3, 8, 10, 13], [], [], 0⟩, ⟨15, false, [3, 8, 10, 14], [], [], 0⟩]⟩)], ((0, [2, 1, 0]) :: (1, [7, 2, 1, 0]) :: (2, [8, 7, 2, 1, 0]) :: (3, [34, 8, 2, 1, 0]) :: (4, [6]) :: (5, [9, 8, 2, 1, 0]) :: (6, [10, 9, 8, 2, 1, 0]) :: (7, [11, 10, 9, 8, 2, 1, 0]) :: (8, [44, 11, 10, 9, 8, 2, 1, 0]) :: (9, [11, 10, 9, 8, 2, 1, 0]) :: (10, [12, 11, 10, 9, 8, 2, 1, 0]) :: (11, [14, 13, 12, 11, 10, 9, 8, 2, 1, 0]) :: (12, [65, 13, 12, 11, 10, 9, 8, 2, 1, 0]) :: (13, [6]) :: (14, [12, 11, 10, 9, 8, 2, 1, 0]) :: (15, [11, 10, 9, 8, 2, 1, 0]) :: (16, [15, 10, 9, 8, 2]) :: (17, [81, 15, 10, 9, 8, 2]) :: (18, [15, 10, 9, 8, 2]) :: (19, [18, 17, 15, 10, 9, 8, 2]) :: (20, [21, 20, 18, 17, 15, 10, 9, 8, 2]) :: (21, [22, 21, 20, 18, 17, 15, 10, 9, 8, 2]) :: (22, [132, 15, 10, 9, 8, 2]) :: (23, [6]) :: (24, [148, 10, 9, 8]) :: (25, [6]) :: (26, [25, 24, 10]) :: (27, [26, 25]) :: (28, [6]) :: [])⟩
theorem cx4_P : cx4.P = Try.prog := rfl
theorem cx4_l0 : lookL 0 cx4.lv = some [2, 1, 0] := rfl
theorem cx4_l1 : lookL 1 cx4.lv = some [7, 2, 1, 0] := rfl
theorem cx4_l2 : lookL 2 cx4.lv = some [8, 7, 2, 1, 0] := rfl
theorem cx4_l3 : lookL 3 cx4.lv = some [34, 8, 2, 1, 0] := rfl
theorem cx4_l4 : lookL 4 cx4.lv = some [6] := rfl
theorem cx4_l5 : lookL 5 cx4.lv = some [9, 8, 2, 1, 0] := rfl
theorem cx4_l6 : lookL 6 cx4.lv = some [10, 9, 8, 2, 1, 0] := rfl
theorem cx4_l7 : lookL 7 cx4.lv = some [11, 10, 9, 8, 2, 1, 0] := rfl
theorem cx4_l8 : lookL 8 cx4.lv = some [44, 11, 10, 9, 8, 2, 1, 0] := rfl
theorem cx4_l10 : lookL 10 cx4.lv = some [12, 11, 10, 9, 8, 2, 1, 0] := rfl
theorem cx4_l11 : lookL 11 cx4.lv = some [14, 13, 12, 11, 10, 9, 8, 2, 1, 0] := rfl
theorem cx4_l12 : lookL 12 cx4.lv = some [65, 13, 12, 11, 10, 9, 8, 2, 1, 0] := rfl
theorem cx4_l13 : lookL 13 cx4.lv = some [6] := rfl
theorem cx4_l14 : lookL 14 cx4.lv = some [12, 11, 10, 9, 8, 2, 1, 0] := rfl
theorem cx4_l15 : lookL 15 cx4.lv = some [11, 10, 9, 8, 2, 1, 0] := rfl
theorem cx4_l9 : lookL 9 cx4.lv = some [11, 10, 9, 8, 2, 1, 0] := rfl
theorem cx4_l16 : lookL 16 cx4.lv = some [15, 10, 9, 8, 2] := rfl
theorem cx4_l17 : lookL 17 cx4.lv = some [81, 15, 10, 9, 8, 2] := rfl
theorem cx4_l19 : lookL 19 cx4.lv = some [18, 17, 15, 10, 9, 8, 2] := rfl
theorem cx4_l20 : lookL 20 cx4.lv = some [21, 20, 18, 17, 15, 10, 9, 8, 2] := rfl
theorem cx4_l21 : lookL 21 cx4.lv = some [22, 21, 20, 18, 17, 15, 10, 9, 8, 2] := rfl
theorem cx4_l22 : lookL 22 cx4.lv = some [132, 15, 10, 9, 8, 2] := rfl
theorem cx4_l23 : lookL 23 cx4.lv = some [6] := rfl
theorem cx4_l18 : lookL 18 cx4.lv = some [15, 10, 9, 8, 2] := rfl
theorem cx4_l24 : lookL 24 cx4.lv = some [148, 10, 9, 8] := rfl
theorem cx4_l25 : lookL 25 cx4.lv = some [6] := rfl
theorem cx4_l26 : lookL 26 cx4.lv = some [25, 24, 10] := rfl
theorem cx4_l27 : lookL 27 cx4.lv = some [26, 25] := rfl
theorem cx4_l28 : lookL 28 cx4.lv = some [6] := rfl
theorem cx4_p11 : lookP 11 cx4.pl = some ⟨0, [⟨0, false, [], [], [], 0⟩, ⟨1, false, [], [], [], 0⟩, ⟨2, false, [1], [], [], 0⟩, ⟨3, false, [2], [], [], 0⟩, ⟨4, false, [], [], [], 0⟩, ⟨5, false, [], [], [], 0⟩, ⟨6, false, [4, 5], [], [], 0⟩, ⟨7, false, [6], [], [], 0⟩, ⟨8, true, [0, 3, 7], [], [], 0⟩, ⟨9, false, [8], [], [], 0⟩, ⟨10, false, [8, 9], [], [], 0⟩, ⟨11, false, [8, 9], [], [], 0⟩, ⟨12, false, [8, 10], [], [], 0⟩, ⟨13, false, [8, 11], [], [], 0⟩]⟩ := rfl
theorem cx4_p15 : lookP 15 cx4.pl = some ⟨1, [⟨0, false, [], [], [], 0⟩, ⟨1, false, [], [], [], 0⟩, ⟨2, false, [], [], [], 0⟩, ⟨3, false, [1, 2], [], [], 0⟩, ⟨4, false, [3], [], [0], 0⟩, ⟨5, false, [4], [], [], 0⟩, ⟨6, false, [], [], [], 0⟩, ⟨7, false, [6], [], [], 0⟩, ⟨8, false, [7], [], [0], 0⟩, ⟨9, true, [4, 5, 8], [], [], 0⟩, ⟨10, false, [0, 9], [], [], 0⟩, ⟨11, true, [4, 5, 8, 9, 10], [], [], 0⟩]⟩ := rfl
theorem cx4_p24 : lookP 24 cx4.pl = some ⟨0, [⟨0, false, [], [], [], 0⟩, ⟨1, false, [], [], [], 0⟩, ⟨2, false, [1], [], [], 0⟩, ⟨4, false, [], [], [], 0⟩, ⟨5, false, [4], [], [], 0⟩, ⟨6, false, [5], [], [], 0⟩, ⟨3, true, [0, 2], [5, 6], [], 0⟩, ⟨7, false, [3, 5, 6], [], [], 0⟩, ⟨8, false, [2, 3, 5, 6, 7], [], [], 0⟩, ⟨9, false, [3, 8], [], [], 0⟩, ⟨11, false, [3, 8], [], [], 0⟩, ⟨12, false, [3, 8, 11], [], [], 0⟩, ⟨13, false, [3, 8, 12], [], [], 0⟩, ⟨10, true, [2, 3, 5, 6, 8, 9], [12, 13], [], 0⟩, ⟨14, false, [3, 8, 10, 13], [], [], 0⟩, ⟨15, false, [3, 8, 10, 14], [], [], 0⟩]⟩ := rfl
theorem cx4_pu : cx4.pu = [] := rfl
theorem cx4_ok : okc cx4 Try.f4.ntmps (Try.f4.body.getD .skip) = true := by kernel_rfl
theorem enter4 {args : List AV} {H : Hp} {n : Nat} {Q : AV → Hp → Nat → Prop} (h : args.length ≤ 165 ∧ Ev cx4 ⟨165, n, none, 4⟩ (Try.f4.body.getD .skip) ⟨argT 0 args, H, n⟩ (.top Try.f4.results.toList Q)) : callA Try.prog 4 args H n Q :=
  callA_ev (cx := cx4) puOk_nil (f := 4) (fn := Try.f4) Try.func4 rfl (by kernel_rfl) h.1 cx4_ok h.2
structure ApA where
  i : Int
  len : Nat
  ns : List Node
  h0 : Int
  h1 : Int
  a0 : List Int
  a1 : List Int
  w0 : List Int
  w1 : List Int
  cap : Nat
  c0 : Nat
  c1 : Nat
def ap2 (ns : List Node) (h0 h1 : Int) (a0 a1 w0 w1 : List Int) : Prop := (chN ns h0 a0 ∧ a0.Nodup ∧ thL ns a0 = w0) ∧ (chN ns h1 a1 ∧ a1.Nodup ∧ thL ns a1 = w1) ∧ (∀ j, j ∈ a0 → j ∉ a1) ∧ a0.length + a1.length ≤ ns.length
def apInv (l : List Int) (a : ApA) : Prop := (0 ≤ a.i ∧ a.i ≤ 40 ∧ a.i ≤ l.length ∧ a.len = a.ns.length ∧ (a.len : Int) = a.i ∧ a.w0.length + a.w1.length = a.len) ∧ ap2 a.ns a.h0 a.h1 a.a0 a.a1 a.w0 a.w1
theorem ap2_0 {ns : List Node} {h0 h1 x : Int} {a0 a1 w0 w1 : List Int} (h : ap2 ns h0 h1 a0 a1 w0 w1) : ap2 (appN ns (x, h0, true)) ns.length h1 ((ns.length : Int) :: a0) a1 (x :: w0) w1 := by
  obtain ⟨⟨g1, g2, g3⟩, ⟨g4, g5, g6⟩, g7, g8⟩ := h
  have b0 := chN_bd g1
  have b1 := chN_bd g4
  refine ⟨⟨chN_new g1, ?_, by rw [thL_new b0, g3]⟩, ⟨chN_app g4, g5, by rw [thL_app b1, g6]⟩, ?_, by rw [appN_len, List.length_cons]; omega⟩
  · rw [List.nodup_cons]; exact ⟨fun hm => by have := b0 _ hm; omega, g2⟩
  · intro j hj
    rcases List.mem_cons.1 hj with e | hj
    · subst e; exact fun hm => by have := b1 _ hm; omega
    · exact g7 j hj
theorem ap2_swap {ns : List Node} {h0 h1 : Int} {a0 a1 w0 w1 : List Int} (h : ap2 ns h0 h1 a0 a1 w0 w1) : ap2 ns h1 h0 a1 a0 w1 w0 :=
  ⟨h.2.1, h.1, fun j h1 h2 => h.2.2.1 j h2 h1, by have := h.2.2.2; omega⟩
theorem ap2_1 {ns : List Node} {h0 h1 x : Int} {a0 a1 w0 w1 : List Int} (h : ap2 ns h0 h1 a0 a1 w0 w1) : ap2 (appN ns (x, h1, true)) h0 ns.length a0 ((ns.length : Int) :: a1) w0 (x :: w1) := ap2_swap (ap2_0 (ap2_swap h))
theorem ap_next0 {l : List Int} {a : ApA} {x : Int} {cp c : Nat} (hi : apInv l a) (h : a.i < l.length ∧ a.i < 40) : apInv l ⟨a.i + 1, a.len + 1, appN a.ns (x, a.h0, true), a.len, a.h1, (a.len : Int) :: a.a0, a.a1, x :: a.w0, a.w1, cp, c, a.c1⟩ := by
  obtain ⟨⟨g1, g2, g3, g4, g5, g6⟩, g7⟩ := hi
  refine ⟨⟨by show 0 ≤ a.i + 1; omega, by show a.i + 1 ≤ 40; omega, by show a.i + 1 ≤ l.length; omega, by show a.len + 1 = _; rw [appN_len, g4], by show ((a.len + 1 : Nat) : Int) = a.i + 1; omega, by show (x :: a.w0).length + a.w1.length = a.len + 1; rw [List.length_cons]; omega⟩, ?_⟩
  show ap2 _ (a.len : Int) a.h1 ((a.len : Int) :: a.a0) a.a1 (x :: a.w0) a.w1
  rw [g4]; exact ap2_0 g7
theorem ap_next1 {l : List Int} {a : ApA} {x : Int} {cp c : Nat} (hi : apInv l a) (h : a.i < l.length ∧ a.i < 40) : apInv l ⟨a.i + 1, a.len + 1, appN a.ns (x, a.h1, true), a.h0, a.len, a.a0, (a.len : Int) :: a.a1, a.w0, x :: a.w1, cp, a.c0, c⟩ := by
  obtain ⟨⟨g1, g2, g3, g4, g5, g6⟩, g7⟩ := hi
  refine ⟨⟨by show 0 ≤ a.i + 1; omega, by show a.i + 1 ≤ 40; omega, by show a.i + 1 ≤ l.length; omega, by show a.len + 1 = _; rw [appN_len, g4], by show ((a.len + 1 : Nat) : Int) = a.i + 1; omega, by show a.w0.length + (x :: a.w1).length = a.len + 1; rw [List.length_cons]; omega⟩, ?_⟩
  show ap2 _ a.h0 (a.len : Int) a.a0 ((a.len : Int) :: a.a1) a.w0 (x :: a.w1)
  rw [g4]; exact ap2_1 g7
theorem ap_x {l : List Int} {a : ApA} (hi : apInv l a) (h : a.i < 40) : (a.len : Int) < 65536 ∧ 0 ≤ a.i ∧ a.i < 40 ∧ (40 : Int) ≤ 65536 := by
  obtain ⟨⟨g1, g2, g3, g4, g5, g6⟩, g7⟩ := hi; omega
def ApEx (k : Kd) (l : List Int) (cc : Nat) (x1 x2 : Int) : Prop := ∀ a : ApA, Imp (apInv l a) (Nx cx4 ⟨165, 1, none, 4⟩ (.exi 0) ⟨[(44, .bool false), (11, .int .i64 a.i), (10, .ptr 4 0 []), (9, .ptr 3 0 []), (8, .ptr 1 0 []), (2, .int .u8 x2), (1, .int .u64 x1), (0, .slc 0 0 [] 1 0 0 l.length cc)], [(6, .vec a.c1 1 (a.w1.map (AV.int .i64))), (5, .vec a.c0 1 (a.w0.map (AV.int .i64))), (4, .cel (.rows 1 [.slc 5 0 [] 1 0 0 a.w0.length a.c0, .slc 6 0 [] 1 0 0 a.w1.length a.c1])), (3, .cel (.rows 1 [.int .i64 a.h0, .int .i64 a.h1])), (2, .vec a.cap 3 (a.ns.map nodeV)), (1, .cel (.agg [.int .i64 40, .int .i64 (-1), .int .i64 a.i, .int .i64 a.i, .slc 2 0 [] 3 0 0 a.len a.cap])), (0, .ro fun _ => .rows 1 (l.map (AV.int .i64)))], 7⟩ k)
theorem ap_meas {i : Int} (h : i < 40) : (40 - (i + 1)).toNat < (40 - i).toNat := by omega
theorem ap_room {a b c : Nat} (h : a + b = c) {i : Int} (h2 : (c : Int) = i) (h3 : i ≤ 40) : ((1 + a) * 8 ≤ 140737488355328 ∧ 1 + a ≤ 9223372036854775807) ∧ (1 + b) * 8 ≤ 140737488355328 ∧ 1 + b ≤ 9223372036854775807 := by omega
theorem apart_loop {c : Code} {k : Kd} {l : List Int} {cc : Nat} {x1 x2 : Int} (hcd : (subC [1, 1, 1, 1, 1, 1, 0, 1, 0, 0] (Try.f4.body.getD .skip)) = c) (h1 : 0 ≤ x1 ∧ x1 ≤ 18446744073709551615) (hexit : ApEx k l cc x1 x2) :
    LoopS cx4 ⟨165, 1, none, 4⟩ c ⟨[(11, .int .i64 0), (10, .ptr 4 0 []), (9, .ptr 3 0 []), (8, .ptr 1 0 []), (2, .int .u8 x2), (1, .int .u64 x1), (0, .slc 0 0 [] 1 0 0 l.length cc)], [(4, .cel (.rows 1 [.nils, .nils])), (3, .cel (.rows 1 [.int .i64 (-1), .int .i64 (-1)])), (2, .vec 0 3 []), (1, .cel (.agg [.int .i64 40, .int .i64 (-1), .int .i64 0, .int .i64 0, .slc 2 0 [] 3 0 0 0 0])), (0, .ro fun _ => .rows 1 (l.map (AV.int .i64)))], 5⟩ k := by
  subst hcd
  refine loopS_nil 4 1 [.idx 0 1] rfl rfl rfl ?_
  refine loopS_nil 4 1 [.idx 1 1] rfl rfl rfl ?_
  refine loop_par (fun a => ⟨[(11, .int .i64 a.i), (10, .ptr 4 0 []), (9, .ptr 3 0 []), (8, .ptr 1 0 []), (2, .int .u8 x2), (1, .int .u64 x1), (0, .slc 0 0 [] 1 0 0 l.length cc)], [(6, .vec a.c1 1 (a.w1.map (AV.int .i64))), (5, .vec a.c0 1 (a.w0.map (AV.int .i64))), (4, .cel (.rows 1 [.slc 5 0 [] 1 0 0 a.w0.length a.c0, .slc 6 0 [] 1 0 0 a.w1.length a.c1])), (3, .cel (.rows 1 [.int .i64 a.h0, .int .i64 a.h1])), (2, .vec a.cap 3 (a.ns.map nodeV)), (1, .cel (.agg [.int .i64 40, .int .i64 (-1), .int .i64 a.i, .int .i64 a.i, .slc 2 0 [] 3 0 0 a.len a.cap])), (0, .ro fun _ => .rows 1 (l.map (AV.int .i64)))], 7⟩) (apInv l) (fun a => (40 - a.i).toNat) ?_ ⟨0, 0, [], -1, -1, [], [], [], [], 0, 0, 0⟩ ⟨⟨by decide, by decide, by show (0 : Int) ≤ l.length; omega, rfl, rfl, rfl⟩, ⟨⟨rfl, List.nodup_nil, rfl⟩, ⟨rfl, List.nodup_nil, rfl⟩, fun j hj => absurd hj List.not_mem_nil, Nat.zero_le _⟩⟩
  intro a hi J hJ
  have hi' := hi
  obtain ⟨⟨g1, g2, g3, g4, g5, g6⟩, g7⟩ := hi
  have k0 := chN_ok g7.1.1
  have k1 := chN_ok g7.2.1.1
  clear g7
  show Ev _ _ _ _ _
  sym =>
    repeat (first (apply enter4) (apply valK_bit) (apply pushN_use; (tactic => rfl); (tactic => rfl); (tactic => decide); (tactic => exact g4); (tactic => exact ap_x hi' hp); (tactic => first | exact k0 | exact k1)) (apply imp_go; intro hp) (apply valK_w64; · finish (splits := 3) (ematch := 1)) (apply valK_wu8; · finish (splits := 3) (ematch := 1)) (apply valK_wu64; · finish (splits := 3) (ematch := 1)) (apply valK_w32; · finish (splits := 3) (ematch := 1)) (apply valK_wu16; · finish (splits := 3) (ematch := 1)) (apply valK_wu32; · finish (splits := 3) (ematch := 1)) (apply valK_wr) (apply valK_andR) (apply valK_quo; · finish (splits := 3) (ematch := 1)) (apply valK_quoR; · finish (splits := 3) (ematch := 1)) (apply valK_rem; · finish (splits := 3) (ematch := 1)) (apply valK_remR; · finish (splits := 3) (ematch := 1)) (apply valK_bol; · finish (splits := 3) (ematch := 1)) (apply effK_bol; · finish (splits := 3) (ematch := 1)) (apply newK_bol; · finish (splits := 3) (ematch := 1)) (apply appK_bol; · finish (splits := 3) (ematch := 1)) (apply topO_bol; · finish (splits := 3) (ematch := 1)) (apply valK_altY; · finish (splits := 3) (ematch := 1)) (apply valK_altN; · finish (splits := 3) (ematch := 1)) (apply effK_altY; · finish (splits := 3) (ematch := 1)) (apply effK_altN; · finish (splits := 3) (ematch := 1)) (apply valK_altNY; · finish (splits := 3) (ematch := 1)) (apply valK_altNN; · finish (splits := 3) (ematch := 1)) (apply valK_altS) (apply valK_altNS) (apply effK_altS) (apply appS_go) (apply brC_y; · finish (splits := 3) (ematch := 1)) (apply brC_n; · finish (splits := 3) (ematch := 1)) (apply brC_yN; · finish (splits := 3) (ematch := 1)) (apply brC_nN; · finish (splits := 3) (ematch := 1)) (apply brC_s) (apply brC_sN) (apply wantK_y; · finish (splits := 3) (ematch := 1)) (apply wantK_n; · finish (splits := 3) (ematch := 1)) (apply wantK_yN; · finish (splits := 3) (ematch := 1)) (apply wantK_nN; · finish (splits := 3) (ematch := 1)) (apply wantK_s) (apply wantK_sN) (apply rowG_y; · finish (splits := 3) (ematch := 1)) (apply rowG_n; · finish (splits := 3) (ematch := 1)) (apply rowG_yN; · finish (splits := 3) (ematch := 1)) (apply rowG_nN; · finish (splits := 3) (ematch := 1)) (apply rowG_s) (apply rowG_sN) (simp [newP_40, hideH_cons, hide_e, memb_cons, memb_nil, e17Op_eq, e19Op_eq, eAbuffertile_eq, eColour_eq, eFrag_eq, eKey_eq, cx4_P, cx4_l0, cx4_l1, cx4_l2, cx4_l3, cx4_l4, cx4_l5, cx4_l6, cx4_l7, cx4_l8, cx4_l10, cx4_l11, cx4_l12, cx4_l13, cx4_l14, cx4_l15, cx4_l9, cx4_l16, cx4_l17, cx4_l19, cx4_l20, cx4_l21, cx4_l22, cx4_l23, cx4_l18, cx4_l24, cx4_l25, cx4_l26, cx4_l27, cx4_l28, cx4_p11, cx4_p15, cx4_p24, cx4_pu, Try.f4.eq_1, ty_arrOf_22, ty_arrOf_24, ty_arrOf_3, ty_arrOf_37, ty_arrOf_38, ty_bytesE_22, ty_hasTy_36, ty_hasTy_5, ty_intOf_3, ty_isPtrTy_24, ty_lay_22, ty_lay_24, ty_lay_3, ty_lay_37, ty_lay_38, ty_lay_5, ty_notInt_22, ty_notInt_24, ty_notInt_37, ty_placesOf_37, ty_placesOf_38, ty_slcOf_22, ty_slcOf_24, ty_slcOf_3, ty_slcOf_37, ty_slcOf_38, ty_zeroA_22, ty_zeroA_24, ty_zeroA_3, ty_zeroA_37, ty_zeroA_38, ty_zeroE_22, valK_some, newK_some, effK_some, opE_move, opE_assign, opE_pick, opE_build, opE_load, opE_bin, opE_un, opE_conv, opE_indexAddr, opE_extract, opE_len, opE_min, opE_alloc, opE_box, opE_buildSlice, callK_fn, callK_yld, callG_some, callG_none, appK_some, opE_store_r, opE_call_r, opE_append_r, opE_store_w, opE_call_w, opE_append_w, ev_seq, ev_skip, ev_label, ev_region, ev_draw, evDO_some, ev_cond, condC_some, brC_true, brC_false, ev_block, ev_scope, ev_exit, ev_ret, ev_loop, nx_seq, nx_seqE, nx_seqR, nx_blk, nx_blkE, nx_blkR, nx_loop, nx_loopE, nx_loopR, nx_inv, nx_invE, nx_invR, nx_top, nx_topR, topO_some, evR_nil, wantK_tup, wantK_tt, wantK_ff, wantK_tf, wantK_ft, evR_op, evR_guard, evD_nil, evD_row, rowK_eff, rowK_calm, rowK_guard, rowG_tup, rowG_tt, rowG_ff, rowG_tf, rowG_ft, rowN_eq, chkA_nil, chkA_cons, chkO_some, chkW_false, sameO_some, chkW_load, chkW_len, finK_reg, finK_row, finK_calm, finN_reg, finN_row, finN_calm, nid_reg, nid_row, nid_calm, getT_cons, putT_some, putT_none, trimT_some, trimT_none, keepT_nil, keepT_cons, consT_some, consT_none, getT_nil, getO_tmp, getO_const, getO_func, ofC_int, ofC_bool, ofC_ptr, ofC_slc, ofC_map, ofC_fn, getOs_nil, getOs_cons, consO_some, guardT_eq, guardO_some, wantA_none, wantA_some, wantO_tup, wantO_tt, wantO_ff, wantO_tf, wantO_ft, hget_cons, hset_cons, hdel_cons, memb_nil, memb_cons, hideH_cons, showH_cons, hideH_none, showH_none, showH_nil, outs_nil, outs_cons, app_nil, nil_app, cons_app, dropO_some, dropO_none, rowOf_cons, wrap_lit, wrap_neg, top_i64, bot_i64, top_u64, bot_u64, bits_i64, bits_u64, cast_lit, toNat_lit, get_zero, get_succ, take_zero, take_succ, set_zero, set_succ, length_nil, length_cons, length_set, append_nil, nil_append, cons_append, toList_arr, rep_zero, rep_succ, bnot_true, bnot_false, band_true, band_false, beq_tt, beq_ff, beq_tf, beq_ft, beq_nat, beq_int, bne_nat, map_some, map_none, true_eq_false, false_eq_true, true_eq_true, fbody_mk, fresults_mk, getD_some, bol_true, binO_some, rem_lit, rem_neg, shr_lit, bin_eql, bin_neq, bin_lss, bin_beql, bin_bneq, eqO_eq, eqO_ne, bin_aeql, bin_aneq, bin_reql, bin_rneq, aggEq_some, flatL_nil, flatL_cons, appV_some, flatV_int, flatV_bool, flatV_agg, flatV_rows, bin_feql, bin_fneq, bin_nfeql, bin_nfneq, bin_peql, bin_pneq, bin_npeql, bin_npneq, unO_some, un_not, convO_some, conv_int, pickA_true, pickA_false, exO_some, ext_tup, size_int, size_bool, size_str, size_ptr, size_nilp, size_slc, size_nils, size_map, size_nilm, size_fn, size_yld, size_nilf, size_agg, size_rows, sizeL_nil, sizeL_cons, layOK_int, layOK_bool, layOK_str, layOK_ptr, layOK_nilp, layOK_slc, layOK_nils, layOK_map, layOK_nilm, layOK_fn, layOK_yld, layOK_nilf, layOK_agg, layOK_rows, isTup_int, isTup_bool, isTup_str, isTup_ptr, isTup_nilp, isTup_slc, isTup_nils, isTup_map, isTup_nilm, isTup_fn, isTup_yld, isTup_nilf, isTup_agg, isTup_rows, getP_nil, getP_cons, getS_some, stepP_agg, stepP_rows, putP_nil, putP_cons, putS_some, putU_some, setS_agg, setS_rows, loadO_some, loadA_ptr, loadE_cel, loadE_vec, loadE_ro, chkL_some, storeO_some, stH_some, storeA_ptr, storeE_cel, storeE_vec, storeB_cel, iaO_some, newA_some, partsO_nil, partsO_cons, buildA_some, fillP_nil, fillP_cons, fillN_some, setA_agg, setA_rows, setC_some, setD_some, fillQ_nil, fillQ_cons, fillM_some, fitZ_some, bs_some, bsO_some, slN_some, builtO_some, len_slc, len_nils, len_rows, arN_some, min_two, appO_some, apO_some, own_nils, own_slc, more_nils, more_slc, resF_eq, resAll_nil, resAll_cons, resOne_tmp, resOne_cell, tupO_none, tupO_one, tupO_more, argT_nil, argT_cons, lookU_nil, lookU_cons, lookL_cons, lookL_nil, lookP_cons, roundS_eq, mbin_add, mbin_rem, mun_neg, mcvI_some, mbin_shr, wrapO_lit, wrapO_neg, mia_ptr, mia_slc, mstoreB_vec, mowO_vec, len_set, not_tf, not_ft, and_tf, not_not_b, alt_true, alt_false, pick_alt, bol_false, getS_bol, getS_alt, chkL_bol, chkL_alt, putS_bol, putS_alt, putU_bol, putU_alt, storeB_bol, storeB_alt, stH_bol, stH_alt, consO_bol, consO_bol2, tupO_bol, apO_bol, apO_bol2, fillN_bol, fillM_bol, eqO_bol, bol_bol, get_mapB, get_setB, get_appB, len_map, len_app, nat_zero_add, take_map, take_self, drop_zero, elemsE_vec, elemsE_ro, elemsE_cel, elemsC_rows, elemsC_bol, roomOk_eq, roomB_some, subC_nil, subC_seq0, subC_seq1, subC_cond0, subC_cond1, subC_block, subC_scope, subC_loop, subC_ran0, subC_ran1, bitI_and_lit, bitI_or_lit, bitI_xor_lit, bitI_andNot_lit, mbin_and, andO_lit, andO_3, andO_7, andO_15, hideH_nil, and_self, and_true, true_and, and_false, false_and]) (apply chkW_want) (apply chkW_wantA) (apply valK_bolB; · finish (splits := 3) (ematch := 1)) (apply valK_altT; · finish (splits := 3) (ematch := 1)) (apply valK_altF; · finish (splits := 3) (ematch := 1)) (apply valK_altB) (apply brC_t; · finish (splits := 3) (ematch := 1)) (apply brC_f; · finish (splits := 3) (ematch := 1)) (apply brC_sBN) (apply brC_sB) (apply wantK_t; · finish (splits := 3) (ematch := 1)) (apply wantK_f; · finish (splits := 3) (ematch := 1)) (apply wantK_sBN) (apply wantK_sB) (apply rowG_t; · finish (splits := 3) (ematch := 1)) (apply rowG_f; · finish (splits := 3) (ematch := 1)) (apply rowG_sBN) (apply rowG_sB) (intro~ hr) (tactic => first | exact (ap_room g6 g5 g2).1 | exact (ap_room g6 g5 g2).2 | exact hexit a hi' | exact nx_at (hexit a hi') (by rw [if_neg hp]) | (rename_i q1 q2 c1; refine hJ [0, 1, 7, 3, 4, 9, 6] ⟨a.i + 1, a.len + 1, appN a.ns (l.getD a.i.toNat default, a.h0, true), a.len, a.h1, (a.len : Int) :: a.a0, a.a1, (l.getD a.i.toNat default) :: a.w0, a.w1, c1, hr, a.c1⟩ _ (reid_of rfl (by decide) rfl ?_ ?_ (ndB_nodup rfl) ?_) (ap_next0 hi' ⟨q1, q2⟩) (ap_meas q2) <;> simp [subT, subH, okW, getT, hget, hset, hdel, idx, AV.ren, renL, renT, Ent.ren, Ent.writes, renL_ints, nodes_ren, renL_app, if_pos (Int.lt_succ _), Nat.add_comm]; done) | (rename_i q1 q2 c1; refine hJ [0, 1, 7, 3, 4, 5, 9] ⟨a.i + 1, a.len + 1, appN a.ns (l.getD a.i.toNat default, a.h1, true), a.h0, a.len, a.a0, (a.len : Int) :: a.a1, a.w0, (l.getD a.i.toNat default) :: a.w1, c1, a.c0, hr⟩ _ (reid_of rfl (by decide) rfl ?_ ?_ (ndB_nodup rfl) ?_) (ap_next1 hi' ⟨q1, q2⟩) (ap_meas q2) <;> simp [subT, subH, okW, getT, hget, hset, hdel, idx, AV.ren, renL, renT, Ent.ren, Ent.writes, renL_ints, nodes_ren, renL_app, if_pos (Int.lt_succ _), Nat.add_comm]; done)))
theorem apart_use {c : Code} {k : Kd} {l : List Int} {cc : Nat} {x1 x2 : Int} (hcd : (subC [1, 1, 1, 1, 1, 1, 0, 1, 0, 0] (Try.f4.body.getD .skip)) = c) (h1 : 0 ≤ x1 ∧ x1 ≤ 18446744073709551615) (hexit : ∀ a : ApA, Imp (apInv l a) (Nx cx4 ⟨165, 1, none, 4⟩ (.exi 0) ⟨[(44, .bool false), (11, .int .i64 a.i), (10, .ptr 4 0 []), (9, .ptr 3 0 []), (8, .ptr 1 0 []), (2, .int .u8 x2), (1, .int .u64 x1), (0, .slc 0 0 [] 1 0 0 l.length cc)], [(6, .vec a.c1 1 (a.w1.map (AV.int .i64))), (5, .vec a.c0 1 (a.w0.map (AV.int .i64))), (4, .cel (.rows 1 [.slc 5 0 [] 1 0 0 a.w0.length a.c0, .slc 6 0 [] 1 0 0 a.w1.length a.c1])), (3, .cel (.rows 1 [.int .i64 a.h0, .int .i64 a.h1])), (2, .vec a.cap 3 (a.ns.map nodeV)), (1, .cel (.agg [.int .i64 40, .int .i64 (-1), .int .i64 a.i, .int .i64 a.i, .slc 2 0 [] 3 0 0 a.len a.cap])), (0, .ro fun _ => .rows 1 (l.map (AV.int .i64)))], 7⟩ k)) :
    LoopS cx4 ⟨165, 1, none, 4⟩ c ⟨[(11, .int .i64 0), (10, .ptr 4 0 []), (9, .ptr 3 0 []), (8, .ptr 1 0 []), (2, .int .u8 x2), (1, .int .u64 x1), (0, .slc 0 0 [] 1 0 0 l.length cc)], [(4, .cel (.rows 1 [.nils, .nils])), (3, .cel (.rows 1 [.int .i64 (-1), .int .i64 (-1)])), (2, .vec 0 3 []), (1, .cel (.agg [.int .i64 40, .int .i64 (-1), .int .i64 0, .int .i64 0, .slc 2 0 [] 3 0 0 0 0])), (0, .ro fun _ => .rows 1 (l.map (AV.int .i64)))], 5⟩ k := apart_loop hcd h1 hexit
theorem thL_len (ns : List Node) (js : List Int) : (thL ns js).length = js.length := by simp [thL]
theorem chN_set {ns : List Node} {j : Int} {v : Node} (hj : 0 ≤ j) : ∀ {js : List Int} {h : Int}, j ∉ js → chN ns h js → chN (ns.set j.toNat v) h js
  | [], h, _, hc => hc
  | i :: r, h, hn, hc => by
    obtain ⟨rfl, h2, h3⟩ := hc
    have hne : h ≠ j := fun e => hn (by rw [e]; exact List.mem_cons_self ..)
    have hb2 := taken_bd h2
    refine ⟨rfl, by rw [taken_set hj hne]; exact h2, ?_⟩
    rw [List.getD_eq_getElem?_getD, List.getElem?_set_ne (by omega), ← List.getD_eq_getElem?_getD]
    exact chN_set hj (fun hm => hn (List.mem_cons_of_mem _ hm)) h3
theorem chN_free : ∀ (a0 : List Int) {ns : List Node} {f h : Int} {js : List Int}, (∀ j, j ∈ a0 → 0 ≤ j ∧ j ∉ js) → chN ns h js → chN (freeF ns f a0).1 h js
  | [], ns, f, h, js, _, hc => hc
  | j :: r, ns, f, h, js, h0, hc => by
    rw [freeF]
    exact chN_free r (fun i hi => h0 i (List.mem_cons_of_mem _ hi)) (chN_set (h0 j (List.mem_cons_self ..)).1 (h0 j (List.mem_cons_self ..)).2 hc)
theorem thL_set {ns : List Node} {j : Int} {v : Node} {js : List Int} (hj : 0 ≤ j) (hn : j ∉ js) (hb : ∀ i, i ∈ js → 0 ≤ i) : thL (ns.set j.toNat v) js = thL ns js := by
  unfold thL
  apply List.map_congr_left
  intro i hi
  have hne : i ≠ j := fun e => hn (e ▸ hi)
  have := hb i hi
  rw [gX, gX, List.getD_eq_getElem?_getD, List.getElem?_set_ne (by omega), ← List.getD_eq_getElem?_getD]
theorem thL_free : ∀ (a0 : List Int) {ns : List Node} {f : Int} {js : List Int}, (∀ j, j ∈ a0 → 0 ≤ j ∧ j ∉ js) → (∀ i, i ∈ js → 0 ≤ i) → thL (freeF ns f a0).1 js = thL ns js
  | [], ns, f, js, _, _ => rfl
  | j :: r, ns, f, js, h0, hb => by
    rw [freeF, thL_free r (fun i hi => h0 i (List.mem_cons_of_mem _ hi)) hb, thL_set (h0 j (List.mem_cons_self ..)).1 (h0 j (List.mem_cons_self ..)).2 hb]
theorem goneG_use {k m len cap : Nat} {ns : List Node} {room free live mst h most : Int} {js w : List Int} {H : Hp} {n : Nat} {Q : AV → Hp → Nat → Prop} (hk : hget k H = some (.cel (.agg [.int .i64 room, .int .i64 free, .int .i64 live, .int .i64 mst, .slc m 0 [] 3 0 0 len cap]))) (hm : hget m H = some (.vec cap 3 (ns.map nodeV)))
    (hlt : k < n ∧ m < n ∧ k ≠ m) (hl : len = ns.length) (hch : chN ns h js) (hw : thL ns js = w) (hmost : 1 ≤ most ∧ most ≤ 1000)
    (hq : ∀ (c1 c2 r : Nat), Imp ((r : Int) = if most < (w.length : Int) then most else (w.length : Int)) (Q (.tup [.slc n 0 [] 1 0 0 r c1, .slc (n + 1) 0 [] 1 0 0 r c2, .bool true]) ((n + 1, .vec c2 1 ((w.take most.toNat).map (AV.int .i64))) :: (n, .vec c1 1 ((js.take most.toNat).map (AV.int .i64))) :: (m, .vec cap 3 (ns.map nodeV)) :: (k, .cel (.agg [.int .i64 room, .int .i64 free, .int .i64 live, .int .i64 mst, .slc m 0 [] 3 0 0 len cap])) :: hideH [m, k] H) (n + 2))) :
    callA Try.prog 17 [.ptr k 0 [], .int .i64 h, .int .i64 most] H n Q := by
  subst hl
  refine goneS_use hk hm hlt (chN_P hch) hmost fun R c1 c2 hR => ?_
  subst hR
  have hwl : w.length = js.length := by rw [← hw, thL_len]
  have hr : ((js.take most.toNat).length : Int) = if most < (w.length : Int) then most else (w.length : Int) := by
    rw [List.length_take, hwl]; split <;> omega
  have := hq c1 c2 _ hr
  have e : (js.take most.toNat).map (tgV ns) = (w.take most.toNat).map (AV.int .i64) := by rw [List.map_take, thL_tg, hw, List.map_take]
  rw [e]
  exact this
theorem goneW_use {k m len cap : Nat} {ns : List Node} {room free live mst h : Int} {js w : List Int} {H : Hp} {n : Nat} {Q : AV → Hp → Nat → Prop} (hk : hget k H = some (.cel (.agg [.int .i64 room, .int .i64 free, .int .i64 live, .int .i64 mst, .slc m 0 [] 3 0 0 len cap]))) (hm : hget m H = some (.vec cap 3 (ns.map nodeV)))
    (hlt : k < n ∧ m < n ∧ k ≠ m) (hl : len = ns.length) (hch : chN ns h js) (hw : thL ns js = w) (hwl : w.length ≤ 1000)
    (hq : ∀ (c1 c2 : Nat), (Q (.tup [.slc n 0 [] 1 0 0 w.length c1, .slc (n + 1) 0 [] 1 0 0 w.length c2, .bool true]) ((n + 1, .vec c2 1 (w.map (AV.int .i64))) :: (n, .vec c1 1 (js.map (AV.int .i64))) :: (m, .vec cap 3 (ns.map nodeV)) :: (k, .cel (.agg [.int .i64 room, .int .i64 free, .int .i64 live, .int .i64 mst, .slc m 0 [] 3 0 0 len cap])) :: hideH [m, k] H) (n + 2))) :
    callA Try.prog 17 [.ptr k 0 [], .int .i64 h, .int .i64 1000] H n Q := by
  have hwl2 : w.length = js.length := by rw [← hw, thL_len]
  refine goneG_use hk hm hlt hl hch hw (by decide) fun c1 c2 r hr => ?_
  have e : r = w.length := by rw [if_neg (by omega)] at hr; omega
  subst e
  have := hq c1 c2
  rw [List.take_of_length_le (by show w.length ≤ 1000; exact hwl), List.take_of_length_le (by show js.length ≤ 1000; omega)]
  exact this
theorem ap_len {l : List Int} {a : ApA} (hi : apInv l a) : a.w0.length ≤ 1000 ∧ a.w1.length ≤ 1000 ∧ a.w0.length ≤ 100000 ∧ a.w1.length ≤ 100000 := by
  obtain ⟨⟨g1, g2, g3, g4, g5, g6⟩, g7⟩ := hi; omega
def frA (a : ApA) : List Node := (freeF a.ns (-1) a.a0).1
theorem ap_fr {l : List Int} {a : ApA} (hi : apInv l a) : a.len = (frA a).length ∧ chN (frA a) a.h1 a.a1 ∧ thL (frA a) a.a1 = a.w1 := by
  obtain ⟨⟨g1, g2, g3, g4, g5, g6⟩, ⟨k1, k2, k3⟩, ⟨k4, k5, k6⟩, k7, k8⟩ := hi
  have hd : ∀ j, j ∈ a.a0 → 0 ≤ j ∧ j ∉ a.a1 := fun j hj => ⟨(chN_bd k1 j hj).1, k7 j hj⟩
  exact ⟨by rw [frA, freeF_len]; exact g4, chN_free _ hd k4, by rw [frA, thL_free _ hd (fun i hi => (chN_bd k4 i hi).1)]; exact k6⟩
theorem freeA_use {k m cap : Nat} {l : List Int} {a : ApA} {room most : Int} {H : Hp} {n : Nat} {Q : AV → Hp → Nat → Prop} (hk : hget k H = some (.cel (.agg [.int .i64 room, .int .i64 (-1), .int .i64 a.i, .int .i64 most, .slc m 0 [] 3 0 0 a.len cap]))) (hm : hget m H = some (.vec cap 3 (a.ns.map nodeV)))
    (hlt : k < n ∧ m < n ∧ k ≠ m) (hi : apInv l a)
    (hq : Q (.int .i64 a.w0.length) ((m, .vec cap 3 ((frA a).map nodeV)) :: (k, .cel (.agg [.int .i64 room, .int .i64 (freeF a.ns (-1) a.a0).2, .int .i64 a.w1.length, .int .i64 most, .slc m 0 [] 3 0 0 a.len cap])) :: hideH [m, k] H) n) :
    callA Try.prog 21 [.ptr k 0 [], .int .i64 a.h0] H n Q := by
  obtain ⟨⟨g1, g2, g3, g4, g5, g6⟩, ⟨k1, k2, k3⟩, k4, k7, k8⟩ := hi
  have hw : a.w0.length = a.a0.length := by rw [← k3, thL_len]
  refine freeS_use hk hm hlt g4 (chN_P k1) ⟨k2, by omega, g1, by omega⟩ ?_
  rw [← hw, show a.i - (a.w0.length : Int) = a.w1.length by omega]
  exact hq
theorem ap_l {l : List Int} {a : ApA} (hi : apInv l a) : a.len = a.ns.length := hi.1.2.2.2.1
theorem ap_k0 {l : List Int} {a : ApA} (hi : apInv l a) : chN a.ns a.h0 a.a0 := hi.2.1.1
theorem ap_k1 {l : List Int} {a : ApA} (hi : apInv l a) : chN a.ns a.h1 a.a1 := hi.2.2.1.1
theorem ap_t0 {l : List Int} {a : ApA} (hi : apInv l a) : thL a.ns a.a0 = a.w0 := hi.2.1.2.2
theorem ap_t1 {l : List Int} {a : ApA} (hi : apInv l a) : thL a.ns a.a1 = a.w1 := hi.2.2.1.2.2
theorem apart_walk (x0 : List Int) (c0 : Nat) (x1 : Int) (x2 : Int) (h0 : x0.length ≤ c0 ∧ c0 ≤ 9223372036854775807) (w0 : ∀ a ∈ x0, -9223372036854775808 ≤ a ∧ a ≤ 9223372036854775807) (h1 : (0 ≤ x1 ∧ x1 ≤ 18446744073709551615)) (h2 : (0 ≤ x2 ∧ x2 ≤ 255)) : callA Try.prog 4 [.slc 0 0 [] 1 0 0 x0.length c0, .int .u64 x1, .int .u8 x2] [(0, .ro fun _ => .rows 1 (x0.map (AV.int .i64)))] 1 fun v _ _ => v = .bool true := by
  sym =>
    repeat (first (apply enter4) (apply enter19) (apply shown17_use) (apply new_use) (apply apart_use; (tactic => rfl); (tactic => exact h1)) (apply freeA_use; (tactic => rfl); (tactic => rfl); (tactic => decide); (tactic => assumption)) (apply goneW_use; (tactic => rfl); (tactic => rfl); (tactic => decide); (tactic => first | exact ap_l (by assumption) | exact (ap_fr (by assumption)).1); (tactic => first | exact ap_k0 (by assumption) | exact ap_k1 (by assumption) | exact (ap_fr (by assumption)).2.1); (tactic => first | exact ap_t0 (by assumption) | exact ap_t1 (by assumption) | exact (ap_fr (by assumption)).2.2); (tactic => first | exact (ap_len (by assumption)).1 | exact (ap_len (by assumption)).2.1)) (apply goneG_use; (tactic => rfl); (tactic => rfl); (tactic => decide); (tactic => exact ap_l (by assumption)); (tactic => first | exact ap_k0 (by assumption) | exact ap_k1 (by assumption)); (tactic => first | exact ap_t0 (by assumption) | exact ap_t1 (by assumption)); (tactic => omega)) (apply same_use; (tactic => rfl); (tactic => rfl); (tactic => rfl); (tactic => rfl); (tactic => exact ⟨rfl, rfl⟩); (tactic => first | exact (ap_len (by assumption)).2.2.1 | exact (ap_len (by assumption)).2.2.2)) (apply loop_next) (apply imp_go; intro hp) (apply valK_w64; · finish (splits := 3) (ematch := 1)) (apply valK_wu8; · finish (splits := 3) (ematch := 1)) (apply valK_wu64; · finish (splits := 3) (ematch := 1)) (apply valK_w32; · finish (splits := 3) (ematch := 1)) (apply valK_wu16; · finish (splits := 3) (ematch := 1)) (apply valK_wu32; · finish (splits := 3) (ematch := 1)) (apply valK_wr) (apply valK_andR) (apply valK_quo; · finish (splits := 3) (ematch := 1)) (apply valK_quoR; · finish (splits := 3) (ematch := 1)) (apply valK_rem; · finish (splits := 3) (ematch := 1)) (apply valK_remR; · finish (splits := 3) (ematch := 1)) (apply valK_bol; · finish (splits := 3) (ematch := 1)) (apply effK_bol; · finish (splits := 3) (ematch := 1)) (apply newK_bol; · finish (splits := 3) (ematch := 1)) (apply appK_bol; · finish (splits := 3) (ematch := 1)) (apply topO_bol; · finish (splits := 3) (ematch := 1)) (apply valK_altY; · finish (splits := 3) (ematch := 1)) (apply valK_altN; · finish (splits := 3) (ematch := 1)) (apply effK_altY; · finish (splits := 3) (ematch := 1)) (apply effK_altN; · finish (splits := 3) (ematch := 1)) (apply valK_altNY; · finish (splits := 3) (ematch := 1)) (apply valK_altNN; · finish (splits := 3) (ematch := 1)) (apply valK_altS) (apply valK_altNS) (apply effK_altS) (apply appS_go) (apply brC_y; · finish (splits := 3) (ematch := 1)) (apply brC_n; · finish (splits := 3) (ematch := 1)) (apply brC_yN; · finish (splits := 3) (ematch := 1)) (apply brC_nN; · finish (splits := 3) (ematch := 1)) (apply brC_s) (apply brC_sN) (apply wantK_y; · finish (splits := 3) (ematch := 1)) (apply wantK_n; · finish (splits := 3) (ematch := 1)) (apply wantK_yN; · finish (splits := 3) (ematch := 1)) (apply wantK_nN; · finish (splits := 3) (ematch := 1)) (apply wantK_s) (apply wantK_sN) (apply rowG_y; · finish (splits := 3) (ematch := 1)) (apply rowG_n; · finish (splits := 3) (ematch := 1)) (apply rowG_yN; · finish (splits := 3) (ematch := 1)) (apply rowG_nN; · finish (splits := 3) (ematch := 1)) (apply rowG_s) (apply rowG_sN) (simp [newP_40, hideH_cons, hide_e, memb_cons, memb_nil, e17Op_eq, e19Op_eq, eAbuffertile_eq, eColour_eq, eFrag_eq, eKey_eq, cx4_P, cx4_l0, cx4_l1, cx4_l2, cx4_l3, cx4_l4, cx4_l5, cx4_l6, cx4_l7, cx4_l8, cx4_l10, cx4_l11, cx4_l12, cx4_l13, cx4_l14, cx4_l15, cx4_l9, cx4_l16, cx4_l17, cx4_l19, cx4_l20, cx4_l21, cx4_l22, cx4_l23, cx4_l18, cx4_l24, cx4_l25, cx4_l26, cx4_l27, cx4_l28, cx4_p11, cx4_p15, cx4_p24, cx4_pu, Try.f4.eq_1, ty_arrOf_22, ty_arrOf_24, ty_arrOf_3, ty_arrOf_37, ty_arrOf_38, ty_bytesE_22, ty_hasTy_36, ty_hasTy_5, ty_intOf_3, ty_isPtrTy_24, ty_lay_22, ty_lay_24, ty_lay_3, ty_lay_37, ty_lay_38, ty_lay_5, ty_notInt_22, ty_notInt_24, ty_notInt_37, ty_placesOf_37, ty_placesOf_38, ty_slcOf_22, ty_slcOf_24, ty_slcOf_3, ty_slcOf_37, ty_slcOf_38, ty_zeroA_22, ty_zeroA_24, ty_zeroA_3, ty_zeroA_37, ty_zeroA_38, ty_zeroE_22, cx19_P, cx19_l0, cx19_l1, cx19_pu, Try.f19.eq_1, ty_fldOf_90_0, ty_fldOf_90_1, ty_fldOf_90_2, ty_fldOf_90_3, ty_fldOf_90_4, ty_placesOf_90, ty_zeroA_90, valK_some, newK_some, effK_some, opE_move, opE_assign, opE_pick, opE_build, opE_load, opE_nilCheck, opE_bin, opE_un, opE_conv, opE_fieldAddr, opE_indexAddr, opE_extract, opE_len, opE_min, opE_alloc, opE_box, opE_buildSlice, callK_fn, callK_yld, callG_some, callG_none, appK_some, opE_store_r, opE_call_r, opE_append_r, opE_store_w, opE_call_w, opE_append_w, ev_seq, ev_skip, ev_label, ev_region, ev_draw, evDO_some, ev_cond, condC_some, brC_true, brC_false, ev_block, ev_scope, ev_exit, ev_ret, ev_loop, nx_seq, nx_seqE, nx_seqR, nx_blk, nx_blkE, nx_blkR, nx_loop, nx_loopE, nx_loopR, nx_inv, nx_invE, nx_invR, nx_top, nx_topR, topO_some, evR_nil, wantK_tup, wantK_tt, wantK_ff, wantK_tf, wantK_ft, evR_op, evR_guard, evD_nil, evD_row, rowK_eff, rowK_calm, rowK_guard, rowG_tup, rowG_tt, rowG_ff, rowG_tf, rowG_ft, rowN_eq, chkA_nil, chkA_cons, chkO_some, chkW_false, sameO_some, chkW_load, chkW_len, finK_reg, finK_row, finK_calm, finN_reg, finN_row, finN_calm, nid_reg, nid_row, nid_calm, getT_cons, putT_some, putT_none, trimT_some, trimT_none, keepT_nil, keepT_cons, consT_some, consT_none, getT_nil, getO_tmp, getO_const, getO_func, ofC_int, ofC_bool, ofC_ptr, ofC_slc, ofC_map, ofC_fn, getOs_nil, getOs_cons, consO_some, guardT_eq, guardO_some, wantA_none, wantA_some, wantO_tup, wantO_tt, wantO_ff, wantO_tf, wantO_ft, hget_cons, hset_cons, hdel_cons, memb_nil, memb_cons, hideH_cons, showH_cons, hideH_none, showH_none, showH_nil, outs_nil, outs_cons, app_nil, nil_app, cons_app, dropO_some, dropO_none, rowOf_cons, wrap_lit, wrap_neg, top_i64, bot_i64, top_u64, bot_u64, bits_i64, bits_u64, cast_lit, toNat_lit, get_zero, get_succ, take_zero, take_succ, set_zero, set_succ, length_nil, length_cons, length_set, append_nil, nil_append, cons_append, toList_arr, rep_zero, rep_succ, bnot_true, bnot_false, band_true, band_false, beq_tt, beq_ff, beq_tf, beq_ft, beq_nat, beq_int, bne_nat, map_some, map_none, true_eq_false, false_eq_true, true_eq_true, fbody_mk, fresults_mk, getD_some, bol_true, binO_some, rem_lit, rem_neg, shr_lit, bin_eql, bin_neq, bin_lss, bin_beql, bin_bneq, eqO_eq, eqO_ne, bin_aeql, bin_aneq, bin_reql, bin_rneq, aggEq_some, flatL_nil, flatL_cons, appV_some, flatV_int, flatV_bool, flatV_agg, flatV_rows, bin_feql, bin_fneq, bin_nfeql, bin_nfneq, bin_peql, bin_pneq, bin_npeql, bin_npneq, unO_some, un_not, convO_some, conv_int, pickA_true, pickA_false, nilO_some, nilA_ptr, nilA_fn, nilA_yld, nilA_map, nilA_slc, exO_some, ext_tup, size_int, size_bool, size_str, size_ptr, size_nilp, size_slc, size_nils, size_map, size_nilm, size_fn, size_yld, size_nilf, size_agg, size_rows, sizeL_nil, sizeL_cons, layOK_int, layOK_bool, layOK_str, layOK_ptr, layOK_nilp, layOK_slc, layOK_nils, layOK_map, layOK_nilm, layOK_fn, layOK_yld, layOK_nilf, layOK_agg, layOK_rows, isTup_int, isTup_bool, isTup_str, isTup_ptr, isTup_nilp, isTup_slc, isTup_nils, isTup_map, isTup_nilm, isTup_fn, isTup_yld, isTup_nilf, isTup_agg, isTup_rows, getP_nil, getP_cons, getS_some, stepP_agg, stepP_rows, putP_nil, putP_cons, putS_some, putU_some, setS_agg, setS_rows, loadO_some, loadA_ptr, loadE_cel, loadE_vec, loadE_ro, chkL_some, storeO_some, stH_some, storeA_ptr, storeE_cel, storeE_vec, storeB_cel, faO_some, fa_ptr, iaO_some, newA_some, partsO_nil, partsO_cons, buildA_some, fillP_nil, fillP_cons, fillN_some, setA_agg, setA_rows, setC_some, setD_some, fillQ_nil, fillQ_cons, fillM_some, fitZ_some, bs_some, bsO_some, slN_some, builtO_some, len_slc, len_nils, len_rows, arN_some, min_two, appO_some, apO_some, own_nils, own_slc, more_nils, more_slc, resF_eq, resAll_nil, resAll_cons, resOne_tmp, resOne_cell, tupO_none, tupO_one, tupO_more, argT_nil, argT_cons, lookU_nil, lookU_cons, lookL_cons, lookL_nil, lookP_cons, roundS_eq, mbin_add, mbin_rem, mun_neg, mcvI_some, mbin_shr, wrapO_lit, wrapO_neg, mia_ptr, mia_slc, mstoreB_vec, mowO_vec, len_set, not_tf, not_ft, and_tf, not_not_b, alt_true, alt_false, pick_alt, bol_false, getS_bol, getS_alt, chkL_bol, chkL_alt, putS_bol, putS_alt, putU_bol, putU_alt, storeB_bol, storeB_alt, stH_bol, stH_alt, consO_bol, consO_bol2, tupO_bol, apO_bol, apO_bol2, fillN_bol, fillM_bol, eqO_bol, bol_bol, get_mapB, get_setB, get_appB, len_map, len_app, nat_zero_add, take_map, take_self, drop_zero, elemsE_vec, elemsE_ro, elemsE_cel, elemsC_rows, elemsC_bol, roomOk_eq, roomB_some, subC_nil, subC_seq0, subC_seq1, subC_cond0, subC_cond1, subC_block, subC_scope, subC_loop, subC_ran0, subC_ran1, bitI_and_lit, bitI_or_lit, bitI_xor_lit, bitI_andNot_lit, mbin_and, andO_lit, andO_1, andO_3, andO_7, andO_15, hideH_nil, and_self, and_true, true_and, and_false, false_and]) (apply chkW_want) (apply chkW_wantA) (apply valK_bolB; · finish (splits := 3) (ematch := 1)) (apply valK_altT; · finish (splits := 3) (ematch := 1)) (apply valK_altF; · finish (splits := 3) (ematch := 1)) (apply valK_altB) (apply brC_t; · finish (splits := 3) (ematch := 1)) (apply brC_f; · finish (splits := 3) (ematch := 1)) (apply brC_sBN) (apply brC_sB) (apply wantK_t; · finish (splits := 3) (ematch := 1)) (apply wantK_f; · finish (splits := 3) (ematch := 1)) (apply wantK_sBN) (apply wantK_sB) (apply rowG_t; · finish (splits := 3) (ematch := 1)) (apply rowG_f; · finish (splits := 3) (ematch := 1)) (apply rowG_sBN) (apply rowG_sB) (intro~ hr) (tactic => fail))
end Go.Proofs.Ytbkmhkeihbgcfaa
