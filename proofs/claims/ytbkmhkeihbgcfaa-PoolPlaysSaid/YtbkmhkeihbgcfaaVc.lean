/-
  Chapter 17: the law PoolPlays.
-/
import Derived.Test.YtbkmhkeihbgcfaaVb
set_option linter.unusedVariables false
set_option linter.unusedSimpArgs false
set_option maxRecDepth 10000
set_option maxHeartbeats 0
namespace Go.Proofs.Ytbkmhkeihbgcfaa
open Go.Y


noncomputable def cx18 : Cx := ⟨Try.prog, [], [], [(0, [2, 1, 0]), (1, [10, 2, 1, 0]), (2, [6]), (3, []), (4, [6])]⟩
theorem cx18_P : cx18.P = Try.prog := rfl
theorem cx18_l0 : lookL 0 cx18.lv = some [2, 1, 0] := rfl
theorem cx18_l1 : lookL 1 cx18.lv = some [10, 2, 1, 0] := rfl
theorem cx18_l2 : lookL 2 cx18.lv = some [6] := rfl
theorem cx18_l3 : lookL 3 cx18.lv = some [] := rfl
theorem cx18_l4 : lookL 4 cx18.lv = some [6] := rfl
theorem cx18_pu : cx18.pu = [] := rfl
theorem cx18_ok : okc cx18 Try.f18.ntmps (Try.f18.body.getD .skip) = true := by kernel_rfl
theorem enter18 {args : List AV} {H : Hp} {n : Nat} {Q : AV → Hp → Nat → Prop} (h : args.length ≤ 19 ∧ Ev cx18 ⟨19, n, none, 18⟩ (Try.f18.body.getD .skip) ⟨argT 0 args, H, n⟩ (.top Try.f18.results.toList Q)) : callA Try.prog 18 args H n Q :=
  callA_ev (cx := cx18) puOk_nil (f := 18) (fn := Try.f18) Try.func18 rfl (by kernel_rfl) h.1 cx18_ok h.2
noncomputable def cx7 : Cx := ⟨Try.prog, [], [(26, ⟨0, [⟨0, false, [], [], [], 0⟩, ⟨1, false, [], [], [], 0⟩, ⟨2, false, [1], [], [], 0⟩, ⟨3, false, [2], [], [], 0⟩, ⟨4, false, [], [], [], 0⟩, ⟨5, false, [4], [], [], 0⟩, ⟨7, false, [], [], [], 0⟩, ⟨8, false, [], [], [], 0⟩, ⟨9, false, [8], [], [], 0⟩, ⟨10, false, [9], [], [], 0⟩, ⟨11, false, [], [], [], 0⟩, ⟨12, false, [11], [], [], 0⟩, ⟨6, true, [0, 2, 3, 5], [9, 10, 12], [], 0⟩, ⟨13, true, [2, 3, 5, 6, 7, 9, 10, 12], [], [], 0⟩, ⟨14, false, [6, 13], [], [], 0⟩]⟩), (29, ⟨0, [⟨0, false, [], [], [], 0⟩, ⟨1, false, [0], [], [], 0⟩, ⟨2, false, [1], [], [], 0⟩, ⟨3, false, [2], [], [], 0⟩, ⟨4, false, [3], [], [], 0⟩, ⟨5, false, [3, 4], [], [], 0⟩, ⟨6, false, [3], [], [], 0⟩, ⟨7, false, [3, 6], [], [], 0⟩, ⟨8, false, [3, 7], [], [], 0⟩, ⟨9, false, [3, 8], [], [], 0⟩, ⟨10, false, [3, 5, 9], [], [], 0⟩, ⟨11, false, [3, 10], [], [], 0⟩]⟩), (33, ⟨0, [⟨0, false, [], [], [], 0⟩, ⟨1, false, [0], [], [], 0⟩, ⟨2, false, [1], [], [], 0⟩, ⟨3, false, [2], [], [], 0⟩, ⟨4, false, [3], [], [], 0⟩, ⟨5, false, [3, 4], [], [], 0⟩, ⟨6, false, [3], [], [], 0⟩, ⟨7, false, [3, 6], [], [], 0⟩, ⟨8, false, [3, 7], [], [], 0⟩, ⟨9, false, [3, 8], [], [], 0⟩, ⟨10, false, [3, 5, 9], [], [], 0⟩, ⟨11, false, [3, 10], [], [], 0⟩]⟩), (41, ⟨0, (⟨0, false, [], [], [], 0⟩ :: ⟨1, false, [0], [], [], 0⟩ :: ⟨2, false, [1], [], [], 0⟩ :: ⟨3, false, [2], [], [], 0⟩ :: ⟨4, false, [2, 3], [], [], 0⟩ :: ⟨5, false, [2, 4], [], [], 0⟩ :: ⟨6, false, [5], [], [], 0⟩ :: ⟨7, false, [6], [], [], 0⟩ :: ⟨8, false, [6, 7], [], [], 0⟩ :: ⟨9, false, [6, 8], [], [], 0⟩ :: ⟨10, false, [9], [], [], 0⟩ :: ⟨11, false, [10], [], [], 0⟩ :: ⟨13, false, [10], [], [], 0⟩ :: ⟨12, true, [10, 11], [], [], 0⟩ :: ⟨14, true, [10, 12, 13], [], [], 0⟩ :: ⟨15, false, [10, 12, 14], [], [], 0⟩ :: ⟨16, false, [10, 12, 14, 15], [], [], 0⟩ :: ⟨17, false, [12, 14, 16], [], [], 0⟩ :: ⟨18, false, [12, 14, 17], [], [], 0⟩ :: ⟨20, false, [12, 14, 17], [], [], 0⟩ :: ⟨21, false, [12, 14, 17, 20], [], [], 0⟩ :: ⟨22, false, [12, 14, 17, 21], [], [], 0⟩ :: ⟨23, false, [12, 14, 17, 22], [], [], 0⟩ :: ⟨19, true, [12, 14, 17, 18], [23], [], 0⟩ :: ⟨24, false, [12, 14, 17, 19, 23], [], [], 0⟩ :: ⟨25, false, [12, 14, 17, 19, 24], [], [], 0⟩ :: [])⟩)], ((0, [1, 0]) :: (1, [5, 1, 0]) :: (2, [32, 5, 1, 0]) :: (3, [5, 1, 0]) :: (4, [6, 5, 1, 0]) :: (5, [7, 6, 5, 1]) :: (6, [44, 7, 6, 1]) :: (7, [4]) :: (8, [8, 7, 6, 1]) :: (9, [9, 8, 7, 6, 1]) :: (10, [53, 9, 8, 7, 6, 1]) :: (11, [9, 8, 7, 6, 1]) :: (12, [10, 9, 8, 7, 6, 1]) :: (13, [11, 10, 9, 8, 7, 6, 1]) :: (14, [12, 11, 10, 9, 8, 7, 6, 1]) :: (15, [68, 12, 11, 10, 9, 8, 7, 6, 1]) :: (16, [16, 15, 12, 11, 10, 9, 8, 7, 6, 1]) :: (17, [18, 17, 16, 15, 11, 9, 8, 7, 6, 1]) :: (18, [92, 15, 11, 9, 8, 7, 6, 1]) :: (19, [4]) :: (20, [11, 9, 8, 7, 6, 1]) :: (21, [96, 68, 12, 11, 10, 9, 8, 7, 6, 1]) :: (22, [104, 11, 9, 8, 7, 6, 1]) :: (23, [4]) :: (24, [11, 9, 8, 7, 6, 1]) :: (25, [107, 68, 12, 11, 10, 9, 8, 7, 6, 1]) :: (26, [123, 11, 9, 8, 7, 6, 1]) :: (27, [4]) :: (28, [124, 68, 12, 11, 10, 9, 8, 7, 6, 1]) :: (29, [137, 11, 10, 9, 8, 7, 6, 1]) :: (30, [142, 11, 9, 8, 7, 6, 1]) :: (31, [4]) :: (32, [143, 12, 11, 10, 9, 8, 7, 6, 1]) :: (33, [156, 11, 10, 9, 8, 7, 6, 1]) :: (34, [14, 13, 11, 10, 9, 8, 7, 6, 1]) :: (35, [170, 11, 9, 8, 7, 6, 1]) :: (36, [4]) :: (37, [21, 20, 19, 11, 9, 8, 7, 6, 1]) :: (38, [23, 22, 21, 20, 19, 9, 8, 7, 6, 1]) :: (39, [24, 23, 21, 20, 9, 8, 7, 6, 1]) :: (40, [25, 24, 21, 9, 8, 7, 6, 1]) :: (41, [219, 9, 8, 7, 6, 1]) :: (42, [4]) :: (43, [4]) :: [])⟩
theorem cx7_P : cx7.P = Try.prog := rfl
theorem cx7_l0 : lookL 0 cx7.lv = some [1, 0] := rfl
theorem cx7_l1 : lookL 1 cx7.lv = some [5, 1, 0] := rfl
theorem cx7_l2 : lookL 2 cx7.lv = some [32, 5, 1, 0] := rfl
theorem cx7_l3 : lookL 3 cx7.lv = some [5, 1, 0] := rfl
theorem cx7_l4 : lookL 4 cx7.lv = some [6, 5, 1, 0] := rfl
theorem cx7_l5 : lookL 5 cx7.lv = some [7, 6, 5, 1] := rfl
theorem cx7_l6 : lookL 6 cx7.lv = some [44, 7, 6, 1] := rfl
theorem cx7_l7 : lookL 7 cx7.lv = some [4] := rfl
theorem cx7_l8 : lookL 8 cx7.lv = some [8, 7, 6, 1] := rfl
theorem cx7_l9 : lookL 9 cx7.lv = some [9, 8, 7, 6, 1] := rfl
theorem cx7_l10 : lookL 10 cx7.lv = some [53, 9, 8, 7, 6, 1] := rfl
theorem cx7_l12 : lookL 12 cx7.lv = some [10, 9, 8, 7, 6, 1] := rfl
theorem cx7_l13 : lookL 13 cx7.lv = some [11, 10, 9, 8, 7, 6, 1] := rfl
theorem cx7_l14 : lookL 14 cx7.lv = some [12, 11, 10, 9, 8, 7, 6, 1] := rfl
theorem cx7_l15 : lookL 15 cx7.lv = some [68, 12, 11, 10, 9, 8, 7, 6, 1] := rfl
theorem cx7_l21 : lookL 21 cx7.lv = some [96, 68, 12, 11, 10, 9, 8, 7, 6, 1] := rfl
theorem cx7_l22 : lookL 22 cx7.lv = some [104, 11, 9, 8, 7, 6, 1] := rfl
theorem cx7_l23 : lookL 23 cx7.lv = some [4] := rfl
theorem cx7_l24 : lookL 24 cx7.lv = some [11, 9, 8, 7, 6, 1] := rfl
theorem cx7_l25 : lookL 25 cx7.lv = some [107, 68, 12, 11, 10, 9, 8, 7, 6, 1] := rfl
theorem cx7_l26 : lookL 26 cx7.lv = some [123, 11, 9, 8, 7, 6, 1] := rfl
theorem cx7_l27 : lookL 27 cx7.lv = some [4] := rfl
theorem cx7_l28 : lookL 28 cx7.lv = some [124, 68, 12, 11, 10, 9, 8, 7, 6, 1] := rfl
theorem cx7_l29 : lookL 29 cx7.lv = some [137, 11, 10, 9, 8, 7, 6, 1] := rfl
theorem cx7_l30 : lookL 30 cx7.lv = some [142, 11, 9, 8, 7, 6, 1] := rfl
theorem cx7_l31 : lookL 31 cx7.lv = some [4] := rfl
theorem cx7_l32 : lookL 32 cx7.lv = some [143, 12, 11, 10, 9, 8, 7, 6, 1] := rfl
theorem cx7_l33 : lookL 33 cx7.lv = some [156, 11, 10, 9, 8, 7, 6, 1] := rfl
theorem cx7_l34 : lookL 34 cx7.lv = some [14, 13, 11, 10, 9, 8, 7, 6, 1] := rfl
theorem cx7_l35 : lookL 35 cx7.lv = some [170, 11, 9, 8, 7, 6, 1] := rfl
theorem cx7_l36 : lookL 36 cx7.lv = some [4] := rfl
theorem cx7_l16 : lookL 16 cx7.lv = some [16, 15, 12, 11, 10, 9, 8, 7, 6, 1] := rfl
theorem cx7_l17 : lookL 17 cx7.lv = some [18, 17, 16, 15, 11, 9, 8, 7, 6, 1] := rfl
theorem cx7_l18 : lookL 18 cx7.lv = some [92, 15, 11, 9, 8, 7, 6, 1] := rfl
theorem cx7_l19 : lookL 19 cx7.lv = some [4] := rfl
theorem cx7_l20 : lookL 20 cx7.lv = some [11, 9, 8, 7, 6, 1] := rfl
theorem cx7_l37 : lookL 37 cx7.lv = some [21, 20, 19, 11, 9, 8, 7, 6, 1] := rfl
theorem cx7_l38 : lookL 38 cx7.lv = some [23, 22, 21, 20, 19, 9, 8, 7, 6, 1] := rfl
theorem cx7_l39 : lookL 39 cx7.lv = some [24, 23, 21, 20, 9, 8, 7, 6, 1] := rfl
theorem cx7_l40 : lookL 40 cx7.lv = some [25, 24, 21, 9, 8, 7, 6, 1] := rfl
theorem cx7_l41 : lookL 41 cx7.lv = some [219, 9, 8, 7, 6, 1] := rfl
theorem cx7_l42 : lookL 42 cx7.lv = some [4] := rfl
theorem cx7_l11 : lookL 11 cx7.lv = some [9, 8, 7, 6, 1] := rfl
theorem cx7_l43 : lookL 43 cx7.lv = some [4] := rfl
theorem cx7_p26 : lookP 26 cx7.pl = some ⟨0, [⟨0, false, [], [], [], 0⟩, ⟨1, false, [], [], [], 0⟩, ⟨2, false, [1], [], [], 0⟩, ⟨3, false, [2], [], [], 0⟩, ⟨4, false, [], [], [], 0⟩, ⟨5, false, [4], [], [], 0⟩, ⟨7, false, [], [], [], 0⟩, ⟨8, false, [], [], [], 0⟩, ⟨9, false, [8], [], [], 0⟩, ⟨10, false, [9], [], [], 0⟩, ⟨11, false, [], [], [], 0⟩, ⟨12, false, [11], [], [], 0⟩, ⟨6, true, [0, 2, 3, 5], [9, 10, 12], [], 0⟩, ⟨13, true, [2, 3, 5, 6, 7, 9, 10, 12], [], [], 0⟩, ⟨14, false, [6, 13], [], [], 0⟩]⟩ := rfl
theorem cx7_p29 : lookP 29 cx7.pl = some ⟨0, [⟨0, false, [], [], [], 0⟩, ⟨1, false, [0], [], [], 0⟩, ⟨2, false, [1], [], [], 0⟩, ⟨3, false, [2], [], [], 0⟩, ⟨4, false, [3], [], [], 0⟩, ⟨5, false, [3, 4], [], [], 0⟩, ⟨6, false, [3], [], [], 0⟩, ⟨7, false, [3, 6], [], [], 0⟩, ⟨8, false, [3, 7], [], [], 0⟩, ⟨9, false, [3, 8], [], [], 0⟩, ⟨10, false, [3, 5, 9], [], [], 0⟩, ⟨11, false, [3, 10], [], [], 0⟩]⟩ := rfl
theorem cx7_p33 : lookP 33 cx7.pl = some ⟨0, [⟨0, false, [], [], [], 0⟩, ⟨1, false, [0], [], [], 0⟩, ⟨2, false, [1], [], [], 0⟩, ⟨3, false, [2], [], [], 0⟩, ⟨4, false, [3], [], [], 0⟩, ⟨5, false, [3, 4], [], [], 0⟩, ⟨6, false, [3], [], [], 0⟩, ⟨7, false, [3, 6], [], [], 0⟩, ⟨8, false, [3, 7], [], [], 0⟩, ⟨9, false, [3, 8], [], [], 0⟩, ⟨10, false, [3, 5, 9], [], [], 0⟩, ⟨11, false, [3, 10], [], [], 0⟩]⟩ := rfl
theorem cx7_p41 : lookP 41 cx7.pl = some ⟨0, (⟨0, false, [], [], [], 0⟩ :: ⟨1, false, [0], [], [], 0⟩ :: ⟨2, false, [1], [], [], 0⟩ :: ⟨3, false, [2], [], [], 0⟩ :: ⟨4, false, [2, 3], [], [], 0⟩ :: ⟨5, false, [2, 4], [], [], 0⟩ :: ⟨6, false, [5], [], [], 0⟩ :: ⟨7, false, [6], [], [], 0⟩ :: ⟨8, false, [6, 7], [], [], 0⟩ :: ⟨9, false, [6, 8], [], [], 0⟩ :: ⟨10, false, [9], [], [], 0⟩ :: ⟨11, false, [10], [], [], 0⟩ :: ⟨13, false, [10], [], [], 0⟩ :: ⟨12, true, [10, 11], [], [], 0⟩ :: ⟨14, true, [10, 12, 13], [], [], 0⟩ :: ⟨15, false, [10, 12, 14], [], [], 0⟩ :: ⟨16, false, [10, 12, 14, 15], [], [], 0⟩ :: ⟨17, false, [12, 14, 16], [], [], 0⟩ :: ⟨18, false, [12, 14, 17], [], [], 0⟩ :: ⟨20, false, [12, 14, 17], [], [], 0⟩ :: ⟨21, false, [12, 14, 17, 20], [], [], 0⟩ :: ⟨22, false, [12, 14, 17, 21], [], [], 0⟩ :: ⟨23, false, [12, 14, 17, 22], [], [], 0⟩ :: ⟨19, true, [12, 14, 17, 18], [23], [], 0⟩ :: ⟨24, false, [12, 14, 17, 19, 23], [], [], 0⟩ :: ⟨25, false, [12, 14, 17, 19, 24], [], [], 0⟩ :: [])⟩ := rfl
theorem cx7_pu : cx7.pu = [] := rfl
theorem cx7_ok : okc cx7 Try.f7.ntmps (Try.f7.body.getD .skip) = true := by kernel_rfl
theorem enter7 {args : List AV} {H : Hp} {n : Nat} {Q : AV → Hp → Nat → Prop} (h : args.length ≤ 220 ∧ Ev cx7 ⟨220, n, none, 7⟩ (Try.f7.body.getD .skip) ⟨argT 0 args, H, n⟩ (.top Try.f7.results.toList Q)) : callA Try.prog 7 args H n Q :=
  callA_ev (cx := cx7) puOk_nil (f := 7) (fn := Try.f7) Try.func7 rfl (by kernel_rfl) h.1 cx7_ok h.2
def pE (p : PoolS) (kr cap : Nat) : Ent := .cel (.agg [.int .i64 p.room, .int .i64 p.free, .int .i64 p.live, .int .i64 p.most, .slc kr 0 [] 3 0 0 p.ns.length cap])
def pR (p : PoolS) (cap : Nat) : Ent := .vec cap 3 (p.ns.map nodeV)
theorem ern_v (τ : Nat → Nat) (c sz : Nat) (l : List AV) : (Ent.vec c sz l).ren τ = .vec c sz (renL τ l) := rfl
theorem pE_ren {p : PoolS} {a kr cap : Nat} {τ : Nat → Nat} (h : τ a = kr) : (pE p a cap).ren τ = pE p kr cap := by simp [pE, ern_cel, AV.ren, renL, h]
theorem pR_ren {p : PoolS} {cap : Nat} (τ : Nat → Nat) : (pR p cap).ren τ = pR p cap := by simp [pR, ern_vec, nodes_ren]
def okP (p : PoolS) : Prop := (0 ≤ p.live ∧ p.live < 70000) ∧ (p.free = -1 ∨ (0 ≤ p.free ∧ p.free < p.ns.length)) ∧ p.ns.length < 70000
theorem pnew_use {room : Int} {H : Hp} {n : Nat} {Q : AV → Hp → Nat → Prop} (hq : Q (.ptr n 0 []) ((n + 1, pR (newP room) 0) :: (n, pE (newP room) (n + 1) 0) :: H) (n + 2)) : callA Try.prog 14 [.int .i64 room] H n Q := new_use hq
theorem ppush_use {k m cap : Nat} {p q : PoolS} {h j x : Int} {b : Bool} {H : Hp} {n : Nat} {Q : AV → Hp → Nat → Prop} (hk : hget k H = some (pE p m cap)) (hm : hget m H = some (pR p cap)) (hlt : (k < n ∧ m < n) ∧ (k = m) = False) (hp : okP p) (hP : pushP p h x = (j, b, q))
    (hq : ∀ c : Nat, Imp True (Q (.tup [.int .i64 j, .bool b]) ((n, pR q c) :: (k, pE q n c) :: hideH [m, k] H) (n + 1))) :
    callA Try.prog 15 [.ptr k 0 [], .int .i64 h, .int .i64 x] H n Q := by
  have ek : idx [k, m] n 0 = k := rfl
  have em : idx [k, m] n 1 = m := rfl
  have hne : ¬ k = m := by rw [hlt.2]; exact id
  refine callA_use (push_call p cap h x hp.1 hp.2.1 hp.2.2) [k, m] rfl (by simp [hne]) (by simpa using hlt.1) (by simp [keysB, poolH]) rfl ?_ ?_
  · refine ⟨?_, ?_, trivial⟩
    · have := hm
      simpa [Ent.ren, em, nodes_ren, pR] using this
    · have := hk
      simpa [Ent.ren, ek, em, poolV, AV.ren, renL, pE] using this
  · rintro v H1 m1 _ ⟨c, rfl, rfl, rfl⟩
    rw [hP]
    have := hq c trivial
    simpa [poolH, poolV, renH, renL, AV.ren, Ent.ren, idx, keysB, nodes_ren, pE, pR] using this
theorem pfree_use {k m cap : Nat} {p : PoolS} {h : Int} {js : List Int} {H : Hp} {n : Nat} {Q : AV → Hp → Nat → Prop} (hk : hget k H = some (pE p m cap)) (hm : hget m H = some (pR p cap)) (hlt : (k < n ∧ m < n) ∧ (k = m) = False) (hch : chainP p.ns h js) (hnd : js.Nodup ∧ js.length ≤ 70000 ∧ 0 ≤ p.live ∧ p.live ≤ 70000)
    (hq : Q (.int .i64 (js.length : Int)) ((m, pR (frP p js) cap) :: (k, pE (frP p js) m cap) :: hideH [m, k] H) n) :
    callA Try.prog 21 [.ptr k 0 [], .int .i64 h] H n Q := by
  have hne : k ≠ m := fun e => by rw [hlt.2] at e; exact e
  refine freeS_use hk hm ⟨hlt.1.1, hlt.1.2, hne⟩ rfl hch hnd ?_
  have e := freeF_len js p.ns p.free
  simpa [pR, pE, frP, e] using hq
theorem pset_call {p : PoolS} {h x : Int} {cap : Nat} : callA Try.prog 18 [.ptr 0 0 [], .int .i64 h, .int .i64 x] [(1, pR p cap), (0, pE p 1 cap)] 2 fun v H' n' => v = .bool (takenP p.ns h) ∧ H' = [(1, pR (setP p h x) cap), (0, pE (setP p h x) 1 cap)] ∧ n' = 2 := by
  unfold setP
  cases ht : takenP p.ns h
  · unfold pR pE
    show callA _ _ _ _ _ _
    sym =>
      repeat (first (apply enter18) (apply taken3_use; (tactic => rfl); (tactic => rfl); (tactic => rfl)) (apply imp_go; intro hp) (apply valK_wr) ((first (apply valK_bol) (apply effK_bol) (apply newK_bol) (apply appK_bol) (apply topO_bol)); · finish (splits := 3) (ematch := 1)) ((first (apply valK_altY) (apply effK_altY)); · finish (splits := 3) (ematch := 1)) ((first (apply valK_altN) (apply effK_altN)); · finish (splits := 3) (ematch := 1)) (apply valK_altNY; · finish (splits := 3) (ematch := 1)) (apply valK_altNN; · finish (splits := 3) (ematch := 1)) (apply valK_altS) (apply valK_altNS) (apply effK_altS) (apply appS_go) (apply brC_y; · finish (splits := 3) (ematch := 1)) (apply brC_n; · finish (splits := 3) (ematch := 1)) (apply brC_yN; · finish (splits := 3) (ematch := 1)) (apply brC_nN; · finish (splits := 3) (ematch := 1)) (apply brC_s) (apply brC_sN) (simp [ht, e17Op_eq, e19Op_eq, eAbuffertile_eq, eColour_eq, eFrag_eq, eKey_eq, cx18_P, cx18_l0, cx18_l1, cx18_l2, cx18_l3, cx18_l4, cx18_pu, Try.f18.eq_1, ty_arrOf_24, ty_arrOf_3, ty_arrOf_88, ty_bytesE_88, ty_fldOf_90_0, ty_fldOf_90_1, ty_fldOf_90_2, ty_fldOf_90_3, ty_fldOf_90_4, ty_fldOf_93_0, ty_fldOf_93_1, ty_fldOf_93_2, ty_intOf_3, ty_isInt_3, ty_notInt_3, ty_isPtrTy_24, ty_lay_24, ty_lay_3, ty_lay_88, ty_lay_93, ty_notInt_24, ty_notInt_88, ty_placesOf_90, ty_placesOf_93, ty_slcOf_24, ty_slcOf_3, ty_slcOf_88, ty_zeroA_24, ty_zeroA_3, ty_zeroA_90, ty_zeroA_93, ty_zeroE_88, valK_some, effK_some, opE_move, opE_assign, opE_load, opE_nilCheck, opE_bin, opE_un, opE_fieldAddr, opE_indexAddr, callK_fn, callK_yld, callG_some, callG_none, opE_store_r, opE_call_r, ev_seq, ev_skip, ev_label, ev_region, ev_cond, condC_some, brC_true, brC_false, ev_block, ev_scope, ev_exit, ev_ret, nx_seq, nx_seqE, nx_seqR, nx_blk, nx_blkE, nx_blkR, nx_top, nx_topR, topO_some, evR_nil, evR_op, evR_guard, finK_reg, getT_cons, putT_some, putT_none, trimT_some, trimT_none, keepT_nil, keepT_cons, consT_some, consT_none, getT_nil, getO_tmp, getO_const, getO_func, ofC_int, ofC_bool, ofC_ptr, ofC_slc, ofC_map, ofC_fn, getOs_nil, getOs_cons, consO_some, hget_cons, hset_cons, wrap_lit, wrap_neg, cast_lit, toNat_lit, get_zero, get_succ, take_zero, take_succ, set_zero, set_succ, length_nil, length_cons, length_set, append_nil, nil_append, cons_append, toList_arr, bnot_true, bnot_false, band_true, band_false, beq_tt, beq_ff, beq_tf, beq_ft, beq_nat, beq_int, bne_nat, map_some, map_none, true_eq_false, false_eq_true, true_eq_true, fbody_mk, fresults_mk, getD_some, bol_true, binO_some, unO_some, un_not, nilO_some, nilA_ptr, nilA_fn, nilA_yld, nilA_map, nilA_slc, size_int, size_bool, size_str, size_ptr, size_nilp, size_slc, size_nils, size_map, size_nilm, size_fn, size_yld, size_nilf, size_agg, size_rows, sizeL_nil, sizeL_cons, layOK_int, layOK_bool, layOK_str, layOK_ptr, layOK_nilp, layOK_slc, layOK_nils, layOK_map, layOK_nilm, layOK_fn, layOK_yld, layOK_nilf, layOK_agg, layOK_rows, isTup_int, isTup_bool, isTup_str, isTup_ptr, isTup_nilp, isTup_slc, isTup_nils, isTup_map, isTup_nilm, isTup_fn, isTup_yld, isTup_nilf, isTup_agg, isTup_rows, getP_nil, getP_cons, getS_some, stepP_agg, stepP_rows, putP_nil, putP_cons, putS_some, putU_some, setS_agg, setS_rows, loadO_some, loadA_ptr, loadE_cel, loadE_vec, loadE_ro, chkL_some, storeO_some, stH_some, storeA_ptr, storeE_cel, storeE_vec, storeB_cel, faO_some, fa_ptr, iaO_some, resF_eq, resAll_nil, resAll_cons, resOne_tmp, resOne_cell, tupO_none, tupO_one, tupO_more, argT_nil, argT_cons, lookU_nil, lookU_cons, lookL_cons, lookL_nil, lookP_cons, roundS_eq, mun_neg, wrapO_lit, wrapO_neg, mia_ptr, mia_slc, mstoreB_vec, len_set, not_tf, not_ft, and_tf, not_not_b, alt_true, alt_false, bol_false, getS_bol, getS_alt, chkL_bol, chkL_alt, putS_bol, putS_alt, putU_bol, putU_alt, storeB_bol, storeB_alt, stH_bol, stH_alt, consO_bol, consO_bol2, tupO_bol, bol_bol, get_mapB, get_setB, get_appB, len_map, nat_zero_add, hideH_nil, and_self, and_true, true_and, and_false, false_and]) (apply valK_bolB; · finish (splits := 3) (ematch := 1)) (apply valK_altT; · finish (splits := 3) (ematch := 1)) (apply valK_altF; · finish (splits := 3) (ematch := 1)) (apply valK_altB) (apply brC_t; · finish (splits := 3) (ematch := 1)) (apply brC_f; · finish (splits := 3) (ematch := 1)) (apply brC_sBN) (apply brC_sB) (intro~ hr) (tactic => first | exact ⟨rfl, rfl, rfl⟩ | (trace_state; exact test_fail)))
  · have b0 := taken_bd ht
    have b2 : h.toNat < gLen p.ns := by unfold gLen; omega
    have b1 : 0 ≤ h ∧ h < (gLen p.ns : Int) := b0
    have b3 : gLen (setG p.ns h.toNat (x, gN p.ns h.toNat, gT p.ns h.toNat)) = gLen p.ns := by unfold gLen setG; rw [List.length_set]
    have b4 : (setG p.ns h.toNat (x, gN p.ns h.toNat, gT p.ns h.toNat)).length = p.ns.length := b3
    clear b0
    unfold pR pE
    show callA _ _ _ _ _ _
    sym =>
      repeat (first (apply enter18) (apply taken3_use; (tactic => rfl); (tactic => rfl); (tactic => rfl)) (apply imp_go; intro hp) (apply valK_wr) ((first (apply valK_bol) (apply effK_bol) (apply newK_bol) (apply appK_bol) (apply topO_bol)); · finish (splits := 3) (ematch := 1)) ((first (apply valK_altY) (apply effK_altY)); · finish (splits := 3) (ematch := 1)) ((first (apply valK_altN) (apply effK_altN)); · finish (splits := 3) (ematch := 1)) (apply valK_altNY; · finish (splits := 3) (ematch := 1)) (apply valK_altNN; · finish (splits := 3) (ematch := 1)) (apply valK_altS) (apply valK_altNS) (apply effK_altS) (apply appS_go) (apply brC_y; · finish (splits := 3) (ematch := 1)) (apply brC_n; · finish (splits := 3) (ematch := 1)) (apply brC_yN; · finish (splits := 3) (ematch := 1)) (apply brC_nN; · finish (splits := 3) (ematch := 1)) (apply brC_s) (apply brC_sN) (simp [ht, nodeG_eq, gLen_eq, setG_eq, e17Op_eq, e19Op_eq, eAbuffertile_eq, eColour_eq, eFrag_eq, eKey_eq, cx18_P, cx18_l0, cx18_l1, cx18_l2, cx18_l3, cx18_l4, cx18_pu, Try.f18.eq_1, ty_arrOf_24, ty_arrOf_3, ty_arrOf_88, ty_bytesE_88, ty_fldOf_90_0, ty_fldOf_90_1, ty_fldOf_90_2, ty_fldOf_90_3, ty_fldOf_90_4, ty_fldOf_93_0, ty_fldOf_93_1, ty_fldOf_93_2, ty_intOf_3, ty_isInt_3, ty_notInt_3, ty_isPtrTy_24, ty_lay_24, ty_lay_3, ty_lay_88, ty_lay_93, ty_notInt_24, ty_notInt_88, ty_placesOf_90, ty_placesOf_93, ty_slcOf_24, ty_slcOf_3, ty_slcOf_88, ty_zeroA_24, ty_zeroA_3, ty_zeroA_90, ty_zeroA_93, ty_zeroE_88, valK_some, effK_some, opE_move, opE_assign, opE_load, opE_nilCheck, opE_bin, opE_un, opE_fieldAddr, opE_indexAddr, callK_fn, callK_yld, callG_some, callG_none, opE_store_r, opE_call_r, ev_seq, ev_skip, ev_label, ev_region, ev_cond, condC_some, brC_true, brC_false, ev_block, ev_scope, ev_exit, ev_ret, nx_seq, nx_seqE, nx_seqR, nx_blk, nx_blkE, nx_blkR, nx_top, nx_topR, topO_some, evR_nil, evR_op, evR_guard, finK_reg, getT_cons, putT_some, putT_none, trimT_some, trimT_none, keepT_nil, keepT_cons, consT_some, consT_none, getT_nil, getO_tmp, getO_const, getO_func, ofC_int, ofC_bool, ofC_ptr, ofC_slc, ofC_map, ofC_fn, getOs_nil, getOs_cons, consO_some, hget_cons, hset_cons, wrap_lit, wrap_neg, cast_lit, toNat_lit, get_zero, get_succ, take_zero, take_succ, set_zero, set_succ, length_nil, length_cons, length_set, append_nil, nil_append, cons_append, toList_arr, bnot_true, bnot_false, band_true, band_false, beq_tt, beq_ff, beq_tf, beq_ft, beq_nat, beq_int, bne_nat, map_some, map_none, true_eq_false, false_eq_true, true_eq_true, fbody_mk, fresults_mk, getD_some, bol_true, binO_some, unO_some, un_not, nilO_some, nilA_ptr, nilA_fn, nilA_yld, nilA_map, nilA_slc, size_int, size_bool, size_str, size_ptr, size_nilp, size_slc, size_nils, size_map, size_nilm, size_fn, size_yld, size_nilf, size_agg, size_rows, sizeL_nil, sizeL_cons, layOK_int, layOK_bool, layOK_str, layOK_ptr, layOK_nilp, layOK_slc, layOK_nils, layOK_map, layOK_nilm, layOK_fn, layOK_yld, layOK_nilf, layOK_agg, layOK_rows, isTup_int, isTup_bool, isTup_str, isTup_ptr, isTup_nilp, isTup_slc, isTup_nils, isTup_map, isTup_nilm, isTup_fn, isTup_yld, isTup_nilf, isTup_agg, isTup_rows, getP_nil, getP_cons, getS_some, stepP_agg, stepP_rows, putP_nil, putP_cons, putS_some, putU_some, setS_agg, setS_rows, loadO_some, loadA_ptr, loadE_cel, loadE_vec, loadE_ro, chkL_some, storeO_some, stH_some, storeA_ptr, storeE_cel, storeE_vec, storeB_cel, faO_some, fa_ptr, iaO_some, resF_eq, resAll_nil, resAll_cons, resOne_tmp, resOne_cell, tupO_none, tupO_one, tupO_more, argT_nil, argT_cons, lookU_nil, lookU_cons, lookL_cons, lookL_nil, lookP_cons, roundS_eq, mun_neg, wrapO_lit, wrapO_neg, mia_ptr, mia_slc, mstoreB_vec, len_set, not_tf, not_ft, and_tf, not_not_b, alt_true, alt_false, bol_false, getS_bol, getS_alt, chkL_bol, chkL_alt, putS_bol, putS_alt, putU_bol, putU_alt, storeB_bol, storeB_alt, stH_bol, stH_alt, consO_bol, consO_bol2, tupO_bol, bol_bol, get_mapB, get_setB, get_appB, len_map, nat_zero_add, hideH_nil, and_self, and_true, true_and, and_false, false_and]) (apply valK_bolB; · finish (splits := 3) (ematch := 1)) (apply valK_altT; · finish (splits := 3) (ematch := 1)) (apply valK_altF; · finish (splits := 3) (ematch := 1)) (apply valK_altB) (apply brC_t; · finish (splits := 3) (ematch := 1)) (apply brC_f; · finish (splits := 3) (ematch := 1)) (apply brC_sBN) (apply brC_sB) (intro~ hr) (tactic => first | exact ⟨rfl, rfl, rfl⟩ | (simp [setG, gLen]; done) | (trace_state; exact test_fail)))
theorem pset_use {k m cap : Nat} {p : PoolS} {h x : Int} {H : Hp} {n : Nat} {Q : AV → Hp → Nat → Prop} (hk : hget k H = some (pE p m cap)) (hm : hget m H = some (pR p cap)) (hlt : (k < n ∧ m < n) ∧ (k = m) = False) (hq : Q (.bool (takenP p.ns h)) ((m, pR (setP p h x) cap) :: (k, pE (setP p h x) m cap) :: hideH [m, k] H) n) :
    callA Try.prog 18 [.ptr k 0 [], .int .i64 h, .int .i64 x] H n Q := by
  have ek : idx [k, m] n 0 = k := rfl
  have em : idx [k, m] n 1 = m := rfl
  have hne : ¬ k = m := by rw [hlt.2]; exact id
  refine callA_use (H0 := [(1, pR p cap), (0, pE p 1 cap)]) (m := 2) (pset_call (h := h) (x := x)) [k, m] rfl (by simp [hne]) (by simpa using hlt.1) (by simp [keysB]) rfl ?_ ?_
  · have e2 : (pE p 1 cap).ren (idx [k, m] n) = pE p m cap := pE_ren em
    simp only [subH, pR_ren, e2]
    exact ⟨hm, hk, trivial⟩
  · rintro v H1 m1 _ ⟨rfl, rfl, rfl⟩
    have e2 : (pE (setP p h x) 1 cap).ren (idx [k, m] n) = pE (setP p h x) m cap := pE_ren em
    simpa [renH, renL, AV.ren, idx, keysB, pR_ren, e2] using hq
theorem pgone_use {k m cap : Nat} {p : PoolS} {h : Int} {js : List Int} {H : Hp} {n : Nat} {Q : AV → Hp → Nat → Prop} (hk : hget k H = some (pE p m cap)) (hm : hget m H = some (pR p cap)) (hlt : (k < n ∧ m < n) ∧ (k = m) = False) (hch : chainP p.ns h js) (hl : js.length ≤ 1000)
    (hq : ∀ c1 c2 : Nat, Imp True (Q (.tup [.slc n 0 [] 1 0 0 js.length c1, .slc (n + 1) 0 [] 1 0 0 js.length c2, .bool true]) ((n + 1, .vec c2 1 (js.map (tgV p.ns))) :: (n, .vec c1 1 (js.map (AV.int .i64))) :: (m, pR p cap) :: (k, pE p m cap) :: hideH [m, k] H) (n + 2))) :
    callA Try.prog 17 [.ptr k 0 [], .int .i64 h, .int .i64 1000] H n Q := by
  have hne : k ≠ m := fun e => by rw [hlt.2] at e; exact e
  refine goneS_use hk hm ⟨hlt.1.1, hlt.1.2, hne⟩ hch (by decide) fun R c1 c2 hR => ?_
  have e : R = js := by rw [hR]; exact List.take_of_length_le (by simpa using hl)
  subst e
  exact hq c1 c2 trivial
theorem plive_use {k m cap : Nat} {p : PoolS} {H : Hp} {n : Nat} {Q : AV → Hp → Nat → Prop} (hk : hget k H = some (pE p m cap)) (hq : Q (.int .i64 p.live) H n) : callA Try.prog 19 [.ptr k 0 []] H n Q := by
  unfold pE at hk
  show callA _ _ _ _ _ _
  sym =>
    repeat (first (apply enter19) (apply imp_go; intro hp) (apply valK_w64; · finish (splits := 3) (ematch := 1)) (apply valK_wr) ((first (apply valK_bol) (apply effK_bol) (apply newK_bol) (apply appK_bol) (apply topO_bol)); · finish (splits := 3) (ematch := 1)) ((first (apply valK_altY) (apply effK_altY)); · finish (splits := 3) (ematch := 1)) ((first (apply valK_altN) (apply effK_altN)); · finish (splits := 3) (ematch := 1)) (apply valK_altNY; · finish (splits := 3) (ematch := 1)) (apply valK_altNN; · finish (splits := 3) (ematch := 1)) (apply valK_altS) (apply valK_altNS) (apply effK_altS) (apply appS_go) (apply brC_y; · finish (splits := 3) (ematch := 1)) (apply brC_n; · finish (splits := 3) (ematch := 1)) (apply brC_yN; · finish (splits := 3) (ematch := 1)) (apply brC_nN; · finish (splits := 3) (ematch := 1)) (apply brC_s) (apply brC_sN) (simp [hk, e17Op_eq, e19Op_eq, eAbuffertile_eq, eColour_eq, eFrag_eq, eKey_eq, cx19_P, cx19_l0, cx19_l1, cx19_pu, Try.f19.eq_1, ty_arrOf_3, ty_fldOf_90_0, ty_fldOf_90_1, ty_fldOf_90_2, ty_fldOf_90_3, ty_fldOf_90_4, ty_intOf_3, ty_isInt_3, ty_notInt_3, ty_lay_3, ty_placesOf_90, ty_slcOf_3, ty_zeroA_3, ty_zeroA_90, valK_some, opE_move, opE_assign, opE_load, opE_nilCheck, opE_bin, opE_un, opE_fieldAddr, ev_seq, ev_skip, ev_label, ev_region, ev_cond, condC_some, brC_true, brC_false, ev_block, ev_scope, ev_exit, ev_ret, nx_seq, nx_seqE, nx_seqR, nx_blk, nx_blkE, nx_blkR, nx_top, nx_topR, topO_some, evR_nil, evR_op, evR_guard, finK_reg, getT_cons, putT_some, putT_none, trimT_some, trimT_none, keepT_nil, keepT_cons, consT_some, consT_none, getT_nil, getO_tmp, getO_const, getO_func, ofC_int, ofC_bool, ofC_ptr, ofC_slc, ofC_map, ofC_fn, getOs_nil, getOs_cons, consO_some, hget_cons, wrap_lit, wrap_neg, top_i64, bot_i64, bits_i64, cast_lit, toNat_lit, get_zero, get_succ, take_zero, take_succ, set_zero, set_succ, length_nil, length_cons, append_nil, nil_append, cons_append, toList_arr, bnot_true, bnot_false, band_true, band_false, beq_tt, beq_ff, beq_tf, beq_ft, beq_nat, beq_int, bne_nat, map_some, map_none, true_eq_false, false_eq_true, true_eq_true, fbody_mk, fresults_mk, getD_some, bol_true, binO_some, nilO_some, nilA_ptr, nilA_fn, nilA_map, nilA_slc, size_int, size_bool, size_str, size_ptr, size_nilp, size_slc, size_nils, size_map, size_nilm, size_fn, size_nilf, size_agg, size_rows, sizeL_nil, sizeL_cons, layOK_int, layOK_bool, layOK_str, layOK_ptr, layOK_nilp, layOK_slc, layOK_nils, layOK_map, layOK_nilm, layOK_fn, layOK_nilf, layOK_agg, layOK_rows, isTup_int, isTup_bool, isTup_str, isTup_ptr, isTup_nilp, isTup_slc, isTup_nils, isTup_map, isTup_nilm, isTup_fn, isTup_nilf, isTup_agg, isTup_rows, getP_nil, getP_cons, getS_some, stepP_agg, stepP_rows, loadO_some, loadA_ptr, loadE_cel, loadE_vec, loadE_ro, chkL_some, faO_some, fa_ptr, resF_eq, resAll_nil, resAll_cons, resOne_tmp, resOne_cell, tupO_none, tupO_one, tupO_more, argT_nil, argT_cons, lookL_cons, lookL_nil, lookP_cons, wrapO_lit, wrapO_neg, not_tf, not_ft, and_tf, alt_true, alt_false, bol_false, getS_bol, getS_alt, chkL_bol, chkL_alt, consO_bol, consO_bol2, tupO_bol, bol_bol, get_mapB, get_setB, get_appB, len_map, nat_zero_add, hideH_nil, and_self, and_true, true_and, and_false, false_and]) (apply valK_bolB; · finish (splits := 3) (ematch := 1)) (apply valK_altT; · finish (splits := 3) (ematch := 1)) (apply valK_altF; · finish (splits := 3) (ematch := 1)) (apply valK_altB) (apply brC_t; · finish (splits := 3) (ematch := 1)) (apply brC_f; · finish (splits := 3) (ematch := 1)) (apply brC_sBN) (apply brC_sB) (intro~ hr) (tactic => first | exact hq | (trace_state; exact test_fail)))
theorem pmost_use {k m cap : Nat} {p : PoolS} {H : Hp} {n : Nat} {Q : AV → Hp → Nat → Prop} (hk : hget k H = some (pE p m cap)) (hq : Q (.int .i64 p.most) H n) : callA Try.prog 22 [.ptr k 0 []] H n Q := by
  unfold pE at hk
  show callA _ _ _ _ _ _
  sym =>
    repeat (first (apply enter22) (apply imp_go; intro hp) (apply valK_w64; · finish (splits := 3) (ematch := 1)) (apply valK_wr) ((first (apply valK_bol) (apply effK_bol) (apply newK_bol) (apply appK_bol) (apply topO_bol)); · finish (splits := 3) (ematch := 1)) ((first (apply valK_altY) (apply effK_altY)); · finish (splits := 3) (ematch := 1)) ((first (apply valK_altN) (apply effK_altN)); · finish (splits := 3) (ematch := 1)) (apply valK_altNY; · finish (splits := 3) (ematch := 1)) (apply valK_altNN; · finish (splits := 3) (ematch := 1)) (apply valK_altS) (apply valK_altNS) (apply effK_altS) (apply appS_go) (apply brC_y; · finish (splits := 3) (ematch := 1)) (apply brC_n; · finish (splits := 3) (ematch := 1)) (apply brC_yN; · finish (splits := 3) (ematch := 1)) (apply brC_nN; · finish (splits := 3) (ematch := 1)) (apply brC_s) (apply brC_sN) (simp [hk, e17Op_eq, e19Op_eq, eAbuffertile_eq, eColour_eq, eFrag_eq, eKey_eq, cx22_P, cx22_l0, cx22_l1, cx22_pu, Try.f22.eq_1, ty_arrOf_3, ty_fldOf_90_0, ty_fldOf_90_1, ty_fldOf_90_2, ty_fldOf_90_3, ty_fldOf_90_4, ty_intOf_3, ty_isInt_3, ty_notInt_3, ty_lay_3, ty_placesOf_90, ty_slcOf_3, ty_zeroA_3, ty_zeroA_90, valK_some, opE_move, opE_assign, opE_load, opE_nilCheck, opE_bin, opE_un, opE_fieldAddr, ev_seq, ev_skip, ev_label, ev_region, ev_cond, condC_some, brC_true, brC_false, ev_block, ev_scope, ev_exit, ev_ret, nx_seq, nx_seqE, nx_seqR, nx_blk, nx_blkE, nx_blkR, nx_top, nx_topR, topO_some, evR_nil, evR_op, evR_guard, finK_reg, getT_cons, putT_some, putT_none, trimT_some, trimT_none, keepT_nil, keepT_cons, consT_some, consT_none, getT_nil, getO_tmp, getO_const, getO_func, ofC_int, ofC_bool, ofC_ptr, ofC_slc, ofC_map, ofC_fn, getOs_nil, getOs_cons, consO_some, hget_cons, wrap_lit, wrap_neg, top_i64, bot_i64, bits_i64, cast_lit, toNat_lit, get_zero, get_succ, take_zero, take_succ, set_zero, set_succ, length_nil, length_cons, append_nil, nil_append, cons_append, toList_arr, bnot_true, bnot_false, band_true, band_false, beq_tt, beq_ff, beq_tf, beq_ft, beq_nat, beq_int, bne_nat, map_some, map_none, true_eq_false, false_eq_true, true_eq_true, fbody_mk, fresults_mk, getD_some, bol_true, binO_some, nilO_some, nilA_ptr, nilA_fn, nilA_map, nilA_slc, size_int, size_bool, size_str, size_ptr, size_nilp, size_slc, size_nils, size_map, size_nilm, size_fn, size_nilf, size_agg, size_rows, sizeL_nil, sizeL_cons, layOK_int, layOK_bool, layOK_str, layOK_ptr, layOK_nilp, layOK_slc, layOK_nils, layOK_map, layOK_nilm, layOK_fn, layOK_nilf, layOK_agg, layOK_rows, isTup_int, isTup_bool, isTup_str, isTup_ptr, isTup_nilp, isTup_slc, isTup_nils, isTup_map, isTup_nilm, isTup_fn, isTup_nilf, isTup_agg, isTup_rows, getP_nil, getP_cons, getS_some, stepP_agg, stepP_rows, loadO_some, loadA_ptr, loadE_cel, loadE_vec, loadE_ro, chkL_some, faO_some, fa_ptr, resF_eq, resAll_nil, resAll_cons, resOne_tmp, resOne_cell, tupO_none, tupO_one, tupO_more, argT_nil, argT_cons, lookL_cons, lookL_nil, lookP_cons, wrapO_lit, wrapO_neg, not_tf, not_ft, and_tf, alt_true, alt_false, bol_false, getS_bol, getS_alt, chkL_bol, chkL_alt, consO_bol, consO_bol2, tupO_bol, bol_bol, get_mapB, get_setB, get_appB, len_map, nat_zero_add, hideH_nil, and_self, and_true, true_and, and_false, false_and]) (apply valK_bolB; · finish (splits := 3) (ematch := 1)) (apply valK_altT; · finish (splits := 3) (ematch := 1)) (apply valK_altF; · finish (splits := 3) (ematch := 1)) (apply valK_altB) (apply brC_t; · finish (splits := 3) (ematch := 1)) (apply brC_f; · finish (splits := 3) (ematch := 1)) (apply brC_sBN) (apply brC_sB) (intro~ hr) (tactic => first | exact hq | (trace_state; exact test_fail)))
theorem yfree_use {y : YS} {k kf cf kt ct kx cx kn cn : Nat} {h : Int} {js : List Int} {H : Hp} {n : Nat} {Q : AV → Hp → Nat → Prop} (h0 : hget k H = some (yE y kf cf kt ct kx cx kn cn)) (h1 : hget kf H = some (iR y.F cf)) (h2 : hget kt H = some (bR y.T ct)) (h3 : hget kx H = some (iR y.X cx)) (h4 : hget kn H = some (iR y.N cn)) (hn : k < n ∧ kf < n ∧ kt < n ∧ kx < n ∧ kn < n) (hd : [k, kf, kt, kx, kn].Nodup) (hch : chY y h js) (hjs : js.length ≤ y.T.length) (hok : okY y) (hcf : y.F.length ≤ cf) (hF : y.F.length ≤ 70000) (hb : ∀ j, j ∈ js → 0 ≤ j ∧ j < (y.T.length : Int))
    (hq : ∀ cf' : Nat, Imp ((freeYS y js).F.length ≤ cf') (Q (.int .i64 (js.length : Int)) ((n, iR (freeYS y js).F cf') :: (kn, iR (freeYS y js).N cn) :: (kx, iR (freeYS y js).X cx) :: (kt, bR (freeYS y js).T ct) :: (k, yE (freeYS y js) n cf' kt ct kx cx kn cn) :: hideH [kn, kx, kt, kf, k] H) (n + 1))) :
    callA Try.prog 25 [.ptr k 0 [], .int .i64 h] H n Q := by
  refine callA_use (H0 := yH y cf ct cx cn) (m := 5) (yfree_call hch hjs hok hcf hF hb) [k, kf, kt, kx, kn] rfl hd (by simp; omega) (by simp [keysB, yH]) (by simp [renL, AV.ren, idx]) ?_ ?_
  · simp only [subH, yH, iR_ren, bR_ren, zy]; exact ⟨h4, h3, h2, h1, h0, trivial⟩
  · rintro v H1 m1 _ ⟨cf', hc, rfl, rfl, rfl⟩
    have := hq cf' hc
    have i0 : idx [k, kf, kt, kx, kn] n 0 = k := by simp [idx]
    have i1 : idx [k, kf, kt, kx, kn] n 1 = kf := by simp [idx]
    have i2 : idx [k, kf, kt, kx, kn] n 2 = kt := by simp [idx]
    have i3 : idx [k, kf, kt, kx, kn] n 3 = kx := by simp [idx]
    have i4 : idx [k, kf, kt, kx, kn] n 4 = kn := by simp [idx]
    have i5 : idx [k, kf, kt, kx, kn] n 5 = n := by simp [idx]
    have e2 : (yE (freeYS y js) 5 cf' 2 ct 3 cx 4 cn).ren (idx [k, kf, kt, kx, kn] n) = yE (freeYS y js) n cf' kt ct kx cx kn cn := yE_ren i5 i2 i3 i4
    have eN : (freeYS y js).N = y.N := rfl
    have eX : (freeYS y js).X = y.X := rfl
    rw [eN, eX] at this
    simpa [AV.ren, renL, renH, iR_ren, bR_ren, e2, keysB, yH, i0, i1, i2, i3, i4, i5] using this
def hE (hd : List Int) : AV := .rows 1 (hd.map (AV.int .i64))
theorem hE_0 : hE [-1, -1, -1, -1, -1, -1, -1, -1] = .rows 1 [.int .i64 (-1), .int .i64 (-1), .int .i64 (-1), .int .i64 (-1), .int .i64 (-1), .int .i64 (-1), .int .i64 (-1), .int .i64 (-1)] := rfl
theorem hE_step {hd : List Int} {K : Nat} (hl : hd.length = 8) (h : K < 8) : stepP (hE hd) (.idx K 1) = some (.int .i64 (hd.getD K (-1))) := by
  unfold hE
  show (hd.map (AV.int .i64))[K]? = _
  rw [List.getElem?_map, List.getD_eq_getElem?_getD, List.getElem?_eq_getElem (by omega)]; rfl
theorem hE_set (hd : List Int) (K : Nat) (v : Int) : setS (hE hd) (.idx K 1) (.int .i64 v) = hE (hd.set K v) := by
  unfold hE
  show AV.rows 1 ((hd.map (AV.int .i64)).set K (.int .i64 v)) = _
  rw [List.map_set]
theorem ld_1 (y : YS) (kf cf kt ct kx cx kn cn : Nat) : loadE (some (false, 1)) (some (yE y kf cf kt ct kx cx kn cn)) 0 [.fld 1 1] = some (.int .i64 (y.T.length : Int)) := rfl
theorem ld_2 (y : YS) (kf cf kt ct kx cx kn cn : Nat) : loadE (some (false, 1)) (some (yE y kf cf kt ct kx cx kn cn)) 0 [.fld 2 2] = some (.int .i64 y.top) := rfl
theorem step_k (o : T17Op) : stepP (e17Op o) (.fld 0 0) = some (.int .u8 o.kind) := rfl
theorem step_n (o : T17Op) : stepP (e17Op o) (.fld 1 1) = some (.int .u8 o.n) := rfl
theorem step_x (o : T17Op) : stepP (e17Op o) (.fld 2 2) = some (.int .i64 o.x) := rfl
theorem layOK_op (o : T17Op) : layOK (some (true, 3)) (e17Op o) = true := rfl
theorem po_okP {p : PoolS} {hd : List Int} {y : YS} {i : Nat} (h : PoI p hd y i) (hi : i ≤ 100) : okP p := by
  have hc := cnt_le p.ns
  have hl := h.live
  have hb := h.bd
  refine ⟨⟨by omega, by omega⟩, ?_, by omega⟩
  have := h.fl.1
  cases hr : y.F.reverse with
  | nil => rw [hr] at this; exact .inl this
  | cons j r =>
    rw [hr] at this
    obtain ⟨⟨h1, h2, _⟩, _⟩ := this
    rw [h1]; exact .inr h2
theorem po_T {p : PoolS} {hd : List Int} {y : YS} {i : Nat} (h : PoI p hd y i) : y.T.length = p.ns.length := by rw [h.yq.2.2.1, List.length_map]
theorem po_okY {p : PoolS} {hd : List Int} {y : YS} {i : Nat} (h : PoI p hd y i) (hi : i ≤ 100) : okY y := by
  have hT := po_T h
  have hb := h.bd
  exact ⟨⟨by rw [hT]; exact h.yq.2.2.2.1, by rw [hT]; exact h.yq.2.2.2.2⟩, by omega⟩
theorem po_F {p : PoolS} {hd : List Int} {y : YS} {i : Nat} (h : PoI p hd y i) (hi : i ≤ 100) : y.F.length ≤ 70000 ∧ ∀ j, j ∈ y.F → 0 ≤ j ∧ j < (y.T.length : Int) := by
  have hf := h.fl.2.2
  have hb := h.bd
  refine ⟨by omega, fun j hj => ?_⟩
  rw [po_T h]
  exact (chF_un h.fl.1 j (List.mem_reverse.2 hj)).1
theorem po_lv {p : PoolS} {hd : List Int} {y : YS} {i : Nat} (h : PoI p hd y i) (hi : i ≤ 100) : p.live = (y.T.length : Int) - (y.F.length : Int) ∧ p.most = y.top ∧ ((0 ≤ (y.T.length : Int) ∧ (y.T.length : Int) ≤ 100000) ∧ y.F.length ≤ 100000) := by
  have hT := po_T h
  have hf := h.fl.2.2
  have hl := h.live
  have hb := h.bd
  exact ⟨by omega, h.yq.2.1.symm, by omega⟩
theorem po_fr {p : PoolS} {hd : List Int} {y : YS} {i : Nat} (h : PoI p hd y i) (hi : i ≤ 100) {js : List Int} (hn : js.Nodup) (hl : js.length ≤ i) : js.Nodup ∧ js.length ≤ 70000 ∧ 0 ≤ p.live ∧ p.live ≤ 70000 := by
  have := (po_okP h hi).1
  exact ⟨hn, by omega, this.1, by omega⟩
theorem po_un {p : PoolS} {hd : List Int} {y : YS} {i : Nat} (h : PoI p hd y i) {a : Int} (ha : ¬ (0 ≤ a ∧ a < (y.T.length : Int))) : takenP p.ns a = false := by
  rw [po_T h] at ha
  unfold takenP; rw [if_neg ha]
theorem pfree0_use {k m cap : Nat} {p : PoolS} {h : Int} {H : Hp} {n : Nat} {Q : AV → Hp → Nat → Prop} (hk : hget k H = some (pE p m cap)) (hm : hget m H = some (pR p cap)) (hlt : (k < n ∧ m < n) ∧ (k = m) = False) (hu : takenP p.ns h = false) (hl : 0 ≤ p.live ∧ p.live ≤ 70000)
    (hq : Q (.int .i64 0) ((m, pR p cap) :: (k, pE p m cap) :: hideH [m, k] H) n) :
    callA Try.prog 21 [.ptr k 0 [], .int .i64 h] H n Q := by
  refine pfree_use (js := []) hk hm hlt hu ⟨List.nodup_nil, by decide, hl⟩ ?_
  rw [frP_nil]; exact hq
structure PpA where
  i : Nat
  p : PoolS
  hd : List Int
  y : YS
  cp : Nat
  cf : Nat
  ct : Nat
  cx : Nat
  cn : Nat
structure PpI (l : List T17Op) (a : PpA) : Prop where
  il : a.i ≤ l.length ∧ a.i ≤ 80
  po : PoI a.p a.hd a.y a.i
  cf : a.y.F.length ≤ a.cf
theorem pp_next {l : List T17Op} {a : PpA} {p2 : PoolS} {hd2 : List Int} {y2 : YS} {cp cf ct cx cn : Nat} (h1 : a.i < l.length) (h2 : a.i < 80) (h : PoI p2 hd2 y2 (a.i + 1)) (hc : y2.F.length ≤ cf) : PpI l ⟨a.i + 1, p2, hd2, y2, cp, cf, ct, cx, cn⟩ := ⟨⟨h1, h2⟩, h, hc⟩
theorem pp_m {i m : Nat} (h : i < m) : m - (i + 1) < m - i := by omega
theorem rem8 {n : Int} (h : 0 ≤ n ∧ n ≤ 255) : ∃ K : Nat, remI n 8 = (K : Int) ∧ K < 8 := by
  have h1 : remI n 8 = n % 8 := by
    have := Int.tmod_eq_emod_of_nonneg (b := 8) h.1
    simpa [remI] using this
  exact ⟨(n % 8).toNat, by omega, by omega⟩
theorem xg_rows (y : YS) (js : List Int) : js.map (xV y) = (js.map (xG y.X)).map (AV.int .i64) := by rw [List.map_map]; rfl
theorem po_x {x : Int} {m : Nat} (lo : Int) (h0 : lo = 0 ∨ lo = -1) : (x < lo ∨ (¬ x < lo ∧ (m : Int) ≤ x)) ∨ (¬ x < lo ∧ ¬ (m : Int) ≤ x) := by omega
end Go.Proofs.Ytbkmhkeihbgcfaa
