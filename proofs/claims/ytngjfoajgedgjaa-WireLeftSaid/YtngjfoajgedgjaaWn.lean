/-
  Chapter 3: bytes taken by the reference.
-/
import Derived.Test.YtngjfoajgedgjaaWm
set_option linter.unusedVariables false
set_option linter.unusedSimpArgs false
set_option maxRecDepth 10000
set_option maxHeartbeats 0
namespace Go.Proofs.Ytngjfoajgedgjaa
open Go.Y
noncomputable def cx34 : Cx := ⟨Try.prog, [], [(12, ⟨0, [⟨0, false, [], [], [], 0⟩, ⟨3, false, [], [], [], 0⟩, ⟨4, false, [], [], [], 0⟩, ⟨5, false, [4], [], [], 0⟩, ⟨6, false, [3, 5], [], [], 0⟩, ⟨7, false, [6], [], [], 0⟩, ⟨1, true, [0], [7], [], 0⟩, ⟨2, false, [1], [], [], 0⟩, ⟨8, false, [1, 2, 7], [], [], 0⟩]⟩)], [(0, [0]), (1, [5, 0]), (2, [6, 5, 0]), (3, [7, 6, 5, 0]), (4, [16, 7, 6, 5, 0]), (5, [7, 6, 5, 0]), (6, [7, 6, 5, 0]), (7, [7, 6, 5, 0]), (8, [35, 7, 6, 5, 0]), (9, [8, 7, 5, 0]), (10, [41, 8, 7, 0]), (11, [8, 7, 0]), (12, [53, 8, 7, 0]), (13, [4, 3, 2]), (14, [4, 3, 2]), (15, [4, 3, 2])]⟩
theorem cx34_P : cx34.P = Try.prog := rfl
theorem cx34_l0 : lookL 0 cx34.lv = some [0] := rfl
theorem cx34_l1 : lookL 1 cx34.lv = some [5, 0] := rfl
theorem cx34_l2 : lookL 2 cx34.lv = some [6, 5, 0] := rfl
theorem cx34_l3 : lookL 3 cx34.lv = some [7, 6, 5, 0] := rfl
theorem cx34_l4 : lookL 4 cx34.lv = some [16, 7, 6, 5, 0] := rfl
theorem cx34_l6 : lookL 6 cx34.lv = some [7, 6, 5, 0] := rfl
theorem cx34_l7 : lookL 7 cx34.lv = some [7, 6, 5, 0] := rfl
theorem cx34_l8 : lookL 8 cx34.lv = some [35, 7, 6, 5, 0] := rfl
theorem cx34_l9 : lookL 9 cx34.lv = some [8, 7, 5, 0] := rfl
theorem cx34_l10 : lookL 10 cx34.lv = some [41, 8, 7, 0] := rfl
theorem cx34_l11 : lookL 11 cx34.lv = some [8, 7, 0] := rfl
theorem cx34_l12 : lookL 12 cx34.lv = some [53, 8, 7, 0] := rfl
theorem cx34_l13 : lookL 13 cx34.lv = some [4, 3, 2] := rfl
theorem cx34_l14 : lookL 14 cx34.lv = some [4, 3, 2] := rfl
theorem cx34_l5 : lookL 5 cx34.lv = some [7, 6, 5, 0] := rfl
theorem cx34_l15 : lookL 15 cx34.lv = some [4, 3, 2] := rfl
theorem cx34_p12 : lookP 12 cx34.pl = some ⟨0, [⟨0, false, [], [], [], 0⟩, ⟨3, false, [], [], [], 0⟩, ⟨4, false, [], [], [], 0⟩, ⟨5, false, [4], [], [], 0⟩, ⟨6, false, [3, 5], [], [], 0⟩, ⟨7, false, [6], [], [], 0⟩, ⟨1, true, [0], [7], [], 0⟩, ⟨2, false, [1], [], [], 0⟩, ⟨8, false, [1, 2, 7], [], [], 0⟩]⟩ := rfl
theorem cx34_pu : cx34.pu = [] := rfl
theorem cx34_ok : okc cx34 Try.f34.ntmps (Try.f34.body.getD .skip) = true := by kernel_rfl
theorem enter34 {args : List AV} {H : Hp} {n : Nat} {Q : AV → Hp → Nat → Prop} (h : args.length ≤ 61 ∧ Ev cx34 ⟨61, n, none, 34⟩ (Try.f34.body.getD .skip) ⟨argT 0 args, H, n⟩ (.top Try.f34.results.toList Q)) : callA Try.prog 34 args H n Q :=
  callA_ev (cx := cx34) puOk_nil (f := 34) (fn := Try.f34) Try.func34 rfl (by kernel_rfl) h.1 cx34_ok h.2
structure RtA where
  i : Nat
  x : Int
  sc : Int
/-- If the bytes begin with a number's bytes, this is how far it has come. -/
def rtInv (W : List Int) (a : RtA) : Prop := a.i ≤ W.length ∧ a.i ≤ 10 ∧ u64R a.x ∧ u64R a.sc ∧ ∀ x' r, u64R x' → W = enc x' ++ r → a.i ≤ 9 ∧ ∃ y, 0 ≤ y ∧ y < 2 * 128 ^ (9 - a.i) ∧ W.drop a.i = encF (9 - a.i) y ++ r ∧ (a.x + a.sc * y) % 18446744073709551616 = x'
theorem rt_start (W : List Int) : rtInv W ⟨0, 0, 1⟩ := by
  refine ⟨Nat.zero_le _, by decide, by unfold u64R; decide, by unfold u64R; decide, fun x' r hx h => ⟨by decide, x', hx.1, ?_, h, ?_⟩⟩
  · have := hx.2; show x' < 2 * 128 ^ 9; omega
  · have := hx.1; have := hx.2
    show (0 + 1 * x') % 18446744073709551616 = x'; omega
theorem rt_head {W : List Int} {a : RtA} (hi : rtInv W a) (hl : a.i < W.length) {x' : Int} {r : List Int} (hx : u64R x') (h : W = enc x' ++ r) : ∃ y, 0 ≤ y ∧ W.getD a.i default = (if y < 128 then y else y % 128 + 128) ∧ (a.x + a.sc * y) % 18446744073709551616 = x' ∧ a.i ≤ 9 ∧ (¬ y < 128 → a.i + 1 ≤ 9 ∧ y / 128 < 2 * 128 ^ (9 - (a.i + 1)) ∧ W.drop (a.i + 1) = encF (9 - (a.i + 1)) (y / 128) ++ r) ∧ (y < 128 → W.take (a.i + 1) = enc x' ) := by
  obtain ⟨h9, y, h0, h1, h2, h3⟩ := hi.2.2.2.2 x' r hx h
  have hd : W.drop a.i = W.getD a.i default :: W.drop (a.i + 1) := by
    rw [List.drop_eq_getElem_cons hl, List.getD_eq_getElem?_getD, List.getElem?_eq_getElem hl]; rfl
  rw [hd] at h2
  refine ⟨y, h0, ?_, h3, h9, ?_, ?_⟩
  · cases hf : 9 - a.i with
    | zero =>
      rw [hf] at h1 h2
      rw [encF] at h2
      rw [if_pos (by omega)]
      exact (List.cons.inj h2).1
    | succ f =>
      rw [hf, encF] at h2
      split at h2
      · rename_i hy; rw [if_pos hy]; exact (List.cons.inj h2).1
      · rename_i hy; rw [if_neg hy]; exact (List.cons.inj h2).1
  · intro hy
    cases hf : 9 - a.i with
    | zero => rw [hf] at h1; omega
    | succ f =>
      rw [hf, encF, if_neg hy] at h2
      have e : 9 - (a.i + 1) = f := by omega
      rw [hf, Int.pow_succ] at h1
      exact ⟨by omega, by rw [e]; omega, by rw [e]; exact (List.cons.inj h2).2⟩
  · intro hy
    have h4 : W.drop (a.i + 1) = r := by
      cases hf : 9 - a.i with
      | zero => rw [hf, encF] at h2; exact (List.cons.inj h2).2
      | succ f => rw [hf, encF, if_pos hy] at h2; exact (List.cons.inj h2).2
    have h5 := List.take_append_drop (a.i + 1) W
    rw [h4] at h5
    exact List.append_cancel_right (h5.trans h)
theorem rt_mod {x s p q : Int} {z1 z2 z3 : Int} (h1 : z1 = (p * s) % 18446744073709551616) (h2 : z2 = (x + z1) % 18446744073709551616) (h3 : z3 = (s * 128) % 18446744073709551616) : (z2 + z3 * q) % 18446744073709551616 = (x + s * (p + 128 * q)) % 18446744073709551616 := by
  have a1 := Int.mul_ediv_add_emod (p * s) 18446744073709551616
  have a2 := Int.mul_ediv_add_emod (x + z1) 18446744073709551616
  have a3 := Int.mul_ediv_add_emod (s * 128) 18446744073709551616
  rw [← h1] at a1; rw [← h2] at a2; rw [← h3] at a3
  have e : x + s * (p + 128 * q) = (z2 + z3 * q) + 18446744073709551616 * ((p * s) / 18446744073709551616 + (x + z1) / 18446744073709551616 + (s * 128) / 18446744073709551616 * q) := by
    have b1 : s * (p + 128 * q) = p * s + (s * 128) * q := by rw [Int.mul_add, Int.mul_comm s p, Int.mul_assoc]
    rw [b1, ← a1]
    conv => lhs; rw [← a3]
    rw [Int.add_mul, Int.mul_add, Int.mul_add, Int.mul_assoc]
    omega
  rw [e, Int.add_mul_emod_self_left]
theorem rt_next {W : List Int} {a : RtA} {z1 z2 z3 : Int} (hB : okB W) (hi : rtInv W a) (hl : a.i < W.length) (h10 : a.i < 10) (hc : ¬ W.getD a.i default < 128)
    (h1 : z1 = (W.getD a.i default % 128 * a.sc) % 18446744073709551616) (h2 : z2 = (a.x + z1) % 18446744073709551616) (h3 : z3 = (a.sc * 128) % 18446744073709551616) : rtInv W ⟨a.i + 1, z2, z3⟩ := by
  refine ⟨hl, h10, by show 0 ≤ z2 ∧ z2 < _; omega, by show 0 ≤ z3 ∧ z3 < _; omega, fun x' r hx h => ?_⟩
  obtain ⟨y, g0, g1, g2, g3, g4, _⟩ := rt_head hi hl hx h
  have hy : ¬ y < 128 := fun hy => by rw [if_pos hy] at g1; exact hc (by rw [g1]; exact hy)
  obtain ⟨g5, g6, g7⟩ := g4 hy
  refine ⟨g5, y / 128, by omega, g6, g7, ?_⟩
  rw [if_neg hy] at g1
  have e : W.getD a.i default % 128 = y % 128 := by omega
  rw [e] at h1
  show (z2 + z3 * (y / 128)) % 18446744073709551616 = x'
  rw [← g2, h2, h1, h3]
  have hy2 : y = y % 128 + 128 * (y / 128) := by omega
  have e2 := rt_mod (x := a.x) (s := a.sc) (p := y % 128) (q := y / 128) rfl rfl rfl
  rw [e2, ← hy2]
/-- The last byte. -/
theorem rt_last {W : List Int} {a : RtA} {z1 z2 : Int} (hB : okB W) (hi : rtInv W a) (hl : a.i < W.length) (hc : W.getD a.i default < 128)
    (h1 : z1 = (W.getD a.i default % 128 * a.sc) % 18446744073709551616) (h2 : z2 = (a.x + z1) % 18446744073709551616) : (eN (unz z2) = W.take (a.i + 1) → dec W = some (unz z2, a.i + 1)) ∧ (eN (unz z2) ≠ W.take (a.i + 1) → dec W = none) := by
  have hz : u64R z2 := by unfold u64R; omega
  refine ⟨fun h => ?_, fun h => ?_⟩
  · have h3 := List.take_append_drop (a.i + 1) W
    have h4 := dec_app (unz_R hz) (W.drop (a.i + 1))
    rw [h, h3] at h4
    rw [h4, List.length_take, Nat.min_eq_left hl]
  · cases hd : dec W with
    | none => rfl
    | some q =>
      exfalso
      obtain ⟨g1, g2, g3, g4, _⟩ := dec_some (n := q.1) (k := q.2) hB hd
      obtain ⟨y, k0, k1, k2, k3, k4, k5⟩ := rt_head hi hl (zz_R g1) g4
      have hb := hB (W.getD a.i default) (by rw [List.getD_eq_getElem?_getD, List.getElem?_eq_getElem hl]; exact List.getElem_mem hl)
      have hy : y < 128 := by
        apply Classical.byContradiction
        intro hy
        rw [if_neg hy] at k1; omega
      rw [if_pos hy] at k1
      have e : W.getD a.i default % 128 = y := by omega
      rw [e] at h1
      have e2 : z2 = zz q.1 := by
        rw [← k2, h2, h1, Int.add_emod, Int.emod_emod, ← Int.add_emod, Int.mul_comm]
      apply h
      rw [k5 hy, e2, unz_zz]; rfl
/-- Nothing ends. -/
theorem rt_end {W : List Int} {a : RtA} (hB : okB W) (hi : rtInv W a) (h : ¬ (a.i < W.length ∧ a.i < 10)) : dec W = none := by
  cases hd : dec W with
  | none => rfl
  | some q =>
    exfalso
    obtain ⟨g1, g2, g3, g4, g5, g6, g7⟩ := dec_some (n := q.1) (k := q.2) hB hd
    obtain ⟨h9, y, h0, h1, h2, h3⟩ := hi.2.2.2.2 _ _ (zz_R g1) g4
    have hl : a.i < W.length := by
      apply Classical.byContradiction
      intro hl
      rw [List.drop_of_length_le (by omega)] at h2
      have := congrArg List.length h2
      rw [List.length_append] at this
      have hp : 0 < (encF (9 - a.i) y).length := by
        cases 9 - a.i with
        | zero => simp [encF]
        | succ f => rw [encF]; split <;> simp
      simp at this; omega
    exact h ⟨hl, by omega⟩
theorem chkW_conv {cx : Cx} (all : List Oper) (base : Nat) (out : List Nat) (d : Nat) (s t : TypeId) (x : Operand) {T : Sl} {H : Hp} : ChkW cx all base out (some d) (.convert s t x) (some true) T H = SameO (convO cx.P s t (getO T x) (hideH (outs base out) H)) (getT T d) := by
  show oK (one (getO T x) fun v => convA cx.P s t v (hideH (outs base out) H)) (chkV (some d) T) = _
  unfold convO one
  cases getO T x with
  | none => rfl
  | some x => dsimp only; cases convA cx.P s t x (hideH (outs base out) H) <;> rfl
theorem sameO_bol (b : Bool) (u v : AV) : SameO (bol b (some u)) (some v) = (b = true ∧ v = u) := by cases b <;> simp [SameO, bol]
theorem and_byt {p : Prop} [Decidable p] {l : List Int} {R : Prop} (h : p ∧ bytB l = true) (hr : R) : (((if p then true else false) && bytB l) = true) ∧ R := ⟨by rw [if_pos h.1, h.2]; rfl, hr⟩
section
variable {P : Program} {cx : Cx} {fx : Fx} {kt : Kt} {t : TypeId} {H : Hp} {n : Nat}
theorem valK_byt {p : Prop} [Decidable p] {l : List Int} {v : AV} (h : p ∧ bytB l = true) (hk : ValK cx fx kt (some v) H n) : ValK cx fx kt (bol ((if p then true else false) && bytB l) (some v)) H n := by
  rw [if_pos h.1, h.2]; exact hk
theorem valK_bytT {l : List Int} {v : AV} (h : bytB l = true) (hk : ValK cx fx kt (some v) H n) : ValK cx fx kt (bol (bytB l) (some v)) H n := by
  rw [h]; exact hk
end
theorem byt_ok {l : List Int} (h : okB l) : bytB l = true := by
  unfold bytB
  rw [List.all_eq_true]
  intro a ha
  have := h a ha
  simp only [decide_eq_true_eq]; omega
theorem rt_c {B : List Int} {i len : Nat} (hB : okB B) (h : len ≤ B.length) (hi : (i : Int) < (len : Int)) : (((i : Int) + 1).toNat - 0 ≤ B.length ∨ ((i : Int) + 1).toNat - 0 = 0) ∧ bytB (B.take (((i : Int) + 1).toNat - 0)) = true := by
  refine ⟨.inl (by omega), byt_ok (okB_take hB _)⟩
theorem rt_m1 {z : Int} (h : 0 ≤ z ∧ z ≤ 18446744073709551615) : -9223372036854775808 ≤ 0 - z / 2 - 1 ∧ 0 - z / 2 - 1 ≤ 9223372036854775807 := by omega
theorem rt_m2 {z : Int} (h : 0 ≤ z ∧ z ≤ 18446744073709551615) : -9223372036854775808 ≤ z / 2 ∧ z / 2 ≤ 9223372036854775807 := by omega
theorem enc_zz_ok {m : Int} (h : -9223372036854775808 ≤ m ∧ m ≤ 9223372036854775807) : okB (enc (zz m)) := eN_ok h
theorem rt_c1 {l : List Int} (h : okB l) : (l.length ≤ l.length ∨ l.length = 0) ∧ bytB l = true := ⟨.inl (Nat.le_refl _), byt_ok h⟩
theorem toB_inj : ∀ {l m : List Int}, okB l → okB m → toB l = toB m → l = m
  | [], [], _, _, _ => rfl
  | [], _ :: _, _, _, h => by simp [toB] at h
  | _ :: _, [], _, _, h => by simp [toB] at h
  | a :: l, b :: m, hl, hm, h => by
    simp only [toB, List.map_cons, List.cons.injEq] at h
    have h1 := hl a (List.mem_cons_self ..)
    have h2 := hm b (List.mem_cons_self ..)
    have e := congrArg UInt8.toNat h.1
    rw [UInt8.toNat_ofNat', UInt8.toNat_ofNat'] at e
    have e2 : a = b := by omega
    rw [e2, toB_inj (fun x hx => hl x (List.mem_cons_of_mem _ hx)) (fun x hx => hm x (List.mem_cons_of_mem _ hx)) h.2]
theorem toB_beq {l m : List Int} (hl : okB l) (hm : okB m) : (toB l == toB m) = true ↔ l = m := by
  rw [beq_iff_eq]
  exact ⟨toB_inj hl hm, fun h => by rw [h]⟩
theorem unz_1 {z : Int} (h : z % 2 = 1) : 0 - z / 2 - 1 = unz z := by unfold unz; rw [if_neg (by omega)]; omega
theorem unz_0 {z : Int} (h : ¬ z % 2 = 1) : z / 2 = unz z := by unfold unz; rw [if_pos (by omega)]
theorem rt_cmp {B : List Int} {a : RtA} {len cap : Nat} {z1 z2 m : Int} (hB : okB B) (h : len ≤ B.length ∧ len ≤ cap ∧ len ≤ 1000000) (hi : rtInv (B.take len) a) (hl : (a.i : Int) < (len : Int)) (hc : B.getD a.i default < 128)
    (h1 : z1 = IntKind.u64.wrap (B.getD a.i default % 128 * a.sc) ∧ 0 ≤ z1 ∧ z1 ≤ 18446744073709551615) (h2 : z2 = IntKind.u64.wrap (a.x + z1) ∧ 0 ≤ z2 ∧ z2 ≤ 18446744073709551615) (hm : m = unz z2) :
    ((toB (enc (zz m)) == toB (B.take (((a.i : Int) + 1).toNat - 0))) = true → dec (B.take len) = some (m, a.i + 1)) ∧ ((toB (enc (zz m)) == toB (B.take (((a.i : Int) + 1).toNat - 0))) = false → dec (B.take len) = none) := by
  have hil : a.i < len := by omega
  have hW : (B.take len).length = len := by rw [List.length_take]; omega
  have hg : (B.take len).getD a.i default = B.getD a.i default := by
    rw [List.getD_eq_getElem?_getD, List.getD_eq_getElem?_getD, List.getElem?_take_of_lt hil]
  have ht : B.take (((a.i : Int) + 1).toNat - 0) = (B.take len).take (a.i + 1) := by
    rw [List.take_take, Nat.min_eq_left hil]; rfl
  have hR : u64R z2 := by unfold u64R; omega
  have := rt_last (a := a) (z1 := z1) (z2 := z2) (okB_take hB len) hi (by omega) (by rw [hg]; exact hc) (by rw [hg, h1.1, wrapU64]) (by rw [h2.1, wrapU64])
  subst hm
  rw [ht]
  refine ⟨fun hb => this.1 ((toB_beq (eN_ok (unz_R hR)) (okB_take (okB_take hB _) _)).1 hb), fun hb => this.2 fun e => ?_⟩
  exact Bool.noConfusion (hb.symm.trans ((toB_beq (eN_ok (unz_R hR)) (okB_take (okB_take hB _) _)).2 e))
theorem rt_step {B : List Int} {a : RtA} {len cap : Nat} {z1 z2 z3 : Int} (hB : okB B) (h : len ≤ B.length ∧ len ≤ cap ∧ len ≤ 1000000) (hi : rtInv (B.take len) a) (hl : (a.i : Int) < (len : Int)) (h10 : (a.i : Int) < 10) (hc : ¬ B.getD a.i default < 128)
    (h1 : z1 = IntKind.u64.wrap (B.getD a.i default % 128 * a.sc) ∧ 0 ≤ z1 ∧ z1 ≤ 18446744073709551615) (h2 : z2 = IntKind.u64.wrap (a.x + z1) ∧ 0 ≤ z2 ∧ z2 ≤ 18446744073709551615) (h3 : z3 = IntKind.u64.wrap (a.sc * 128) ∧ 0 ≤ z3 ∧ z3 ≤ 18446744073709551615) : rtInv (B.take len) ⟨a.i + 1, z2, z3⟩ := by
  have hil : a.i < len := by omega
  have hW : (B.take len).length = len := by rw [List.length_take]; omega
  have hg : (B.take len).getD a.i default = B.getD a.i default := by
    rw [List.getD_eq_getElem?_getD, List.getD_eq_getElem?_getD, List.getElem?_take_of_lt hil]
  exact rt_next (z1 := z1) (okB_take hB len) hi (by omega) (by omega) (by rw [hg]; exact hc) (by rw [hg, h1.1, wrapU64]) (by rw [h2.1, wrapU64]) (by rw [h3.1, wrapU64])
theorem rt_out {B : List Int} {a : RtA} {len cap : Nat} (hB : okB B) (h : len ≤ B.length ∧ len ≤ cap ∧ len ≤ 1000000) (hi : rtInv (B.take len) a) (hl : ¬ (a.i : Int) < (len : Int) ∨ ¬ (a.i : Int) < 10) : dec (B.take len) = none := by
  have hW : (B.take len).length = len := by rw [List.length_take]; omega
  exact rt_end (okB_take hB len) hi (by omega)
theorem rt_row {B : List Int} {len i : Nat} {f : Int → AV} : List.take (len - ((i : Int) + 1).toNat) (List.drop ((i : Int) + 1).toNat (B.map f)) = ((B.take len).drop (i + 1)).map f := by
  show List.take (len - (i + 1)) (List.drop (i + 1) (B.map f)) = _
  rw [← List.map_drop, ← List.map_take, List.drop_take]
theorem rt_le {len i : Nat} (h : len ≤ 1000000) : len - i ≤ 1000000 := by omega
theorem rt_room {B : List Int} {x y : Nat} {f : Int → AV} (h : x ≤ 1000000) : (List.take x (List.drop y (B.map f))).length * 1 ≤ 140737488355328 ∧ (List.take x (List.drop y (B.map f))).length ≤ 9223372036854775807 := by
  rw [List.length_take, List.length_drop, List.length_map]; omega
theorem rtake_loop {c : Code} {k : Kd} {B : List Int} {b : Bool} {rc len cap : Nat} (hcd : (subC [1, 1, 1, 0, 1, 0, 0] (Try.f34.body.getD .skip)) = c) (hB : okB B) (h : len ≤ B.length ∧ len ≤ cap ∧ len ≤ 1000000)
    (hexit : ∀ (b16 : Bool) (a : RtA), Imp (dec (B.take len) = none) (Nx cx34 ⟨61, 1, none, 34⟩ (.exi 0) ⟨[(16, .bool b16), (7, .int .i64 a.i), (6, .int .u64 a.sc), (5, .int .u64 a.x), (0, .slc 0 0 [] 1 0 0 len cap)], [(0, rowE b rc 1 (B.map (AV.int .u8)))], 1⟩ k))
    (hret0 : ∀ (m : Int) (c1 : Nat), Imp (dec (B.take len) = none) (Nx cx34 ⟨61, 1, none, 34⟩ .ret ⟨[(4, .bool false), (3, .nils), (2, .int .i64 0)], [(1, .vec c1 1 ((enc (zz m)).map (AV.int .u8))), (0, rowE b rc 1 (B.map (AV.int .u8)))], 2⟩ k))
    (hret1 : ∀ (m : Int) (j c1 c2 : Nat), Imp (dec (B.take len) = some (m, j) ∧ ((B.take len).drop j).length ≤ c2) (Nx cx34 ⟨61, 1, none, 34⟩ .ret ⟨[(4, .bool true), (3, .slc 3 0 [] 1 0 0 ((B.take len).drop j).length c2), (2, .int .i64 m)], [(3, .vec c2 1 (((B.take len).drop j).map (AV.int .u8))), (1, .vec c1 1 ((enc (zz m)).map (AV.int .u8))), (0, rowE b rc 1 (B.map (AV.int .u8)))], 4⟩ k)) :
    LoopS cx34 ⟨61, 1, none, 34⟩ c ⟨[(7, .int .i64 0), (6, .int .u64 1), (5, .int .u64 0), (0, .slc 0 0 [] 1 0 0 len cap)], [(0, rowE b rc 1 (B.map (AV.int .u8)))], 1⟩ k := by
  subst hcd
  refine loop_par (fun a : RtA => ⟨[(7, .int .i64 a.i), (6, .int .u64 a.sc), (5, .int .u64 a.x), (0, .slc 0 0 [] 1 0 0 len cap)], [(0, rowE b rc 1 (B.map (AV.int .u8)))], 1⟩) (rtInv (B.take len)) (fun a => len - a.i) ?_ ⟨0, 0, 1⟩ (rt_start _)
  intro a hi J hJ
  have g1 := okB_get hB a.i
  show Ev _ _ _ _ _
  sym =>
    repeat (first (apply enter34) (apply valK_byt; (tactic => first | exact rt_c hB h.1 ‹_› | (rename_i q2 _ _ _ _; exact rt_c1 (enc_zz_ok (rt_m1 q2.2))) | (rename_i q2 _ _ _ _; exact rt_c1 (enc_zz_ok (rt_m2 q2.2))) | (rename_i q2 _ _ _ _ _; exact rt_c1 (enc_zz_ok (rt_m1 q2.2))) | (rename_i q2 _ _ _ _ _; exact rt_c1 (enc_zz_ok (rt_m2 q2.2))) | (trace_state; exact test_fail))) (apply valK_wu64; · finish (splits := 3) (ematch := 1)) (apply valK_u64) (apply one_use; (tactic => first | (rename_i q2 _ _; exact rt_m1 q2.2) | (rename_i q2 _ _; exact rt_m2 q2.2) | (trace_state; exact test_fail))) (apply and_byt; (tactic => exact rt_c hB h.1 ‹_›)) (apply imp_go; intro hp) (apply valK_w64; · finish (splits := 3) (ematch := 1)) (apply valK_wu8; · finish (splits := 3) (ematch := 1)) (apply valK_wu64; · finish (splits := 3) (ematch := 1)) (apply valK_w32; · finish (splits := 3) (ematch := 1)) (apply valK_wu16; · finish (splits := 3) (ematch := 1)) (apply valK_wu32; · finish (splits := 3) (ematch := 1)) (apply valK_wr) (apply valK_andR) (apply valK_quo; · finish (splits := 3) (ematch := 1)) (apply valK_quoR; · finish (splits := 3) (ematch := 1)) (apply valK_rem; · finish (splits := 3) (ematch := 1)) (apply valK_remR; · finish (splits := 3) (ematch := 1)) (apply valK_bol; · finish (splits := 3) (ematch := 1)) (apply effK_bol; · finish (splits := 3) (ematch := 1)) (apply newK_bol; · finish (splits := 3) (ematch := 1)) (apply appK_bol; · finish (splits := 3) (ematch := 1)) (apply topO_bol; · finish (splits := 3) (ematch := 1)) (apply valK_altY; · finish (splits := 3) (ematch := 1)) (apply valK_altN; · finish (splits := 3) (ematch := 1)) (apply effK_altY; · finish (splits := 3) (ematch := 1)) (apply effK_altN; · finish (splits := 3) (ematch := 1)) (apply valK_altNY; · finish (splits := 3) (ematch := 1)) (apply valK_altNN; · finish (splits := 3) (ematch := 1)) (apply valK_altS) (apply valK_altNS) (apply effK_altS) (apply appS_go) (apply brC_y; · finish (splits := 3) (ematch := 1)) (apply brC_n; · finish (splits := 3) (ematch := 1)) (apply brC_yN; · finish (splits := 3) (ematch := 1)) (apply brC_nN; · finish (splits := 3) (ematch := 1)) (apply brC_s) (apply brC_sN) (apply wantK_y; · finish (splits := 3) (ematch := 1)) (apply wantK_n; · finish (splits := 3) (ematch := 1)) (apply wantK_yN; · finish (splits := 3) (ematch := 1)) (apply wantK_nN; · finish (splits := 3) (ematch := 1)) (apply wantK_s) (apply wantK_sN) (apply rowG_y; · finish (splits := 3) (ematch := 1)) (apply rowG_n; · finish (splits := 3) (ematch := 1)) (apply rowG_yN; · finish (splits := 3) (ematch := 1)) (apply rowG_nN; · finish (splits := 3) (ematch := 1)) (apply rowG_s) (apply rowG_sN) (simp [loadE_rowE, elemsE_rowE, Int.toNat_natCast, chkW_conv, sameO_bol, bin_sneq, bin_seql, eIns_eq, cx34_P, cx34_l0, cx34_l1, cx34_l2, cx34_l3, cx34_l4, cx34_l6, cx34_l7, cx34_l8, cx34_l9, cx34_l10, cx34_l11, cx34_l12, cx34_l13, cx34_l14, cx34_l5, cx34_l15, cx34_p12, cx34_pu, Try.f34.eq_1, ty_arrOf_3, ty_arrOf_39, ty_arrOf_5, ty_arrOf_72, ty_arrOf_9, ty_bytesE_39, ty_hasTy_3, ty_hasTy_39, ty_hasTy_5, ty_hasTy_72, ty_intOf_3, ty_intOf_5, ty_intOf_72, ty_isByteSlc_39, ty_isStrTy_9, ty_lay_3, ty_lay_39, ty_lay_5, ty_notInt_39, ty_slcOf_3, ty_slcOf_39, ty_slcOf_5, ty_slcOf_72, ty_slcOf_9, ty_zeroA_3, ty_zeroE_39, valK_some, newK_some, opE_move, opE_assign, opE_pick, opE_load, opE_bin, opE_un, opE_conv, opE_slice, opE_indexAddr, opE_len, opE_buildSlice, callK_fn, callK_yld, callG_some, callG_none, appK_some, opE_call_r, opE_append_r, opE_store_w, opE_call_w, opE_append_w, ev_seq, ev_skip, ev_label, ev_region, ev_draw, evDO_some, ev_cond, condC_some, brC_true, brC_false, ev_block, ev_scope, ev_exit, ev_ret, ev_loop, nx_seq, nx_seqE, nx_seqR, nx_blk, nx_blkE, nx_blkR, nx_loop, nx_loopE, nx_loopR, nx_inv, nx_invE, nx_invR, nx_top, nx_topR, topO_some, evR_nil, wantK_tup, wantK_tt, wantK_ff, wantK_tf, wantK_ft, evR_op, evR_guard, evD_nil, evD_row, rowK_eff, rowK_calm, rowK_guard, rowG_tup, rowG_tt, rowG_ff, rowG_tf, rowG_ft, rowN_eq, chkA_nil, chkA_cons, chkO_some, chkW_false, sameO_some, chkW_load, chkW_len, finK_reg, finK_row, finK_calm, finN_reg, finN_row, finN_calm, nid_reg, nid_row, nid_calm, getT_cons, putT_some, putT_none, trimT_some, trimT_none, keepT_nil, keepT_cons, consT_some, consT_none, getT_nil, getO_tmp, getO_const, getO_func, ofC_int, ofC_bool, ofC_ptr, ofC_slc, ofC_map, ofC_fn, getOs_nil, getOs_cons, consO_some, guardT_eq, guardO_some, wantA_none, wantA_some, wantO_tup, wantO_tt, wantO_ff, wantO_tf, wantO_ft, hget_cons, hdel_cons, memb_nil, memb_cons, hideH_cons, showH_cons, hideH_none, showH_none, showH_nil, outs_nil, outs_cons, app_nil, nil_app, cons_app, dropO_some, dropO_none, rowOf_cons, wrap_lit, wrap_neg, top_i64, bot_i64, top_u8, bot_u8, top_u64, bot_u64, bits_u8, bits_i64, bits_u64, cast_lit, toNat_lit, get_zero, get_succ, take_zero, take_succ, set_zero, set_succ, length_nil, length_cons, append_nil, nil_append, cons_append, toList_arr, rep_zero, rep_succ, bnot_true, bnot_false, band_true, band_false, beq_tt, beq_ff, beq_tf, beq_ft, beq_nat, beq_int, bne_nat, map_some, map_none, true_eq_false, false_eq_true, true_eq_true, fbody_mk, fresults_mk, getD_some, bol_true, binO_some, quo_lit, quo_neg, rem_lit, rem_neg, bin_eql, bin_neq, bin_lss, bin_beql, bin_bneq, bin_seql, bin_sneq, eqO_eq, eqO_ne, bin_aeql, bin_aneq, bin_reql, bin_rneq, aggEq_some, flatL_nil, flatL_cons, appV_some, flatV_int, flatV_bool, flatV_agg, flatV_rows, bin_feql, bin_fneq, bin_nfeql, bin_nfneq, bin_peql, bin_pneq, bin_npeql, bin_npneq, unO_some, un_not, convO_some, conv_int, pickA_true, pickA_false, size_int, size_bool, size_str, size_ptr, size_nilp, size_slc, size_nils, size_map, size_nilm, size_fn, size_yld, size_nilf, size_agg, size_rows, sizeL_nil, sizeL_cons, layOK_int, layOK_bool, layOK_str, layOK_ptr, layOK_nilp, layOK_slc, layOK_nils, layOK_map, layOK_nilm, layOK_fn, layOK_yld, layOK_nilf, layOK_agg, layOK_rows, isTup_int, isTup_bool, isTup_str, isTup_ptr, isTup_nilp, isTup_slc, isTup_nils, isTup_map, isTup_nilm, isTup_fn, isTup_yld, isTup_nilf, isTup_agg, isTup_rows, getP_nil, getP_cons, getS_some, stepP_agg, stepP_rows, loadO_some, loadA_ptr, loadE_cel, loadE_vec, loadE_ro, chkL_some, iaO_some, partsO_nil, partsO_cons, setA_agg, setA_rows, setC_some, setD_some, fillQ_nil, fillQ_cons, fillM_some, fitZ_some, bs_some, bsO_some, sliceO_some, slice_slc, slO_some, slice_nils, slN_some, slice_ptr, slA_some, cutA_some, cutN_some, sliceB_none, sliceB_hi, sbH_some, sbL_none, sbL_some, sbX_some, builtO_some, len_slc, len_nils, len_rows, arN_some, appO_some, apO_some, own_nils, own_slc, more_nils, more_slc, resF_eq, resAll_nil, resAll_cons, resOne_tmp, resOne_cell, tupO_none, tupO_one, tupO_more, argT_nil, argT_cons, lookU_nil, lookU_cons, lookL_cons, lookL_nil, lookP_cons, roundS_eq, mbin_add, mbin_sub, mbin_mul, mbin_quo, mbin_rem, mun_neg, mcvI_some, wrapO_lit, wrapO_neg, mia_ptr, mia_slc, mbndA_int, mowO_vec, not_tf, not_ft, and_tf, not_not_b, alt_true, alt_false, pick_alt, bol_false, getS_bol, getS_alt, chkL_bol, chkL_alt, consO_bol, consO_bol2, tupO_bol, sbX_bol, sbH_bol, cutA_bol, cutN_bol, apO_bol, apO_bol2, fillM_bol, eqO_bol, bol_bol, get_mapB, get_setB, get_appB, len_map, len_app, nat_zero_add, take_map, take_self, drop_zero, elemsE_vec, elemsE_ro, elemsE_cel, elemsC_rows, elemsC_bol, bin_nsleql, bin_nslneq, bin_nnleql, bin_nnlneq, slN_bol, conv_slc, conv_nils, cvS_some, cvS_bol, strO_map, strO_win, strO_take, strO_drop, strO_nil, beq_str, roomOk_eq, roomB_some, subC_nil, subC_seq0, subC_seq1, subC_cond0, subC_cond1, subC_block, subC_scope, subC_loop, subC_ran0, subC_ran1, hideH_nil, and_self, and_true, true_and, and_false, false_and]) (apply chkW_want) (apply chkW_wantA) (apply valK_bolB; · finish (splits := 3) (ematch := 1)) (apply valK_altT; · finish (splits := 3) (ematch := 1)) (apply valK_altF; · finish (splits := 3) (ematch := 1)) (apply valK_altB) (apply brC_t; · finish (splits := 3) (ematch := 1)) (apply brC_f; · finish (splits := 3) (ematch := 1)) (apply brC_sBN) (apply brC_sB) (apply wantK_t; · finish (splits := 3) (ematch := 1)) (apply wantK_f; · finish (splits := 3) (ematch := 1)) (apply wantK_sBN) (apply wantK_sB) (apply rowG_t; · finish (splits := 3) (ematch := 1)) (apply rowG_f; · finish (splits := 3) (ematch := 1)) (apply rowG_sBN) (apply rowG_sB) (intro~ hr) (tactic => first | exact rt_room (rt_le h.2.2) | exact nx_at (hexit _ a (rt_out hB h hi (.inl hp))) rfl | exact nx_at (hexit _ a (rt_out hB h hi (.inr hp))) rfl | (rename_i q1 q2 z1 q3 z2 q4 z3 q5 q6 q7 q8; exact hret0 _ _ ((rt_cmp hB h hi q1 q6 q3 q4 (unz_1 q7)).2 hp)) | (rename_i q1 q2 z1 q3 z2 q4 z3 q5 q6 q7 q8; exact hret0 _ _ ((rt_cmp hB h hi q1 q6 q3 q4 (unz_0 q7)).2 hp)) | (rename_i q1 q2 z1 q3 z2 q4 z3 q5 q6 q7 c0 q8 q9; rw [rt_row, List.length_map] at hp ⊢; exact hret1 _ _ _ _ ⟨(rt_cmp hB h hi q1 q6 q3 q4 (unz_1 q7)).1 q9, hp⟩) | (rename_i q1 q2 z1 q3 z2 q4 z3 q5 q6 q7 c0 q8 q9; rw [rt_row, List.length_map] at hp ⊢; exact hret1 _ _ _ _ ⟨(rt_cmp hB h hi q1 q6 q3 q4 (unz_0 q7)).1 q9, hp⟩) | (rename_i q1 q2 z1 q3 z2 q4 q5; refine hJ [0] ⟨a.i + 1, z2, hr⟩ _ (reid_of rfl (by decide) rfl ?_ ?_ (ndB_nodup rfl) ?_) (rt_step hB h hi q1 q2 hp q3 q4 q5) (rd_meas q1) <;> simp [subT, subH, okW, getT, hget, hset, hdel, idx, AV.ren, renL, er_vec, er_cel, er_row, ew_vec, ew_cel, renL_ints, rowE_ren, renL_app]; done) | (trace_state; exact test_fail)))
end Go.Proofs.Ytngjfoajgedgjaa
