/-
  Chapter 8: the law CoverOnce.
-/
import Derived.Test.YtimolomjpmkbiaaEe
set_option linter.unusedVariables false
set_option linter.unusedSimpArgs false
set_option maxRecDepth 100000
set_option maxHeartbeats 0
namespace Go.Proofs.Ytimolomjpmkbiaa
open Go.Y
/-- A place is on an edge's side. -/
def okP (px py qx qy x y : Int) : Prop := 0 < crossI px py qx qy x y ∨ (crossI px py qx qy x y = 0 ∧ (qy < py ∨ (py = qy ∧ px < qx)))
theorem ok_out {px py qx qy x y : Int} : okP px py qx qy x y ↔ outI px py qx qy x y = false := by
  unfold okP outI
  rw [← first_t]
  split
  · simp; omega
  · split
    · rename_i h; simp [h]
    · simp; omega
theorem in_iff {x0 y0 x1 y1 x2 y2 x y : Int} : inI x0 y0 x1 y1 x2 y2 x y = true ↔ 0 < crossI x0 y0 x1 y1 x2 y2 ∧ okP x0 y0 x1 y1 x y ∧ okP x1 y1 x2 y2 x y ∧ okP x2 y2 x0 y0 x y := by
  rw [ok_out, ok_out, ok_out]
  unfold inI
  split
  · simp; omega
  · split
    · rename_i h; simp [h]
    · split
      · rename_i h; simp [h]
      · split
        · rename_i h; simp [h]
        · simp_all
/-- On the two sides of an edge. -/
theorem ok_anti {px py qx qy x y : Int} (h1 : okP px py qx qy x y) (h2 : okP qx qy px py x y) : False := by
  unfold okP at h1 h2
  have e : crossI qx qy px py x y = -crossI px py qx qy x y := by unfold crossI; grind
  rw [e] at h2
  omega
theorem ok_or {px py qx qy : Int} (x y : Int) (h : ¬ (px = qx ∧ py = qy)) : okP px py qx qy x y ∨ okP qx qy px py x y := by
  unfold okP
  have e : crossI qx qy px py x y = -crossI px py qx qy x y := by unfold crossI; grind
  rw [e]
  omega
/-- The third product, of two (vectors about a corner). -/
theorem fan_sgn {A B C kc ka kp ax ay bx by_ cx cy : Int} (hA : 1 ≤ A) (hB : 1 ≤ B) (hC : 0 ≤ C) (id : B * kc = A * ka + C * kp) (ix : A * ax = B * cx + C * bx) (iy : A * ay = B * cy + C * by_)
    (ha : 0 < ka ∨ (ka = 0 ∧ (ay < 0 ∨ (ay = 0 ∧ 0 < ax)))) (hb : 0 < kp ∨ (kp = 0 ∧ (0 < by_ ∨ (by_ = 0 ∧ bx < 0)))) : 0 < kc ∨ (kc = 0 ∧ (cy < 0 ∨ (cy = 0 ∧ 0 < cx))) := by
  have p1 := pos_mul hB (e := kc)
  have h0 : 0 ≤ C * kp := Int.mul_nonneg hC (by omega)
  rcases ha with ha | ⟨ha, ha'⟩
  · have := Int.mul_pos (show 0 < A by omega) ha
    exact .inl (p1.1.1 (by omega))
  · subst ha
    rw [Int.mul_zero, Int.zero_add] at id
    have p3 := pos_mul hA (e := ax)
    have p4 := pos_mul hA (e := ay)
    have p5 := pos_mul hB (e := cx)
    have p6 := pos_mul hB (e := cy)
    by_cases hc : C = 0
    · subst hc
      rw [Int.zero_mul] at id ix iy
      have hk := p1.2.2.1 id
      refine .inr ⟨hk, ?_⟩
      clear p1 hb h0 id
      omega
    · have hC' : 1 ≤ C := by omega
      rcases hb with hb | ⟨hb, hb'⟩
      · have := Int.mul_pos (show 0 < C by omega) hb
        exact .inl (p1.1.1 (by omega))
      · subst hb
        rw [Int.mul_zero] at id
        have hk := p1.2.2.1 id
        refine .inr ⟨hk, ?_⟩
        have p8 := pos_mul hC' (e := bx)
        have p9 := pos_mul hC' (e := by_)
        clear p1 h0 id
        rcases hb' with hb' | ⟨hb', hb''⟩ <;> rcases ha' with ha' | ⟨ha', ha''⟩ <;> omega
theorem fan_sgn' {A B C kc ka kp ax ay bx by_ cx cy : Int} (hA : 1 ≤ A) (hB : 1 ≤ B) (hC : 0 ≤ C) (id : B * kc = A * ka + C * kp) (ix : A * ax = B * cx + C * bx) (iy : A * ay = B * cy + C * by_)
    (ha : 0 < ka ∨ (ka = 0 ∧ (0 < ay ∨ (ay = 0 ∧ ax < 0)))) (hb : 0 < kp ∨ (kp = 0 ∧ (by_ < 0 ∨ (by_ = 0 ∧ 0 < bx)))) : 0 < kc ∨ (kc = 0 ∧ (0 < cy ∨ (cy = 0 ∧ cx < 0))) := by
  have p1 := pos_mul hB (e := kc)
  have h0 : 0 ≤ C * kp := Int.mul_nonneg hC (by omega)
  rcases ha with ha | ⟨ha, ha'⟩
  · have := Int.mul_pos (show 0 < A by omega) ha
    exact .inl (p1.1.1 (by omega))
  · subst ha
    rw [Int.mul_zero, Int.zero_add] at id
    have p3 := pos_mul hA (e := ax)
    have p4 := pos_mul hA (e := ay)
    have p5 := pos_mul hB (e := cx)
    have p6 := pos_mul hB (e := cy)
    by_cases hc : C = 0
    · subst hc
      rw [Int.zero_mul] at id ix iy
      have hk := p1.2.2.1 id
      refine .inr ⟨hk, ?_⟩
      clear p1 hb h0 id
      omega
    · have hC' : 1 ≤ C := by omega
      rcases hb with hb | ⟨hb, hb'⟩
      · have := Int.mul_pos (show 0 < C by omega) hb
        exact .inl (p1.1.1 (by omega))
      · subst hb
        rw [Int.mul_zero] at id
        have hk := p1.2.2.1 id
        refine .inr ⟨hk, ?_⟩
        have p8 := pos_mul hC' (e := bx)
        have p9 := pos_mul hC' (e := by_)
        clear p1 h0 id
        rcases hb' with hb' | ⟨hb', hb''⟩ <;> rcases ha' with ha' | ⟨ha', ha''⟩ <;> omega
/-- About the corner v: behind the edge from b, and the edge to a, comes the edge to c. -/
theorem ok_next {vx vy ax ay bx by_ cx cy x y : Int} (h1 : 0 < crossI vx vy ax ay bx by_) (h2 : 0 ≤ crossI vx vy cx cy ax ay) (h3 : 0 < crossI vx vy cx cy bx by_) (ha : okP vx vy ax ay x y) (hb : okP bx by_ vx vy x y) : okP vx vy cx cy x y := by
  unfold okP at *
  have := fan_sgn (A := crossI vx vy cx cy bx by_) (B := crossI vx vy ax ay bx by_) (C := crossI vx vy cx cy ax ay) (kc := crossI vx vy cx cy x y) (ka := crossI vx vy ax ay x y) (kp := crossI bx by_ vx vy x y)
    (ax := ax - vx) (ay := ay - vy) (bx := bx - vx) (by_ := by_ - vy) (cx := cx - vx) (cy := cy - vy) (by omega) (by omega) h2 (by unfold crossI; grind) (by unfold crossI; grind) (by unfold crossI; grind) (by omega) (by omega)
  omega
/-- And the edge from c, behind the edge to b and the edge from a. -/
theorem ok_prev {vx vy ax ay bx by_ cx cy x y : Int} (h1 : 0 < crossI vx vy bx by_ ax ay) (h2 : 0 ≤ crossI vx vy ax ay cx cy) (h3 : 0 < crossI vx vy bx by_ cx cy) (ha : okP ax ay vx vy x y) (hb : okP vx vy bx by_ x y) : okP cx cy vx vy x y := by
  unfold okP at *
  have := fan_sgn' (A := crossI vx vy bx by_ cx cy) (B := crossI vx vy bx by_ ax ay) (C := crossI vx vy ax ay cx cy) (kc := crossI cx cy vx vy x y) (ka := crossI ax ay vx vy x y) (kp := crossI vx vy bx by_ x y)
    (ax := ax - vx) (ay := ay - vy) (bx := bx - vx) (by_ := by_ - vy) (cx := cx - vx) (cy := cy - vy) (by omega) (by omega) h2 (by unfold crossI; grind) (by unfold crossI; grind) (by unfold crossI; grind) (by omega) (by omega)
  omega
theorem cr_rot (a b c d e f : Int) : crossI c d e f a b = crossI a b c d e f := by unfold crossI; grind
/-- One of two triangles of a figure is in the two others. -/
theorem quad_one {ax ay bx by_ cx cy dx dy x y : Int} (h1 : 0 < crossI ax ay bx by_ cx cy) (h2 : 0 < crossI bx by_ ax ay dx dy) (h3 : 0 < crossI cx cy dx dy bx by_) (h4 : 0 < crossI dx dy cx cy ax ay)
    (hi : inI ax ay bx by_ cx cy x y = true) : inI cx cy dx dy bx by_ x y = true ∨ inI dx dy cx cy ax ay x y = true := by
  rw [in_iff] at *
  rw [in_iff]
  obtain ⟨_, k1, k2, k3⟩ := hi
  have hne : ¬ (cx = dx ∧ cy = dy) := by
    rintro ⟨rfl, rfl⟩
    unfold crossI at h3; rw [Int.sub_self, Int.sub_self, Int.zero_mul, Int.zero_mul] at h3; omega
  have ka : okP ax ay dx dy x y := ok_next (ax := bx) (ay := by_) (bx := cx) (by_ := cy) h1 (by have := cr_rot dx dy bx by_ ax ay; have := cr_rot ax ay dx dy bx by_; omega) (by have := cr_rot dx dy cx cy ax ay; have := cr_rot ax ay dx dy cx cy; omega) k1 k3
  have kb : okP dx dy bx by_ x y := ok_prev (ax := ax) (ay := ay) (bx := cx) (by_ := cy) (by have := cr_rot ax ay bx by_ cx cy; omega) (by omega) (by have := cr_rot cx cy dx dy bx by_; have := cr_rot bx by_ cx cy dx dy; omega) k1 k2
  rcases ok_or x y hne with k | k
  · exact .inl ⟨h3, k, kb, k2⟩
  · exact .inr ⟨h4, k, k3, ka⟩
/-- Both ways to cut a figure have the same places. -/
theorem quad_same {ax ay bx by_ cx cy dx dy x y : Int} (h1 : 0 < crossI ax ay bx by_ cx cy) (h2 : 0 < crossI bx by_ ax ay dx dy) (h3 : 0 < crossI cx cy dx dy bx by_) (h4 : 0 < crossI dx dy cx cy ax ay) :
    (inI ax ay bx by_ cx cy x y || inI bx by_ ax ay dx dy x y) = (inI cx cy dx dy bx by_ x y || inI dx dy cx cy ax ay x y) := by
  rw [Bool.eq_iff_iff, Bool.or_eq_true, Bool.or_eq_true]
  constructor
  · rintro (h | h)
    · exact quad_one h1 h2 h3 h4 h
    · exact (quad_one h2 h1 h4 h3 h).symm
  · rintro (h | h)
    · exact (quad_one (ax := cx) (ay := cy) (bx := dx) (by_ := dy) (cx := bx) (cy := by_) (dx := ax) (dy := ay) h3 h4 h2 h1 h).symm
    · exact quad_one (ax := dx) (ay := dy) (bx := cx) (by_ := cy) (cx := ax) (cy := ay) (dx := bx) (dy := by_) h4 h3 h1 h2 h
theorem in_apart {ax ay bx by_ cx cy dx dy x y : Int} : (inI ax ay bx by_ cx cy x y && inI bx by_ ax ay dx dy x y) = false := by
  cases h1 : inI ax ay bx by_ cx cy x y
  · rfl
  · cases h2 : inI bx by_ ax ay dx dy x y
    · rfl
    · exact (ok_anti (in_iff.1 h1).2.1 (in_iff.1 h2).2.1).elim
theorem and_dec : ∀ p0 q0 p1 q1 p2 q2 p3 q3 : Bool, (p0 && q0) = false → (p1 && q1) = false → (p2 && q2) = false → (p3 && q3) = false → bitI .and .u8 (bI p0 1 + bI p1 2 + bI p2 4 + bI p3 8) (bI q0 1 + bI q1 2 + bI q2 4 + bI q3 8) = 0 := by decide
theorem or_dec : ∀ p0 q0 p1 q1 p2 q2 p3 q3 : Bool, bitI .or .u8 (bI p0 1 + bI p1 2 + bI p2 4 + bI p3 8) (bI q0 1 + bI q1 2 + bI q2 4 + bI q3 8) = bI (p0 || q0) 1 + bI (p1 || q1) 2 + bI (p2 || q2) 4 + bI (p3 || q3) 8 := by decide
theorem mask_apart {ax ay bx by_ cx cy dx dy x y : Int} : bitI .and .u8 (maskI ax ay bx by_ cx cy x y) (maskI bx by_ ax ay dx dy x y) = 0 :=
  and_dec _ _ _ _ _ _ _ _ in_apart in_apart in_apart in_apart
theorem mask_same {ax ay bx by_ cx cy dx dy x y : Int} (h1 : ¬ crossI ax ay bx by_ cx cy ≤ 0) (h2 : ¬ crossI bx by_ ax ay dx dy ≤ 0) (h3 : ¬ crossI cx cy dx dy bx by_ ≤ 0) (h4 : ¬ crossI dx dy cx cy ax ay ≤ 0) :
    bitI .or .u8 (maskI ax ay bx by_ cx cy x y) (maskI bx by_ ax ay dx dy x y) = bitI .or .u8 (maskI cx cy dx dy bx by_ x y) (maskI dx dy cx cy ax ay x y) := by
  have q := fun x y : Int => quad_same (x := x) (y := y) (ax := ax) (ay := ay) (bx := bx) (by_ := by_) (cx := cx) (cy := cy) (dx := dx) (dy := dy) (by omega) (by omega) (by omega) (by omega)
  unfold maskI
  rw [or_dec, or_dec, q (16 * x + 2) (16 * y + 6), q (16 * x + 6) (16 * y + 14), q (16 * x + 10) (16 * y + 2), q (16 * x + 14) (16 * y + 10)]
noncomputable def cx6 : Cx := ⟨Try.prog, [], [], ((0, [3, 2]) :: (1, [5, 3, 2]) :: (2, [6, 5, 3, 2]) :: (3, [7, 6, 5, 3, 2]) :: (4, [21, 7, 6, 5, 3, 2]) :: (5, [7, 6, 5, 3, 2]) :: (6, [7, 6, 5, 3, 2]) :: (7, [8, 6, 5, 3]) :: (8, [9, 8, 6, 5]) :: (9, [10, 9, 8, 6, 5]) :: (10, [11, 10, 9, 8, 6, 5]) :: (11, [57, 11, 10, 9, 8, 6, 5]) :: (12, [4]) :: (13, [12, 11, 9, 8, 6, 5]) :: (14, [13, 12, 9, 8, 6, 5]) :: (15, [70, 13, 12, 9, 8, 6, 5]) :: (16, [4]) :: (17, [14, 13, 12, 9, 8, 6, 5]) :: (18, [15, 14, 13, 12, 9, 8, 5]) :: (19, [92, 15, 14, 13, 12, 9, 8, 5]) :: (20, [4]) :: (21, [16, 15, 13, 12, 9, 8, 5]) :: (22, [17, 16, 13, 12, 5]) :: (23, [4]) :: [])⟩
theorem cx6_P : cx6.P = Try.prog := rfl
theorem cx6_l0 : lookL 0 cx6.lv = some [3, 2] := rfl
theorem cx6_l1 : lookL 1 cx6.lv = some [5, 3, 2] := rfl
theorem cx6_l2 : lookL 2 cx6.lv = some [6, 5, 3, 2] := rfl
theorem cx6_l3 : lookL 3 cx6.lv = some [7, 6, 5, 3, 2] := rfl
theorem cx6_l4 : lookL 4 cx6.lv = some [21, 7, 6, 5, 3, 2] := rfl
theorem cx6_l6 : lookL 6 cx6.lv = some [7, 6, 5, 3, 2] := rfl
theorem cx6_l5 : lookL 5 cx6.lv = some [7, 6, 5, 3, 2] := rfl
theorem cx6_l7 : lookL 7 cx6.lv = some [8, 6, 5, 3] := rfl
theorem cx6_l8 : lookL 8 cx6.lv = some [9, 8, 6, 5] := rfl
theorem cx6_l9 : lookL 9 cx6.lv = some [10, 9, 8, 6, 5] := rfl
theorem cx6_l10 : lookL 10 cx6.lv = some [11, 10, 9, 8, 6, 5] := rfl
theorem cx6_l11 : lookL 11 cx6.lv = some [57, 11, 10, 9, 8, 6, 5] := rfl
theorem cx6_l12 : lookL 12 cx6.lv = some [4] := rfl
theorem cx6_l13 : lookL 13 cx6.lv = some [12, 11, 9, 8, 6, 5] := rfl
theorem cx6_l14 : lookL 14 cx6.lv = some [13, 12, 9, 8, 6, 5] := rfl
theorem cx6_l15 : lookL 15 cx6.lv = some [70, 13, 12, 9, 8, 6, 5] := rfl
theorem cx6_l16 : lookL 16 cx6.lv = some [4] := rfl
theorem cx6_l17 : lookL 17 cx6.lv = some [14, 13, 12, 9, 8, 6, 5] := rfl
theorem cx6_l18 : lookL 18 cx6.lv = some [15, 14, 13, 12, 9, 8, 5] := rfl
theorem cx6_l19 : lookL 19 cx6.lv = some [92, 15, 14, 13, 12, 9, 8, 5] := rfl
theorem cx6_l20 : lookL 20 cx6.lv = some [4] := rfl
theorem cx6_l21 : lookL 21 cx6.lv = some [16, 15, 13, 12, 9, 8, 5] := rfl
theorem cx6_l22 : lookL 22 cx6.lv = some [17, 16, 13, 12, 5] := rfl
theorem cx6_l23 : lookL 23 cx6.lv = some [4] := rfl
theorem cx6_pu : cx6.pu = [] := rfl
theorem cx6_ok : okc cx6 Try.f6.ntmps (Try.f6.body.getD .skip) = true := by kernel_rfl
theorem enter6 {args : List AV} {H : Hp} {n : Nat} {Q : AV → Hp → Nat → Prop} (h : args.length ≤ 118 ∧ Ev cx6 ⟨118, n, none, 6⟩ (Try.f6.body.getD .skip) ⟨argT 0 args, H, n⟩ (.top Try.f6.results.toList Q)) : callA Try.prog 6 args H n Q :=
  callA_ev (cx := cx6) puOk_nil (f := 6) (fn := Try.f6) Try.func6 rfl (by kernel_rfl) h.1 cx6_ok h.2
theorem once8_walk (x0_0 : TPoint) (x0_1 : TPoint) (x0_2 : TPoint) (x0_3 : TPoint) (x1_0 : Int) (x1_1 : Int) (h0_0 : wPoint x0_0) (h0_1 : wPoint x0_1) (h0_2 : wPoint x0_2) (h0_3 : wPoint x0_3) (h1_0 : (-9223372036854775808 ≤ x1_0 ∧ x1_0 ≤ 9223372036854775807)) (h1_1 : (-9223372036854775808 ≤ x1_1 ∧ x1_1 ≤ 9223372036854775807)) : callA Try.prog 6 [.rows 7 [ePoint x0_0, ePoint x0_1, ePoint x0_2, ePoint x0_3], .rows 1 [.int .i64 x1_0, .int .i64 x1_1]] [] 0 fun v _ _ => v = .bool true := by
  have b0 := rem_bd x1_0 1025 (by omega)
  have b1 := rem_bd x1_1 1025 (by omega)
  show callA _ _ _ _ _ _
  sym =>
    repeat (first (apply enter6) (apply shown8_use) (apply small_use) (apply rarea_use; (tactic => ((try simp only [sml]); omega))) (apply mask_use; (tactic => ((try simp only [sml]); omega))) (apply loop_next) (apply imp_go; intro hp) (apply valK_w64; · finish (splits := 3) (ematch := 1)) (apply valK_wu8; · finish (splits := 3) (ematch := 1)) (apply valK_wu64; · finish (splits := 3) (ematch := 1)) (apply valK_w32; · finish (splits := 3) (ematch := 1)) (apply valK_wu16; · finish (splits := 3) (ematch := 1)) (apply valK_wu32; · finish (splits := 3) (ematch := 1)) (apply valK_wr) (apply valK_andR) (apply valK_quo; · finish (splits := 3) (ematch := 1)) (apply valK_quoR; · finish (splits := 3) (ematch := 1)) (apply valK_rem; · finish (splits := 3) (ematch := 1)) (apply valK_remR; · finish (splits := 3) (ematch := 1)) (apply valK_bol; · finish (splits := 3) (ematch := 1)) (apply effK_bol; · finish (splits := 3) (ematch := 1)) (apply newK_bol; · finish (splits := 3) (ematch := 1)) (apply appK_bol; · finish (splits := 3) (ematch := 1)) (apply topO_bol; · finish (splits := 3) (ematch := 1)) (apply valK_altY; · finish (splits := 3) (ematch := 1)) (apply valK_altN; · finish (splits := 3) (ematch := 1)) (apply effK_altY; · finish (splits := 3) (ematch := 1)) (apply effK_altN; · finish (splits := 3) (ematch := 1)) (apply valK_altNY; · finish (splits := 3) (ematch := 1)) (apply valK_altNN; · finish (splits := 3) (ematch := 1)) (apply valK_altS) (apply valK_altNS) (apply effK_altS) (apply appS_go) (apply brC_y; · finish (splits := 3) (ematch := 1)) (apply brC_n; · finish (splits := 3) (ematch := 1)) (apply brC_yN; · finish (splits := 3) (ematch := 1)) (apply brC_nN; · finish (splits := 3) (ematch := 1)) (apply brC_s) (apply brC_sN) (apply wantK_y; · finish (splits := 3) (ematch := 1)) (apply wantK_n; · finish (splits := 3) (ematch := 1)) (apply wantK_yN; · finish (splits := 3) (ematch := 1)) (apply wantK_nN; · finish (splits := 3) (ematch := 1)) (apply wantK_s) (apply wantK_sN) (apply rowG_y; · finish (splits := 3) (ematch := 1)) (apply rowG_n; · finish (splits := 3) (ematch := 1)) (apply rowG_yN; · finish (splits := 3) (ematch := 1)) (apply rowG_nN; · finish (splits := 3) (ematch := 1)) (apply rowG_s) (apply rowG_sN) (simp [eBase_eq, eColour_eq, eFrag_eq, eKey_eq, ePoint_eq, ePrepasspixel_eq, cx6_P, cx6_l0, cx6_l1, cx6_l2, cx6_l3, cx6_l4, cx6_l6, cx6_l5, cx6_l7, cx6_l8, cx6_l9, cx6_l10, cx6_l11, cx6_l12, cx6_l13, cx6_l14, cx6_l15, cx6_l16, cx6_l17, cx6_l18, cx6_l19, cx6_l20, cx6_l21, cx6_l22, cx6_l23, cx6_pu, Try.f6.eq_1, ty_arrOf_24, ty_arrOf_29, ty_arrOf_3, ty_arrOf_48, ty_arrOf_49, ty_arrOf_5, ty_fldOf_24_0, ty_fldOf_24_1, ty_fldOf_24_2, ty_fldOf_24_3, ty_hasTy_5, ty_intOf_3, ty_lay_24, ty_lay_29, ty_lay_3, ty_lay_48, ty_lay_5, ty_notInt_24, ty_notInt_29, ty_placesOf_24, ty_placesOf_29, ty_placesOf_48, ty_slcOf_24, ty_slcOf_29, ty_slcOf_3, ty_slcOf_48, ty_slcOf_49, ty_slcOf_5, ty_zeroA_24, ty_zeroA_29, ty_zeroA_48, ty_zeroA_5, valK_some, newK_some, effK_some, opE_move, opE_assign, opE_pick, opE_build, opE_load, opE_bin, opE_un, opE_indexAddr, opE_alloc, opE_box, callK_fn, callK_yld, callG_some, callG_none, opE_store_r, opE_call_r, ev_seq, ev_skip, ev_label, ev_region, ev_cond, condC_some, brC_true, brC_false, ev_block, ev_scope, ev_exit, ev_ret, ev_loop, nx_seq, nx_seqE, nx_seqR, nx_blk, nx_blkE, nx_blkR, nx_loop, nx_loopE, nx_loopR, nx_inv, nx_invE, nx_invR, nx_top, nx_topR, topO_some, evR_nil, wantK_tup, wantK_tt, wantK_ff, wantK_tf, wantK_ft, evR_op, evR_guard, finK_reg, finN_reg, nid_reg, getT_cons, putT_some, putT_none, trimT_some, trimT_none, keepT_nil, keepT_cons, consT_some, consT_none, getT_nil, getO_tmp, getO_const, getO_func, ofC_int, ofC_bool, ofC_ptr, ofC_slc, ofC_map, ofC_fn, getOs_nil, getOs_cons, consO_some, guardT_eq, guardO_some, hget_cons, hset_cons, wrap_lit, wrap_neg, top_i64, bot_i64, top_u8, bot_u8, bits_u8, bits_i64, cast_lit, toNat_lit, get_zero, get_succ, take_zero, take_succ, set_zero, set_succ, length_nil, length_cons, length_set, append_nil, nil_append, cons_append, toList_arr, bnot_true, bnot_false, band_true, band_false, beq_tt, beq_ff, beq_tf, beq_ft, beq_nat, beq_int, bne_nat, map_some, map_none, true_eq_false, false_eq_true, true_eq_true, fbody_mk, fresults_mk, getD_some, bol_true, binO_some, rem_lit, rem_neg, bin_eql, bin_neq, bin_lss, bin_leq, bin_or, bin_beql, bin_bneq, eqO_eq, eqO_ne, bin_aeql, bin_aneq, bin_reql, bin_rneq, aggEq_some, flatL_nil, flatL_cons, appV_some, flatV_int, flatV_bool, flatV_agg, flatV_rows, bin_feql, bin_fneq, bin_nfeql, bin_nfneq, bin_peql, bin_pneq, bin_npeql, bin_npneq, pickA_true, pickA_false, size_int, size_bool, size_str, size_ptr, size_nilp, size_slc, size_nils, size_map, size_nilm, size_fn, size_yld, size_nilf, size_agg, size_rows, sizeL_nil, sizeL_cons, layOK_int, layOK_bool, layOK_str, layOK_ptr, layOK_nilp, layOK_slc, layOK_nils, layOK_map, layOK_nilm, layOK_fn, layOK_yld, layOK_nilf, layOK_agg, layOK_rows, isTup_int, isTup_bool, isTup_str, isTup_ptr, isTup_nilp, isTup_slc, isTup_nils, isTup_map, isTup_nilm, isTup_fn, isTup_yld, isTup_nilf, isTup_agg, isTup_rows, getP_nil, getP_cons, getS_some, stepP_agg, stepP_rows, putP_nil, putP_cons, putS_some, putU_some, setS_agg, setS_rows, loadO_some, loadA_ptr, loadE_cel, loadE_vec, loadE_ro, chkL_some, storeO_some, stH_some, storeA_ptr, storeE_cel, storeE_vec, storeB_cel, iaO_some, newA_some, partsO_nil, partsO_cons, buildA_some, fillP_nil, fillP_cons, fillN_some, setA_agg, setA_rows, setC_some, setD_some, resF_eq, resAll_nil, resAll_cons, resOne_tmp, resOne_cell, tupO_none, tupO_one, tupO_more, argT_nil, argT_cons, lookU_nil, lookU_cons, lookL_cons, lookL_nil, lookP_cons, roundS_eq, mbin_add, mbin_rem, wrapO_lit, wrapO_neg, mia_ptr, mia_slc, mstoreB_vec, len_set, not_tf, not_ft, and_tf, alt_true, alt_false, pick_alt, bol_false, getS_bol, getS_alt, chkL_bol, chkL_alt, putS_bol, putS_alt, putU_bol, putU_alt, storeB_bol, storeB_alt, stH_bol, stH_alt, consO_bol, consO_bol2, tupO_bol, fillN_bol, eqO_bol, bol_bol, get_mapB, get_setB, get_appB, len_map, nat_zero_add, subC_nil, subC_seq0, subC_seq1, subC_cond0, subC_cond1, subC_block, subC_scope, subC_loop, subC_ran0, subC_ran1, bitI_and_lit, bitI_or_lit, bitI_xor_lit, bitI_andNot_lit, mbin_and, andO_lit, andO_1, andO_3, andO_7, andO_15, hideH_nil, and_self, and_true, true_and, and_false, false_and]) (apply valK_bolB; · finish (splits := 3) (ematch := 1)) (apply valK_altT; · finish (splits := 3) (ematch := 1)) (apply valK_altF; · finish (splits := 3) (ematch := 1)) (apply valK_altB) (apply brC_t; · finish (splits := 3) (ematch := 1)) (apply brC_f; · finish (splits := 3) (ematch := 1)) (apply brC_sBN) (apply brC_sB) (apply wantK_t; · finish (splits := 3) (ematch := 1)) (apply wantK_f; · finish (splits := 3) (ematch := 1)) (apply wantK_sBN) (apply wantK_sB) (apply rowG_t; · finish (splits := 3) (ematch := 1)) (apply rowG_f; · finish (splits := 3) (ematch := 1)) (apply rowG_sBN) (apply rowG_sB) (intro~ hr) (tactic => first | exact absurd mask_apart hp | exact congrArg AV.bool (if_pos (mask_same (by assumption) (by assumption) (by assumption) (by assumption)))))
end Go.Proofs.Ytimolomjpmkbiaa
