/-
  Chapter 8: the law CoverFan.
-/
import Derived.Test.YtimolomjpmkbiaaEh
set_option linter.unusedVariables false
set_option linter.unusedSimpArgs false
set_option maxRecDepth 100000
set_option maxHeartbeats 0
namespace Go.Proofs.Ytimolomjpmkbiaa
open Go.Y
/-- A part of a triangle that is cut at a place is in it. -/
theorem fan_in {ax ay bx by_ cx cy px py x y : Int} (hD : 0 < crossI ax ay bx by_ cx cy) (h1 : 0 ≤ crossI bx by_ cx cy px py) (h2 : 0 ≤ crossI cx cy ax ay px py)
    (hi : inI ax ay bx by_ px py x y = true) : inI ax ay bx by_ cx cy x y = true := by
  rw [in_iff] at *
  obtain ⟨h0, k1, k2, k3⟩ := hi
  have r1 := cr_rot ax ay bx by_ px py
  have r2 := cr_rot ax ay bx by_ cx cy
  have r3 := cr_rot ax ay px py cx cy
  have r4 := cr_rot px py cx cy ax ay
  have r5 := cr_rot cx cy ax ay px py
  have r6 := cr_rot bx by_ px py ax ay
  have r7 := cr_rot bx by_ cx cy ax ay
  refine ⟨hD, k1, ?_, ?_⟩
  · exact ok_next (ax := px) (ay := py) (bx := ax) (by_ := ay) (by omega) (by omega) (by omega) k2 k1
  · exact ok_prev (ax := px) (ay := py) (bx := bx) (by_ := by_) (by omega) (by omega) (by omega) k3 k1
theorem fan_zero {ax ay bx by_ cx cy px py x y : Int} (hD : 0 < crossI ax ay bx by_ cx cy) (h0 : crossI ax ay bx by_ px py = 0) (h1 : 0 < crossI bx by_ cx cy px py) (h2 : 0 < crossI cx cy ax ay px py)
    (hi : inI ax ay bx by_ cx cy x y = true) : inI bx by_ cx cy px py x y = true ∨ inI cx cy ax ay px py x y = true := by
  rw [in_iff] at *
  rw [in_iff]
  obtain ⟨_, k1, k2, k3⟩ := hi
  have r2 := cr_rot ax ay bx by_ cx cy
  have r7 := cr_rot bx by_ cx cy ax ay
  have r5 := cr_rot cx cy ax ay px py
  have e1 : crossI bx by_ ax ay px py = -crossI ax ay bx by_ px py := by unfold crossI; grind
  have e2 : crossI ax ay px py bx by_ = -crossI ax ay bx by_ px py := by unfold crossI; grind
  have r8 := cr_rot px py cx cy ax ay
  have f1 : okP px py bx by_ x y := ok_prev (ax := ax) (ay := ay) (bx := cx) (by_ := cy) (by omega) (by omega) (by omega) k1 k2
  have e0 : okP ax ay px py x y := ok_next (ax := bx) (ay := by_) (bx := cx) (by_ := cy) (by omega) (by omega) (by omega) k1 k3
  have hne : ¬ (cx = px ∧ cy = py) := by
    rintro ⟨rfl, rfl⟩
    have : crossI bx by_ cx cy cx cy = 0 := by unfold crossI; grind
    omega
  rcases ok_or x y hne with k | k
  · exact .inl ⟨h1, k2, k, f1⟩
  · exact .inr ⟨h2, k3, e0, k⟩
theorem fan_zero2 {ax ay bx by_ cx cy px py x y : Int} (hD : 0 < crossI ax ay bx by_ cx cy) (h0 : crossI ax ay bx by_ px py = 0) (h2 : crossI cx cy ax ay px py = 0)
    (hi : inI ax ay bx by_ cx cy x y = true) : inI bx by_ cx cy px py x y = true := by
  have ex : crossI ax ay bx by_ cx cy * (px - ax) = crossI cx cy ax ay px py * (bx - ax) + crossI ax ay bx by_ px py * (cx - ax) := by unfold crossI; grind
  have ey : crossI ax ay bx by_ cx cy * (py - ay) = crossI cx cy ax ay px py * (by_ - ay) + crossI ax ay bx by_ px py * (cy - ay) := by unfold crossI; grind
  rw [h0, h2, Int.zero_mul, Int.zero_mul] at ex ey
  have p1 := (pos_mul (show 1 ≤ crossI ax ay bx by_ cx cy by omega) (e := px - ax)).2.2.1 (by omega)
  have p2 := (pos_mul (show 1 ≤ crossI ax ay bx by_ cx cy by omega) (e := py - ay)).2.2.1 (by omega)
  obtain rfl : px = ax := by omega
  obtain rfl : py = ay := by omega
  rw [in_iff] at *
  obtain ⟨h, k1, k2, k3⟩ := hi
  have r2 := cr_rot px py bx by_ cx cy
  have r7 := cr_rot bx by_ cx cy px py
  exact ⟨by omega, k2, k3, k1⟩
theorem zero_sum {A B C k l m : Int} (hA : 0 < A) (hB : 0 < B) (hC : 0 < C) (hk : 0 ≤ k) (hl : 0 ≤ l) (hm : 0 ≤ m) (h : A * k + B * l + C * m = 0) : k = 0 ∧ l = 0 ∧ m = 0 := by
  have h1 := Int.mul_nonneg (show 0 ≤ A by omega) hk
  have h2 := Int.mul_nonneg (show 0 ≤ B by omega) hl
  have h3 := Int.mul_nonneg (show 0 ≤ C by omega) hm
  exact ⟨(pos_mul (show 1 ≤ A by omega)).2.2.1 (by omega), (pos_mul (show 1 ≤ B by omega)).2.2.1 (by omega), (pos_mul (show 1 ≤ C by omega)).2.2.1 (by omega)⟩
theorem no_cone {A B C ax ay bx by_ cx cy : Int} (hA : 0 < A) (hB : 0 < B) (hC : 0 < C) (ix : A * ax + B * bx + C * cx = 0) (iy : A * ay + B * by_ + C * cy = 0)
    (h1 : ay < 0 ∨ (ay = 0 ∧ 0 < ax)) (h2 : by_ < 0 ∨ (by_ = 0 ∧ 0 < bx)) (h3 : cy < 0 ∨ (cy = 0 ∧ 0 < cx)) : False := by
  have hs := zero_sum hA hB hC (k := -ay) (l := -by_) (m := -cy) (by omega) (by omega) (by omega) (by rw [Int.mul_neg, Int.mul_neg, Int.mul_neg]; omega)
  have h4 := Int.mul_pos hA (show 0 < ax by omega)
  have h5 := Int.mul_pos hB (show 0 < bx by omega)
  have h6 := Int.mul_pos hC (show 0 < cx by omega)
  omega
theorem center_e {ax ay bx by_ cx cy px py x y : Int} (h0 : 0 < crossI ax ay bx by_ px py) (h1 : 0 < crossI bx by_ cx cy px py) (h2 : 0 < crossI cx cy ax ay px py)
    (k0 : okP ax ay px py x y) (k1 : okP bx by_ px py x y) (k2 : okP cx cy px py x y) : False := by
  unfold okP at k0 k1 k2
  have id : crossI bx by_ cx cy px py * crossI ax ay px py x y + crossI cx cy ax ay px py * crossI bx by_ px py x y + crossI ax ay bx by_ px py * crossI cx cy px py x y = 0 := by unfold crossI; grind
  have ix : crossI bx by_ cx cy px py * (px - ax) + crossI cx cy ax ay px py * (px - bx) + crossI ax ay bx by_ px py * (px - cx) = 0 := by unfold crossI; grind
  have iy : crossI bx by_ cx cy px py * (py - ay) + crossI cx cy ax ay px py * (py - by_) + crossI ax ay bx by_ px py * (py - cy) = 0 := by unfold crossI; grind
  obtain ⟨z0, z1, z2⟩ := zero_sum h1 h2 h0 (by omega) (by omega) (by omega) id
  exact no_cone h1 h2 h0 ix iy (by omega) (by omega) (by omega)
theorem center_f {ax ay bx by_ cx cy px py x y : Int} (h0 : 0 < crossI ax ay bx by_ px py) (h1 : 0 < crossI bx by_ cx cy px py) (h2 : 0 < crossI cx cy ax ay px py)
    (k0 : okP px py ax ay x y) (k1 : okP px py bx by_ x y) (k2 : okP px py cx cy x y) : False := by
  unfold okP at k0 k1 k2
  have id : crossI bx by_ cx cy px py * crossI px py ax ay x y + crossI cx cy ax ay px py * crossI px py bx by_ x y + crossI ax ay bx by_ px py * crossI px py cx cy x y = 0 := by unfold crossI; grind
  have ix : crossI bx by_ cx cy px py * (ax - px) + crossI cx cy ax ay px py * (bx - px) + crossI ax ay bx by_ px py * (cx - px) = 0 := by unfold crossI; grind
  have iy : crossI bx by_ cx cy px py * (ay - py) + crossI cx cy ax ay px py * (by_ - py) + crossI ax ay bx by_ px py * (cy - py) = 0 := by unfold crossI; grind
  obtain ⟨z0, z1, z2⟩ := zero_sum h1 h2 h0 (by omega) (by omega) (by omega) id
  exact no_cone h1 h2 h0 ix iy (by omega) (by omega) (by omega)
theorem fan_mid {ax ay bx by_ cx cy px py x y : Int} (h0 : 0 < crossI ax ay bx by_ px py) (h1 : 0 < crossI bx by_ cx cy px py) (h2 : 0 < crossI cx cy ax ay px py)
    (hi : inI ax ay bx by_ cx cy x y = true) : inI ax ay bx by_ px py x y = true ∨ inI bx by_ cx cy px py x y = true ∨ inI cx cy ax ay px py x y = true := by
  rw [in_iff] at *
  rw [in_iff, in_iff]
  obtain ⟨_, k1, k2, k3⟩ := hi
  have n0 : ¬ (ax = px ∧ ay = py) := by
    rintro ⟨rfl, rfl⟩
    have : crossI ax ay bx by_ ax ay = 0 := by unfold crossI; grind
    omega
  have n1 : ¬ (bx = px ∧ by_ = py) := by
    rintro ⟨rfl, rfl⟩
    have : crossI ax ay bx by_ bx by_ = 0 := by unfold crossI; grind
    omega
  have n2 : ¬ (cx = px ∧ cy = py) := by
    rintro ⟨rfl, rfl⟩
    have : crossI bx by_ cx cy cx cy = 0 := by unfold crossI; grind
    omega
  rcases ok_or x y n0 with e0 | e0 <;> rcases ok_or x y n1 with e1 | e1 <;> rcases ok_or x y n2 with e2 | e2
  · exact (center_e h0 h1 h2 e0 e1 e2).elim
  · exact .inr (.inr ⟨h2, k3, e0, e2⟩)
  · exact .inr (.inl ⟨h1, k2, e2, e1⟩)
  · exact .inr (.inr ⟨h2, k3, e0, e2⟩)
  · exact .inl ⟨h0, k1, e1, e0⟩
  · exact .inl ⟨h0, k1, e1, e0⟩
  · exact .inr (.inl ⟨h1, k2, e2, e1⟩)
  · exact (center_f h0 h1 h2 e0 e1 e2).elim
theorem in_rot {ax ay bx by_ cx cy x y : Int} : inI bx by_ cx cy ax ay x y = inI ax ay bx by_ cx cy x y := by
  have r2 := cr_rot ax ay bx by_ cx cy
  have r7 := cr_rot bx by_ cx cy ax ay
  rw [Bool.eq_iff_iff, in_iff, in_iff]
  constructor
  · rintro ⟨h, k1, k2, k3⟩; exact ⟨by omega, k3, k1, k2⟩
  · rintro ⟨h, k1, k2, k3⟩; exact ⟨by omega, k2, k3, k1⟩
/-- A triangle that is cut in three has what these have. -/
theorem fan_same {ax ay bx by_ cx cy px py x y : Int} (hD : 0 < crossI ax ay bx by_ cx cy) (h0 : 0 ≤ crossI ax ay bx by_ px py) (h1 : 0 ≤ crossI bx by_ cx cy px py) (h2 : 0 ≤ crossI cx cy ax ay px py) :
    (inI ax ay bx by_ px py x y || inI bx by_ cx cy px py x y || inI cx cy ax ay px py x y) = inI ax ay bx by_ cx cy x y := by
  have hs : crossI ax ay bx by_ px py + crossI bx by_ cx cy px py + crossI cx cy ax ay px py = crossI ax ay bx by_ cx cy := by unfold crossI; grind
  have r2 := cr_rot ax ay bx by_ cx cy
  have r7 := cr_rot bx by_ cx cy ax ay
  rw [Bool.eq_iff_iff, Bool.or_eq_true, Bool.or_eq_true]
  constructor
  · rintro ((h | h) | h)
    · exact fan_in hD h1 h2 h
    · rw [← in_rot]; exact fan_in (by omega) h2 h0 h
    · rw [← in_rot, ← in_rot]; exact fan_in (by omega) h0 h1 h
  · intro h
    have hb : inI bx by_ cx cy ax ay x y = true := by rw [in_rot]; exact h
    have hc : inI cx cy ax ay bx by_ x y = true := by rw [in_rot]; exact hb
    by_cases z0 : crossI ax ay bx by_ px py = 0
    · by_cases z1 : crossI bx by_ cx cy px py = 0
      · exact .inr (fan_zero2 (by omega) z1 z0 hb)
      · by_cases z2 : crossI cx cy ax ay px py = 0
        · exact .inl (.inr (fan_zero2 hD z0 z2 h))
        · rcases fan_zero hD z0 (by omega) (by omega) h with g | g
          · exact .inl (.inr g)
          · exact .inr g
    · by_cases z1 : crossI bx by_ cx cy px py = 0
      · by_cases z2 : crossI cx cy ax ay px py = 0
        · exact .inl (.inl (fan_zero2 (by omega) z2 z1 hc))
        · rcases fan_zero (by omega) z1 (by omega) (by omega) hb with g | g
          · exact .inr g
          · exact .inl (.inl g)
      · by_cases z2 : crossI cx cy ax ay px py = 0
        · rcases fan_zero (by omega) z2 (by omega) (by omega) hc with g | g
          · exact .inl (.inl g)
          · exact .inl (.inr g)
        · rcases fan_mid (x := x) (y := y) (show 0 < crossI ax ay bx by_ px py by omega) (show 0 < crossI bx by_ cx cy px py by omega) (show 0 < crossI cx cy ax ay px py by omega) h with g | g | g
          · exact .inl (.inl g)
          · exact .inl (.inr g)
          · exact .inr g
/-- What has an edge in common, told the other way about. -/
theorem in_apart1 {ax ay bx by_ cx cy px py x y : Int} : (inI ax ay bx by_ px py x y && inI bx by_ cx cy px py x y) = false := by
  cases h1 : inI ax ay bx by_ px py x y
  · rfl
  · cases h2 : inI bx by_ cx cy px py x y
    · rfl
    · exact (ok_anti (in_iff.1 h1).2.2.1 (in_iff.1 h2).2.2.2).elim
theorem in_apart2 {ax ay bx by_ cx cy px py x y : Int} : (inI cx cy ax ay px py x y && inI ax ay bx by_ px py x y) = false := in_apart1
noncomputable def cx31 : Cx := ⟨Try.prog, [], [], [(0, [2, 1]), (1, [4, 2, 1]), (2, [8, 4, 2, 1]), (3, [3, 2]), (4, [11, 2, 1]), (5, [3, 2]), (6, [3, 2])]⟩
theorem cx31_P : cx31.P = Try.prog := rfl
theorem cx31_l0 : lookL 0 cx31.lv = some [2, 1] := rfl
theorem cx31_l1 : lookL 1 cx31.lv = some [4, 2, 1] := rfl
theorem cx31_l2 : lookL 2 cx31.lv = some [8, 4, 2, 1] := rfl
theorem cx31_l3 : lookL 3 cx31.lv = some [3, 2] := rfl
theorem cx31_l4 : lookL 4 cx31.lv = some [11, 2, 1] := rfl
theorem cx31_l5 : lookL 5 cx31.lv = some [3, 2] := rfl
theorem cx31_l6 : lookL 6 cx31.lv = some [3, 2] := rfl
theorem cx31_pu : cx31.pu = [] := rfl
theorem cx31_ok : okc cx31 Try.f31.ntmps (Try.f31.body.getD .skip) = true := by kernel_rfl
theorem enter31 {args : List AV} {H : Hp} {n : Nat} {Q : AV → Hp → Nat → Prop} (h : args.length ≤ 20 ∧ Ev cx31 ⟨20, n, none, 31⟩ (Try.f31.body.getD .skip) ⟨argT 0 args, H, n⟩ (.top Try.f31.results.toList Q)) : callA Try.prog 31 args H n Q :=
  callA_ev (cx := cx31) puOk_nil (f := 31) (fn := Try.f31) Try.func31 rfl (by kernel_rfl) h.1 cx31_ok h.2
theorem rturned_use {a_x a_y a_z a_a0 a_a1 a_a2 a_a3 b_x b_y b_z b_a0 b_a1 b_a2 b_a3 c_x c_y c_z c_a0 c_a1 c_a2 c_a3 : Int} {H : Hp} {n : Nat} {Q : AV → Hp → Nat → Prop} (h : sml a_x ∧ sml a_y ∧ sml b_x ∧ sml b_y ∧ sml c_x ∧ sml c_y)
    (h0 : Imp (crossI a_x a_y b_x b_y c_x c_y = 0) (Q (.tup [.rows 7 [.agg [.int .i64 0, .int .i64 0, .int .i64 0, .rows 1 [.int .i64 0, .int .i64 0, .int .i64 0, .int .i64 0]], .agg [.int .i64 0, .int .i64 0, .int .i64 0, .rows 1 [.int .i64 0, .int .i64 0, .int .i64 0, .int .i64 0]], .agg [.int .i64 0, .int .i64 0, .int .i64 0, .rows 1 [.int .i64 0, .int .i64 0, .int .i64 0, .int .i64 0]]], .bool false]) H n))
    (h1 : Imp (crossI a_x a_y b_x b_y c_x c_y < 0) (Q (.tup [.rows 7 [(.agg [.int .i64 a_x, .int .i64 a_y, .int .i64 a_z, .rows 1 [.int .i64 a_a0, .int .i64 a_a1, .int .i64 a_a2, .int .i64 a_a3]]), (.agg [.int .i64 c_x, .int .i64 c_y, .int .i64 c_z, .rows 1 [.int .i64 c_a0, .int .i64 c_a1, .int .i64 c_a2, .int .i64 c_a3]]), (.agg [.int .i64 b_x, .int .i64 b_y, .int .i64 b_z, .rows 1 [.int .i64 b_a0, .int .i64 b_a1, .int .i64 b_a2, .int .i64 b_a3]])], .bool true]) H n))
    (h2 : Imp (0 < crossI a_x a_y b_x b_y c_x c_y) (Q (.tup [.rows 7 [(.agg [.int .i64 a_x, .int .i64 a_y, .int .i64 a_z, .rows 1 [.int .i64 a_a0, .int .i64 a_a1, .int .i64 a_a2, .int .i64 a_a3]]), (.agg [.int .i64 b_x, .int .i64 b_y, .int .i64 b_z, .rows 1 [.int .i64 b_a0, .int .i64 b_a1, .int .i64 b_a2, .int .i64 b_a3]]), (.agg [.int .i64 c_x, .int .i64 c_y, .int .i64 c_z, .rows 1 [.int .i64 c_a0, .int .i64 c_a1, .int .i64 c_a2, .int .i64 c_a3]])], .bool true]) H n)) :
    callA Try.prog 31 [.rows 7 [(.agg [.int .i64 a_x, .int .i64 a_y, .int .i64 a_z, .rows 1 [.int .i64 a_a0, .int .i64 a_a1, .int .i64 a_a2, .int .i64 a_a3]]), (.agg [.int .i64 b_x, .int .i64 b_y, .int .i64 b_z, .rows 1 [.int .i64 b_a0, .int .i64 b_a1, .int .i64 b_a2, .int .i64 b_a3]]), (.agg [.int .i64 c_x, .int .i64 c_y, .int .i64 c_z, .rows 1 [.int .i64 c_a0, .int .i64 c_a1, .int .i64 c_a2, .int .i64 c_a3]])]] H n Q := by
  refine callA_flat (R := turnedR a_x a_y a_z a_a0 a_a1 a_a2 a_a3 b_x b_y b_z b_a0 b_a1 b_a2 b_a3 c_x c_y c_z c_a0 c_a1 c_a2 c_a3) ?_ (by rfl) (fun v hv => by rcases hv with ⟨h, rfl⟩ | ⟨h, rfl⟩ | ⟨h, h', rfl⟩; exact h0 h; exact h1 h; exact h2 (by omega))
  unfold sml at h
  sym =>
    repeat (first (apply enter31) (apply rarea_use; · finish (splits := 40) (ematch := 1)) (apply imp_go; intro hp) (apply valK_w64; · finish (splits := 3) (ematch := 1)) (apply valK_wu8; · finish (splits := 3) (ematch := 1)) (apply valK_wu64; · finish (splits := 3) (ematch := 1)) (apply valK_w32; · finish (splits := 3) (ematch := 1)) (apply valK_wu16; · finish (splits := 3) (ematch := 1)) (apply valK_wu32; · finish (splits := 3) (ematch := 1)) (apply valK_wr) (apply valK_andR) (apply valK_quo; · finish (splits := 3) (ematch := 1)) (apply valK_quoR; · finish (splits := 3) (ematch := 1)) (apply valK_rem; · finish (splits := 3) (ematch := 1)) (apply valK_remR; · finish (splits := 3) (ematch := 1)) (apply valK_bol; · finish (splits := 3) (ematch := 1)) (apply effK_bol; · finish (splits := 3) (ematch := 1)) (apply newK_bol; · finish (splits := 3) (ematch := 1)) (apply appK_bol; · finish (splits := 3) (ematch := 1)) (apply topO_bol; · finish (splits := 3) (ematch := 1)) (apply valK_altY; · finish (splits := 3) (ematch := 1)) (apply valK_altN; · finish (splits := 3) (ematch := 1)) (apply effK_altY; · finish (splits := 3) (ematch := 1)) (apply effK_altN; · finish (splits := 3) (ematch := 1)) (apply valK_altNY; · finish (splits := 3) (ematch := 1)) (apply valK_altNN; · finish (splits := 3) (ematch := 1)) (apply valK_altS) (apply valK_altNS) (apply effK_altS) (apply appS_go) (apply brC_y; · finish (splits := 3) (ematch := 1)) (apply brC_n; · finish (splits := 3) (ematch := 1)) (apply brC_yN; · finish (splits := 3) (ematch := 1)) (apply brC_nN; · finish (splits := 3) (ematch := 1)) (apply brC_s) (apply brC_sN) (apply wantK_y; · finish (splits := 3) (ematch := 1)) (apply wantK_n; · finish (splits := 3) (ematch := 1)) (apply wantK_yN; · finish (splits := 3) (ematch := 1)) (apply wantK_nN; · finish (splits := 3) (ematch := 1)) (apply wantK_s) (apply wantK_sN) (apply rowG_y; · finish (splits := 3) (ematch := 1)) (apply rowG_n; · finish (splits := 3) (ematch := 1)) (apply rowG_yN; · finish (splits := 3) (ematch := 1)) (apply rowG_nN; · finish (splits := 3) (ematch := 1)) (apply rowG_s) (apply rowG_sN) (simp [eBase_eq, eColour_eq, eFrag_eq, eKey_eq, ePoint_eq, ePrepasspixel_eq, cx31_P, cx31_l0, cx31_l1, cx31_l2, cx31_l3, cx31_l4, cx31_l5, cx31_l6, cx31_pu, Try.f31.eq_1, ty_arrOf_24, ty_arrOf_29, ty_arrOf_3, ty_fldOf_24_0, ty_fldOf_24_1, ty_fldOf_24_2, ty_fldOf_24_3, ty_intOf_3, ty_lay_24, ty_lay_29, ty_lay_3, ty_notInt_24, ty_notInt_29, ty_placesOf_24, ty_placesOf_29, ty_slcOf_24, ty_slcOf_29, ty_slcOf_3, ty_zeroA_24, ty_zeroA_29, valK_some, newK_some, effK_some, opE_move, opE_assign, opE_build, opE_load, opE_bin, opE_un, opE_indexAddr, opE_alloc, opE_box, callK_fn, callK_yld, callG_some, callG_none, opE_store_r, opE_call_r, ev_seq, ev_skip, ev_label, ev_region, ev_cond, condC_some, brC_true, brC_false, ev_block, ev_scope, ev_exit, ev_ret, nx_seq, nx_seqE, nx_seqR, nx_blk, nx_blkE, nx_blkR, nx_top, nx_topR, topO_some, evR_nil, evR_op, evR_guard, finK_reg, finN_reg, nid_reg, getT_cons, putT_some, putT_none, trimT_some, trimT_none, keepT_nil, keepT_cons, consT_some, consT_none, getT_nil, getO_tmp, getO_const, getO_func, ofC_int, ofC_bool, ofC_ptr, ofC_slc, ofC_map, ofC_fn, getOs_nil, getOs_cons, consO_some, hget_cons, hset_cons, wrap_lit, wrap_neg, top_i64, bot_i64, bits_i64, cast_lit, toNat_lit, get_zero, get_succ, take_zero, take_succ, set_zero, set_succ, length_nil, length_cons, length_set, append_nil, nil_append, cons_append, toList_arr, bnot_true, bnot_false, band_true, band_false, beq_tt, beq_ff, beq_tf, beq_ft, beq_nat, beq_int, bne_nat, map_some, map_none, true_eq_false, false_eq_true, true_eq_true, fbody_mk, fresults_mk, getD_some, bol_true, binO_some, bin_eql, bin_lss, bin_beql, bin_bneq, eqO_eq, eqO_ne, bin_aeql, bin_aneq, bin_reql, bin_rneq, aggEq_some, flatL_nil, flatL_cons, appV_some, flatV_int, flatV_bool, flatV_agg, flatV_rows, bin_feql, bin_fneq, bin_nfeql, bin_nfneq, bin_peql, bin_pneq, bin_npeql, bin_npneq, size_int, size_bool, size_str, size_ptr, size_nilp, size_slc, size_nils, size_map, size_nilm, size_fn, size_yld, size_nilf, size_agg, size_rows, sizeL_nil, sizeL_cons, layOK_int, layOK_bool, layOK_str, layOK_ptr, layOK_nilp, layOK_slc, layOK_nils, layOK_map, layOK_nilm, layOK_fn, layOK_yld, layOK_nilf, layOK_agg, layOK_rows, isTup_int, isTup_bool, isTup_str, isTup_ptr, isTup_nilp, isTup_slc, isTup_nils, isTup_map, isTup_nilm, isTup_fn, isTup_yld, isTup_nilf, isTup_agg, isTup_rows, getP_nil, getP_cons, getS_some, stepP_agg, stepP_rows, putP_nil, putP_cons, putS_some, putU_some, setS_agg, setS_rows, loadO_some, loadA_ptr, loadE_cel, loadE_vec, loadE_ro, chkL_some, storeO_some, stH_some, storeA_ptr, storeE_cel, storeE_vec, storeB_cel, iaO_some, newA_some, partsO_nil, partsO_cons, buildA_some, fillP_nil, fillP_cons, fillN_some, setA_agg, setA_rows, setC_some, setD_some, resF_eq, resAll_nil, resAll_cons, resOne_tmp, resOne_cell, tupO_none, tupO_one, tupO_more, argT_nil, argT_cons, lookU_nil, lookU_cons, lookL_cons, lookL_nil, lookP_cons, roundS_eq, wrapO_lit, wrapO_neg, mia_ptr, mia_slc, mstoreB_vec, len_set, not_tf, not_ft, and_tf, alt_true, alt_false, bol_false, getS_bol, getS_alt, chkL_bol, chkL_alt, putS_bol, putS_alt, putU_bol, putU_alt, storeB_bol, storeB_alt, stH_bol, stH_alt, consO_bol, consO_bol2, tupO_bol, fillN_bol, eqO_bol, bol_bol, get_mapB, get_setB, get_appB, len_map, nat_zero_add, hideH_nil, and_self, and_true, true_and, and_false, false_and]) (apply valK_bolB; · finish (splits := 3) (ematch := 1)) (apply valK_altT; · finish (splits := 3) (ematch := 1)) (apply valK_altF; · finish (splits := 3) (ematch := 1)) (apply valK_altB) (apply brC_t; · finish (splits := 3) (ematch := 1)) (apply brC_f; · finish (splits := 3) (ematch := 1)) (apply brC_sBN) (apply brC_sB) (apply wantK_t; · finish (splits := 3) (ematch := 1)) (apply wantK_f; · finish (splits := 3) (ematch := 1)) (apply wantK_sBN) (apply wantK_sB) (apply rowG_t; · finish (splits := 3) (ematch := 1)) (apply rowG_f; · finish (splits := 3) (ematch := 1)) (apply rowG_sBN) (apply rowG_sB) (intro~ hr) (tactic => first | exact ⟨rfl, .inl ⟨hp, rfl⟩⟩ | exact ⟨rfl, .inr (.inl ⟨hp, rfl⟩)⟩ | exact ⟨rfl, .inr (.inr ⟨by assumption, hp, rfl⟩)⟩))
abbrev fanB (w v : Int) : Prop := -(16384 * (1 + w)) ≤ (1 + w) * v ∧ (1 + w) * v ≤ 16384 * (1 + w)
theorem fanB_of {w v : Int} (hw : 0 ≤ w) (h : -16384 ≤ v ∧ v ≤ 16384) : fanB w v := by
  have h1 := Int.mul_le_mul_of_nonneg_left h.1 (show 0 ≤ 1 + w by omega)
  have h2 := Int.mul_le_mul_of_nonneg_left h.2 (show 0 ≤ 1 + w by omega)
  unfold fanB
  omega
abbrev fanP (w : Int) (p : TPoint) : Prop := smlP p ∧ fanB w p.x ∧ fanB w p.y
theorem fanP_of {w : Int} {p : TPoint} (hw : 0 ≤ w) (h : smlP p) : fanP w p := ⟨h, fanB_of hw h.1, fanB_of hw h.2⟩
theorem fan_use {w0 w1 w2 : Int} {p q r : TPoint} {H : Hp} {n : Nat} {Q : AV → Hp → Nat → Prop} (hg : (0 ≤ w0 ∧ w0 ≤ 255) ∧ (0 ≤ w1 ∧ w1 ≤ 255) ∧ 0 ≤ w2 ∧ w2 ≤ 255) (hw : smlP p ∧ smlP q ∧ smlP r)
    (h0 : Q (.tup [.rows 7 [.agg [.int .i64 0, .int .i64 0, .int .i64 0, .rows 1 [.int .i64 0, .int .i64 0, .int .i64 0, .int .i64 0]], .agg [.int .i64 0, .int .i64 0, .int .i64 0, .rows 1 [.int .i64 0, .int .i64 0, .int .i64 0, .int .i64 0]], .agg [.int .i64 0, .int .i64 0, .int .i64 0, .rows 1 [.int .i64 0, .int .i64 0, .int .i64 0, .int .i64 0]]], .bool false]) H n)
    (h1 : ∀ u v w : TPoint, Imp (0 < crossI u.x u.y v.x v.y w.x w.y ∧ fanP w0 u ∧ fanP w1 v ∧ fanP w2 w) (Q (.tup [.rows 7 [ePoint u, ePoint v, ePoint w], .bool true]) H n)) :
    callA Try.prog 31 [.rows 7 [.agg [.int .i64 p.x, .int .i64 p.y, .int .i64 p.z, .rows 1 [.int .i64 p.a0, .int .i64 p.a1, .int .i64 p.a2, .int .i64 p.a3]], .agg [.int .i64 q.x, .int .i64 q.y, .int .i64 q.z, .rows 1 [.int .i64 q.a0, .int .i64 q.a1, .int .i64 q.a2, .int .i64 q.a3]], .agg [.int .i64 r.x, .int .i64 r.y, .int .i64 r.z, .rows 1 [.int .i64 r.a0, .int .i64 r.a1, .int .i64 r.a2, .int .i64 r.a3]]]] H n Q := by
  obtain ⟨hp, hq, hr⟩ := hw
  obtain ⟨⟨g0, _⟩, ⟨g1, _⟩, g2, _⟩ := hg
  refine rturned_use (by unfold sml; obtain ⟨a1, a2⟩ := hp; obtain ⟨a3, a4⟩ := hq; obtain ⟨a5, a6⟩ := hr; omega) (fun _ => h0) (fun h => h1 p r q ⟨by have := cr_swap p.x p.y q.x q.y r.x r.y; omega, fanP_of g0 hp, fanP_of g1 hr, fanP_of g2 hq⟩) (fun h => h1 p q r ⟨h, fanP_of g0 hp, fanP_of g1 hq, fanP_of g2 hr⟩)
theorem valK_quoV {cx : Cx} {fx : Fx} {kt : Kt} {a b : Int} {H : Hp} {n : Nat} (h : 0 < b ∧ -(16384 * b) ≤ a ∧ a ≤ 16384 * b) (hk : ∀ q : Int, Imp (-16384 ≤ q ∧ q ≤ 16384) (ValK cx fx kt (some (.int .i64 q)) H n)) : ValK cx fx kt (quoO .i64 a b) H n := by
  have hq : -16384 ≤ quoI a b ∧ quoI a b ≤ 16384 := by
    unfold quoI
    have h1 := Int.tdiv_le_tdiv h.1 h.2.1
    have h2 := Int.tdiv_le_tdiv h.1 h.2.2
    rw [Int.mul_tdiv_cancel _ (by omega)] at h2
    rw [Int.neg_tdiv, Int.mul_tdiv_cancel _ (by omega)] at h1
    exact ⟨h1, h2⟩
  refine valK_quoR (by omega) ?_
  unfold wrapO
  rw [wrap64 (by omega)]
  exact hk _ hq
theorem dec_0 : ∀ p0 p1 p2 p3 : Bool, bitI .and .u8 (bI p0 1 + bI p1 2 + bI p2 4 + bI p3 8) 0 = 0 := by decide
theorem dec_1 : ∀ p0 p1 p2 p3 : Bool, bitI .or .u8 0 (bI p0 1 + bI p1 2 + bI p2 4 + bI p3 8) = bI p0 1 + bI p1 2 + bI p2 4 + bI p3 8 := by decide
theorem mask_and0 (ax ay bx by_ cx cy x y : Int) : bitI .and .u8 (maskI ax ay bx by_ cx cy x y) 0 = 0 := dec_0 ..
theorem mask_or0 (ax ay bx by_ cx cy x y : Int) : bitI .or .u8 0 (maskI ax ay bx by_ cx cy x y) = maskI ax ay bx by_ cx cy x y := dec_1 ..
theorem mask_1 (ax ay bx by_ cx cy px py x y : Int) : bitI .and .u8 (maskI bx by_ cx cy px py x y) (maskI ax ay bx by_ px py x y) = 0 :=
  and_dec _ _ _ _ _ _ _ _ (by rw [Bool.and_comm]; exact in_apart1) (by rw [Bool.and_comm]; exact in_apart1) (by rw [Bool.and_comm]; exact in_apart1) (by rw [Bool.and_comm]; exact in_apart1)
theorem fan_bool {a b c : Bool} (h1 : (c && a) = false) (h2 : (b && c) = false) : (c && (a || b)) = false := by revert h1 h2; revert a b c; decide
theorem mask_2 (ax ay bx by_ cx cy px py x y : Int) : bitI .and .u8 (maskI cx cy ax ay px py x y) (bitI .or .u8 (maskI ax ay bx by_ px py x y) (maskI bx by_ cx cy px py x y)) = 0 := by
  unfold maskI
  rw [or_dec]
  exact and_dec _ _ _ _ _ _ _ _ (fan_bool in_apart1 in_apart1) (fan_bool in_apart1 in_apart1) (fan_bool in_apart1 in_apart1) (fan_bool in_apart1 in_apart1)
theorem mask_fan {ax ay bx by_ cx cy px py x y : Int} (hD : 0 < crossI ax ay bx by_ cx cy) (h0 : ¬ crossI ax ay bx by_ px py < 0) (h1 : ¬ crossI bx by_ cx cy px py < 0) (h2 : ¬ crossI cx cy ax ay px py < 0) :
    bitI .or .u8 (bitI .or .u8 (maskI ax ay bx by_ px py x y) (maskI bx by_ cx cy px py x y)) (maskI cx cy ax ay px py x y) = maskI ax ay bx by_ cx cy x y := by
  have q := fun x y : Int => fan_same (x := x) (y := y) hD (show 0 ≤ crossI ax ay bx by_ px py by omega) (show 0 ≤ crossI bx by_ cx cy px py by omega) (show 0 ≤ crossI cx cy ax ay px py by omega)
  unfold maskI
  rw [or_dec, or_dec, q (16 * x + 2) (16 * y + 6), q (16 * x + 6) (16 * y + 14), q (16 * x + 10) (16 * y + 2), q (16 * x + 14) (16 * y + 10)]
noncomputable def cx8 : Cx := ⟨Try.prog, [], [(8, ⟨1, (⟨0, false, [], [], [], 0⟩ :: ⟨1, false, [], [], [], 0⟩ :: ⟨2, false, [1], [], [], 0⟩ :: ⟨3, false, [2], [], [0], 0⟩ :: ⟨4, false, [0, 3], [], [], 0⟩ :: ⟨5, false, [], [], [], 0⟩ :: ⟨6, false, [], [], [], 0⟩ :: ⟨7, false, [6], [], [], 0⟩ :: ⟨8, false, [7], [], [0], 0⟩ :: ⟨9, false, [5, 8], [], [], 0⟩ :: ⟨10, false, [4, 9], [], [], 0⟩ :: ⟨11, false, [], [], [], 0⟩ :: ⟨12, false, [], [], [], 0⟩ :: ⟨13, false, [12], [], [], 0⟩ :: ⟨14, false, [13], [], [0], 0⟩ :: ⟨15, false, [11, 14], [], [], 0⟩ :: ⟨16, false, [10, 15], [], [], 0⟩ :: ⟨17, false, [], [], [], 0⟩ :: ⟨18, false, [], [], [], 0⟩ :: ⟨19, false, [17, 18], [], [], 0⟩ :: ⟨20, false, [], [], [], 0⟩ :: ⟨21, false, [19, 20], [], [], 0⟩ :: ⟨22, false, [16, 21], [], [], 0⟩ :: ⟨23, false, [], [], [], 0⟩ :: ⟨24, false, [], [], [], 0⟩ :: ⟨25, false, [24], [], [], 0⟩ :: ⟨26, false, [25], [], [0], 0⟩ :: ⟨27, false, [23, 26], [], [], 0⟩ :: ⟨28, false, [], [], [], 0⟩ :: ⟨29, false, [], [], [], 0⟩ :: ⟨30, false, [29], [], [], 0⟩ :: ⟨31, false, [30], [], [0], 0⟩ :: ⟨32, false, [28, 31], [], [], 0⟩ :: ⟨33, false, [27, 32], [], [], 0⟩ :: ⟨34, false, [], [], [], 0⟩ :: ⟨35, false, [], [], [], 0⟩ :: ⟨36, false, [35], [], [], 0⟩ :: ⟨37, false, [36], [], [0], 0⟩ :: ⟨38, false, [34, 37], [], [], 0⟩ :: ⟨39, false, [33, 38], [], [], 0⟩ :: ⟨40, false, [], [], [], 0⟩ :: ⟨41, false, [], [], [], 0⟩ :: ⟨42, false, [40, 41], [], [], 0⟩ :: ⟨43, false, [], [], [], 0⟩ :: ⟨44, false, [42, 43], [], [], 0⟩ :: ⟨45, false, [39, 44], [], [], 0⟩ :: ⟨46, false, [22, 45], [], [], 0⟩ :: ⟨47, false, [], [], [], 0⟩ :: ⟨48, true, [3, 8, 14, 26, 31, 37, 46, 47], [], [], 0⟩ :: [])⟩), (15, ⟨1, [⟨0, false, [], [], [], 0⟩, ⟨1, false, [0], [], [], 0⟩, ⟨2, false, [1], [], [0], 0⟩, ⟨3, false, [], [], [], 0⟩, ⟨4, false, [3], [], [], 0⟩, ⟨5, false, [4], [], [], 0⟩, ⟨6, false, [5], [], [], 0⟩, ⟨7, false, [6], [], [0], 0⟩, ⟨8, false, [], [], [0], 0⟩, ⟨9, false, [2, 7, 8], [], [], 0⟩, ⟨10, false, [], [], [], 0⟩, ⟨11, true, [2, 7, 8, 9, 10], [], [], 0⟩]⟩)], ((0, [5, 4, 3]) :: (1, [7, 5, 4, 3]) :: (2, [9, 8, 7, 5, 4]) :: (3, [10, 9, 8, 7, 5, 4]) :: (4, [11, 10, 9, 8, 7, 4]) :: (5, [12, 11, 10, 9, 8, 7, 4]) :: (6, [13, 12, 11, 10, 9, 8, 7, 4]) :: (7, [14, 13, 12, 11, 10, 9, 8, 7]) :: (8, [15, 11, 10, 9, 8, 7]) :: (9, [93, 15, 11, 10, 8, 7]) :: (10, [6]) :: (11, [16, 15, 11, 10, 8, 7]) :: (12, [17, 16, 15, 11, 10, 8, 7]) :: (13, [96, 17, 16, 15, 11, 10, 8, 7]) :: (14, [17, 16, 15, 11, 10, 8, 7]) :: (15, [18, 17, 16, 15, 11, 10, 8, 7]) :: (16, [111, 18, 17, 16, 15, 11, 10, 8, 7]) :: (17, [6]) :: (18, [19, 17, 16, 15, 11, 10, 8, 7]) :: (19, [120, 19, 17, 16, 15, 11, 10, 8, 7]) :: (20, [6]) :: (21, [17, 16, 15, 11, 10, 8, 7]) :: (22, [6]) :: [])⟩
theorem cx8_P : cx8.P = Try.prog := rfl
theorem cx8_l0 : lookL 0 cx8.lv = some [5, 4, 3] := rfl
theorem cx8_l1 : lookL 1 cx8.lv = some [7, 5, 4, 3] := rfl
theorem cx8_l2 : lookL 2 cx8.lv = some [9, 8, 7, 5, 4] := rfl
theorem cx8_l3 : lookL 3 cx8.lv = some [10, 9, 8, 7, 5, 4] := rfl
theorem cx8_l4 : lookL 4 cx8.lv = some [11, 10, 9, 8, 7, 4] := rfl
theorem cx8_l5 : lookL 5 cx8.lv = some [12, 11, 10, 9, 8, 7, 4] := rfl
theorem cx8_l6 : lookL 6 cx8.lv = some [13, 12, 11, 10, 9, 8, 7, 4] := rfl
theorem cx8_l7 : lookL 7 cx8.lv = some [14, 13, 12, 11, 10, 9, 8, 7] := rfl
theorem cx8_l8 : lookL 8 cx8.lv = some [15, 11, 10, 9, 8, 7] := rfl
theorem cx8_l9 : lookL 9 cx8.lv = some [93, 15, 11, 10, 8, 7] := rfl
theorem cx8_l10 : lookL 10 cx8.lv = some [6] := rfl
theorem cx8_l11 : lookL 11 cx8.lv = some [16, 15, 11, 10, 8, 7] := rfl
theorem cx8_l12 : lookL 12 cx8.lv = some [17, 16, 15, 11, 10, 8, 7] := rfl
theorem cx8_l13 : lookL 13 cx8.lv = some [96, 17, 16, 15, 11, 10, 8, 7] := rfl
theorem cx8_l15 : lookL 15 cx8.lv = some [18, 17, 16, 15, 11, 10, 8, 7] := rfl
theorem cx8_l16 : lookL 16 cx8.lv = some [111, 18, 17, 16, 15, 11, 10, 8, 7] := rfl
theorem cx8_l17 : lookL 17 cx8.lv = some [6] := rfl
theorem cx8_l18 : lookL 18 cx8.lv = some [19, 17, 16, 15, 11, 10, 8, 7] := rfl
theorem cx8_l19 : lookL 19 cx8.lv = some [120, 19, 17, 16, 15, 11, 10, 8, 7] := rfl
theorem cx8_l20 : lookL 20 cx8.lv = some [6] := rfl
theorem cx8_l21 : lookL 21 cx8.lv = some [17, 16, 15, 11, 10, 8, 7] := rfl
theorem cx8_l14 : lookL 14 cx8.lv = some [17, 16, 15, 11, 10, 8, 7] := rfl
theorem cx8_l22 : lookL 22 cx8.lv = some [6] := rfl
theorem cx8_p8 : lookP 8 cx8.pl = some ⟨1, (⟨0, false, [], [], [], 0⟩ :: ⟨1, false, [], [], [], 0⟩ :: ⟨2, false, [1], [], [], 0⟩ :: ⟨3, false, [2], [], [0], 0⟩ :: ⟨4, false, [0, 3], [], [], 0⟩ :: ⟨5, false, [], [], [], 0⟩ :: ⟨6, false, [], [], [], 0⟩ :: ⟨7, false, [6], [], [], 0⟩ :: ⟨8, false, [7], [], [0], 0⟩ :: ⟨9, false, [5, 8], [], [], 0⟩ :: ⟨10, false, [4, 9], [], [], 0⟩ :: ⟨11, false, [], [], [], 0⟩ :: ⟨12, false, [], [], [], 0⟩ :: ⟨13, false, [12], [], [], 0⟩ :: ⟨14, false, [13], [], [0], 0⟩ :: ⟨15, false, [11, 14], [], [], 0⟩ :: ⟨16, false, [10, 15], [], [], 0⟩ :: ⟨17, false, [], [], [], 0⟩ :: ⟨18, false, [], [], [], 0⟩ :: ⟨19, false, [17, 18], [], [], 0⟩ :: ⟨20, false, [], [], [], 0⟩ :: ⟨21, false, [19, 20], [], [], 0⟩ :: ⟨22, false, [16, 21], [], [], 0⟩ :: ⟨23, false, [], [], [], 0⟩ :: ⟨24, false, [], [], [], 0⟩ :: ⟨25, false, [24], [], [], 0⟩ :: ⟨26, false, [25], [], [0], 0⟩ :: ⟨27, false, [23, 26], [], [], 0⟩ :: ⟨28, false, [], [], [], 0⟩ :: ⟨29, false, [], [], [], 0⟩ :: ⟨30, false, [29], [], [], 0⟩ :: ⟨31, false, [30], [], [0], 0⟩ :: ⟨32, false, [28, 31], [], [], 0⟩ :: ⟨33, false, [27, 32], [], [], 0⟩ :: ⟨34, false, [], [], [], 0⟩ :: ⟨35, false, [], [], [], 0⟩ :: ⟨36, false, [35], [], [], 0⟩ :: ⟨37, false, [36], [], [0], 0⟩ :: ⟨38, false, [34, 37], [], [], 0⟩ :: ⟨39, false, [33, 38], [], [], 0⟩ :: ⟨40, false, [], [], [], 0⟩ :: ⟨41, false, [], [], [], 0⟩ :: ⟨42, false, [40, 41], [], [], 0⟩ :: ⟨43, false, [], [], [], 0⟩ :: ⟨44, false, [42, 43], [], [], 0⟩ :: ⟨45, false, [39, 44], [], [], 0⟩ :: ⟨46, false, [22, 45], [], [], 0⟩ :: ⟨47, false, [], [], [], 0⟩ :: ⟨48, true, [3, 8, 14, 26, 31, 37, 46, 47], [], [], 0⟩ :: [])⟩ := rfl
theorem cx8_p15 : lookP 15 cx8.pl = some ⟨1, [⟨0, false, [], [], [], 0⟩, ⟨1, false, [0], [], [], 0⟩, ⟨2, false, [1], [], [0], 0⟩, ⟨3, false, [], [], [], 0⟩, ⟨4, false, [3], [], [], 0⟩, ⟨5, false, [4], [], [], 0⟩, ⟨6, false, [5], [], [], 0⟩, ⟨7, false, [6], [], [0], 0⟩, ⟨8, false, [], [], [0], 0⟩, ⟨9, false, [2, 7, 8], [], [], 0⟩, ⟨10, false, [], [], [], 0⟩, ⟨11, true, [2, 7, 8, 9, 10], [], [], 0⟩]⟩ := rfl
theorem cx8_pu : cx8.pu = [] := rfl
theorem cx8_ok : okc cx8 Try.f8.ntmps (Try.f8.body.getD .skip) = true := by kernel_rfl
theorem enter8 {args : List AV} {H : Hp} {n : Nat} {Q : AV → Hp → Nat → Prop} (h : args.length ≤ 133 ∧ Ev cx8 ⟨133, n, none, 8⟩ (Try.f8.body.getD .skip) ⟨argT 0 args, H, n⟩ (.top Try.f8.results.toList Q)) : callA Try.prog 8 args H n Q :=
  callA_ev (cx := cx8) puOk_nil (f := 8) (fn := Try.f8) Try.func8 rfl (by kernel_rfl) h.1 cx8_ok h.2
theorem fan_walk (x0_0 : TPoint) (x0_1 : TPoint) (x0_2 : TPoint) (x1_0 : Int) (x1_1 : Int) (x1_2 : Int) (x2_0 : Int) (x2_1 : Int) (h0_0 : wPoint x0_0) (h0_1 : wPoint x0_1) (h0_2 : wPoint x0_2) (h1_0 : (0 ≤ x1_0 ∧ x1_0 ≤ 255)) (h1_1 : (0 ≤ x1_1 ∧ x1_1 ≤ 255)) (h1_2 : (0 ≤ x1_2 ∧ x1_2 ≤ 255)) (h2_0 : (-9223372036854775808 ≤ x2_0 ∧ x2_0 ≤ 9223372036854775807)) (h2_1 : (-9223372036854775808 ≤ x2_1 ∧ x2_1 ≤ 9223372036854775807)) : callA Try.prog 8 [.rows 7 [ePoint x0_0, ePoint x0_1, ePoint x0_2], .rows 1 [.int .u8 x1_0, .int .u8 x1_1, .int .u8 x1_2], .rows 1 [.int .i64 x2_0, .int .i64 x2_1]] [] 0 fun v _ _ => v = .bool true := by
  have b0 := rem_bd x2_0 1025 (by omega)
  have b1 := rem_bd x2_1 1025 (by omega)
  show callA _ _ _ _ _ _
  sym =>
    repeat (first (apply enter8) (apply shown8_use) (apply three_use) (apply fan_use; (tactic => exact ⟨h1_0, h1_1, h1_2⟩); (tactic => assumption)) (apply valK_quoV; (tactic => ((try simp only [fanB] at *); omega))) (apply rarea_use; (tactic => ((try simp only [sml]); omega))) (apply mask_use; (tactic => ((try simp only [sml]); omega))) (apply loop_next) (apply imp_go; intro hp) (apply valK_w64; · finish (splits := 3) (ematch := 1)) (apply valK_wu8; · finish (splits := 3) (ematch := 1)) (apply valK_wu64; · finish (splits := 3) (ematch := 1)) (apply valK_w32; · finish (splits := 3) (ematch := 1)) (apply valK_wu16; · finish (splits := 3) (ematch := 1)) (apply valK_wu32; · finish (splits := 3) (ematch := 1)) (apply valK_wr) (apply valK_andR) (apply valK_quo; · finish (splits := 3) (ematch := 1)) (apply valK_quoR; · finish (splits := 3) (ematch := 1)) (apply valK_rem; · finish (splits := 3) (ematch := 1)) (apply valK_remR; · finish (splits := 3) (ematch := 1)) (apply valK_bol; · finish (splits := 3) (ematch := 1)) (apply effK_bol; · finish (splits := 3) (ematch := 1)) (apply newK_bol; · finish (splits := 3) (ematch := 1)) (apply appK_bol; · finish (splits := 3) (ematch := 1)) (apply topO_bol; · finish (splits := 3) (ematch := 1)) (apply valK_altY; · finish (splits := 3) (ematch := 1)) (apply valK_altN; · finish (splits := 3) (ematch := 1)) (apply effK_altY; · finish (splits := 3) (ematch := 1)) (apply effK_altN; · finish (splits := 3) (ematch := 1)) (apply valK_altNY; · finish (splits := 3) (ematch := 1)) (apply valK_altNN; · finish (splits := 3) (ematch := 1)) (apply valK_altS) (apply valK_altNS) (apply effK_altS) (apply appS_go) (apply brC_y; · finish (splits := 3) (ematch := 1)) (apply brC_n; · finish (splits := 3) (ematch := 1)) (apply brC_yN; · finish (splits := 3) (ematch := 1)) (apply brC_nN; · finish (splits := 3) (ematch := 1)) (apply brC_s) (apply brC_sN) (apply wantK_y; · finish (splits := 3) (ematch := 1)) (apply wantK_n; · finish (splits := 3) (ematch := 1)) (apply wantK_yN; · finish (splits := 3) (ematch := 1)) (apply wantK_nN; · finish (splits := 3) (ematch := 1)) (apply wantK_s) (apply wantK_sN) (apply rowG_y; · finish (splits := 3) (ematch := 1)) (apply rowG_n; · finish (splits := 3) (ematch := 1)) (apply rowG_yN; · finish (splits := 3) (ematch := 1)) (apply rowG_nN; · finish (splits := 3) (ematch := 1)) (apply rowG_s) (apply rowG_sN) (simp [mask_and0, mask_or0, mask_1, mask_2, eBase_eq, eColour_eq, eFrag_eq, eKey_eq, ePoint_eq, ePrepasspixel_eq, cx8_P, cx8_l0, cx8_l1, cx8_l2, cx8_l3, cx8_l4, cx8_l5, cx8_l6, cx8_l7, cx8_l8, cx8_l9, cx8_l10, cx8_l11, cx8_l12, cx8_l13, cx8_l15, cx8_l16, cx8_l17, cx8_l18, cx8_l19, cx8_l20, cx8_l21, cx8_l14, cx8_l22, cx8_p8, cx8_p15, cx8_pu, Try.f8.eq_1, ty_arrOf_24, ty_arrOf_29, ty_arrOf_3, ty_arrOf_49, ty_arrOf_5, ty_arrOf_53, ty_fldOf_24_0, ty_fldOf_24_1, ty_fldOf_24_2, ty_fldOf_24_3, ty_hasTy_5, ty_intOf_3, ty_lay_24, ty_lay_29, ty_lay_3, ty_lay_5, ty_notInt_24, ty_notInt_29, ty_placesOf_24, ty_placesOf_29, ty_slcOf_24, ty_slcOf_29, ty_slcOf_3, ty_slcOf_49, ty_slcOf_5, ty_slcOf_53, ty_zeroA_24, ty_zeroA_29, ty_zeroA_5, valK_some, newK_some, effK_some, opE_move, opE_assign, opE_pick, opE_build, opE_load, opE_bin, opE_un, opE_conv, opE_fieldAddr, opE_indexAddr, opE_extract, opE_alloc, opE_box, callK_fn, callK_yld, callG_some, callG_none, opE_store_r, opE_call_r, opE_store_w, opE_call_w, opE_append_w, ev_seq, ev_skip, ev_label, ev_region, ev_draw, evDO_some, ev_cond, condC_some, brC_true, brC_false, ev_block, ev_scope, ev_exit, ev_ret, ev_loop, nx_seq, nx_seqE, nx_seqR, nx_blk, nx_blkE, nx_blkR, nx_loop, nx_loopE, nx_loopR, nx_inv, nx_invE, nx_invR, nx_top, nx_topR, topO_some, evR_nil, wantK_tup, wantK_tt, wantK_ff, wantK_tf, wantK_ft, evR_op, evR_guard, evD_nil, evD_row, rowK_eff, rowK_calm, rowK_guard, rowG_tup, rowG_tt, rowG_ff, rowG_tf, rowG_ft, rowN_eq, chkA_nil, chkA_cons, chkO_some, chkW_false, sameO_some, chkW_load, chkW_len, finK_reg, finK_row, finK_calm, finN_reg, finN_row, finN_calm, nid_reg, nid_row, nid_calm, getT_cons, putT_some, putT_none, trimT_some, trimT_none, keepT_nil, keepT_cons, consT_some, consT_none, getT_nil, getO_tmp, getO_const, getO_func, ofC_int, ofC_bool, ofC_ptr, ofC_slc, ofC_map, ofC_fn, getOs_nil, getOs_cons, consO_some, guardT_eq, guardO_some, wantA_none, wantA_some, wantO_tup, wantO_tt, wantO_ff, wantO_tf, wantO_ft, hget_cons, hset_cons, memb_nil, memb_cons, hideH_cons, showH_cons, hideH_none, showH_none, showH_nil, outs_nil, outs_cons, app_nil, nil_app, cons_app, rowOf_cons, wrap_lit, wrap_neg, top_i64, bot_i64, top_u8, bot_u8, bits_u8, bits_i64, cast_lit, toNat_lit, get_zero, get_succ, take_zero, take_succ, set_zero, set_succ, length_nil, length_cons, length_set, append_nil, nil_append, cons_append, toList_arr, bnot_true, bnot_false, band_true, band_false, beq_tt, beq_ff, beq_tf, beq_ft, beq_nat, beq_int, bne_nat, map_some, map_none, true_eq_false, false_eq_true, true_eq_true, fbody_mk, fresults_mk, getD_some, bol_true, binO_some, quo_lit, quo_neg, rem_lit, rem_neg, bin_eql, bin_neq, bin_lss, bin_or, bin_beql, bin_bneq, eqO_eq, eqO_ne, bin_aeql, bin_aneq, bin_reql, bin_rneq, aggEq_some, flatL_nil, flatL_cons, appV_some, flatV_int, flatV_bool, flatV_agg, flatV_rows, bin_feql, bin_fneq, bin_nfeql, bin_nfneq, bin_peql, bin_pneq, bin_npeql, bin_npneq, unO_some, un_not, convO_some, conv_int, pickA_true, pickA_false, exO_some, ext_tup, size_int, size_bool, size_str, size_ptr, size_nilp, size_slc, size_nils, size_map, size_nilm, size_fn, size_yld, size_nilf, size_agg, size_rows, sizeL_nil, sizeL_cons, layOK_int, layOK_bool, layOK_str, layOK_ptr, layOK_nilp, layOK_slc, layOK_nils, layOK_map, layOK_nilm, layOK_fn, layOK_yld, layOK_nilf, layOK_agg, layOK_rows, isTup_int, isTup_bool, isTup_str, isTup_ptr, isTup_nilp, isTup_slc, isTup_nils, isTup_map, isTup_nilm, isTup_fn, isTup_yld, isTup_nilf, isTup_agg, isTup_rows, getP_nil, getP_cons, getS_some, stepP_agg, stepP_rows, putP_nil, putP_cons, putS_some, putU_some, setS_agg, setS_rows, loadO_some, loadA_ptr, loadE_cel, loadE_vec, loadE_ro, chkL_some, storeO_some, stH_some, storeA_ptr, storeE_cel, storeE_vec, storeB_cel, faO_some, fa_ptr, iaO_some, newA_some, partsO_nil, partsO_cons, buildA_some, fillP_nil, fillP_cons, fillN_some, setA_agg, setA_rows, setC_some, setD_some, resF_eq, resAll_nil, resAll_cons, resOne_tmp, resOne_cell, tupO_none, tupO_one, tupO_more, argT_nil, argT_cons, lookU_nil, lookU_cons, lookL_cons, lookL_nil, lookP_cons, roundS_eq, mbin_add, mbin_mul, mbin_quo, mbin_rem, mun_neg, mcvI_some, wrapO_lit, wrapO_neg, mia_ptr, mia_slc, mstoreB_vec, len_set, not_tf, not_ft, and_tf, not_not_b, alt_true, alt_false, pick_alt, bol_false, getS_bol, getS_alt, chkL_bol, chkL_alt, putS_bol, putS_alt, putU_bol, putU_alt, storeB_bol, storeB_alt, stH_bol, stH_alt, consO_bol, consO_bol2, tupO_bol, fillN_bol, eqO_bol, bol_bol, get_mapB, get_setB, get_appB, len_map, nat_zero_add, subC_nil, subC_seq0, subC_seq1, subC_cond0, subC_cond1, subC_block, subC_scope, subC_loop, subC_ran0, subC_ran1, bitI_and_lit, bitI_or_lit, bitI_xor_lit, bitI_andNot_lit, mbin_and, andO_lit, andO_1, andO_3, andO_7, andO_15, hideH_nil, and_self, and_true, true_and, and_false, false_and]) (apply chkW_want) (apply chkW_wantA) (apply valK_bolB; · finish (splits := 3) (ematch := 1)) (apply valK_altT; · finish (splits := 3) (ematch := 1)) (apply valK_altF; · finish (splits := 3) (ematch := 1)) (apply valK_altB) (apply brC_t; · finish (splits := 3) (ematch := 1)) (apply brC_f; · finish (splits := 3) (ematch := 1)) (apply brC_sBN) (apply brC_sB) (apply wantK_t; · finish (splits := 3) (ematch := 1)) (apply wantK_f; · finish (splits := 3) (ematch := 1)) (apply wantK_sBN) (apply wantK_sB) (apply rowG_t; · finish (splits := 3) (ematch := 1)) (apply rowG_f; · finish (splits := 3) (ematch := 1)) (apply rowG_sBN) (apply rowG_sB) (intro~ hr) (tactic => first | trivial | exact congrArg AV.bool (if_pos (mask_fan (by omega) (by assumption) (by assumption) (by assumption)))))
end Go.Proofs.Ytimolomjpmkbiaa
