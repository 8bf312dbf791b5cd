/-
  The row of law ColourBetween, from its contract: whatever the arguments are, it hands back true, and what there was is as it was.
-/
import Derived.Test.YteoomeajampfcaaRows
import Derived.Test.YteoomeajampfcaaLa
import Derived.Test.YteoomeajampfcaaCd
namespace Go.Proofs.Yteoomeajampfcaa
open Go.Y Go.ChangeShapes Go.WideShapes Go.ChangeAt Go.RowKit
set_option linter.unusedVariables false

theorem colourBetween_own : ownKnob Try.prog.godebug = none := by kernel_rfl
theorem colourBetween_laid : laidOutB Try.prog = true := by kernel_rfl

set_option maxRecDepth 100000 in
theorem colourBetween_lifted (os : Os) (started : os.Started) (H : Type) (enc : TypeId × Value → H) :
    ReturnsInHanded {} Try.checked os 3 .any (Rows.colourBetweenSpec.pre6 enc Try.prog Try.f3 Rows.colourBetweenRow.domain false) (Rows.colourBetweenSpec.post enc Try.prog Try.f3 false true false false) := by
  refine returnsInHanded_of_change (C := Try.checked) colourBetween_own started (by kernel_rfl) Try.func3
    (ChangeSpec.witness6 (enc := enc) (C := Try.checked) false ⟨#[], #[.agg #[.int .u8 0, .int .u8 0, .int .u8 0, .int .u8 0], .agg #[.int .u8 0, .int .u8 0, .int .u8 0, .int .u8 0], .agg #[.int .u16 0, .int .u16 0]], []⟩ 8 (by kernel_rfl) (by kernel_rfl) (by kernel_rfl) (by kernel_rfl)) ?_
  intro W base args ds gs before hval0 hW hcnd _
  have hval : ∀ (j : Nat) t v, Try.f3.params[j]? = some t → args[j]? = some v → Value.okWide Try.prog W .any base t v := hval0
  have hW' := hW
  obtain ⟨p, q, hA0, hV, rfl, hfz, hnd⟩ := hW
  have hA : DataW.TrodAll enc Try.prog W 0 (fun _ => true) true Try.f3.params.toList args.toList ds p := hA0
  rw [Try.params3] at hA hval
  obtain ⟨v0, vs0, d0, ds0, p0, q0, hargs, rfl, rfl, k0, r0⟩ := trodAll_cons hA
  obtain ⟨v1, vs1, d1, ds1, p1, q1, rfl, rfl, rfl, k1, r1⟩ := trodAll_cons r0
  obtain ⟨v2, vs2, d2, ds2, p2, q2, rfl, rfl, rfl, k2, r2⟩ := trodAll_cons r1
  obtain ⟨rfl, rfl, rfl⟩ := trodAll_nil r2
  obtain rfl : args = #[v0, v1, v2] := by cases args; simp_all
  obtain ⟨rfl, rfl⟩ := trodVars_none hV
  have lt0 : ∀ x ∈ p0, x.block < W.heap.size := by obtain ⟨m, hm⟩ := k0; exact DataW.trod_lt m _ _ _ hm
  obtain ⟨c0, rfl, f0⟩ := open_flat (ks := [some .u8, some .u8, some .u8, some .u8]) (by kernel_rfl) (hval 0 23 v0 rfl rfl)
  obtain ⟨x0_0, u0_0, rfl, hx0_0, f0_1⟩ := f0
  obtain ⟨x0_1, u0_1, rfl, hx0_1, f0_2⟩ := f0_1
  obtain ⟨x0_2, u0_2, rfl, hx0_2, f0_3⟩ := f0_2
  obtain ⟨x0_3, u0_3, rfl, hx0_3, f0_4⟩ := f0_3
  cases f0_4
  have lt1 : ∀ x ∈ p1, x.block < W.heap.size := by obtain ⟨m, hm⟩ := k1; exact DataW.trod_lt m _ _ _ hm
  obtain ⟨c1, rfl, f1⟩ := open_flat (ks := [some .u8, some .u8, some .u8, some .u8]) (by kernel_rfl) (hval 1 23 v1 rfl rfl)
  obtain ⟨x1_0, u1_0, rfl, hx1_0, f1_1⟩ := f1
  obtain ⟨x1_1, u1_1, rfl, hx1_1, f1_2⟩ := f1_1
  obtain ⟨x1_2, u1_2, rfl, hx1_2, f1_3⟩ := f1_2
  obtain ⟨x1_3, u1_3, rfl, hx1_3, f1_4⟩ := f1_3
  cases f1_4
  have lt2 : ∀ x ∈ p2, x.block < W.heap.size := by obtain ⟨m, hm⟩ := k2; exact DataW.trod_lt m _ _ _ hm
  obtain ⟨c2, rfl, f2⟩ := open_flat (ks := [some .u16, some .u16]) (by kernel_rfl) (hval 2 25 v2 rfl rfl)
  obtain ⟨x2_0, u2_0, rfl, hx2_0, f2_1⟩ := f2
  obtain ⟨x2_1, u2_1, rfl, hx2_1, f2_2⟩ := f2_1
  cases f2_2
  clear hA0 hval0
  refine (calls_of_callA (colourBetween_walk x0_0 x0_1 x0_2 x0_3 x1_0 x1_1 x1_2 x1_3 x2_0 x2_1 hx0_0 hx0_1 hx0_2 hx0_3 hx1_0 hx1_1 hx1_2 hx1_3 hx2_0 hx2_1) (by intro lam; simp [okL, AV.ok, okT, okR, AV.isTup, AV.size, sizeL]) rfl ⟨fun _ _ => none, fun _ => False⟩ (uv := .bool true) rfl rfl (w := W)).mono fun e W' ⟨he, bel⟩ => ?_
  subst he
  exact ⟨_, rfl, _, _, _, [], _, [], hW', trodAll_mk1 (shut_bool (by kernel_rfl) _), (trodAll_cons_mk (Below.trod colourBetween_laid (by kernel_rfl) (of_decide_eq_true (by kernel_rfl)) k0 bel lt0) (trodAll_cons_mk (Below.trod colourBetween_laid (by kernel_rfl) (of_decide_eq_true (by kernel_rfl)) k1 bel lt1) (trodAll_cons_mk (Below.trod colourBetween_laid (by kernel_rfl) (of_decide_eq_true (by kernel_rfl)) k2 bel lt2) trodAll_mk0))), rfl, bel.frame _, fun h => by cases h⟩

/-- The statement. -/
theorem colourBetween_proved : Rows.ColourBetweenSaid :=
  OpenClaim.holds_of_wide 3 Try.f3 rfl rfl rfl rfl rfl rfl rfl ⟨rfl, rfl, rfl, rfl, rfl⟩ rfl rfl rfl rfl rfl (by kernel_rfl) Try.func3 (by kernel_rfl)
    (of_decide_eq_true (by kernel_rfl)) (by unfold Func.isWrapper; first | (rw [if_pos (by decide +kernel)]; kernel_rfl) | (rw [if_neg (by decide +kernel)]; exact ⟨rfl, rfl⟩))
    (fun os started H enc _ => colourBetween_lifted os started H enc)
end Go.Proofs.Yteoomeajampfcaa
