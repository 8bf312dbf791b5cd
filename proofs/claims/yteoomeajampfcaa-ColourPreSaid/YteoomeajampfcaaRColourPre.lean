/-
  The row of law ColourPre, from its contract: whatever the arguments are, it hands back true, and what there was is as it was.
-/
import Derived.Test.YteoomeajampfcaaRows
import Derived.Test.YteoomeajampfcaaLa
import Derived.Test.YteoomeajampfcaaCc
namespace Go.Proofs.Yteoomeajampfcaa
open Go.Y Go.ChangeShapes Go.WideShapes Go.ChangeAt Go.RowKit
set_option linter.unusedVariables false

theorem colourPre_own : ownKnob Try.prog.godebug = none := by kernel_rfl
theorem colourPre_laid : laidOutB Try.prog = true := by kernel_rfl

set_option maxRecDepth 100000 in
theorem colourPre_lifted (os : Os) (started : os.Started) (H : Type) (enc : TypeId × Value → H) :
    ReturnsInHanded {} Try.checked os 4 .any (Rows.colourPreSpec.pre6 enc Try.prog Try.f4 Rows.colourPreRow.domain false) (Rows.colourPreSpec.post enc Try.prog Try.f4 false true false false) := by
  refine returnsInHanded_of_change (C := Try.checked) colourPre_own started (by kernel_rfl) Try.func4
    (ChangeSpec.witness6 (enc := enc) (C := Try.checked) false ⟨#[], #[.agg #[.int .u8 0, .int .u8 0, .int .u8 0, .int .u8 0], .int .u8 0], []⟩ 8 (by kernel_rfl) (by kernel_rfl) (by kernel_rfl) (by kernel_rfl)) ?_
  intro W base args ds gs before hval0 hW hcnd _
  have hval : ∀ (j : Nat) t v, Try.f4.params[j]? = some t → args[j]? = some v → Value.okWide Try.prog W .any base t v := hval0
  have hW' := hW
  obtain ⟨p, q, hA0, hV, rfl, hfz, hnd⟩ := hW
  have hA : DataW.TrodAll enc Try.prog W 0 (fun _ => true) true Try.f4.params.toList args.toList ds p := hA0
  rw [Try.params4] at hA hval
  obtain ⟨v0, vs0, d0, ds0, p0, q0, hargs, rfl, rfl, k0, r0⟩ := trodAll_cons hA
  obtain ⟨v1, vs1, d1, ds1, p1, q1, rfl, rfl, rfl, k1, r1⟩ := trodAll_cons r0
  obtain ⟨rfl, rfl, rfl⟩ := trodAll_nil r1
  obtain rfl : args = #[v0, v1] := by cases args; simp_all
  obtain ⟨rfl, rfl⟩ := trodVars_none hV
  have lt0 : ∀ x ∈ p0, x.block < W.heap.size := by obtain ⟨m, hm⟩ := k0; exact DataW.trod_lt m _ _ _ hm
  obtain ⟨c0, rfl, f0⟩ := open_flat (ks := [some .u8, some .u8, some .u8, some .u8]) (by kernel_rfl) (hval 0 23 v0 rfl rfl)
  obtain ⟨x0_0, u0_0, rfl, hx0_0, f0_1⟩ := f0
  obtain ⟨x0_1, u0_1, rfl, hx0_1, f0_2⟩ := f0_1
  obtain ⟨x0_2, u0_2, rfl, hx0_2, f0_3⟩ := f0_2
  obtain ⟨x0_3, u0_3, rfl, hx0_3, f0_4⟩ := f0_3
  cases f0_4
  have lt1 : ∀ x ∈ p1, x.block < W.heap.size := by obtain ⟨m, hm⟩ := k1; exact DataW.trod_lt m _ _ _ hm
  obtain ⟨x1_0, rfl, hx1_0⟩ := open_one (k := .u8) (by kernel_rfl) (hval 1 5 v1 rfl rfl)
  clear hA0 hval0
  refine (calls_of_callA (colourPre_walk x0_0 x0_1 x0_2 x0_3 x1_0 hx0_0 hx0_1 hx0_2 hx0_3 hx1_0) (by intro lam; simp [okL, AV.ok, okT, okR, AV.isTup, AV.size, sizeL]) rfl ⟨fun _ _ => none, fun _ => False⟩ (uv := .bool true) rfl rfl (w := W)).mono fun e W' ⟨he, bel⟩ => ?_
  subst he
  exact ⟨_, rfl, _, _, _, [], _, [], hW', trodAll_mk1 (shut_bool (by kernel_rfl) _), (trodAll_cons_mk (Below.trod colourPre_laid (by kernel_rfl) (of_decide_eq_true (by kernel_rfl)) k0 bel lt0) (trodAll_cons_mk (Below.trod colourPre_laid (by kernel_rfl) (of_decide_eq_true (by kernel_rfl)) k1 bel lt1) trodAll_mk0)), rfl, bel.frame _, fun h => by cases h⟩

/-- The statement. -/
theorem colourPre_proved : Rows.ColourPreSaid :=
  OpenClaim.holds_of_wide 4 Try.f4 rfl rfl rfl rfl rfl rfl rfl ⟨rfl, rfl, rfl, rfl, rfl⟩ rfl rfl rfl rfl rfl (by kernel_rfl) Try.func4 (by kernel_rfl)
    (of_decide_eq_true (by kernel_rfl)) (by unfold Func.isWrapper; first | (rw [if_pos (by decide +kernel)]; kernel_rfl) | (rw [if_neg (by decide +kernel)]; exact ⟨rfl, rfl⟩))
    (fun os started H enc _ => colourPre_lifted os started H enc)
end Go.Proofs.Yteoomeajampfcaa
