/-
  The row of law EdgeTurns, from its contract: whatever the arguments are, it hands back true, and what there was is as it was.
-/
import Derived.Test.YtgpdcjgjgblkfaaRows
import Derived.Test.YtgpdcjgjgblkfaaZw
import Derived.Test.YtgpdcjgjgblkfaaEe
namespace Go.Proofs.Ytgpdcjgjgblkfaa
open Go.Z Go.ChangeShapes Go.WideShapes Go.ChangeAt Go.RowKit
set_option linter.unusedVariables false

theorem edgeTurns_own : ownKnob Try.prog.godebug = none := by kernel_rfl
theorem edgeTurns_laid : laidOutB Try.prog = true := by kernel_rfl

set_option maxRecDepth 100000 in
theorem edgeTurns_lifted (os : Os) (started : os.Started) (H : Type) (enc : TypeId × Value → H) :
    ReturnsInHanded {} Try.checked os 7 .any (Rows.edgeTurnsSpec.pre6 enc Try.prog Try.f7 Rows.edgeTurnsRow.domain false) (Rows.edgeTurnsSpec.post enc Try.prog Try.f7 false true false false) := by
  refine returnsInHanded_of_change (C := Try.checked) edgeTurns_own started (by kernel_rfl) Try.func7
    (ChangeSpec.witness6 (enc := enc) (C := Try.checked) false ⟨#[], #[.agg #[.int .i64 0, .int .i64 0, .int .i64 0, .int .i64 0, .int .i64 0, .int .i64 0, .int .i64 0, .int .i64 0, .int .i64 0, .int .i64 0, .int .i64 0, .int .i64 0, .int .i64 0, .int .i64 0, .int .i64 0, .int .i64 0, .int .i64 0, .int .i64 0, .int .i64 0, .int .i64 0, .int .i64 0], .agg #[.int .i64 0, .int .i64 0, .int .i64 0, .int .i64 0, .int .i64 0, .int .i64 0, .int .i64 0]], []⟩ 8 (by kernel_rfl) (by kernel_rfl) (by kernel_rfl) (by kernel_rfl)) ?_
  intro W base args ds gs before hval0 hW hcnd _
  have hval : ∀ (j : Nat) t v, Try.f7.params[j]? = some t → args[j]? = some v → Value.okWide Try.prog W .any base t v := hval0
  have hW' := hW
  obtain ⟨p, q, hA0, hV, rfl, hfz, hnd⟩ := hW
  have hA : DataW.TrodAll enc Try.prog W 0 (fun _ => true) true Try.f7.params.toList args.toList ds p := hA0
  rw [Try.params7] at hA hval
  obtain ⟨v0, vs0, d0, ds0, p0, q0, hargs, rfl, rfl, k0, r0⟩ := trodAll_cons hA
  obtain ⟨v1, vs1, d1, ds1, p1, q1, rfl, rfl, rfl, k1, r1⟩ := trodAll_cons r0
  obtain ⟨rfl, rfl, rfl⟩ := trodAll_nil r1
  obtain rfl : args = #[v0, v1] := by cases args; simp_all
  obtain ⟨rfl, rfl⟩ := trodVars_none hV
  have lt0 : ∀ x ∈ p0, x.block < W.heap.size := by obtain ⟨m, hm⟩ := k0; exact DataW.trod_lt m _ _ _ hm
  obtain ⟨c0, rfl, f0⟩ := open_flat (ks := [some .i64, some .i64, some .i64, some .i64, some .i64, some .i64, some .i64, some .i64, some .i64, some .i64, some .i64, some .i64, some .i64, some .i64, some .i64, some .i64, some .i64, some .i64, some .i64, some .i64, some .i64]) (by kernel_rfl) (hval 0 29 v0 rfl rfl)
  obtain ⟨x0_0, u0_0, rfl, hx0_0, f0_1⟩ := f0
  obtain ⟨x0_1, u0_1, rfl, hx0_1, f0_2⟩ := f0_1
  obtain ⟨x0_2, u0_2, rfl, hx0_2, f0_3⟩ := f0_2
  obtain ⟨x0_3, u0_3, rfl, hx0_3, f0_4⟩ := f0_3
  obtain ⟨x0_4, u0_4, rfl, hx0_4, f0_5⟩ := f0_4
  obtain ⟨x0_5, u0_5, rfl, hx0_5, f0_6⟩ := f0_5
  obtain ⟨x0_6, u0_6, rfl, hx0_6, f0_7⟩ := f0_6
  obtain ⟨x0_7, u0_7, rfl, hx0_7, f0_8⟩ := f0_7
  obtain ⟨x0_8, u0_8, rfl, hx0_8, f0_9⟩ := f0_8
  obtain ⟨x0_9, u0_9, rfl, hx0_9, f0_10⟩ := f0_9
  obtain ⟨x0_10, u0_10, rfl, hx0_10, f0_11⟩ := f0_10
  obtain ⟨x0_11, u0_11, rfl, hx0_11, f0_12⟩ := f0_11
  obtain ⟨x0_12, u0_12, rfl, hx0_12, f0_13⟩ := f0_12
  obtain ⟨x0_13, u0_13, rfl, hx0_13, f0_14⟩ := f0_13
  obtain ⟨x0_14, u0_14, rfl, hx0_14, f0_15⟩ := f0_14
  obtain ⟨x0_15, u0_15, rfl, hx0_15, f0_16⟩ := f0_15
  obtain ⟨x0_16, u0_16, rfl, hx0_16, f0_17⟩ := f0_16
  obtain ⟨x0_17, u0_17, rfl, hx0_17, f0_18⟩ := f0_17
  obtain ⟨x0_18, u0_18, rfl, hx0_18, f0_19⟩ := f0_18
  obtain ⟨x0_19, u0_19, rfl, hx0_19, f0_20⟩ := f0_19
  obtain ⟨x0_20, u0_20, rfl, hx0_20, f0_21⟩ := f0_20
  cases f0_21
  have lt1 : ∀ x ∈ p1, x.block < W.heap.size := by obtain ⟨m, hm⟩ := k1; exact DataW.trod_lt m _ _ _ hm
  obtain ⟨c1, rfl, f1⟩ := open_flat (ks := [some .i64, some .i64, some .i64, some .i64, some .i64, some .i64, some .i64]) (by kernel_rfl) (hval 1 24 v1 rfl rfl)
  obtain ⟨x1_0, u1_0, rfl, hx1_0, f1_1⟩ := f1
  obtain ⟨x1_1, u1_1, rfl, hx1_1, f1_2⟩ := f1_1
  obtain ⟨x1_2, u1_2, rfl, hx1_2, f1_3⟩ := f1_2
  obtain ⟨x1_3, u1_3, rfl, hx1_3, f1_4⟩ := f1_3
  obtain ⟨x1_4, u1_4, rfl, hx1_4, f1_5⟩ := f1_4
  obtain ⟨x1_5, u1_5, rfl, hx1_5, f1_6⟩ := f1_5
  obtain ⟨x1_6, u1_6, rfl, hx1_6, f1_7⟩ := f1_6
  cases f1_7
  clear hA0 hval0
  refine (calls_of_callF (turns_walk x0_0 x0_1 x0_2 x0_3 x0_4 x0_5 x0_6 x0_7 x0_8 x0_9 x0_10 x0_11 x0_12 x0_13 x0_14 x0_15 x0_16 x0_17 x0_18 x0_19 x0_20 x1_0 x1_1 x1_2 x1_3 x1_4 x1_5 x1_6 hx0_0 hx0_1 hx0_2 hx0_3 hx0_4 hx0_5 hx0_6 hx0_7 hx0_8 hx0_9 hx0_10 hx0_11 hx0_12 hx0_13 hx0_14 hx0_15 hx0_16 hx0_17 hx0_18 hx0_19 hx0_20 hx1_0 hx1_1 hx1_2 hx1_3 hx1_4 hx1_5 hx1_6) (w := W)).mono fun e W' ⟨he, bel⟩ => ?_
  subst he
  exact ⟨_, rfl, _, _, _, [], _, [], hW', trodAll_mk1 (shut_bool (by kernel_rfl) _), (trodAll_cons_mk (Below.trod edgeTurns_laid (by kernel_rfl) (of_decide_eq_true (by kernel_rfl)) k0 bel lt0) (trodAll_cons_mk (Below.trod edgeTurns_laid (by kernel_rfl) (of_decide_eq_true (by kernel_rfl)) k1 bel lt1) trodAll_mk0)), rfl, bel.frame _, fun h => by cases h⟩

/-- The statement. -/
theorem edgeTurns_proved : Rows.EdgeTurnsSaid :=
  OpenClaim.holds_of_wide 7 Try.f7 rfl rfl rfl rfl rfl rfl rfl ⟨rfl, rfl, rfl, rfl, rfl⟩ rfl rfl rfl rfl rfl (by kernel_rfl) Try.func7 (by kernel_rfl)
    (of_decide_eq_true (by kernel_rfl)) (by unfold Func.isWrapper; first | (rw [if_pos (by decide +kernel)]; kernel_rfl) | (rw [if_neg (by decide +kernel)]; exact ⟨rfl, rfl⟩))
    (fun os started H enc _ => edgeTurns_lifted os started H enc)
end Go.Proofs.Ytgpdcjgjgblkfaa
