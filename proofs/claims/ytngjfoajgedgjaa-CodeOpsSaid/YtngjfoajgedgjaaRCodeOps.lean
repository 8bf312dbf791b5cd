/-
  The row of law CodeOps, from its contract: whatever the arguments are, it hands back true, and what there was is as it was.
-/
import Derived.Test.YtngjfoajgedgjaaRows
import Derived.Test.YtngjfoajgedgjaaT
import Derived.Test.YtngjfoajgedgjaaWd
namespace Go.Proofs.Ytngjfoajgedgjaa
open Go.Y Go.ChangeShapes Go.WideShapes Go.ChangeAt Go.RowKit
set_option linter.unusedVariables false
set_option linter.unusedSimpArgs false

theorem codeOps_own : ownKnob Try.prog.godebug = none := by kernel_rfl
theorem codeOps_laid : laidOutB Try.prog = true := by kernel_rfl

set_option maxRecDepth 100000 in
theorem codeOps_lifted (os : Os) (started : os.Started) (H : Type) (enc : TypeId × Value → H) :
    ReturnsInHanded {} Try.checked os 7 .any (Rows.codeOpsSpec.pre6 enc Try.prog Try.f7 Rows.codeOpsRow.domain false) (Rows.codeOpsSpec.post enc Try.prog Try.f7 false true false false) := by
  refine returnsInHanded_of_change (C := Try.checked) codeOps_own started (by kernel_rfl) Try.func7
    (ChangeSpec.witness6 (enc := enc) (C := Try.checked) false ⟨#[], #[.int .u8 0, .agg #[.int .u8 0, .int .u8 0, .int .u8 0]], []⟩ 8 (by kernel_rfl) (by kernel_rfl) (by kernel_rfl) (by kernel_rfl)) ?_
  intro W base args ds gs before hval0 hW hcnd _
  have hval : ∀ (j : Nat) t v, Try.f7.params[j]? = some t → args[j]? = some v → Value.okWide Try.prog W .any base t v := hval0
  have hW' := hW
  obtain ⟨p, q, hA0, hV, rfl, hfz, hnd⟩ := hW
  have hA : DataW.TrodAll enc Try.prog W 0 (fun _ => true) true Try.f7.params.toList args.toList ds p := hA0
  rw [Try.params7] at hA hval
  obtain ⟨v0, vs0, d0, ds0, p0, q0, hargs, rfl, rfl, k0, r0⟩ := trodAll_cons hA
  obtain ⟨v1, vs1, d1, ds1, p1, q1, rfl, rfl, rfl, k1, r1⟩ := trodAll_cons r0
  obtain ⟨rfl, rfl, rfl⟩ := trodAll_nil r1
  obtain rfl : args = #[v0, v1] := by cases args; simp_all
  obtain ⟨rfl, rfl⟩ := trodVars_none hV
  have lt0 : ∀ x ∈ p0, x.block < W.heap.size := by obtain ⟨m, hm⟩ := k0; exact DataW.trod_lt m _ _ _ hm
  obtain ⟨x0, rfl, hh0⟩ := open_one (k := .u8) (by kernel_rfl) (hval 0 5 v0 rfl rfl)
  have h0 := has_u8 hh0
  have lt1 : ∀ x ∈ p1, x.block < W.heap.size := by obtain ⟨m, hm⟩ := k1; exact DataW.trod_lt m _ _ _ hm
  obtain ⟨C1, rfl, f1⟩ := open_flat (ks := [some .u8, some .u8, some .u8]) (by kernel_rfl) (hval 1 37 v1 rfl rfl)
  obtain ⟨Cx1_0, Dx1_0, rfl, gx1_0, f1_1⟩ := flatK_split (ks := [some .u8]) (r := [some .u8, some .u8]) f1
  obtain ⟨x1_0, hhx1_0, ex1_0⟩ := of_int gx1_0
  have h1_0 := has_u8 hhx1_0
  obtain ⟨Cx1_1, Dx1_1, rfl, gx1_1, f1_2⟩ := flatK_split (ks := [some .u8]) (r := [some .u8]) f1_1
  obtain ⟨x1_1, hhx1_1, ex1_1⟩ := of_int gx1_1
  have h1_1 := has_u8 hhx1_1
  obtain ⟨x1_2, hhx1_2, ex1_2⟩ := of_int f1_2
  have h1_2 := has_u8 hhx1_2
  clear hA0 hval0
  have hro : ∀ (i : Nat) x sz l, ([] : List (Option (Nat × Nat)))[i]? = some x → ([] : List (Nat × List AV))[i]? = some (sz, l) → RoArg W x sz l := by
    intro i x sz l hx hr
    match i, hx, hr with
    | k + 0, hx, hr => simp at hx
  refine (calls_of_callA_ro (r := []) (xs := []) (ops_walk x0 x1_0 x1_1 x1_2 h0 h1_0 h1_1 h1_2) rfl hro ⟨trivial, (by simp [AV.ok, okL, okR, okT, AV.isTup, AV.size, sizeL]), trivial⟩ (uv := .bool true) rfl (congrArg List.toArray (congr_list2 rfl (by rw [conc_rows]; simp [ex1_0, ex1_1, ex1_2]))) rfl (w := W)).mono fun e W' ⟨he, bel⟩ => ?_
  subst he
  exact ⟨_, rfl, _, _, _, [], _, [], hW', trodAll_mk1 (shut_bool (by kernel_rfl) _), (trodAll_cons_mk (Below.trod codeOps_laid (by kernel_rfl) (of_decide_eq_true (by kernel_rfl)) k0 bel lt0) (trodAll_cons_mk (Below.trod codeOps_laid (by kernel_rfl) (of_decide_eq_true (by kernel_rfl)) k1 bel lt1) trodAll_mk0)), rfl, bel.frame _, fun h => by cases h⟩

/-- The statement. -/
theorem codeOps_proved : Rows.CodeOpsSaid :=
  OpenClaim.holds_of_wide 7 Try.f7 rfl rfl rfl rfl rfl rfl rfl ⟨rfl, rfl, rfl, rfl, rfl⟩ rfl rfl rfl rfl rfl (by kernel_rfl) Try.func7 (by kernel_rfl)
    (of_decide_eq_true (by kernel_rfl)) (by unfold Func.isWrapper; first | (rw [if_pos (by decide +kernel)]; kernel_rfl) | (rw [if_neg (by decide +kernel)]; exact ⟨rfl, rfl⟩))
    (fun os started H enc _ => codeOps_lifted os started H enc)
end Go.Proofs.Ytngjfoajgedgjaa
