/-
  The row of law PrepassAll, from its contract: whatever the arguments are, it hands back true, and what there was is as it was.
-/
import Derived.Test.YtimolomjpmkbiaaRows
import Derived.Test.YtimolomjpmkbiaaT
import Derived.Test.YtimolomjpmkbiaaEq
namespace Go.Proofs.Ytimolomjpmkbiaa
open Go.Y Go.ChangeShapes Go.WideShapes Go.ChangeAt Go.RowKit
set_option linter.unusedVariables false
set_option linter.unusedSimpArgs false

theorem prepassAll_own : ownKnob Try.prog.godebug = none := by kernel_rfl
theorem prepassAll_laid : laidOutB Try.prog = true := by kernel_rfl

set_option maxRecDepth 100000 in
theorem prepassAll_lifted (os : Os) (started : os.Started) (H : Type) (enc : TypeId × Value → H) :
    ReturnsInHanded {} Try.checked os 10 .any (Rows.prepassAllSpec.pre6 enc Try.prog Try.f10 Rows.prepassAllRow.domain false) (Rows.prepassAllSpec.post enc Try.prog Try.f10 false true false false) := by
  refine returnsInHanded_of_change (C := Try.checked) prepassAll_own started (by kernel_rfl) Try.func10
    (ChangeSpec.witness6 (enc := enc) (C := Try.checked) false ⟨#[], #[.agg #[.int .i64 0, .int .i64 0], .slice none 0 0, .agg #[.int .i64 0, .int .i64 0, .int .u8 0, .int .i64 0, .int .i64 0, .int .i64 0, .int .i64 0, .int .u8 0, .int .u8 0, .int .u8 0, .int .u8 0]], []⟩ 8 (by kernel_rfl) (by kernel_rfl) (by kernel_rfl) (by kernel_rfl)) ?_
  intro W base args ds gs before hval0 hW hcnd _
  have hval : ∀ (j : Nat) t v, Try.f10.params[j]? = some t → args[j]? = some v → Value.okWide Try.prog W .any base t v := hval0
  have hW' := hW
  obtain ⟨p, q, hA0, hV, rfl, hfz, hnd⟩ := hW
  have hA : DataW.TrodAll enc Try.prog W 0 (fun _ => true) true Try.f10.params.toList args.toList ds p := hA0
  rw [Try.params10] at hA hval
  obtain ⟨v0, vs0, d0, ds0, p0, q0, hargs, rfl, rfl, k0, r0⟩ := trodAll_cons hA
  obtain ⟨v1, vs1, d1, ds1, p1, q1, rfl, rfl, rfl, k1, r1⟩ := trodAll_cons r0
  obtain ⟨v2, vs2, d2, ds2, p2, q2, rfl, rfl, rfl, k2, r2⟩ := trodAll_cons r1
  obtain ⟨rfl, rfl, rfl⟩ := trodAll_nil r2
  obtain rfl : args = #[v0, v1, v2] := by cases args; simp_all
  obtain ⟨rfl, rfl⟩ := trodVars_none hV
  have lt0 : ∀ x ∈ p0, x.block < W.heap.size := by obtain ⟨m, hm⟩ := k0; exact DataW.trod_lt m _ _ _ hm
  obtain ⟨C0, rfl, f0⟩ := open_flat (ks := [some .i64, some .i64]) (by kernel_rfl) (hval 0 49 v0 rfl rfl)
  obtain ⟨Cx0_0, Dx0_0, rfl, gx0_0, f0_1⟩ := flatK_split (ks := [some .i64]) (r := [some .i64]) f0
  obtain ⟨x0_0, hhx0_0, ex0_0⟩ := of_int gx0_0
  have h0_0 := has_i64 hhx0_0
  obtain ⟨x0_1, hhx0_1, ex0_1⟩ := of_int f0_1
  have h0_1 := has_i64 hhx0_1
  have lt1 : ∀ x ∈ p1, x.block < W.heap.size := by obtain ⟨m, hm⟩ := k1; exact DataW.trod_lt m _ _ _ hm
  obtain ⟨X1, n1, c1, C1, rfl, hl1, hm1, hn1, hf1, hb1⟩ := open_slice_arg (e := 61) (ks := [some .i64, some .i64, some .u8, some .i64, some .i64, some .i64, some .i64, some .u8, some .u8, some .u8, some .u8]) (by kernel_rfl) (by kernel_rfl) (by kernel_rfl) (hval 1 55 v1 rfl rfl) k1
  obtain ⟨x1, hx1, w1, he1⟩ := slice_listP (enc' := eFrag) (p := wFrag) (fun i hi => ofFrag (hf1 i hi))
  subst hx1
  have h1 : x1.length ≤ c1 ∧ c1 ≤ 9223372036854775807 := ⟨hl1, by have := hm1; unfold maxLen at this; omega⟩
  have lt2 : ∀ x ∈ p2, x.block < W.heap.size := by obtain ⟨m, hm⟩ := k2; exact DataW.trod_lt m _ _ _ hm
  obtain ⟨C2, rfl, f2⟩ := open_flat (ks := [some .i64, some .i64, some .u8, some .i64, some .i64, some .i64, some .i64, some .u8, some .u8, some .u8, some .u8]) (by kernel_rfl) (hval 2 61 v2 rfl rfl)
  obtain ⟨x2, h2, ex2⟩ := ofFrag f2
  clear hA0 hval0
  have hro : ∀ (i : Nat) x sz l, ([X1] : List (Option (Nat × Nat)))[i]? = some x → ([(11, x1.map eFrag)] : List (Nat × List AV))[i]? = some (sz, l) → RoArg W x sz l := by
    intro i x sz l hx hr
    match i, hx, hr with
    | 0, hx, hr => cases hx; cases hr; exact roArg_of eFrag_flat eFrag_size eFrag_tup eFrag_ok hl1 hn1 he1 hb1
    | k + 1, hx, hr => simp at hx
  refine (calls_of_callA_ro (r := [(11, x1.map eFrag)]) (xs := [X1]) (all_walk x0_0 x0_1 x1 c1 x2 h0_0 h0_1 h1 w1 h2) rfl hro ⟨(by simp [AV.ok, okL, okR, okT, sizeL, AV.isTup, AV.size]), ⟨by show 0 < 1; decide, by show 0 < 1; decide, hl1, (fun hc => ⟨rfl, fun h0 => hc (hn1 h0)⟩), fun h => absurd rfl h⟩, eFrag_ok _ _ _, trivial⟩ (uv := .bool true) rfl (congrArg List.toArray (congr_list3 (by rw [conc_rows]; simp [ex0_0, ex0_1]) (by simp only [AV.conc, offP, Nat.zero_mul, Nat.add_zero]; rfl) (by rw [conc_of_agg _ rfl, ex2]))) rfl (w := W)).mono fun e W' ⟨he, bel⟩ => ?_
  subst he
  exact ⟨_, rfl, _, _, _, [], _, [], hW', trodAll_mk1 (shut_bool (by kernel_rfl) _), (trodAll_cons_mk (Below.trod prepassAll_laid (by kernel_rfl) (of_decide_eq_true (by kernel_rfl)) k0 bel lt0) (trodAll_cons_mk (Below.trod prepassAll_laid (by kernel_rfl) (of_decide_eq_true (by kernel_rfl)) k1 bel lt1) (trodAll_cons_mk (Below.trod prepassAll_laid (by kernel_rfl) (of_decide_eq_true (by kernel_rfl)) k2 bel lt2) trodAll_mk0))), rfl, bel.frame _, fun h => by cases h⟩

/-- The statement. -/
theorem prepassAll_proved : Rows.PrepassAllSaid :=
  OpenClaim.holds_of_wide 10 Try.f10 rfl rfl rfl rfl rfl rfl rfl ⟨rfl, rfl, rfl, rfl, rfl⟩ rfl rfl rfl rfl rfl (by kernel_rfl) Try.func10 (by kernel_rfl)
    (of_decide_eq_true (by kernel_rfl)) (by unfold Func.isWrapper; first | (rw [if_pos (by decide +kernel)]; kernel_rfl) | (rw [if_neg (by decide +kernel)]; exact ⟨rfl, rfl⟩))
    (fun os started H enc _ => prepassAll_lifted os started H enc)
end Go.Proofs.Ytimolomjpmkbiaa
