/-
  The row of law AbufferPixels, from its contract: whatever the arguments are, it hands back true, and what there was is as it was.
-/
import Derived.Test.YtbkmhkeihbgcfaaRows
import Derived.Test.YtbkmhkeihbgcfaaT
import Derived.Test.YtbkmhkeihbgcfaaUf
namespace Go.Proofs.Ytbkmhkeihbgcfaa
open Go.Y Go.ChangeShapes Go.WideShapes Go.ChangeAt Go.RowKit
set_option linter.unusedVariables false
set_option linter.unusedSimpArgs false

theorem abufferPixels_own : ownKnob Try.prog.godebug = none := by kernel_rfl
theorem abufferPixels_laid : laidOutB Try.prog = true := by kernel_rfl

set_option maxRecDepth 100000 in
theorem abufferPixels_lifted (os : Os) (started : os.Started) (H : Type) (enc : TypeId × Value → H) :
    ReturnsInHanded {} Try.checked os 9 .any (Rows.abufferPixelsSpec.pre6 enc Try.prog Try.f9 Rows.abufferPixelsRow.domain false) (Rows.abufferPixelsSpec.post enc Try.prog Try.f9 false true false false) := by
  refine returnsInHanded_of_change (C := Try.checked) abufferPixels_own started (by kernel_rfl) Try.func9
    (ChangeSpec.witness6 (enc := enc) (C := Try.checked) false ⟨#[], #[.slice none 0 0, .agg #[.int .u8 0, .int .u8 0], .agg #[.int .u8 0, .int .u8 0]], []⟩ 8 (by kernel_rfl) (by kernel_rfl) (by kernel_rfl) (by kernel_rfl)) ?_
  intro W base args ds gs before hval0 hW hcnd _
  have hval : ∀ (j : Nat) t v, Try.f9.params[j]? = some t → args[j]? = some v → Value.okWide Try.prog W .any base t v := hval0
  have hW' := hW
  obtain ⟨p, q, hA0, hV, rfl, hfz, hnd⟩ := hW
  have hA : DataW.TrodAll enc Try.prog W 0 (fun _ => true) true Try.f9.params.toList args.toList ds p := hA0
  rw [Try.params9] at hA hval
  obtain ⟨v0, vs0, d0, ds0, p0, q0, hargs, rfl, rfl, k0, r0⟩ := trodAll_cons hA
  obtain ⟨v1, vs1, d1, ds1, p1, q1, rfl, rfl, rfl, k1, r1⟩ := trodAll_cons r0
  obtain ⟨v2, vs2, d2, ds2, p2, q2, rfl, rfl, rfl, k2, r2⟩ := trodAll_cons r1
  obtain ⟨rfl, rfl, rfl⟩ := trodAll_nil r2
  obtain rfl : args = #[v0, v1, v2] := by cases args; simp_all
  obtain ⟨rfl, rfl⟩ := trodVars_none hV
  have lt0 : ∀ x ∈ p0, x.block < W.heap.size := by obtain ⟨m, hm⟩ := k0; exact DataW.trod_lt m _ _ _ hm
  obtain ⟨X0, n0, c0, C0, rfl, hl0, hm0, hn0, hf0, hb0⟩ := open_slice_arg (e := 64) (ks := [some .i64, some .i64, some .u8, some .i64, some .i64, some .i64, some .i64, some .u8, some .u8, some .u8, some .u8]) (by kernel_rfl) (by kernel_rfl) (by kernel_rfl) (hval 0 58 v0 rfl rfl) k0
  obtain ⟨x0, hx0, w0, he0⟩ := slice_listP (enc' := eFrag) (p := wFrag) (fun i hi => ofFrag (hf0 i hi))
  subst hx0
  have h0 : x0.length ≤ c0 ∧ c0 ≤ 9223372036854775807 := ⟨hl0, by have := hm0; unfold maxLen at this; omega⟩
  have lt1 : ∀ x ∈ p1, x.block < W.heap.size := by obtain ⟨m, hm⟩ := k1; exact DataW.trod_lt m _ _ _ hm
  obtain ⟨C1, rfl, f1⟩ := open_flat (ks := [some .u8, some .u8]) (by kernel_rfl) (hval 1 72 v1 rfl rfl)
  obtain ⟨Cx1_0, Dx1_0, rfl, gx1_0, f1_1⟩ := flatK_split (ks := [some .u8]) (r := [some .u8]) f1
  obtain ⟨x1_0, hhx1_0, ex1_0⟩ := of_int gx1_0
  have h1_0 := has_u8 hhx1_0
  obtain ⟨x1_1, hhx1_1, ex1_1⟩ := of_int f1_1
  have h1_1 := has_u8 hhx1_1
  have lt2 : ∀ x ∈ p2, x.block < W.heap.size := by obtain ⟨m, hm⟩ := k2; exact DataW.trod_lt m _ _ _ hm
  obtain ⟨C2, rfl, f2⟩ := open_flat (ks := [some .u8, some .u8]) (by kernel_rfl) (hval 2 72 v2 rfl rfl)
  obtain ⟨Cx2_0, Dx2_0, rfl, gx2_0, f2_1⟩ := flatK_split (ks := [some .u8]) (r := [some .u8]) f2
  obtain ⟨x2_0, hhx2_0, ex2_0⟩ := of_int gx2_0
  have h2_0 := has_u8 hhx2_0
  obtain ⟨x2_1, hhx2_1, ex2_1⟩ := of_int f2_1
  have h2_1 := has_u8 hhx2_1
  clear hA0 hval0
  have hro : ∀ (i : Nat) x sz l, ([X0] : List (Option (Nat × Nat)))[i]? = some x → ([(11, x0.map eFrag)] : List (Nat × List AV))[i]? = some (sz, l) → RoArg W x sz l := by
    intro i x sz l hx hr
    match i, hx, hr with
    | 0, hx, hr => cases hx; cases hr; exact roArg_of eFrag_flat eFrag_size eFrag_tup eFrag_ok hl0 hn0 he0 hb0
    | k + 1, hx, hr => simp at hx
  refine (calls_of_callA_ro (r := [(11, x0.map eFrag)]) (xs := [X0]) (pixels_walk x0 c0 x1_0 x1_1 x2_0 x2_1 h0 w0 h1_0 h1_1 h2_0 h2_1) rfl hro ⟨⟨by show 0 < 1; decide, by show 0 < 1; decide, hl0, (fun hc => ⟨rfl, fun h0 => hc (hn0 h0)⟩), fun h => absurd rfl h⟩, (by simp [AV.ok, okL, okR, okT, sizeL, AV.isTup, AV.size]), (by simp [AV.ok, okL, okR, okT, sizeL, AV.isTup, AV.size]), trivial⟩ (uv := .bool true) rfl (congrArg List.toArray (congr_list3 (by simp only [AV.conc, offP, Nat.zero_mul, Nat.add_zero]; rfl) (by rw [conc_rows]; simp [ex1_0, ex1_1]) (by rw [conc_rows]; simp [ex2_0, ex2_1]))) rfl (w := W)).mono fun e W' ⟨he, bel⟩ => ?_
  subst he
  exact ⟨_, rfl, _, _, _, [], _, [], hW', trodAll_mk1 (shut_bool (by kernel_rfl) _), (trodAll_cons_mk (Below.trod abufferPixels_laid (by kernel_rfl) (of_decide_eq_true (by kernel_rfl)) k0 bel lt0) (trodAll_cons_mk (Below.trod abufferPixels_laid (by kernel_rfl) (of_decide_eq_true (by kernel_rfl)) k1 bel lt1) (trodAll_cons_mk (Below.trod abufferPixels_laid (by kernel_rfl) (of_decide_eq_true (by kernel_rfl)) k2 bel lt2) trodAll_mk0))), rfl, bel.frame _, fun h => by cases h⟩

/-- The statement. -/
theorem abufferPixels_proved : Rows.AbufferPixelsSaid :=
  OpenClaim.holds_of_wide 9 Try.f9 rfl rfl rfl rfl rfl rfl rfl ⟨rfl, rfl, rfl, rfl, rfl⟩ rfl rfl rfl rfl rfl (by kernel_rfl) Try.func9 (by kernel_rfl)
    (of_decide_eq_true (by kernel_rfl)) (by unfold Func.isWrapper; first | (rw [if_pos (by decide +kernel)]; kernel_rfl) | (rw [if_neg (by decide +kernel)]; exact ⟨rfl, rfl⟩))
    (fun os started H enc _ => abufferPixels_lifted os started H enc)
end Go.Proofs.Ytbkmhkeihbgcfaa
