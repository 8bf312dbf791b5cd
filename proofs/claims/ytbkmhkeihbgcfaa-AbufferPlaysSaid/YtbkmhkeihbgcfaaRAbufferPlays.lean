/-
  The row of law AbufferPlays, from its contract: whatever the arguments are, it hands back true, and what there was is as it was.
-/
import Derived.Test.YtbkmhkeihbgcfaaRows
import Derived.Test.YtbkmhkeihbgcfaaT
import Derived.Test.YtbkmhkeihbgcfaaUd
namespace Go.Proofs.Ytbkmhkeihbgcfaa
open Go.Y Go.ChangeShapes Go.WideShapes Go.ChangeAt Go.RowKit
set_option linter.unusedVariables false
set_option linter.unusedSimpArgs false

theorem abufferPlays_own : ownKnob Try.prog.godebug = none := by kernel_rfl
theorem abufferPlays_laid : laidOutB Try.prog = true := by kernel_rfl

set_option maxRecDepth 100000 in
theorem abufferPlays_lifted (os : Os) (started : os.Started) (H : Type) (enc : TypeId × Value → H) :
    ReturnsInHanded {} Try.checked os 11 .any (Rows.abufferPlaysSpec.pre6 enc Try.prog Try.f11 Rows.abufferPlaysRow.domain false) (Rows.abufferPlaysSpec.post enc Try.prog Try.f11 false true false false) := by
  refine returnsInHanded_of_change (C := Try.checked) abufferPlays_own started (by kernel_rfl) Try.func11
    (ChangeSpec.witness6 (enc := enc) (C := Try.checked) false ⟨#[], #[.agg #[.int .u8 0, .int .u8 0, .int .u8 0, .int .u8 0], .int .i64 0, .slice none 0 0], []⟩ 8 (by kernel_rfl) (by kernel_rfl) (by kernel_rfl) (by kernel_rfl)) ?_
  intro W base args ds gs before hval0 hW hcnd _
  have hval : ∀ (j : Nat) t v, Try.f11.params[j]? = some t → args[j]? = some v → Value.okWide Try.prog W .any base t v := hval0
  have hW' := hW
  obtain ⟨p, q, hA0, hV, rfl, hfz, hnd⟩ := hW
  have hA : DataW.TrodAll enc Try.prog W 0 (fun _ => true) true Try.f11.params.toList args.toList ds p := hA0
  rw [Try.params11] at hA hval
  obtain ⟨v0, vs0, d0, ds0, p0, q0, hargs, rfl, rfl, k0, r0⟩ := trodAll_cons hA
  obtain ⟨v1, vs1, d1, ds1, p1, q1, rfl, rfl, rfl, k1, r1⟩ := trodAll_cons r0
  obtain ⟨v2, vs2, d2, ds2, p2, q2, rfl, rfl, rfl, k2, r2⟩ := trodAll_cons r1
  obtain ⟨rfl, rfl, rfl⟩ := trodAll_nil r2
  obtain rfl : args = #[v0, v1, v2] := by cases args; simp_all
  obtain ⟨rfl, rfl⟩ := trodVars_none hV
  have lt0 : ∀ x ∈ p0, x.block < W.heap.size := by obtain ⟨m, hm⟩ := k0; exact DataW.trod_lt m _ _ _ hm
  obtain ⟨C0, rfl, f0⟩ := open_flat (ks := [some .u8, some .u8, some .u8, some .u8]) (by kernel_rfl) (hval 0 78 v0 rfl rfl)
  obtain ⟨Cx0_0, Dx0_0, rfl, gx0_0, f0_1⟩ := flatK_split (ks := [some .u8]) (r := [some .u8, some .u8, some .u8]) f0
  obtain ⟨x0_0, hhx0_0, ex0_0⟩ := of_int gx0_0
  have h0_0 := has_u8 hhx0_0
  obtain ⟨Cx0_1, Dx0_1, rfl, gx0_1, f0_2⟩ := flatK_split (ks := [some .u8]) (r := [some .u8, some .u8]) f0_1
  obtain ⟨x0_1, hhx0_1, ex0_1⟩ := of_int gx0_1
  have h0_1 := has_u8 hhx0_1
  obtain ⟨Cx0_2, Dx0_2, rfl, gx0_2, f0_3⟩ := flatK_split (ks := [some .u8]) (r := [some .u8]) f0_2
  obtain ⟨x0_2, hhx0_2, ex0_2⟩ := of_int gx0_2
  have h0_2 := has_u8 hhx0_2
  obtain ⟨x0_3, hhx0_3, ex0_3⟩ := of_int f0_3
  have h0_3 := has_u8 hhx0_3
  have lt1 : ∀ x ∈ p1, x.block < W.heap.size := by obtain ⟨m, hm⟩ := k1; exact DataW.trod_lt m _ _ _ hm
  obtain ⟨x1, rfl, hh1⟩ := open_one (k := .i64) (by kernel_rfl) (hval 1 3 v1 rfl rfl)
  have h1 := has_i64 hh1
  have lt2 : ∀ x ∈ p2, x.block < W.heap.size := by obtain ⟨m, hm⟩ := k2; exact DataW.trod_lt m _ _ _ hm
  obtain ⟨X2, n2, c2, C2, rfl, hl2, hm2, hn2, hf2, hb2⟩ := open_slice_arg (e := 83) (ks := [some .u8, some .i64, some .i64, some .u8, some .i64, some .i64, some .i64, some .i64, some .u8, some .u8, some .u8, some .u8]) (by kernel_rfl) (by kernel_rfl) (by kernel_rfl) (hval 2 79 v2 rfl rfl) k2
  obtain ⟨x2, hx2, w2, he2⟩ := slice_listP (enc' := e19Op) (p := w19Op) (fun i hi => of19Op (hf2 i hi))
  subst hx2
  have h2 : x2.length ≤ c2 ∧ c2 ≤ 9223372036854775807 := ⟨hl2, by have := hm2; unfold maxLen at this; omega⟩
  clear hA0 hval0
  have hro : ∀ (i : Nat) x sz l, ([X2] : List (Option (Nat × Nat)))[i]? = some x → ([(12, x2.map e19Op)] : List (Nat × List AV))[i]? = some (sz, l) → RoArg W x sz l := by
    intro i x sz l hx hr
    match i, hx, hr with
    | 0, hx, hr => cases hx; cases hr; exact roArg_of e19Op_flat e19Op_size e19Op_tup e19Op_ok hl2 hn2 he2 hb2
    | k + 1, hx, hr => simp at hx
  refine (calls_of_callA_ro (r := [(12, x2.map e19Op)]) (xs := [X2]) (plays_walk x0_0 x0_1 x0_2 x0_3 x1 x2 c2 h0_0 h0_1 h0_2 h0_3 h1 h2 w2) rfl hro ⟨(by simp [AV.ok, okL, okR, okT, sizeL, AV.isTup, AV.size]), trivial, ⟨by show 0 < 1; decide, by show 0 < 1; decide, hl2, (fun hc => ⟨rfl, fun h0 => hc (hn2 h0)⟩), fun h => absurd rfl h⟩, trivial⟩ (uv := .bool true) rfl (congrArg List.toArray (congr_list3 (by rw [conc_rows]; simp [ex0_0, ex0_1, ex0_2, ex0_3]) rfl (by simp only [AV.conc, offP, Nat.zero_mul, Nat.add_zero]; rfl))) rfl (w := W)).mono fun e W' ⟨he, bel⟩ => ?_
  subst he
  exact ⟨_, rfl, _, _, _, [], _, [], hW', trodAll_mk1 (shut_bool (by kernel_rfl) _), (trodAll_cons_mk (Below.trod abufferPlays_laid (by kernel_rfl) (of_decide_eq_true (by kernel_rfl)) k0 bel lt0) (trodAll_cons_mk (Below.trod abufferPlays_laid (by kernel_rfl) (of_decide_eq_true (by kernel_rfl)) k1 bel lt1) (trodAll_cons_mk (Below.trod abufferPlays_laid (by kernel_rfl) (of_decide_eq_true (by kernel_rfl)) k2 bel lt2) trodAll_mk0))), rfl, bel.frame _, fun h => by cases h⟩

/-- The statement. -/
theorem abufferPlays_proved : Rows.AbufferPlaysSaid :=
  OpenClaim.holds_of_wide 11 Try.f11 rfl rfl rfl rfl rfl rfl rfl ⟨rfl, rfl, rfl, rfl, rfl⟩ rfl rfl rfl rfl rfl (by kernel_rfl) Try.func11 (by kernel_rfl)
    (of_decide_eq_true (by kernel_rfl)) (by unfold Func.isWrapper; first | (rw [if_pos (by decide +kernel)]; kernel_rfl) | (rw [if_neg (by decide +kernel)]; exact ⟨rfl, rfl⟩))
    (fun os started H enc _ => abufferPlays_lifted os started H enc)
end Go.Proofs.Ytbkmhkeihbgcfaa
