/-
  The row of law AbufferMore, from its contract: whatever the arguments are, it hands back true, and what there was is as it was.
-/
import Derived.Test.YtbkmhkeihbgcfaaRows
import Derived.Test.YtbkmhkeihbgcfaaT
import Derived.Test.YtbkmhkeihbgcfaaQp
namespace Go.Proofs.Ytbkmhkeihbgcfaa
open Go.Y Go.ChangeShapes Go.WideShapes Go.ChangeAt Go.RowKit
set_option linter.unusedVariables false
set_option linter.unusedSimpArgs false

theorem abufferMore_own : ownKnob Try.prog.godebug = none := by kernel_rfl
theorem abufferMore_laid : laidOutB Try.prog = true := by kernel_rfl

set_option maxRecDepth 100000 in
theorem abufferMore_lifted (os : Os) (started : os.Started) (H : Type) (enc : TypeId × Value → H) :
    ReturnsInHanded {} Try.checked os 10 .any (Rows.abufferMoreSpec.pre6 enc Try.prog Try.f10 Rows.abufferMoreRow.domain false) (Rows.abufferMoreSpec.post enc Try.prog Try.f10 false true false false) := by
  refine returnsInHanded_of_change (C := Try.checked) abufferMore_own started (by kernel_rfl) Try.func10
    (ChangeSpec.witness6 (enc := enc) (C := Try.checked) false ⟨#[], #[.slice none 0 0], []⟩ 8 (by kernel_rfl) (by kernel_rfl) (by kernel_rfl) (by kernel_rfl)) ?_
  intro W base args ds gs before hval0 hW hcnd _
  have hval : ∀ (j : Nat) t v, Try.f10.params[j]? = some t → args[j]? = some v → Value.okWide Try.prog W .any base t v := hval0
  have hW' := hW
  obtain ⟨p, q, hA0, hV, rfl, hfz, hnd⟩ := hW
  have hA : DataW.TrodAll enc Try.prog W 0 (fun _ => true) true Try.f10.params.toList args.toList ds p := hA0
  rw [Try.params10] at hA hval
  obtain ⟨v0, vs0, d0, ds0, p0, q0, hargs, rfl, rfl, k0, r0⟩ := trodAll_cons hA
  obtain ⟨rfl, rfl, rfl⟩ := trodAll_nil r0
  obtain rfl : args = #[v0] := by cases args; simp_all
  obtain ⟨rfl, rfl⟩ := trodVars_none hV
  have lt0 : ∀ x ∈ p0, x.block < W.heap.size := by obtain ⟨m, hm⟩ := k0; exact DataW.trod_lt m _ _ _ hm
  obtain ⟨X0, n0, c0, C0, rfl, hl0, hm0, hn0, hf0, hb0⟩ := open_slice_arg (e := 64) (ks := [some .i64, some .i64, some .u8, some .i64, some .i64, some .i64, some .i64, some .u8, some .u8, some .u8, some .u8]) (by kernel_rfl) (by kernel_rfl) (by kernel_rfl) (hval 0 58 v0 rfl rfl) k0
  obtain ⟨x0, hx0, w0, he0⟩ := slice_listP (enc' := eFrag) (p := wFrag) (fun i hi => ofFrag (hf0 i hi))
  subst hx0
  have h0 : x0.length ≤ c0 ∧ c0 ≤ 9223372036854775807 := ⟨hl0, by have := hm0; unfold maxLen at this; omega⟩
  clear hA0 hval0
  have hro : ∀ (i : Nat) x sz l, ([X0] : List (Option (Nat × Nat)))[i]? = some x → ([(11, x0.map eFrag)] : List (Nat × List AV))[i]? = some (sz, l) → RoArg W x sz l := by
    intro i x sz l hx hr
    match i, hx, hr with
    | 0, hx, hr => cases hx; cases hr; exact roArg_of eFrag_flat eFrag_size eFrag_tup eFrag_ok hl0 hn0 he0 hb0
    | k + 1, hx, hr => simp at hx
  refine (calls_of_callA_ro (r := [(11, x0.map eFrag)]) (xs := [X0]) (more_walk x0 c0 h0 w0) rfl hro ⟨⟨by show 0 < 1; decide, by show 0 < 1; decide, hl0, (fun hc => ⟨rfl, fun h0 => hc (hn0 h0)⟩), fun h => absurd rfl h⟩, trivial⟩ (uv := .bool true) rfl (congrArg List.toArray (congr_list1 (by simp only [AV.conc, offP, Nat.zero_mul, Nat.add_zero]; rfl))) rfl (w := W)).mono fun e W' ⟨he, bel⟩ => ?_
  subst he
  exact ⟨_, rfl, _, _, _, [], _, [], hW', trodAll_mk1 (shut_bool (by kernel_rfl) _), (trodAll_cons_mk (Below.trod abufferMore_laid (by kernel_rfl) (of_decide_eq_true (by kernel_rfl)) k0 bel lt0) trodAll_mk0), rfl, bel.frame _, fun h => by cases h⟩

/-- The statement. -/
theorem abufferMore_proved : Rows.AbufferMoreSaid :=
  OpenClaim.holds_of_wide 10 Try.f10 rfl rfl rfl rfl rfl rfl rfl ⟨rfl, rfl, rfl, rfl, rfl⟩ rfl rfl rfl rfl rfl (by kernel_rfl) Try.func10 (by kernel_rfl)
    (of_decide_eq_true (by kernel_rfl)) (by unfold Func.isWrapper; first | (rw [if_pos (by decide +kernel)]; kernel_rfl) | (rw [if_neg (by decide +kernel)]; exact ⟨rfl, rfl⟩))
    (fun os started H enc _ => abufferMore_lifted os started H enc)
end Go.Proofs.Ytbkmhkeihbgcfaa
