/-
  The row of law PoolPlays, from its contract: whatever the arguments are, it hands back true, and what there was is as it was.
-/
import Derived.Test.YtbkmhkeihbgcfaaRows
import Derived.Test.YtbkmhkeihbgcfaaT
import Derived.Test.YtbkmhkeihbgcfaaVd
namespace Go.Proofs.Ytbkmhkeihbgcfaa
open Go.Y Go.ChangeShapes Go.WideShapes Go.ChangeAt Go.RowKit
set_option linter.unusedVariables false
set_option linter.unusedSimpArgs false

theorem poolPlays_own : ownKnob Try.prog.godebug = none := by kernel_rfl
theorem poolPlays_laid : laidOutB Try.prog = true := by kernel_rfl

set_option maxRecDepth 100000 in
theorem poolPlays_lifted (os : Os) (started : os.Started) (H : Type) (enc : TypeId × Value → H) :
    ReturnsInHanded {} Try.checked os 7 .any (Rows.poolPlaysSpec.pre6 enc Try.prog Try.f7 Rows.poolPlaysRow.domain false) (Rows.poolPlaysSpec.post enc Try.prog Try.f7 false true false false) := by
  refine returnsInHanded_of_change (C := Try.checked) poolPlays_own started (by kernel_rfl) Try.func7
    (ChangeSpec.witness6 (enc := enc) (C := Try.checked) false ⟨#[], #[.int .i64 0, .slice none 0 0], []⟩ 8 (by kernel_rfl) (by kernel_rfl) (by kernel_rfl) (by kernel_rfl)) ?_
  intro W base args ds gs before hval0 hW hcnd _
  have hval : ∀ (j : Nat) t v, Try.f7.params[j]? = some t → args[j]? = some v → Value.okWide Try.prog W .any base t v := hval0
  have hW' := hW
  obtain ⟨p, q, hA0, hV, rfl, hfz, hnd⟩ := hW
  have hA : DataW.TrodAll enc Try.prog W 0 (fun _ => true) true Try.f7.params.toList args.toList ds p := hA0
  rw [Try.params7] at hA hval
  obtain ⟨v0, vs0, d0, ds0, p0, q0, hargs, rfl, rfl, k0, r0⟩ := trodAll_cons hA
  obtain ⟨v1, vs1, d1, ds1, p1, q1, rfl, rfl, rfl, k1, r1⟩ := trodAll_cons r0
  obtain ⟨rfl, rfl, rfl⟩ := trodAll_nil r1
  obtain rfl : args = #[v0, v1] := by cases args; simp_all
  obtain ⟨rfl, rfl⟩ := trodVars_none hV
  have lt0 : ∀ x ∈ p0, x.block < W.heap.size := by obtain ⟨m, hm⟩ := k0; exact DataW.trod_lt m _ _ _ hm
  obtain ⟨x0, rfl, hh0⟩ := open_one (k := .i64) (by kernel_rfl) (hval 0 3 v0 rfl rfl)
  have h0 := has_i64 hh0
  have lt1 : ∀ x ∈ p1, x.block < W.heap.size := by obtain ⟨m, hm⟩ := k1; exact DataW.trod_lt m _ _ _ hm
  obtain ⟨X1, n1, c1, C1, rfl, hl1, hm1, hn1, hf1, hb1⟩ := open_slice_arg (e := 51) (ks := [some .u8, some .u8, some .i64]) (by kernel_rfl) (by kernel_rfl) (by kernel_rfl) (hval 1 46 v1 rfl rfl) k1
  obtain ⟨x1, hx1, w1, he1⟩ := slice_listP (enc' := e17Op) (p := w17Op) (fun i hi => of17Op (hf1 i hi))
  subst hx1
  have h1 : x1.length ≤ c1 ∧ c1 ≤ 9223372036854775807 := ⟨hl1, by have := hm1; unfold maxLen at this; omega⟩
  clear hA0 hval0
  have hro : ∀ (i : Nat) x sz l, ([X1] : List (Option (Nat × Nat)))[i]? = some x → ([(3, x1.map e17Op)] : List (Nat × List AV))[i]? = some (sz, l) → RoArg W x sz l := by
    intro i x sz l hx hr
    match i, hx, hr with
    | 0, hx, hr => cases hx; cases hr; exact roArg_of e17Op_flat e17Op_size e17Op_tup e17Op_ok hl1 hn1 he1 hb1
    | k + 1, hx, hr => simp at hx
  refine (calls_of_callA_ro (r := [(3, x1.map e17Op)]) (xs := [X1]) (plays_walk x0 x1 c1 h0 h1 w1) rfl hro ⟨trivial, ⟨by show 0 < 1; decide, by show 0 < 1; decide, hl1, (fun hc => ⟨rfl, fun h0 => hc (hn1 h0)⟩), fun h => absurd rfl h⟩, trivial⟩ (uv := .bool true) rfl (congrArg List.toArray (congr_list2 rfl (by simp only [AV.conc, offP, Nat.zero_mul, Nat.add_zero]; rfl))) rfl (w := W)).mono fun e W' ⟨he, bel⟩ => ?_
  subst he
  exact ⟨_, rfl, _, _, _, [], _, [], hW', trodAll_mk1 (shut_bool (by kernel_rfl) _), (trodAll_cons_mk (Below.trod poolPlays_laid (by kernel_rfl) (of_decide_eq_true (by kernel_rfl)) k0 bel lt0) (trodAll_cons_mk (Below.trod poolPlays_laid (by kernel_rfl) (of_decide_eq_true (by kernel_rfl)) k1 bel lt1) trodAll_mk0)), rfl, bel.frame _, fun h => by cases h⟩

/-- The statement. -/
theorem poolPlays_proved : Rows.PoolPlaysSaid :=
  OpenClaim.holds_of_wide 7 Try.f7 rfl rfl rfl rfl rfl rfl rfl ⟨rfl, rfl, rfl, rfl, rfl⟩ rfl rfl rfl rfl rfl (by kernel_rfl) Try.func7 (by kernel_rfl)
    (of_decide_eq_true (by kernel_rfl)) (by unfold Func.isWrapper; first | (rw [if_pos (by decide +kernel)]; kernel_rfl) | (rw [if_neg (by decide +kernel)]; exact ⟨rfl, rfl⟩))
    (fun os started H enc _ => poolPlays_lifted os started H enc)
end Go.Proofs.Ytbkmhkeihbgcfaa
