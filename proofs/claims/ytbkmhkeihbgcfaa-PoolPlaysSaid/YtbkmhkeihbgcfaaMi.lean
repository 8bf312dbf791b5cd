/-
  Loops: their code by its place in a function's body; with parameters that go from round to round.
-/
import Derived.Test.YtbkmhkeihbgcfaaMh
set_option linter.unusedVariables false
set_option linter.unusedSimpArgs false
namespace Go.Y

/-- A piece of code, by its place. -/
def subC : List Nat → Code → Code
  | [], c => c
  | 0 :: p, .seq a _ => subC p a
  | _ :: p, .seq _ b => subC p b
  | 0 :: p, .cond _ a _ => subC p a
  | _ :: p, .cond _ _ b => subC p b
  | _ :: p, .block _ c => subC p c
  | _ :: p, .scope c => subC p c
  | _ :: p, .loop c => subC p c
  | 0 :: p, .rangeFunc _ _ as _ => subC p as
  | _ :: p, .rangeFunc _ _ _ bd => subC p bd
  | _, c => c
theorem subC_nil (c : Code) : subC [] c = c := by unfold subC; cases c <;> rfl
theorem subC_seq0 (p : List Nat) (a b : Code) : subC (0 :: p) (.seq a b) = subC p a := by rw [subC]
theorem subC_seq1 (p : List Nat) (a b : Code) : subC (1 :: p) (.seq a b) = subC p b := by rw [subC]; simp
theorem subC_cond0 (p : List Nat) (o : Operand) (a b : Code) : subC (0 :: p) (.cond o a b) = subC p a := by rw [subC]
theorem subC_cond1 (p : List Nat) (o : Operand) (a b : Code) : subC (1 :: p) (.cond o a b) = subC p b := by rw [subC]; simp
theorem subC_block (p : List Nat) (i : Nat) (a : Code) : subC (0 :: p) (.block i a) = subC p a := by rw [subC]
theorem subC_scope (p : List Nat) (a : Code) : subC (0 :: p) (.scope a) = subC p a := by rw [subC]
theorem subC_loop (p : List Nat) (a : Code) : subC (0 :: p) (.loop a) = subC p a := by rw [subC]
theorem subC_ran0 (p : List Nat) (o : Operand) (ps : Array Tmp) (a b : Code) : subC (0 :: p) (.rangeFunc o ps a b) = subC p a := by rw [subC]
theorem subC_ran1 (p : List Nat) (o : Operand) (ps : Array Tmp) (a b : Code) : subC (1 :: p) (.rangeFunc o ps a b) = subC p b := by rw [subC]; simp

section
variable {cx : Cx} {fx : Fx} {st : St} {k : Kd}
/-- What a round may end with: the same state with other parameters, fewer to come. -/
def Back {α : Type} (n0 : Nat) (F : α → St) (inv : α → Prop) (meas : α → Nat) (a : α) (J : St → Prop) : Prop := ∀ l a2 st2, Reid n0 l st2 (F a2) → inv a2 → meas a2 < meas a → J st2
/-- **A loop with parameters.** -/
theorem loop_par {α : Type} {c : Code} (F : α → St) (inv : α → Prop) (meas : α → Nat) (step : ∀ a, inv a → ∀ J, Back fx.n0 F inv meas a J → Ev cx fx c (F a) (.inv J k)) (a0 : α) (h0 : inv a0) : LoopS cx fx c (F a0) k := by
  have round : ∀ a, inv a → PuOk cx → okc cx fx.nt c = true → (∀ a2, inv a2 → meas a2 < meas a → ∀ {l : List Nat} {st : St}, Reid fx.n0 l st (F a2) → LoopS cx fx c st k) → awp cx.P fx (.loop c) (F a) (k.den cx fx) := by
    intro a ha hpu hok ih
    refine awp_round (awp_mono (ev_sound hpu c (F a) _ hok (step a ha (fun st2 => ∃ l a2, Reid fx.n0 l st2 (F a2) ∧ inv a2 ∧ meas a2 < meas a) (fun l a2 st2 h1 h2 h3 => ⟨l, a2, h1, h2, h3⟩))) (fun e st' hk => ?_))
    cases e with
    | nrm =>
      obtain ⟨l2, a2, hr2, hi2, hm2⟩ := hk
      exact ih a2 hi2 hm2 hr2 hpu hok
    | exi id => exact hk
    | ret => exact hk
  have key : ∀ m a, inv a → meas a = m → ∀ {l : List Nat} {st : St}, Reid fx.n0 l st (F a) → LoopS cx fx c st k := by
    intro m
    induction m using Nat.strongRecOn with
    | ind m ih =>
      intro a ha hm l st hr hpu hok
      exact awp_reid hr (round a ha hpu hok (fun a2 hi2 hm2 {l st} hr2 => ih (meas a2) (by omega) a2 hi2 rfl hr2))
  exact fun hpu hok => round a0 h0 hpu hok (fun a2 hi2 hm2 {l st} hr2 => key _ a2 hi2 rfl hr2)
end

/-! ### The same numbers -/
mutual
theorem ren_id : ∀ v : AV, v.ren id = v
  | .agg l => by simp only [AV.ren, renL_id l]
  | .rows sz l => by simp only [AV.ren, renL_id l]
  | .tup l => by simp only [AV.ren, renL_id l]
  | .fn f a b => by simp only [AV.ren, renL_id a, renL_id b]
  | .ptr .. => by simp only [AV.ren, id]
  | .slc .. => by simp only [AV.ren, id]
  | .map _ => by simp only [AV.ren, id]
  | .yld _ => by simp only [AV.ren, id]
  | .int .. => by simp only [AV.ren]
  | .bool _ => by simp only [AV.ren]
  | .str _ => by simp only [AV.ren]
  | .nilp => by simp only [AV.ren]
  | .nils => by simp only [AV.ren]
  | .nilm => by simp only [AV.ren]
  | .nilf => by simp only [AV.ren]
theorem renL_id : ∀ l : List AV, renL id l = l
  | [] => by simp only [renL]
  | v :: r => by simp only [renL, ren_id v, renL_id r]
end
theorem renT_id : ∀ T : Sl, renT id T = T
  | [] => rfl
  | (t, v) :: r => by simp only [renT, ren_id, renT_id r]
theorem renM_id : ∀ m : List (AV × AV), renM id m = m
  | [] => rfl
  | (x, y) :: r => by simp only [renM, ren_id, renM_id r]
theorem entRen_id (e : Ent) : e.ren id = e := by
  cases e <;> simp only [Ent.ren, ren_id, renL_id, renT_id, renM_id, id]
theorem idx_range (n : Nat) : idx (List.range n) n = id := by
  have h1 : ∀ (m n k a : Nat), k < m → idx (List.range' a m) n k = a + k := by
    intro m
    induction m with
    | zero => intro n k a h; omega
    | succ m ih =>
      intro n k a h
      cases k with
      | zero => simp [List.range'_succ, idx]
      | succ k => simp only [List.range'_succ, idx]; rw [ih n k (a + 1) (by omega)]; omega
  funext k
  by_cases h : k < n
  · rw [List.range_eq_range', h1 _ _ _ _ h]; simp
  · rw [idx_ge (by simp; omega)]; simp; omega
theorem reid_refl {n0 : Nat} {st st0 : St} (h : st = st0) (hn : n0 ≤ st0.n) (hk : ndB (keysB st0.H) = true) (hw : (st0.H.all fun q => q.2.writes || decide (q.1 < n0)) = true) : Reid n0 (List.range st0.n) st st0 := by
  subst h
  refine ⟨by simp, List.nodup_range, ⟨by simpa using hn, fun k _ => by rw [idx_range]; rfl⟩, fun t v hv => by rw [idx_range, ren_id]; exact hv, fun k e hk => by rw [idx_range, entRen_id]; exact hk, ndB_nodup hk, fun k e hk => ?_, hn⟩
  have := List.all_eq_true.1 hw (k, e) hk
  simp only [Bool.or_eq_true, decide_eq_true_eq] at this
  rcases this with h | h
  · exact .inl h
  · exact .inr ⟨h, by rw [idx_range, entRen_id]⟩
/-- A round that ends with the same numbers. -/
theorem back_same {α : Type} {n0 : Nat} {F : α → St} {inv : α → Prop} {meas : α → Nat} {a : α} {J : St → Prop} (hJ : Back n0 F inv meas a J) (a2 : α) {st2 : St} (h : st2 = F a2) (hn : Nat.ble n0 (F a2).n = true) (hk : ndB (keysB (F a2).H) = true) (hw : ((F a2).H.all fun q => q.2.writes || decide (q.1 < n0)) = true)
    (hi : inv a2) (hm : meas a2 < meas a) : InvS J st2 := hJ _ a2 st2 (reid_refl h (Nat.le_of_ble_eq_true hn) hk hw) hi hm
end Go.Y
