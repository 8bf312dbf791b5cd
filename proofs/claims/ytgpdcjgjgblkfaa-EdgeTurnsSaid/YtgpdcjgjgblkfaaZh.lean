/-
  The evaluator's word on code holds at the machine: sequences, tests, blocks, loops.
-/
import Derived.Test.YtgpdcjgjgblkfaaZl
set_option linter.unusedVariables false
set_option linter.unusedSimpArgs false
namespace Go.Z
open RowKit

/-! ### Code -/
section
variable {P : Program} {nt : Nat}

theorem awp_mono {c : Code} {st : St} {K K' : Ex → St → Prop} (h : awp P nt c st K) (hk : ∀ e st', K e st' → K' e st') : awp P nt c st K' := by
  intro N D E b k cs tmps rs w lam hs
  obtain ⟨e, st', tmps', rs', w', lam', hK, rest⟩ := h N D E b k cs tmps rs w lam hs
  exact ⟨e, st', tmps', rs', w', lam', hk _ _ hK, rest⟩

theorem Arr.of_steps {m m1 : Machine} {b : Frame} {tmps : Array Value} {ds : List Deferred} {k : List Item} {cs : List Frame} {w : World} {e : Ex} (h : Steps P m m1)
    (h' : Arr P m1 b tmps ds k cs w e) : Arr P m b tmps ds k cs w e := by
  cases e with
  | normal => exact h.trans h'
  | exit id => obtain ⟨k1, h1, h2⟩ := h'; exact ⟨k1, h1, h.trans h2⟩
  | ret => obtain ⟨k1, h2⟩ := h'; exact ⟨k1, h.trans h2⟩

theorem awp_seq {x y : Code} {st : St} {K : Ex → St → Prop} (h : awp P nt x st (thenK (fun st' => awp P nt y st' K) K)) : awp P nt (.seq x y) st K := by
  intro N D E b k cs tmps rs w lam hs
  obtain ⟨e, st1, tmps1, rs1, w1, lam1, hK, hS, hU, hA⟩ := h N D E b (.code y :: k) cs tmps rs w lam hs
  cases e with
  | normal =>
    obtain ⟨e2, st2, tmps2, rs2, w2, lam2, hK2, hS2, hU2, hA2⟩ := hK N D E b k cs tmps1 rs1 w1 lam1 hS
    exact ⟨e2, st2, tmps2, rs2, w2, lam2, hK2, hS2, hU.trans hU2, .of_steps (.head st_seq hA) hA2⟩
  | exit id =>
    obtain ⟨k1, h1, h2⟩ := hA
    exact ⟨.exit id, st1, tmps1, rs1, w1, lam1, hK, hS, hU, k1, h1, .head st_seq h2⟩
  | ret =>
    obtain ⟨k1, h2⟩ := hA
    exact ⟨.ret, st1, tmps1, rs1, w1, lam1, hK, hS, hU, k1, .head st_seq h2⟩

theorem awp_block {id : Nat} {c : Code} {st : St} {K : Ex → St → Prop} (h : awp P nt c st (blockK id K)) : awp P nt (.block id c) st K := by
  intro N D E b k cs tmps rs w lam hs
  obtain ⟨e, st1, tmps1, rs1, w1, lam1, hK, hS, hU, hA⟩ := h N D E b (.inBlock id :: k) cs tmps rs w lam hs
  cases e with
  | normal => exact ⟨.normal, st1, tmps1, rs1, w1, lam1, hK, hS, hU, .head st_block (Steps.trans hA (.one st_inBlock))⟩
  | exit i =>
    obtain ⟨k1, h1, h2⟩ := hA
    by_cases hid : i = id
    · subst hid
      simp only [blockK, if_true] at hK
      refine ⟨.normal, st1, tmps1, rs1, w1, lam1, hK, hS, hU, .head st_block (h2.trans (.one (st_exit ?_)))⟩
      rw [h1]; simp [exitTo]
    · simp only [blockK, if_neg hid] at hK
      refine ⟨.exit i, st1, tmps1, rs1, w1, lam1, hK, hS, hU, k1, ?_, .head st_block h2⟩
      rw [h1]
      have : (id == i) = false := by simp; exact fun h => hid h.symm
      simp [exitTo, this]
  | ret =>
    obtain ⟨k1, h2⟩ := hA
    exact ⟨.ret, st1, tmps1, rs1, w1, lam1, hK, hS, hU, k1, .head st_block h2⟩

/-- A loop, one round ahead. -/
theorem awp_round {c : Code} {st : St} {K : Ex → St → Prop} (h : awp P nt c st (thenK (fun st' => awp P nt (.loop c) st' K) K)) : awp P nt (.loop c) st K := by
  intro N D E b k cs tmps rs w lam hs
  obtain ⟨e, st1, tmps1, rs1, w1, lam1, hK, hS, hU, hA⟩ := h N D E b (.inLoop c :: k) cs tmps rs w lam hs
  cases e with
  | normal =>
    obtain ⟨e2, st2, tmps2, rs2, w2, lam2, hK2, hS2, hU2, hA2⟩ := hK N D E b k cs tmps1 rs1 w1 lam1 hS
    refine ⟨e2, st2, tmps2, rs2, w2, lam2, hK2, hS2, hU.trans hU2, ?_⟩
    -- the loop's head and a round's end come to one place
    have hA' : Steps P (lone (mk b tmps (rs.map mark) (.code (.loop c) :: k)) cs w) (lone (mk b tmps1 (rs1.map mark) (.inLoop c :: k)) cs w1) := .head st_loop hA
    -- both '.inLoop c' and '.code (.loop c)' go on by the body
    have e1 : step P (lone (mk b tmps1 (rs1.map mark) (.inLoop c :: k)) cs w1) = step P (lone (mk b tmps1 (rs1.map mark) (.code (.loop c) :: k)) cs w1) := by rw [st_inLoop, st_loop]
    have skipOne : ∀ m, Steps P (lone (mk b tmps1 (rs1.map mark) (.code (.loop c) :: k)) cs w1) m → m = lone (mk b tmps1 (rs1.map mark) (.code (.loop c) :: k)) cs w1 ∨
        Steps P (lone (mk b tmps1 (rs1.map mark) (.inLoop c :: k)) cs w1) m := by
      rintro m ⟨n, hn⟩
      cases n with
      | zero => simp [runN] at hn; exact .inl hn.symm
      | succ n => right; refine ⟨n + 1, ?_⟩; simp only [runN] at hn ⊢; rw [e1]; exact hn
    have notyet : ∀ kk tm dd cs' w', lone (mk b tm dd kk) cs' w' = lone (mk b tmps1 (rs1.map mark) (.code (.loop c) :: k)) cs w1 → kk = .code (.loop c) :: k := by
      intro kk tm dd cs' w' he
      have h1 : (lone (mk b tm dd kk) cs' w').gs = (lone (mk b tmps1 (rs1.map mark) (.code (.loop c) :: k)) cs w1).gs := congrArg Machine.gs he
      simp only [lone, mk, Array.mk.injEq, List.cons.injEq, Goroutine.mk.injEq, Frame.mk.injEq] at h1
      exact h1.1.1.2.2.1
    cases e2 with
    | normal =>
      rcases skipOne _ hA2 with h3 | h3
      · exact absurd (notyet _ _ _ _ _ h3) (by intro h4; have := congrArg List.length h4; simp at this)
      · exact hA'.trans h3
    | exit id =>
      obtain ⟨k1, h1, h2⟩ := hA2
      rcases skipOne _ h2 with h3 | h3
      · have := notyet _ _ _ _ _ h3; simp at this
      · exact ⟨k1, h1, hA'.trans h3⟩
    | ret =>
      obtain ⟨k1, h2⟩ := hA2
      rcases skipOne _ h2 with h3 | h3
      · have := notyet _ _ _ _ _ h3; simp at this
      · exact ⟨k1, hA'.trans h3⟩
  | exit id =>
    obtain ⟨k1, h1, h2⟩ := hA
    exact ⟨.exit id, st1, tmps1, rs1, w1, lam1, hK, hS, hU, k1, h1, .head st_loop h2⟩
  | ret =>
    obtain ⟨k1, h2⟩ := hA
    exact ⟨.ret, st1, tmps1, rs1, w1, lam1, hK, hS, hU, k1, .head st_loop h2⟩

theorem ev_sound {cx : Cx} : ∀ (c : Code) (st : St) (K : Ex → St → Prop), okc cx nt c = true → ev cx nt c st K → awp cx.P nt c st K := by
  intro c
  induction c with
  | skip =>
    intro st K _ h N D E b k cs tmps rs w lam hs
    exact ⟨.normal, st, tmps, rs, w, lam, h, hs, Upd.refl _ _ _, .one st_skip⟩
  | region id ops draw =>
    intro st K hok h
    cases draw with
    | true =>
      intro N D E b k cs tmps rs w lam hs
      simp only [okc, Bool.and_eq_true] at hok
      simp only [ev] at h
      cases hp : planOf id cx.pl with
      | none => rw [hp] at h; exact h.elim
      | some dp =>
        obtain ⟨ds, pl⟩ := dp
        rw [hp] at h hok
        simp only [Bool.and_eq_true, decide_eq_true_eq, beq_iff_eq] at hok
        obtain ⟨h0, ⟨⟨⟨hds, h1⟩, h2⟩, h3⟩, h4⟩ := hok
        subst hds
        obtain ⟨st', tmps', w', lam', hK, hS, hU, hst⟩ := evDraw_sound (cx := cx) (N := N) (D := D) (E := E) (rs := rs) (ops := ops) h0 h1 h2 h3 h4 h hs b k cs id
        exact ⟨.normal, st', tmps', rs, w', lam', hK, hS, hU, hst⟩
    | false =>
      intro N D E b k cs tmps rs w lam hs
      have hok' : ops.toList.all (dstOk nt) = true := hok
      obtain ⟨st', tmps', w', lam', hK, hS, hU, hst⟩ := evOps_sound (cx := cx) (N := N) (D := D) (E := E) (rs := rs) hok' ops.toList 0 st (K .normal) tmps w lam (by simp) h hs b k cs
      refine ⟨.normal, st', tmps', rs, w', lam', hK, hS, hU, .head st_region ?_⟩
      rw [List.range_eq_range']
      simpa using hst
  | seq x y ihx ihy =>
    intro st K hok h
    simp only [okc, Bool.and_eq_true] at hok
    have h1 : awp cx.P nt x st (thenK (fun st' => ev cx nt y st' K) K) := ihx st _ hok.1 h
    refine awp_seq (awp_mono h1 ?_)
    · intro e st' hk
      cases e with
      | normal => exact ihy st' K hok.2 hk
      | exit id => exact hk
      | ret => exact hk
  | cond c x y ihx ihy =>
    intro st K hok h
    simp only [okc, Bool.and_eq_true] at hok
    simp only [ev] at h
    unfold evCond at h
    split at h
    · rename_i t ht
      intro N D E b k cs tmps rs w lam hs
      have hv := hs.rel.val ht
      cases t with
      | true =>
        rw [if_pos rfl] at h
        obtain ⟨e, st', tmps', rs', w', lam', hK, hS, hU, hA⟩ := ihx st K hok.1 h N D E b k cs tmps rs w lam hs
        exact ⟨e, st', tmps', rs', w', lam', hK, hS, hU, .of_steps (.one (st_cond hv)) hA⟩
      | false =>
        rw [if_neg (by simp)] at h
        obtain ⟨e, st', tmps', rs', w', lam', hK, hS, hU, hA⟩ := ihy st K hok.2 h N D E b k cs tmps rs w lam hs
        exact ⟨e, st', tmps', rs', w', lam', hK, hS, hU, .of_steps (.one (st_cond hv)) hA⟩
    · exact h.elim
  | block id c ih =>
    intro st K hok h
    exact awp_block (ih st _ hok h)
  | loop c ih => intro st K _ h; exact h
  | rangeFunc f ps a b iha ihb => intro st K _ h; exact h
  | exit id =>
    intro st K _ h N D E b k cs tmps rs w lam hs
    exact ⟨.exit id, st, tmps, rs, w, lam, h, hs, Upd.refl _ _ _, k, rfl, .refl _ _⟩
  | scope c ih => intro st K _ h; exact h
  | label l => intro st K _ h; exact h
  | goto l => intro st K _ h; exact h
  | ret =>
    intro st K _ h N D E b k cs tmps rs w lam hs
    exact ⟨.ret, st, tmps, rs, w, lam, h, hs, Upd.refl _ _ _, k, .refl _ _⟩
  | refuse why => intro st K _ h; exact h
end

end Go.Z
