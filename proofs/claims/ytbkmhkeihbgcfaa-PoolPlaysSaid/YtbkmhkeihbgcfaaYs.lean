/-
  Regions whose order is open: an operation comes up.
-/
import Derived.Test.YtbkmhkeihbgcfaaYr
set_option linter.unusedVariables false
set_option linter.unusedSimpArgs false
namespace Go.Y
open RowKit

theorem rowOf_mem {pl : List Row} {i : Nat} {p : Row} (h : rowOf pl i = some p) : p ∈ pl ∧ p.i = i := by
  induction pl with
  | nil => cases h
  | cons x l ih =>
    unfold rowOf at h
    split at h
    · rename_i e; cases h; exact ⟨List.mem_cons_self, e⟩
    · obtain ⟨h1, h2⟩ := ih h; exact ⟨List.mem_cons_of_mem _ h1, h2⟩

theorem chkAll_mem {P : Program} {ops : List Oper} {pl : List Row} {base : Nat} {st : St} : ∀ {js : List Nat}, chkAll P ops pl base js st → ∀ j, j ∈ js → chkO P ops base (rowOf pl j) (ops[j]?) st
  | [], _, j, hj => by cases hj
  | i :: js, h, j, hj => by
    unfold chkAll at h
    rcases List.mem_cons.1 hj with rfl | hj
    · exact h.1
    · exact chkAll_mem h.2 j hj

section
variable {cx : Cx} {ops : Array Oper} {pl : List Row} {m base : Nat} {H0 : Hp} {K : St → Prop} {lst : Array Bool} {done todo : List Row} {st : St} {lam : Lam}
  {N : Nat} {D : Nat → Prop} {nt : Nat} {tmps : Array Value} {rs : List Nat} {w : World}

/-- A calm operation comes up. -/
theorem run_calm (hpl : planOk ops.toList pl m [] pl = true) (hok : ops.toList.all (dstOk nt) = true) (hI : Inv cx ops.toList pl m base H0 K lst done todo st lam) (hS : Sit N D nt (view ops.toList base lst done st) tmps rs w lam)
    {r : Row} (hr : r ∈ done) (hoff : Off lst r.i) (han : ∀ a, a ∈ r.an → On lst a) (b : Frame) (rest : List Nat) (k : List Item) (cs : List Frame) :
    ∃ tmps' w' lam', Inv cx ops.toList pl m base H0 K (lst.setIfInBounds r.i true) done todo st lam' ∧ Sit N D nt (view ops.toList base (lst.setIfInBounds r.i true) done st) tmps' rs w' lam' ∧ Upd N D w w' ∧ agree base lam lam' ∧
      Steps cx.P (lone (mk b tmps (rs.map mark) (.inRegion ops (r.i :: rest) :: k)) cs w) (lone (mk b tmps' (rs.map mark) (.inRegion ops rest :: k)) cs w') := by
  have hrpl : r ∈ pl := by rw [hI.split]; exact List.mem_append_left _ hr
  obtain ⟨A, B, o, hsp, hf⟩ := row_at hpl hrpl
  have ho := hf.ho
  have hoa : ops[r.i]? = some o := by simpa using ho
  have hdok : dstOk nt o = true := List.all_eq_true.1 hok o (List.mem_of_getElem? ho)
  have hdl := dst_lt hdok
  have heff : r.eff = false := by
    cases h : r.eff with
    | false => rfl
    | true => exact absurd hoff (not_on_off (hI.effDone r hr h))
  have hsee := sees_open hpl hI hsp hf han
  have hseeT : ∀ t, t ∈ seesT ops.toList o → getT (view ops.toList base lst done st).T t = getT st.T t := fun t ht => view_get (hsee t ht)
  have hget := sees_get hseeT
  have hsees2 := want_same hseeT
  have hcert := hI.cert r hr hoff o ho
  -- who else is still to come
  have hpd : ∀ t, t ∉ pendD ops.toList (lst.setIfInBounds r.i true) done → (∀ d, o.dst = some d → t ≠ d) → t ∉ pendD ops.toList lst done := by
    intro t ht hne h
    obtain ⟨p, hp, hpo, q, hq, hqd⟩ := pendD_mem.1 h
    refine ht (pendD_mem.2 ⟨p, hp, off_set' hpo ?_, q, hq, hqd⟩)
    intro e
    rw [e] at hq
    have := oper_eq ho hq; subst this
    exact hne t hqd rfl
  have hinv : ∀ lam', keeps st.n lam lam' → (∀ c, lam'.born c → (c = base + r.id ∧ makes r o = true) ∨ lam.born c) → Inv cx ops.toList pl m base H0 K (lst.setIfInBounds r.i true) done todo st lam' := by
    intro lam' hk hb
    obtain ⟨hdne, hrne⟩ : (∀ p, p ∈ todo → p.i ≠ r.i) ∧ True := ⟨fun p hp e => not_on_off (show On lst r.i from absurd hoff (by
      have := hI.todoOff p hp
      have hppl : p ∈ pl := by rw [hI.split]; exact List.mem_append_right _ hp
      have hh := row_unique hpl hppl hrpl e
      subst hh
      obtain ⟨A2, B2, hs2⟩ := List.append_of_mem hp
      have hnd := rows_nodup hpl _ pl [] rfl (by simp)
      rw [hI.split, List.map_append] at hnd
      exact absurd rfl ((List.nodup_append.1 hnd).2.2 _ (List.mem_map.2 ⟨p, hr, rfl⟩) _ (List.mem_map.2 ⟨p, hp, rfl⟩)))) hoff, trivial⟩
    refine ⟨hI.split, by simp [hI.size], fun p hp he => on_set (hI.effDone p hp he), fun p hp => off_set' (hI.todoOff p hp) (hdne p hp), fun p hp hon a ha => ?_, fun p hp hpo q hq => hI.cert p hp (off_set hpo).2 q hq, fun p hp hpo q hq hm hbn => ?_, hI.nokey, hI.nd, hI.room, hI.key, hI.hyp⟩
    · rcases on_set_or hon with e | hon
      · have := row_unique hpl hp hrpl e; subst this
        exact on_set (han a ha)
      · exact on_set (hI.closed p hp hon a ha)
    · obtain ⟨hne, hpo'⟩ := off_set hpo
      rcases hb _ hbn with ⟨e, hmr⟩ | hbn
      · exact (rows_differ hpl hrpl hp (Ne.symm hne) ho hq).2 hmr hm (by omega)
      · exact hI.unborn p hp hpo' q hq hm hbn
  -- what there is behind it
  have hview : ∀ (v : AV) (lam' : Lam) (tm : Array Value) (w' : World) (H' : Hp), (∀ d, o.dst = some d → getT st.T d = some v) → TRel lam' st.n (putT (view ops.toList base lst done st).T o.dst v) tm → tm.size = nt → HSit N D lam' H' st.n w' →
      (∀ c e, (c, e) ∈ (view ops.toList base (lst.setIfInBounds r.i true) done st).H → (c, e) ∈ H') → Upd N D w w' → Sit N D nt (view ops.toList base (lst.setIfInBounds r.i true) done st) tm rs w' lam' := by
    intro v lam' tm w' H' hv hT hsz hH hsub hU
    refine ⟨hT.less fun t u hu => ?_, hH.subset hsub (hI.nd.sublist ((hideH_sub _ _).map _)), Nat.le_trans hS.size hU.size, hsz, hU.marks hS.marks, hS.once⟩
    obtain ⟨g1, g2⟩ := view_some hu
    rw [getT_put]
    split
    · rename_i hd; rw [hv t hd] at g2; exact g2
    · rename_i hd
      rw [view_get (hpd t g1 (fun d hd' e => hd (by rw [hd', e])))]; exact g2
  have hmemOld : ∀ c e, (c, e) ∈ (view ops.toList base (lst.setIfInBounds r.i true) done st).H → (c = base + r.id ∧ makes r o = true ∧ (c, e) ∈ st.H) ∨ (c, e) ∈ (view ops.toList base lst done st).H := by
    intro c e hce
    obtain ⟨g1, g2⟩ := view_mem.1 hce
    by_cases hin : c ∈ pendK ops.toList base lst done
    · left
      obtain ⟨p, hp, hpo, q, hq, hm, hc⟩ := pendK_mem.1 hin
      by_cases e2 : p.i = r.i
      · have hppl : p ∈ pl := by rw [hI.split]; exact List.mem_append_left _ hp
        have := row_unique hpl hppl hrpl e2; subst this
        have := oper_eq ho hq; subst this
        exact ⟨hc, hm, g1⟩
      · exact absurd (pendK_mem.2 ⟨p, hp, off_set' hpo e2, q, hq, hm, hc⟩) g2
    · exact .inr (view_mem.2 ⟨g1, hin⟩)
  have hupd0 := Upd.refl N D w
  rcases hcert with ⟨h1, h2, h4⟩ | ⟨h1, v, h2, h3⟩
  · -- it is not wanted
    have hw := wanted_run hS.tmp ops o (b := false) (by rw [hsees2]; exact h1)
    have hsame : ∀ c e, (c, e) ∈ (view ops.toList base (lst.setIfInBounds r.i true) done st).H → (c, e) ∈ (view ops.toList base lst done st).H := by
      intro c e hce
      rcases hmemOld c e hce with ⟨hc, hm, hmem⟩ | h
      · subst hc; exact absurd hmem (h4 hm e)
      · exact h
    have hT := hS.tmp.put (dst := o.dst) (v := .tup []) (by rw [hS.nt]; exact hdl) (by simp [AV.ok, okL])
    exact ⟨_, w, lam, hinv lam (keeps.refl _ _) (fun c h => .inr h), hview _ lam _ w _ h2 hT (by rw [putV_size, hS.nt]) hS.heap hsame hupd0, hupd0, agree.refl _ _, .one (st_op_skip hoa hw)⟩
  · have hw := wanted_run hS.tmp ops o (b := true) (by rw [hsees2]; exact h1)
    rcases h3 with h3 | ⟨e, h3, hmem⟩
    · -- it looks
      have hv : opV cx.P o.op (view ops.toList base lst done st).T (hideH (outs base r.out) (view ops.toList base lst done st).H) = some v := by
        rw [opV_sees hget]
        cases hlk : looks o.op with
        | false => rw [opV_blind hlk (H := hideH (outs base r.out) st.H)]; exact h3
        | true =>
          have hopen := outs_open hpl hI hsp hf han (.inr hlk) (fun h => looks_new h) (fun h => by rw [heff] at h; cases h)
          show opV cx.P o.op st.T (hideH _ (hideH _ st.H)) = some v
          rw [hideH_hide hopen]; exact h3
      have hlook : ∀ {x : AV}, opV cx.P o.op st.T (hideH (outs base r.out) st.H) = some x → isNew o.op = false := by
        intro x hx
        cases hn : isNew o.op with
        | false => rfl
        | true => cases hop : o.op <;> rw [hop] at hn hx <;> first | (simp [isNew] at hn; done) | (simp [opV] at hx; done)
      obtain ⟨hrun, hvok⟩ := opV_run (P := cx.P) hS.tmp (hS.heap.sub (hideH_sub (outs base r.out) _)) hv
      have hdf : ∀ c, o.op ≠ .defer c := fun c' e => by rw [e] at h3; cases h3
      have hsame : ∀ c e, (c, e) ∈ (view ops.toList base (lst.setIfInBounds r.i true) done st).H → (c, e) ∈ (view ops.toList base lst done st).H := by
        intro c e hce
        rcases hmemOld c e hce with ⟨hc, hm, hmem⟩ | h
        · have := hlook h3
          unfold makes at hm
          rw [this] at hm
          simp at hm
        · exact h
      have hT := hS.tmp.put (dst := o.dst) (v := v) (by rw [hS.nt]; exact hdl) hvok
      exact ⟨_, w, lam, hinv lam (keeps.refl _ _) (fun c h => .inr h), hview _ lam _ w _ h2 hT (by rw [putV_size, hS.nt]) hS.heap hsame hupd0, hupd0, agree.refl _ _, .one (st_op_val hoa hw hdf (.inl hrun))⟩
    · -- it makes a block
      have hnew := opN_new h3
      have hmk : makes r o = true := by simp [makes, heff, hnew]
      have hlow : base + r.id < st.n := by have := hf.low hmk; have := hI.room; omega
      have hunb := hI.unborn r hrpl hoff o ho hmk
      obtain ⟨s, hs1, w', lam', hrun, hvok, hH, hU, hkp, hbk, hwr⟩ := opN_run (P := cx.P) (o := o) (v := v) (e := e) hlow (Nat.le_refl st.n) (fun _ => hunb) hS.tmp hS.heap hS.size (by rw [opN_sees hget]; exact h3)
      have hdf : ∀ c, o.op ≠ .defer c := fun c' e => by rw [e] at hnew; cases hnew
      have hT := (hS.tmp.mono hkp (Nat.le_refl _)).put (dst := o.dst) (v := v) (by rw [hS.nt]; exact hdl) hvok
      refine ⟨_, w', lam', hinv lam' hkp (fun c h => (hbk c h).imp (fun h => ⟨h, hmk⟩) id), hview _ lam' _ w' _ h2 hT (by rw [putV_size, hS.nt]) hH (fun c x hce => ?_) hU, hU, ⟨hkp.mono (by have := hI.room; omega), fun c hc hb => by rcases hbk c hb with h | h; omega; exact h⟩, .one (st_op_val hoa hw hdf (.inl ?_))⟩
      · rcases hmemOld c x hce with ⟨hc, _, hm⟩ | h
        · have : (c, x) = (base + r.id, e) := by
            subst hc
            have h1 := hI.nd
            by_cases hx : x = e
            · rw [hx]
            · exfalso
              -- one key, two entries
              obtain ⟨A1, B1, hs2⟩ := List.append_of_mem hm
              rw [hs2] at hmem h1
              rw [List.map_append, List.map_cons] at h1
              obtain ⟨_, h5, h6⟩ := List.nodup_append.1 h1
              simp only [List.nodup_cons] at h5
              rcases List.mem_append.1 hmem with h7 | h7
              · exact h6 _ (List.mem_map.2 ⟨_, h7, rfl⟩) _ List.mem_cons_self rfl
              · rcases List.mem_cons.1 h7 with h7 | h7
                · simp only [Prod.mk.injEq] at h7; exact hx h7.2.symm
                · exact h5.1 (List.mem_map.2 ⟨_, h7, rfl⟩)
          rw [this]; exact List.mem_cons_self
        · exact List.mem_cons_of_mem _ h
      · rw [hs1]
        simp only [Sem.run_bind, hrun, Result.andThen_ok, Sem.run_pure]
end

end Go.Y
