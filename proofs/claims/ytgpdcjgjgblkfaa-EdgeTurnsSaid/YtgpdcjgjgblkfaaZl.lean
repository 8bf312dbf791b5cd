/-
  A region whose order is open, last part: the plan goes on, a calm operation comes up, the next great one comes up; and so the whole region.
-/
import Derived.Test.YtgpdcjgjgblkfaaZk
set_option linter.unusedVariables false
set_option linter.unusedSimpArgs false
namespace Go.Z
open RowKit

section
variable {cx : Cx} {ops : List Oper} {pl : List Row} {K : St → Prop} {lst : Array Bool}

theorem put_tmps_same {st : St} {d : Nat} {v : TV} : (st.put (some d) v).tmps d = v := by simp [St.put, upd]
theorem put_tmps_other {st : St} {dst : Option Nat} {v : TV} {t : Nat} (h : ∀ d, dst = some d → t ≠ d) : (st.put dst v).tmps t = st.tmps t := by
  cases dst with
  | none => rfl
  | some d => simp [St.put, upd, h d rfl]
theorem put_locs {st : St} {dst : Option Nat} {v : TV} : (st.put dst v).locs = st.locs := by cases dst <;> rfl
theorem put_heap {st : St} {dst : Option Nat} {v : TV} : (st.put dst v).heap = st.heap := by cases dst <;> rfl

theorem row_at (hpl : planOk cx ops pl [] pl = true) {r : Row} (hr : r ∈ pl) : ∃ A B o, pl = A ++ r :: B ∧ RF cx ops pl A r o := by
  obtain ⟨A, B, h⟩ := List.append_of_mem hr
  obtain ⟨o, hf⟩ := row_facts hpl h
  exact ⟨A, B, o, h, hf⟩

/-- Two rows of a plan: the slots that they write differ. -/
theorem dst_ne (hpl : planOk cx ops pl [] pl = true) {r p : Row} (hr : r ∈ pl) (hp : p ∈ pl) (hne : r.i ≠ p.i) {o q : Oper} (ho : ops[r.i]? = some o) (hq : ops[p.i]? = some q) {d : Nat} (hd : o.dst = some d) :
    q.dst ≠ some d := by
  intro hqd
  obtain ⟨A, B, o', h, hf⟩ := row_at hpl hr
  have : o' = o := by have := hf.ho; rw [ho] at this; exact (Option.some.inj this).symm
  subst this
  rw [h] at hp
  rcases List.mem_append.1 hp with hA | hB
  · obtain ⟨q', hq', h1, _⟩ := hf.pair p hA
    rw [hq] at hq'; cases hq'
    exact (h1 d hqd).2 hd
  · rcases List.mem_cons.1 hB with rfl | hB
    · exact hne rfl
    · obtain ⟨B1, B2, rfl⟩ := List.append_of_mem hB
      obtain ⟨q', hf'⟩ := row_facts hpl (A := A ++ r :: B1) (B := B2) (r := p) (by rw [h]; simp)
      have : q' = q := by have := hf'.ho; rw [hq] at this; exact (Option.some.inj this).symm
      subst this
      obtain ⟨o2, ho2, h1, _⟩ := hf'.pair r (by simp)
      rw [ho] at ho2; cases ho2
      exact (h1 d hd).2 hqd

theorem oper_eq {i : Nat} {a b : Oper} (h : ops[i]? = some a) (h' : ops[i]? = some b) : a = b := by rw [h] at h'; exact Option.some.inj h'

/-- The plan goes on over its calm rows. -/
theorem advance (hpl : planOk cx ops pl [] pl = true) {N : Nat} {D E : Nat → Prop} {nt : Nat} {tmps : Array Value} {rs : List Nat} {w : World} {lam : Nat → Nat} :
    ∀ (todo done : List Row) (st : St), Inv cx ops pl K lst done todo st → Sit N D E nt (under ops lst done st) tmps rs w lam →
    ∃ done' todo' st', Inv cx ops pl K lst done' todo' st' ∧ (∀ r r', todo' = r :: r' → r.eff = true) ∧ Sit N D E nt (under ops lst done' st') tmps rs w lam := by
  intro todo
  induction todo with
  | nil => intro done st hI hS; exact ⟨done, [], st, hI, (fun r r' h => by cases h), hS⟩
  | cons r rest ih =>
    intro done st hI hS
    cases heff : r.eff with
    | true => exact ⟨done, r :: rest, st, hI, (fun r0 r' h => by cases h; exact heff), hS⟩
    | false =>
      obtain ⟨o, hf⟩ := row_facts hpl hI.split
      have ho := hf.ho
      have hcalm : calm cx o = true := by rcases hf.kind with h | h; rw [heff] at h; cases h; exact h
      have hrpl : r ∈ pl := by rw [hI.split]; simp
      have hroff := hI.todoOff r List.mem_cons_self
      have hself : ∀ d, o.dst = some d → d ∉ seesT ops o := fun d hd => by rcases hf.self d hd with h | h; rw [heff] at h; cases h; exact h
      have hnewNone : isNew o = true → ∀ d, o.dst = some d → st.locs d = none := fun hn d hd => hI.fresh r List.mem_cons_self o ho hn d hd
      have hhyp := hI.hyp
      unfold evPlan at hhyp
      rw [ho] at hhyp
      simp only at hhyp
      -- what the next state of the plan is
      have next : ∀ st', (∀ t, (∀ d, o.dst = some d → t ≠ d) → st'.tmps t = st.tmps t) → (∀ s, (isNew o = true → ∀ d, o.dst = some d → s ≠ d) → st'.locs s = st.locs s) → st'.heap = st.heap →
          Cert cx ops o st' → chkAll cx ops r.chk st' (evPlan cx ops rest st' K) →
          ∃ done' todo' st2, Inv cx ops pl K lst done' todo' st2 ∧ (∀ r r', todo' = r :: r' → r.eff = true) ∧ Sit N D E nt (under ops lst done' st2) tmps rs w lam := by
        intro st' ht hl hh hcert hk
        have hother : ∀ p, p ∈ pl → p.i ≠ r.i → ∀ q, ops[p.i]? = some q → ∀ d, q.dst = some d → (∀ d', o.dst = some d' → d ≠ d') := by
          rintro p hp hne q hq d hd d' hd' rfl
          exact dst_ne hpl hrpl hp (Ne.symm hne) ho hq hd' hd
        have hnd := rows_nodup hpl _ pl [] rfl (by simp)
        have hdne : ∀ p, p ∈ done → p.i ≠ r.i := by
          intro p hp e
          exact hf.fresh (List.mem_map.2 ⟨p, hp, e⟩)
        have hrne : ∀ p, p ∈ rest → p.i ≠ r.i := by
          intro p hp e
          rw [hI.split, List.map_append, List.map_cons] at hnd
          have := (List.nodup_append.1 hnd).2.1
          simp only [List.nodup_cons] at this
          exact this.1 (List.mem_map.2 ⟨p, hp, e⟩)
        refine ih (done ++ [r]) st' ⟨by rw [hI.split]; simp, hI.size, ?_, fun p hp => hI.todoOff p (List.mem_cons_of_mem _ hp), hI.closed, ?_, ?_, (chkAll_last hk).1⟩ ?_
        · intro p hp he
          rcases List.mem_append.1 hp with hp | hp
          · exact hI.effDone p hp he
          · simp at hp; subst hp; rw [heff] at he; cases he
        · intro p hp hoff q hq
          rcases List.mem_append.1 hp with hp | hp
          · have hppl : p ∈ pl := by rw [hI.split]; exact List.mem_append_left _ hp
            have hpe : p.eff = false := by
              cases he : p.eff with
              | false => rfl
              | true => exact absurd hoff (not_on_off (hI.effDone p hp he))
            obtain ⟨q', hq', h1, h2, h3⟩ := hf.pair p hp
            have := oper_eq hq hq'
            subst this
            obtain ⟨A2, B2, q2, hsp, hf2⟩ := row_at hpl hppl
            have := oper_eq hq hf2.ho
            subst this
            have hqc : calm cx q = true := by rcases hf2.kind with h | h; rw [hpe] at h; cases h; exact h
            refine (hI.cert p hp hoff q hq).keep (fun t hts => ht t ?_) (fun d hd => ht d ?_) (fun hn d hd => hl d ?_) hqc ?_ (fun hd => (hf2.newd hd).2)
            · rintro d hd rfl
              have := (h2 _ hd hts).1
              rw [heff] at this; cases this
            · intro d' hd'; rintro rfl; exact (h1 d hd).2 hd'
            · intro _ d' hd'; rintro rfl; exact (h1 d hd).2 hd'
            · intro t a d v hop hd hw hld htd
              have hga : st'.get a = st.get a := by
                refine sees_get (ops := ops) (fun t hts => ht t ?_) a (by rw [hop]; simp [Op.operands])
                rintro d hd rfl
                have := (h2 _ hd hts).1
                rw [heff] at this; cases this
              unfold loadF at hld ⊢
              rw [hga]
              split at hld
              · rename_i s off hs
                rw [hl s]
                · exact hld
                · rintro hn d' hd' rfl
                  rw [hnewNone hn _ hd'] at hld
                  obtain ⟨_, _, _, _, hc, _⟩ := loadC_some hld
                  cases hc
              · rw [hh]; exact hld
              · cases hld
          · simp at hp; subst hp
            have := oper_eq ho hq
            subst this
            exact hcert
        · intro p hp q hq hn d hd
          rw [hl d (fun _ d' hd' => by rintro rfl; exact hother p (by rw [hI.split]; simp [hp]) (hrne p hp) q hq d hd d hd' rfl)]
          exact hI.fresh p (List.mem_cons_of_mem _ hp) q hq hn d hd
        · refine hS.weaken (fun t => ?_) (fun s => ?_) hh
          · by_cases hop : OpenD ops lst (done ++ [r]) t
            · exact .inr (under_bad hop)
            · left
              have h1 : ¬ OpenD ops lst done t := fun ⟨p, hp, h2⟩ => hop ⟨p, List.mem_append_left _ hp, h2⟩
              rw [under_tmps hop, under_tmps h1]
              refine ht t ?_
              rintro d hd rfl
              exact hop ⟨r, by simp, hroff, o, ho, hd⟩
          · by_cases hop : OpenN ops lst (done ++ [r]) s
            · rw [under_none hop]
              by_cases h1 : OpenN ops lst done s
              · rw [under_none h1]
              · rw [under_locs h1]
                obtain ⟨p, hp, hoff, q, hq, hqd, hqn⟩ := hop
                rcases List.mem_append.1 hp with hp | hp
                · exact absurd ⟨p, hp, hoff, q, hq, hqd, hqn⟩ h1
                · simp at hp; subst hp
                  have := oper_eq ho hq
                  subst this
                  exact (hnewNone hqn s hqd).symm
            · have h1 : ¬ OpenN ops lst done s := fun ⟨p, hp, h2⟩ => hop ⟨p, List.mem_append_left _ hp, h2⟩
              rw [under_locs hop, under_locs h1]
              refine hl s ?_
              rintro hn d hd rfl
              exact hop ⟨r, by simp, hroff, o, ho, hd, hn⟩
      rcases evRow_want hhyp with ⟨hw, hop⟩ | ⟨hw, hk⟩
      · rcases calm_step hcalm hop with ⟨hn, d, z, hd, hm, hz, hk⟩ | ⟨hn, v, hk, hev⟩
        · have hnone := hnewNone hn d hd
          have hnl : st.newLoc d z = ⟨st.tmps, upd st.locs d (some z), st.heap⟩ := by simp [St.newLoc, hnone]
          have htm : ∀ t, (∀ d, o.dst = some d → t ≠ d) → ((st.newLoc d z).put o.dst (.loc d 0)).tmps t = st.tmps t := fun t ht => by rw [put_tmps_other ht, hnl]
          refine next ((st.newLoc d z).put o.dst (.loc d 0)) htm (fun s hs => ?_) (by rw [put_heap, hnl]) ?_ hk
          · rw [put_locs, hnl]; exact upd_other _ _ (hs hn d hd)
          · have hsee : ∀ t, t ∈ seesT ops o → ((st.newLoc d z).put o.dst (.loc d 0)).tmps t = st.tmps t := fun t ht => htm t (fun d' hd' => by rintro rfl; exact hself _ hd' ht)
            refine .inr (.inl ⟨by rw [wantF_same hsee]; exact hw, hn, d, z, hd, hm, ?_, by rw [hd]; exact put_tmps_same, by rw [put_locs, hnl]; exact upd_same _ _ _⟩)
            unfold newV at hz ⊢
            split at hz
            · exact hz
            · rename_i t x hox
              rw [sees_get hsee x (by rw [hox]; simp [Op.operands])]
              exact hz
            · cases hz
        · have htm : ∀ t, (∀ d, o.dst = some d → t ≠ d) → (st.put o.dst v).tmps t = st.tmps t := fun t ht => put_tmps_other ht
          have hsee : ∀ t, t ∈ seesT ops o → (st.put o.dst v).tmps t = st.tmps t := fun t ht => htm t (fun d' hd' => by rintro rfl; exact hself _ hd' ht)
          refine next (st.put o.dst v) htm (fun s _ => by rw [put_locs]) put_heap ?_ hk
          refine .inr (.inr ⟨by rw [wantF_same hsee]; exact hw, hn, v, fun d hd => by rw [hd]; exact put_tmps_same, ?_⟩)
          refine ev_keep hev hn (sees_get hsee) hcalm (fun t a u hox hu _ => ?_)
          have hga := sees_get hsee a (by rw [hox]; simp [Op.operands])
          unfold loadF at hu ⊢
          rw [hga, put_locs, put_heap]
          exact hu
      · have htm : ∀ t, (∀ d, o.dst = some d → t ≠ d) → (st.put o.dst (.val undef)).tmps t = st.tmps t := fun t ht => put_tmps_other ht
        have hsee : ∀ t, t ∈ seesT ops o → (st.put o.dst (.val undef)).tmps t = st.tmps t := fun t ht => htm t (fun d' hd' => by rintro rfl; exact hself _ hd' ht)
        refine next (st.put o.dst (.val undef)) htm (fun s _ => by rw [put_locs]) put_heap ?_ hk
        exact .inl ⟨by rw [wantF_same hsee]; exact hw, fun d hd => ⟨by rw [hd]; exact put_tmps_same, fun hn => by rw [put_locs]; exact hnewNone hn d hd⟩⟩
end

section
variable {cx : Cx} {ops : Array Oper} {pl : List Row} {K : St → Prop} {lst : Array Bool} {done todo : List Row} {st : St}
  {N : Nat} {D E : Nat → Prop} {nt : Nat} {tmps : Array Value} {rs : List Nat} {w : World} {lam : Nat → Nat}

theorem sit_put (h : Sit N D E nt st tmps rs w lam) {o : Oper} (hd : dstOk nt o = true) : Sit N D E nt (st.put o.dst (.val undef)) (putT tmps o.dst undef) rs w lam :=
  h.put (dst_lt hd h.nt) rfl (fun s off e => by cases e)

/-- A calm operation that the plan has met comes up at the machine. -/
theorem run_calm (hpl : planOk cx ops.toList pl [] pl = true) (hok : ops.toList.all (dstOk nt) = true) (hI : Inv cx ops.toList pl K lst done todo st) (hS : Sit N D E nt (under ops.toList lst done st) tmps rs w lam)
    {r : Row} (hr : r ∈ done) (hoff : Off lst r.i) (han : ∀ a, a ∈ r.an → On lst a) (b : Frame) (rest : List Nat) (k : List Item) (cs : List Frame) :
    ∃ tmps' w' lam', Inv cx ops.toList pl K (lst.setIfInBounds r.i true) done todo st ∧ Sit N D E nt (under ops.toList (lst.setIfInBounds r.i true) done st) tmps' rs w' lam' ∧ Upd N D w w' ∧
      Steps cx.P (lone (mk b tmps (rs.map mark) (.inRegion ops (r.i :: rest) :: k)) cs w) (lone (mk b tmps' (rs.map mark) (.inRegion ops rest :: k)) cs w') := by
  have hrpl : r ∈ pl := by rw [hI.split]; exact List.mem_append_left _ hr
  obtain ⟨A, B, o, hsp, hf⟩ := row_at hpl hrpl
  have ho := hf.ho
  have hoa : ops[r.i]? = some o := by simpa using ho
  have hre : r.eff = false := by
    cases he : r.eff with
    | false => rfl
    | true => exact absurd hoff (not_on_off (hI.effDone r hr he))
  have hdok : dstOk nt o = true := List.all_eq_true.1 hok o (List.mem_of_getElem? ho)
  have hsee := sees_open hpl hI hsp hf han (.inl ⟨hr, hoff, hre⟩)
  obtain ⟨hal, hst⟩ := alike_under hS hsee
  have hwant := wantF_same (ops := ops.toList) (o := o) (st := st) (s0 := under ops.toList lst done st) hst
  -- the invariant goes over
  have hI' : Inv cx ops.toList pl K (lst.setIfInBounds r.i true) done todo st := by
    refine ⟨hI.split, by simp [hI.size], fun p hp he => on_set (hI.effDone p hp he), fun p hp => off_set' (hI.todoOff p hp) ?_, ?_, fun p hp hoff' q hq => hI.cert p hp (off_set hoff').2 q hq, hI.fresh, hI.hyp⟩
    · intro e
      have hnd := rows_nodup hpl _ pl [] rfl (by simp)
      rw [hI.split, List.map_append] at hnd
      exact (List.nodup_append.1 hnd).2.2 _ (List.mem_map.2 ⟨r, hr, rfl⟩) _ (List.mem_map.2 ⟨p, hp, rfl⟩) e.symm
    · intro p hp hon a ha
      by_cases e : p.i = r.i
      · have := row_unique hpl hp hrpl e
        subst this
        exact on_set (han a ha)
      · refine on_set (hI.closed p hp ?_ a ha)
        unfold On at hon ⊢
        rwa [Array.getElem?_setIfInBounds_ne (Ne.symm e)] at hon
  have hopen : ∀ t, OpenD ops.toList lst done t → (∀ d, o.dst = some d → t ≠ d) → OpenD ops.toList (lst.setIfInBounds r.i true) done t := by
    rintro t ⟨p, hp, hpo, q, hq, hqd⟩ hne
    refine ⟨p, hp, off_set' hpo ?_, q, hq, hqd⟩
    intro e
    rw [e] at hq
    have := oper_eq ho hq
    subst this
    exact hne t hqd rfl
  have hopenN : ∀ t, OpenN ops.toList lst done t → (isNew o = true → ∀ d, o.dst = some d → t ≠ d) → OpenN ops.toList (lst.setIfInBounds r.i true) done t := by
    rintro t ⟨p, hp, hpo, q, hq, hqd, hqn⟩ hne
    refine ⟨p, hp, off_set' hpo ?_, q, hq, hqd, hqn⟩
    intro e
    rw [e] at hq
    have := oper_eq ho hq
    subst this
    exact hne hqn t hqd rfl
  have hback : ∀ t, OpenN ops.toList (lst.setIfInBounds r.i true) done t → OpenN ops.toList lst done t := by
    rintro t ⟨p, hp, hpo, h2⟩
    exact ⟨p, hp, (off_set hpo).2, h2⟩
  have hnotD : ∀ d, o.dst = some d → ¬ OpenN ops.toList (lst.setIfInBounds r.i true) done d := by
    rintro d hd ⟨p, hp, hpo, q, hq, hqd, hqn⟩
    have hppl : p ∈ pl := by rw [hI.split]; exact List.mem_append_left _ hp
    exact dst_ne hpl hrpl hppl (fun e => (off_set hpo).1 e.symm) ho hq hd hqd
  rcases hI.cert r hr hoff o ho with ⟨h1, h2⟩ | ⟨h1, hn, d, z, hd, hm, hv, ht, hl⟩ | ⟨h1, hn, v, hv, he⟩
  · -- not wanted
    have hw := wantF_run hS.rel ops o (by rw [hwant]; exact h1)
    refine ⟨_, w, lam, hI', (sit_put hS hdok).weaken (fun t => ?_) (fun s => ?_) (by rw [put_heap]; rfl), Upd.refl _ _ _, .one (st_op_skip hoa hw)⟩
    · by_cases hop : OpenD ops.toList (lst.setIfInBounds r.i true) done t
      · exact .inr (under_bad hop)
      · left
        rw [under_tmps hop]
        by_cases hd : ∀ d, o.dst = some d → t ≠ d
        · rw [put_tmps_other hd, under_tmps (fun h => hop (hopen t h hd))]
        · have : ∃ d, o.dst = some d ∧ t = d := by
            apply Classical.byContradiction
            intro hc
            exact hd (fun d hd' e => hc ⟨d, hd', e⟩)
          obtain ⟨d, hd', rfl⟩ := this
          rw [hd', put_tmps_same]
          exact (h2 t hd').1
    · rw [put_locs]
      by_cases hop : OpenN ops.toList (lst.setIfInBounds r.i true) done s
      · rw [under_none hop, under_none (hback s hop)]
      · rw [under_locs hop]
        by_cases h3 : OpenN ops.toList lst done s
        · rw [under_none h3]
          by_cases hd : isNew o = true → ∀ d, o.dst = some d → s ≠ d
          · exact absurd (hopenN s h3 hd) hop
          · have : isNew o = true ∧ ∃ d, o.dst = some d ∧ s = d := by
              apply Classical.byContradiction
              intro hc
              exact hd (fun hn d hd' e => hc ⟨hn, d, hd', e⟩)
            obtain ⟨hn, d, hd', rfl⟩ := this
            exact (h2 s hd').2 hn
        · rw [under_locs h3]
  · -- a local variable is made
    have hw := wantF_run hS.rel ops o (by rw [hwant]; exact h1)
    have hnone : (under ops.toList lst done st).locs d = none := under_none ⟨r, hr, hoff, o, ho, hd, hn⟩
    have hev : evOp cx o (under ops.toList lst done st) fun tv s => tv = .loc d 0 ∧ s = (under ops.toList lst done st).newLoc d z := by
      unfold evOp
      unfold newV at hv
      split at hv
      · rename_i t hop
        simp only [hop, opF, hd, hv, newF, hm, if_true]
        exact ⟨rfl, rfl⟩
      · rename_i t x hop
        have hgx := hal.get x (by rw [hop]; simp [Op.operands])
        simp only [hop, opF, hd, hgx, hv, newF, hm, if_true]
        exact ⟨rfl, rfl⟩
      · cases hv
    obtain ⟨tv, s1, tmps', w', lam', ⟨htv, hs1⟩, hS', hU, hst'⟩ := evOp_sound hev hS hoa hw hdok b rest k cs
    subst htv; subst hs1
    refine ⟨tmps', w', lam', hI', hS'.weaken (fun t => ?_) (fun s => ?_) ?_, hU, hst'⟩
    · by_cases hop : OpenD ops.toList (lst.setIfInBounds r.i true) done t
      · exact .inr (under_bad hop)
      · left
        rw [under_tmps hop, hd]
        by_cases e : t = d
        · subst e; rw [put_tmps_same]; exact ht
        · rw [put_tmps_other (fun d' hd' => by cases hd'; exact e)]
          have : ((under ops.toList lst done st).newLoc d z).tmps t = (under ops.toList lst done st).tmps t := by simp [St.newLoc, hnone]
          rw [this, under_tmps (fun h => hop (hopen t h (fun d' hd' => by rw [hd] at hd'; cases hd'; exact e)))]
    · rw [put_locs]
      show _ = upd (under ops.toList lst done st).locs d (some z) s
      by_cases e : s = d
      · subst e; rw [upd_same, under_locs (hnotD s hd)]; exact hl
      · rw [upd_other _ _ e]
        by_cases hop : OpenN ops.toList (lst.setIfInBounds r.i true) done s
        · rw [under_none hop, under_none (hback s hop)]
        · rw [under_locs hop, under_locs (fun h => hop (hopenN s h (fun _ d' hd' => by rw [hd] at hd'; cases hd'; exact e)))]
    · rw [put_heap]; rfl
  · -- a value
    have hw := wantF_run hS.rel ops o (by rw [hwant]; exact h1)
    have hev := evOp_alike hal hn he
    obtain ⟨tv, s1, tmps', w', lam', ⟨st1, ⟨htv, hst1⟩, ht1, _, hh1, hl1⟩, hS', hU, hst'⟩ := evOp_sound hev hS hoa hw hdok b rest k cs
    subst htv; subst hst1
    have hlocs : ∀ s, s1.locs s = (under ops.toList lst done st1).locs s := by
      intro s
      rcases hl1 with ⟨e, _⟩ | ⟨s', c', hne, e1, e2⟩
      · rw [e]
      · rw [e1]
        by_cases es : s = s'
        · subst es
          rw [upd_same]
          have h3 : st1.locs s = some c' := by rw [e2, upd_same]
          by_cases hop : OpenN ops.toList lst done s
          · exact absurd (under_none hop) hne
          · rw [under_locs hop, h3]
        · rw [upd_other _ _ es]
    refine ⟨tmps', w', lam', hI', hS'.weaken (fun t => ?_) (fun s => ?_) (by rw [put_heap, hh1]; rfl), hU, hst'⟩
    · by_cases hop : OpenD ops.toList (lst.setIfInBounds r.i true) done t
      · exact .inr (under_bad hop)
      · left
        rw [under_tmps hop]
        by_cases hd : ∀ d, o.dst = some d → t ≠ d
        · rw [put_tmps_other hd, ht1, under_tmps (fun h => hop (hopen t h hd))]
        · have : ∃ d, o.dst = some d ∧ t = d := by
            apply Classical.byContradiction
            intro hc
            exact hd (fun d hd' e => hc ⟨d, hd', e⟩)
          obtain ⟨d, hd', rfl⟩ := this
          rw [hd', put_tmps_same]
          exact hv t hd'
    · rw [put_locs, hlocs]
      by_cases hop : OpenN ops.toList (lst.setIfInBounds r.i true) done s
      · rw [under_none hop, under_none (hback s hop)]
      · rw [under_locs hop]
        have hn' : isNew o = true → ∀ d, o.dst = some d → s ≠ d := fun h => by rw [hn] at h; cases h
        rw [under_locs (fun h => hop (hopenN s h hn'))]

/-- The next great operation of the plan comes up at the machine. -/
theorem run_great (hpl : planOk cx ops.toList pl [] pl = true) (hok : ops.toList.all (dstOk nt) = true) {r : Row} {more : List Row} (hI : Inv cx ops.toList pl K lst done (r :: more) st) (heff : r.eff = true)
    (hS : Sit N D E nt (under ops.toList lst done st) tmps rs w lam)
    (han : ∀ a, a ∈ r.an → On lst a) (b : Frame) (rest : List Nat) (k : List Item) (cs : List Frame) :
    ∃ st' tmps' w' lam', Inv cx ops.toList pl K (lst.setIfInBounds r.i true) (done ++ [r]) more st' ∧ Sit N D E nt (under ops.toList (lst.setIfInBounds r.i true) (done ++ [r]) st') tmps' rs w' lam' ∧ Upd N D w w' ∧
      Steps cx.P (lone (mk b tmps (rs.map mark) (.inRegion ops (r.i :: rest) :: k)) cs w) (lone (mk b tmps' (rs.map mark) (.inRegion ops rest :: k)) cs w') := by
  have hrpl : r ∈ pl := by rw [hI.split]; simp
  obtain ⟨o, hf⟩ := row_facts hpl hI.split
  have ho := hf.ho
  have hoa : ops[r.i]? = some o := by simpa using ho
  have hoff := hI.todoOff r List.mem_cons_self
  have hnn := hf.new heff
  have hdok : dstOk nt o = true := List.all_eq_true.1 hok o (List.mem_of_getElem? ho)
  have hsee := sees_open hpl hI hI.split hf han (.inr ⟨more, rfl⟩)
  obtain ⟨hal, hst⟩ := alike_under hS hsee
  have hwant := wantF_same (ops := ops.toList) (o := o) (st := st) (s0 := under ops.toList lst done st) hst
  have hnd := rows_nodup hpl _ pl [] rfl (by simp)
  have hhyp := hI.hyp
  unfold evPlan at hhyp
  rw [ho] at hhyp
  simp only at hhyp
  have hdne : ∀ p, p ∈ done → p.i ≠ r.i := fun p hp e => hf.fresh (List.mem_map.2 ⟨p, hp, e⟩)
  have hrne : ∀ p, p ∈ more → p.i ≠ r.i := by
    intro p hp e
    rw [hI.split, List.map_append, List.map_cons] at hnd
    have := (List.nodup_append.1 hnd).2.1
    simp only [List.nodup_cons] at this
    exact this.1 (List.mem_map.2 ⟨p, hp, e⟩)
  -- the new invariant, from how the new state stands to the old one
  have next : ∀ st' s1 : St, (∀ t, (∀ d, o.dst = some d → t ≠ d) → st'.tmps t = st.tmps t) → (∀ t, (∀ d, o.dst = some d → t ≠ d) → s1.tmps t = (under ops.toList lst done st).tmps t) →
      (∀ d, o.dst = some d → s1.tmps d = st'.tmps d) → s1.heap = st'.heap → LocsTurn (under ops.toList lst done st).locs st.locs s1.locs st'.locs →
      chkAll cx ops.toList r.chk st' (evPlan cx ops.toList more st' K) →
      Inv cx ops.toList pl K (lst.setIfInBounds r.i true) (done ++ [r]) more st' ∧
        (∀ t, (under ops.toList (lst.setIfInBounds r.i true) (done ++ [r]) st').tmps t = s1.tmps t ∨ (under ops.toList (lst.setIfInBounds r.i true) (done ++ [r]) st').tmps t = .bad) ∧
        (∀ s, (under ops.toList (lst.setIfInBounds r.i true) (done ++ [r]) st').locs s = s1.locs s) := by
    intro st' s1 ht ht1 hd1 hh hl hk
    obtain ⟨hk1, hk2⟩ := chkAll_last hk
    have hlnone : ∀ s, (under ops.toList lst done st).locs s = none → st'.locs s = st.locs s := by
      intro s hs
      rcases hl with ⟨_, e⟩ | ⟨s', c', hne, e1, e2⟩
      · rw [e]
      · rw [e2]; exact upd_other _ _ (by rintro rfl; exact hne hs)
    refine ⟨⟨by rw [hI.split]; simp, by simp [hI.size], ?_, fun p hp => off_set' (hI.todoOff p (List.mem_cons_of_mem _ hp)) (hrne p hp), ?_, ?_, ?_, hk1⟩, fun t => ?_, fun s => ?_⟩
    · intro p hp he
      rcases List.mem_append.1 hp with hp | hp
      · exact on_set (hI.effDone p hp he)
      · simp at hp; subst hp; exact on_self hoff
    · intro p hp hon a ha
      by_cases e : p.i = r.i
      · have := row_unique hpl hp hrpl e
        subst this
        exact on_set (han a ha)
      · refine on_set (hI.closed p hp ?_ a ha)
        unfold On at hon ⊢
        rwa [Array.getElem?_setIfInBounds_ne (Ne.symm e)] at hon
    · intro p hp hoff' q hq
      rcases List.mem_append.1 hp with hp | hp
      · have hpo := (off_set hoff').2
        have hppl : p ∈ pl := by rw [hI.split]; exact List.mem_append_left _ hp
        have hpe : p.eff = false := by
          cases he : p.eff with
          | false => rfl
          | true => exact absurd hpo (not_on_off (hI.effDone p hp he))
        obtain ⟨q', hq', h1, h2, h3⟩ := hf.pair p hp
        have := oper_eq hq hq'
        subst this
        obtain ⟨A2, B2, q2, hsp, hf2⟩ := row_at hpl hppl
        have := oper_eq hq hf2.ho
        subst this
        have hqc : calm cx q = true := by rcases hf2.kind with h | h; rw [hpe] at h; cases h; exact h
        have hnoan : p.i ∉ r.an := fun h => not_on_off (han _ h) hpo
        have hseeq : ∀ t, t ∈ seesT ops.toList q → st'.tmps t = st.tmps t := fun t hts => ht t (by rintro d hd rfl; exact hnoan (h2 _ hd hts).2)
        refine (hI.cert p hp hpo q hq).keep hseeq (fun d hd => ht d (fun d' hd' => by rintro rfl; exact (h1 d hd).2 hd')) (fun hn d hd => ?_) hqc ?_ (fun hd => (hf2.newd hd).2)
        · exact hlnone d (under_none ⟨p, hp, hpo, q, hq, hd, hn⟩)
        · intro t a d v hop hd hw hld htd
          have hL : isLoad q = true := by simp [isLoad, hop]
          rcases h3 heff hpe hL with hc | hc
          · have := hk2 p.i hc
            rw [hq] at this
            obtain ⟨qd, qo, qt, qp, qa, qg⟩ := q
            simp only at hd hop
            subst hd; subst hop
            have htd' : st'.tmps d = .val v := by rw [ht d (fun d' hd' => by rintro rfl; exact (h1 d rfl).2 hd')]; exact htd
            cases qg with
            | none =>
              obtain ⟨u, hu, hu2⟩ := oK_some (show oK (loadF cx.P t (st'.get a) st') (fun v => st'.tmps d = .val v) from this)
              rw [hu2] at htd'
              cases htd'
              exact hu
            | some jw =>
              obtain ⟨j, want⟩ := jw
              have hw' : wantF ops.toList ⟨some d, .load t a, qt, qp, qa, some (j, want)⟩ st' = some true := by rw [wantF_same hseeq]; exact hw
              have this' : evGuard (guardT ops.toList st' j) want (oK (loadF cx.P t (st'.get a) st') fun v => st'.tmps d = .val v) True := this
              unfold wantF at hw'
              simp only at hw'
              unfold evGuard at this'
              split at hw'
              · rename_i bb hbb
                rw [hbb] at this'
                simp only at this'
                have hbw : bb = want := by simpa using Option.some.inj hw'
                rw [if_pos hbw] at this'
                obtain ⟨u, hu, hu2⟩ := oK_some this'
                rw [hu2] at htd'
                cases htd'
                exact hu
              · cases hw'
              · cases hw'
          · exact absurd hc hnoan
      · simp at hp; subst hp
        exact absurd (on_self hoff) (fun h => not_on_off h hoff')
    · intro p hp q hq hn d hd
      have hppl : p ∈ pl := by rw [hI.split]; simp [hp]
      have h0 := hI.fresh p (List.mem_cons_of_mem _ hp) q hq hn d hd
      rw [← h0]
      refine hlnone d ?_
      by_cases hop : OpenN ops.toList lst done d
      · exact under_none hop
      · rw [under_locs hop]; exact h0
    · by_cases hop : OpenD ops.toList (lst.setIfInBounds r.i true) (done ++ [r]) t
      · exact .inr (under_bad hop)
      · left
        rw [under_tmps hop]
        by_cases hd : ∀ d, o.dst = some d → t ≠ d
        · rw [ht t hd, ht1 t hd, under_tmps]
          rintro ⟨p, hp, hpo, h2⟩
          exact hop ⟨p, List.mem_append_left _ hp, off_set' hpo (hdne p hp), h2⟩
        · have : ∃ d, o.dst = some d ∧ t = d := by
            apply Classical.byContradiction
            intro hc
            exact hd (fun d hd' e => hc ⟨d, hd', e⟩)
          obtain ⟨d, hd', rfl⟩ := this
          exact (hd1 t hd').symm
    · have hiff : OpenN ops.toList (lst.setIfInBounds r.i true) (done ++ [r]) s ↔ OpenN ops.toList lst done s := by
        constructor
        · rintro ⟨p, hp, hpo, q, hq, hqd, hqn⟩
          rcases List.mem_append.1 hp with hp | hp
          · exact ⟨p, hp, (off_set hpo).2, q, hq, hqd, hqn⟩
          · simp at hp; subst hp; exact absurd hpo (not_on_off (on_self hoff))
        · rintro ⟨p, hp, hpo, h2⟩
          exact ⟨p, List.mem_append_left _ hp, off_set' hpo (hdne p hp), h2⟩
      by_cases hop : OpenN ops.toList lst done s
      · rw [under_none (hiff.2 hop)]
        rcases hl with ⟨e, _⟩ | ⟨s', c', hne, e1, e2⟩
        · rw [e, under_none hop]
        · rw [e1, upd_other _ _ (by rintro rfl; exact hne (under_none hop)), under_none hop]
      · rw [under_locs (fun h => hop (hiff.1 h))]
        rcases hl with ⟨e, e'⟩ | ⟨s', c', hne, e1, e2⟩
        · rw [e, e', under_locs hop]
        · rw [e1, e2]
          by_cases es : s = s'
          · subst es; rw [upd_same, upd_same]
          · rw [upd_other _ _ es, upd_other _ _ es, under_locs hop]
  rcases evRow_want hhyp with ⟨hw, hop⟩ | ⟨hw, hk⟩
  · have hwr := wantF_run hS.rel ops o (by rw [hwant]; exact hw)
    have hev := evOp_alike hal hnn hop
    obtain ⟨tv, s1, tmps', w', lam', ⟨st1, hk, ht1, ht2, hh1, hl1⟩, hS', hU, hst'⟩ := evOp_sound hev hS hoa hwr hdok b rest k cs
    obtain ⟨g1, g2, g3⟩ := next (st1.put o.dst tv) (s1.put o.dst tv) (fun t h => by rw [put_tmps_other h, ht2]) (fun t h => by rw [put_tmps_other h, ht1]) (fun d hd => by rw [hd, put_tmps_same, put_tmps_same])
      (by rw [put_heap, put_heap]; exact hh1) (by rw [put_locs, put_locs]; exact hl1) hk
    exact ⟨_, tmps', w', lam', g1, hS'.weaken g2 g3 (by rw [put_heap]; show (st1.put o.dst tv).heap = _; rw [put_heap]; exact hh1.symm), hU, hst'⟩
  · have hwr := wantF_run hS.rel ops o (by rw [hwant]; exact hw)
    obtain ⟨g1, g2, g3⟩ := next (st.put o.dst (.val undef)) ((under ops.toList lst done st).put o.dst (.val undef)) (fun t h => put_tmps_other h) (fun t h => put_tmps_other h)
      (fun d hd => by rw [hd, put_tmps_same, put_tmps_same]) (by rw [put_heap, put_heap]; rfl) (by rw [put_locs, put_locs]; exact .inl ⟨rfl, rfl⟩) hk
    exact ⟨_, _, w, lam, g1, (sit_put hS hdok).weaken g2 g3 (by rw [put_heap]; show (st.put o.dst (.val undef)).heap = _; rw [put_heap]; rfl), Upd.refl _ _ _, .one (st_op_skip hoa hwr)⟩

end

/-! ### The region -/
theorem ready_mem {ops : Array Oper} {lst : Array Bool} {i : Nat} (h : i ∈ Region.ready .any ops lst) (hsz : lst.size = ops.size) :
    i < ops.size ∧ Off lst i ∧ ∀ o, ops[i]? = some o → ∀ e, e ∈ o.after.toList → bindsE e = true → On lst e.on := by
  unfold Region.ready at h
  simp only [List.mem_filter, List.mem_range, Bool.and_eq_true] at h
  obtain ⟨hlt, h1, h2⟩ := h
  have hlt' : i < lst.size := by omega
  refine ⟨hlt, ?_, ?_⟩
  · unfold Off
    rw [Array.getElem?_eq_getElem hlt']
    simp [Array.getD, hlt'] at h1
    rw [h1]
  · intro o ho e he hb
    rw [ho] at h2
    simp only [Option.map_some, Option.getD_some, Array.all_eq_true'] at h2
    have h3 := h2 e (by simpa using he)
    unfold bindsE at hb
    rw [hb] at h3
    simp only [Bool.not_true, Bool.false_or] at h3
    unfold On
    cases hx : lst[e.on]? with
    | none => simp [Array.getD_eq_getD_getElem?, hx] at h3
    | some x => simp [Array.getD_eq_getD_getElem?, hx] at h3; rw [h3]

theorem ready_of {ops : Array Oper} {lst : Array Bool} {i : Nat} {o : Oper} (ho : ops[i]? = some o) (hoff : Off lst i) (h : ∀ e, e ∈ o.after.toList → bindsE e = true → On lst e.on) : i ∈ Region.ready .any ops lst := by
  unfold Region.ready
  simp only [List.mem_filter, List.mem_range, Bool.and_eq_true]
  refine ⟨(Array.getElem?_eq_some_iff.1 ho).1, ?_, ?_⟩
  · unfold Off at hoff
    simp [Array.getD_eq_getD_getElem?, hoff]
  · rw [ho]
    simp only [Option.map_some, Option.getD_some, Array.all_eq_true']
    intro e he
    cases hb : bindsE e with
    | false => unfold bindsE at hb; rw [hb]; rfl
    | true =>
      have := h e (by simpa using he) hb
      unfold On at this
      simp [Array.getD_eq_getD_getElem?, this]

def offs (pl : List Row) (lst : Array Bool) : Nat := pl.countP fun r => lst[r.i]? == some false

theorem countP_lt {α : Type} {p q : α → Bool} : ∀ (l : List α), (∀ x, x ∈ l → q x = true → p x = true) → (∃ x, x ∈ l ∧ p x = true ∧ q x = false) → l.countP q < l.countP p
  | [], _, ⟨x, hx, _⟩ => by cases hx
  | y :: l, h, ⟨x, hx, hp, hq⟩ => by
    have hle : l.countP q ≤ l.countP p := List.countP_mono_left (fun x hx => h x (List.mem_cons_of_mem _ hx))
    rw [List.countP_cons, List.countP_cons]
    rcases List.mem_cons.1 hx with rfl | hx
    · simp [hp, hq]; omega
    · have := countP_lt l (fun x hx => h x (List.mem_cons_of_mem _ hx)) ⟨x, hx, hp, hq⟩
      have h2 := h y List.mem_cons_self
      cases hqy : q y with
      | false => simp; omega
      | true => rw [h2 hqy]; simp; omega

theorem offs_set {pl : List Row} {lst : Array Bool} {r : Row} (hr : r ∈ pl) (hoff : Off lst r.i) : offs pl (lst.setIfInBounds r.i true) < offs pl lst := by
  refine countP_lt pl (fun x hx h => ?_) ⟨r, hr, ?_, ?_⟩
  · have : Off (lst.setIfInBounds r.i true) x.i := by simpa [Off] using h
    simpa [Off] using (off_set this).2
  · simpa [Off] using hoff
  · have := on_self hoff
    unfold On at this
    rw [this]; rfl

section
variable {cx : Cx} {ops : Array Oper} {pl : List Row} {K : St → Prop} {N : Nat} {D E : Nat → Prop} {nt : Nat} {rs : List Nat}

theorem draw_go (hpl : planOk cx ops.toList pl [] pl = true) (hcov : ∀ i, i < ops.size → ∃ r ∈ pl, r.i = i) (hok : ops.toList.all (dstOk nt) = true) (b : Frame) (k : List Item) (cs : List Frame) :
    ∀ (fuel t : Nat) (lst : Array Bool) (done todo : List Row) (st : St) (tmps : Array Value) (w : World) (lam : Nat → Nat), offs pl lst ≤ fuel →
    Inv cx ops.toList pl K lst done todo st → (∀ r r', todo = r :: r' → r.eff = true) → Sit N D E nt (under ops.toList lst done st) tmps rs w lam →
    ∃ st' tmps' w' lam', K st' ∧ Sit N D E nt st' tmps' rs w' lam' ∧ Upd N D w w' ∧
      Steps cx.P (lone (mk b tmps (rs.map mark) (.inRegion ops (Region.linearise.go .any ops fuel t lst []) :: k)) cs w) (lone (mk b tmps' (rs.map mark) k) cs w') := by
  -- nothing is left
  have stop : ∀ (lst : Array Bool) (done todo : List Row) (st : St) (tmps : Array Value) (w : World) (lam : Nat → Nat), (∀ r, r ∈ pl → ¬ Off lst r.i) →
      Inv cx ops.toList pl K lst done todo st → Sit N D E nt (under ops.toList lst done st) tmps rs w lam →
      ∃ st' tmps' w' lam', K st' ∧ Sit N D E nt st' tmps' rs w' lam' ∧ Upd N D w w' ∧
        Steps cx.P (lone (mk b tmps (rs.map mark) (.inRegion ops [] :: k)) cs w) (lone (mk b tmps' (rs.map mark) k) cs w') := by
    intro lst done todo st tmps w lam hno hI hS
    have htodo : todo = [] := by
      cases todo with
      | nil => rfl
      | cons r rest => exact absurd (hI.todoOff r List.mem_cons_self) (hno r (by rw [hI.split]; simp))
    subst htodo
    have hnod : ∀ t, ¬ OpenD ops.toList lst done t := by
      rintro t ⟨p, hp, hpo, _⟩
      exact hno p (by rw [hI.split]; exact List.mem_append_left _ hp) hpo
    have hnon : ∀ t, ¬ OpenN ops.toList lst done t := by
      rintro t ⟨p, hp, hpo, _⟩
      exact hno p (by rw [hI.split]; exact List.mem_append_left _ hp) hpo
    exact ⟨st, tmps, w, lam, hI.hyp, hS.weaken (fun t => .inl (under_tmps (hnod t)).symm) (fun s => (under_locs (hnon s)).symm) rfl, Upd.refl _ _ _, .one st_region_end⟩
  intro fuel
  induction fuel with
  | zero =>
    intro t lst done todo st tmps w lam hfu hI hhead hS
    have h0 : ∀ r, r ∈ pl → ¬ Off lst r.i := by
      intro r hr ho
      have : 0 < offs pl lst := List.countP_pos_iff.2 ⟨r, hr, by simpa [Off] using ho⟩
      omega
    simpa [Region.linearise.go] using stop lst done todo st tmps w lam h0 hI hS
  | succ fuel ih =>
    intro t lst done todo st tmps w lam hfu hI hhead hS
    have hsz : lst.size = ops.size := by rw [hI.size]; simp
    simp only [Region.linearise.go]
    change ∃ st' tmps' w' lam', K st' ∧ Sit N D E nt st' tmps' rs w' lam' ∧ Upd N D w w' ∧
      Steps cx.P (lone (mk b tmps (rs.map mark) (.inRegion ops (match (Region.ready .any ops lst)[t % (Region.ready .any ops lst).length]? with
      | some i => Region.linearise.go .any ops fuel (t / (Region.ready .any ops lst).length) (lst.setIfInBounds i true) [i]
      | none => [].reverse) :: k)) cs w) (lone (mk b tmps' (rs.map mark) k) cs w')
    cases hi : (Region.ready .any ops lst)[t % (Region.ready .any ops lst).length]? with
    | none =>
      have hnil : Region.ready .any ops lst = [] := by
        cases hr : Region.ready .any ops lst with
        | nil => rfl
        | cons x xs =>
          rw [hr] at hi
          have hlt : t % (x :: xs).length < (x :: xs).length := Nat.mod_lt _ (by simp)
          simp at hi
          simp at hlt
          omega
      -- the first row of the plan that is not listed would be ready
      have h0 : ∀ r, r ∈ pl → ¬ Off lst r.i := by
        have key : ∀ (n : Nat) (A B : List Row), A.length = n → pl = A ++ B → ∀ r, r ∈ A → ¬ Off lst r.i := by
          intro n
          induction n with
          | zero => intro A B hn _ r hr; cases A with
            | nil => cases hr
            | cons x A => cases hn
          | succ n ihn =>
            intro A B hn hsp r hr
            rcases List.eq_nil_or_concat A with rfl | ⟨A', x, rfl⟩
            · cases hn
            · rw [List.concat_eq_append] at *
              have hA' := ihn A' (x :: B) (by simpa using hn) (by simpa using hsp)
              rcases List.mem_append.1 hr with hr | hr
              · exact hA' r hr
              · simp at hr; subst hr
                intro hoff
                obtain ⟨o, hf⟩ := row_facts hpl (A := A') (B := B) (r := r) (by simpa using hsp)
                have : r.i ∈ Region.ready .any ops lst := by
                  refine ready_of (o := o) (by simpa using hf.ho) hoff (fun e he hb => ?_)
                  obtain ⟨p, hp, hpe⟩ := hf.preds e he hb
                  have hnoff := hA' p hp
                  rw [hpe] at hnoff
                  obtain ⟨A2, B2, o2, hsp2, hf2⟩ := row_at hpl (r := p) (by rw [hsp]; simp [hp])
                  have hlt : e.on < lst.size := by
                    rw [hsz]
                    have := (List.getElem?_eq_some_iff.1 hf2.ho).1
                    rw [hpe] at this
                    simpa using this
                  unfold Off at hnoff
                  unfold On
                  rw [Array.getElem?_eq_getElem hlt] at hnoff ⊢
                  cases hv : lst[e.on] with
                  | true => rfl
                  | false => rw [hv] at hnoff; exact absurd rfl hnoff
                rw [hnil] at this
                cases this
        intro r hr
        exact key pl.length pl [] rfl (by simp) r hr
      simpa using stop lst done todo st tmps w lam h0 hI hS
    | some i =>
      simp only []
      rw [linearise_go_acc, List.reverse_singleton, List.singleton_append]
      obtain ⟨hlt, hoff, hpre⟩ := ready_mem (List.mem_of_getElem? hi) hsz
      obtain ⟨r, hr, rfl⟩ := hcov i hlt
      obtain ⟨A, B, o, hsp, hf⟩ := row_at hpl hr
      have hoa : ops[r.i]? = some o := by simpa using hf.ho
      have han : ∀ a, a ∈ r.an → On lst a := by
        intro a ha
        obtain ⟨e, he, hb, h2⟩ := hf.an a ha
        have hon := hpre o hoa e he hb
        rcases h2 with h2 | h2
        · rw [← h2]; exact hon
        · obtain ⟨p, hp, hpe, hpa⟩ := anOf_sub pl e.on a h2
          exact hI.closed p hp (by rw [hpe]; exact hon) a hpa
      have hfu' : offs pl (lst.setIfInBounds r.i true) ≤ fuel := by have := offs_set hr hoff; omega
      have hr' := hr
      rw [hI.split] at hr'
      rcases List.mem_append.1 hr' with hd | htd
      · obtain ⟨tmps1, w1, lam1, hI1, hS1, hU1, hst1⟩ := run_calm hpl hok hI hS hd hoff han b (Region.linearise.go .any ops fuel (t / (Region.ready .any ops lst).length) (lst.setIfInBounds r.i true) []) k cs
        obtain ⟨st2, tmps2, w2, lam2, hK, hS2, hU2, hst2⟩ := ih _ _ done todo st tmps1 w1 lam1 hfu' hI1 hhead hS1
        exact ⟨st2, tmps2, w2, lam2, hK, hS2, hU1.trans hU2, hst1.trans hst2⟩
      · -- it is the head
        obtain ⟨e, more, rfl⟩ : ∃ e more, todo = e :: more := by
          cases todo with
          | nil => cases htd
          | cons e more => exact ⟨e, more, rfl⟩
        have heff := hhead e more rfl
        have hre : r = e := by
          rcases List.mem_cons.1 htd with h | h
          · exact h
          · exfalso
            obtain ⟨B1, B2, rfl⟩ := List.append_of_mem h
            obtain ⟨o', hf'⟩ := row_facts hpl (A := done ++ e :: B1) (B := B2) (r := r) (by rw [hI.split]; simp)
            have : e.i ∈ r.an := hf'.effs e (by simp) heff
            exact not_on_off (han _ this) (hI.todoOff e List.mem_cons_self)
        subst hre
        obtain ⟨st1, tmps1, w1, lam1, hI1, hS1, hU1, hst1⟩ := run_great hpl hok hI heff hS han b (Region.linearise.go .any ops fuel (t / (Region.ready .any ops lst).length) (lst.setIfInBounds r.i true) []) k cs
        obtain ⟨done2, todo2, st2, hI2, hhead2, hS2⟩ := advance hpl more (done ++ [r]) st1 hI1 hS1
        obtain ⟨st3, tmps3, w3, lam3, hK, hS3, hU3, hst3⟩ := ih _ _ done2 todo2 st2 tmps1 w1 lam1 hfu' hI2 hhead2 hS2
        exact ⟨st3, tmps3, w3, lam3, hK, hS3, hU1.trans hU3, hst1.trans hst3⟩

/-- **A region whose order is open.** -/
theorem evDraw_sound (hdst : dstsOk nt ops.toList = true) (hlen : pl.length = ops.toList.length) (hcov : ((List.range ops.toList.length).all fun i => pl.any (·.i == i)) = true) (hpl : planOk cx ops.toList pl [] pl = true)
    (hmix : cx.P.follows .mixedOrders = true) {st : St} (h : evPlan cx ops.toList pl (st.forget (newsOf ops.toList)) K) {tmps : Array Value} {w : World} {lam : Nat → Nat} (hs : Sit N D E nt st tmps rs w lam)
    (b : Frame) (k : List Item) (cs : List Frame) (id : Nat) :
    ∃ st' tmps' w' lam', K st' ∧ Sit N D E nt st' tmps' rs w' lam' ∧ Upd N D w w' ∧
      Steps cx.P (lone (mk b tmps (rs.map mark) (.code (.region id ops true) :: k)) cs w) (lone (mk b tmps' (rs.map mark) k) cs w') := by
  have hok : ops.toList.all (dstOk nt) = true := hdst
  have hcov' : ∀ i, i < ops.size → ∃ r ∈ pl, r.i = i := by
    intro i hi
    have := List.all_eq_true.1 hcov i (by simpa using hi)
    obtain ⟨r, hr, he⟩ := List.any_eq_true.1 this
    exact ⟨r, hr, by simpa using he⟩
  have hS0 := hs.forget (newsOf ops.toList)
  have hS1 : Sit N D E nt (st.forget (newsOf ops.toList)) tmps rs { w with drawn := w.drawn + 1 } lam :=
    ⟨hS0.rel.upd_world (fun b _ => rfl), hS0.size, hS0.nt, hS0.marks, hS0.once⟩
  have hU0 : Upd N D w { w with drawn := w.drawn + 1 } := ⟨rfl, rfl, rfl, Nat.le_refl _, fun _ _ _ => rfl, fun _ _ h => h⟩
  have hoff0 : ∀ r, r ∈ pl → Off (Array.replicate ops.size false) r.i := by
    intro r hr
    obtain ⟨A, B, o, hsp, hf⟩ := row_at hpl hr
    have := (List.getElem?_eq_some_iff.1 hf.ho).1
    unfold Off
    simp at this
    simp [this]
  have hI : Inv cx ops.toList pl K (Array.replicate ops.size false) [] pl (st.forget (newsOf ops.toList)) := by
    refine ⟨rfl, by simp, (fun r hr => by cases hr), hoff0, (fun r hr hon => absurd (hoff0 r hr) (not_on_off hon)), (fun r hr => by cases hr), (fun r hr o ho hn d hd => ?_), h⟩
    show (if memb d (newsOf ops.toList) = true then none else st.locs d) = none
    rw [if_pos]
    rw [memb_iff]
    unfold newsOf
    exact List.mem_filterMap.2 ⟨o, List.mem_of_getElem? ho, by simp [hn, hd]⟩
  have hno : ∀ t, ¬ OpenD ops.toList (Array.replicate ops.size false) [] t := by rintro t ⟨p, hp, _⟩; cases hp
  have hnoN : ∀ t, ¬ OpenN ops.toList (Array.replicate ops.size false) [] t := by rintro t ⟨p, hp, _⟩; cases hp
  have hS2 : Sit N D E nt (under ops.toList (Array.replicate ops.size false) [] (st.forget (newsOf ops.toList))) tmps rs { w with drawn := w.drawn + 1 } lam :=
    hS1.weaken (fun t => .inl (under_tmps (hno t))) (fun s => under_locs (hnoN s)) rfl
  obtain ⟨done2, todo2, st2, hI2, hhead2, hS3⟩ := advance hpl pl [] _ hI hS2
  have hfu : offs pl (Array.replicate ops.size false) ≤ ops.size := by
    have := List.countP_le_length (p := fun r : Row => (Array.replicate ops.size false)[r.i]? == some false) (l := pl)
    unfold offs
    simp only [Array.length_toList] at hlen
    omega
  obtain ⟨st3, tmps3, w3, lam3, hK, hS4, hU4, hst⟩ := draw_go hpl hcov' hok b k cs ops.size (w.tape w.drawn (.order b.fn id)) _ done2 todo2 st2 tmps _ lam hfu hI2 hhead2 hS3
  refine ⟨st3, tmps3, w3, lam3, hK, hS4, hU0.trans hU4, .head st_region_draw ?_⟩
  have : Region.schedule (cx.P.follows .mixedOrders) ops (w.tape w.drawn (.order b.fn id)) = Region.linearise.go .any ops ops.size (w.tape w.drawn (.order b.fn id)) (Array.replicate ops.size false) [] := by
    simp only [Region.schedule, hmix, Bool.true_or, if_true, Region.linearise]
  rw [this]
  exact hst
end

end Go.Z
