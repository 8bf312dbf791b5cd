/-
  Regions whose order is open: one of the operations that go one behind the other comes up.
-/
import Derived.Test.YtbkmhkeihbgcfaaYs
set_option linter.unusedVariables false
set_option linter.unusedSimpArgs false
namespace Go.Y
open RowKit

/-- A walk over a part of the heap leaves the rest. -/
theorem HSit.frame {N : Nat} {D : Nat → Prop} {n n1 : Nat} {w w' : World} {lam lam' : Lam} {H R F H1 : Hp} (h : HSit N D lam H n w) (hN : N ≤ w.heap.size)
    (hR : ∀ k e, (k, e) ∈ R → (k, e) ∈ H) (hF : ∀ k e, (k, e) ∈ F → (k, e) ∈ H) (hRF : ∀ k e e', (k, e) ∈ R → (k, e') ∉ F) (hFn : (F.map (·.1)).Nodup)
    (h1 : HSit w.heap.size (fun b => ∃ k e o, (k, e) ∈ R ∧ e.writes = true ∧ lam k 0 = some (b, o)) lam' H1 n1 w')
    (hU : Upd w.heap.size (fun b => ∃ k e o, (k, e) ∈ R ∧ e.writes = true ∧ lam k 0 = some (b, o)) w w') (ha : keeps n lam lam') (hn : n ≤ n1) (hk : KeyS R n H1) :
    HSit N D lam' (H1 ++ F) n1 w' ∧ Upd N D w w' := by
  have hD : ∀ b, (∃ k e o, (k, e) ∈ R ∧ e.writes = true ∧ lam k 0 = some (b, o)) → D b ∨ N ≤ b := by
    rintro b ⟨k, e, o, hm, hw, hl⟩
    exact h.wr k e (hR k e hm) hw b o hl
  -- a block of the rest is not one of those
  have hFb : ∀ k x, (k, x) ∈ F → ∀ i b o, (i = 0 ∨ x.writes = false) → lam k i = some (b, o) → b < w.heap.size ∧ ¬ ∃ k e o, (k, e) ∈ R ∧ e.writes = true ∧ lam k 0 = some (b, o) := by
    intro k x hx i b o hi hl
    refine ⟨(h.has k x (hF k x hx)).lt hi hl, ?_⟩
    rintro ⟨k2, e2, o2, hm, hw, hl2⟩
    have := (h.apart k2 e2 (hR _ _ hm) hw k x (hF _ _ hx) i b o2 o hi hl2 hl).1
    subst this
    exact hRF _ _ _ hm hx
  have hlamF : ∀ k x, (k, x) ∈ F → ∀ i, lam' k i = lam k i := fun k x hx i => (ha k (h.low k x (hF k x hx)).1 (h.low k x (hF k x hx)).2).2 i
  have hlamR : ∀ k x, (k, x) ∈ R → ∀ i, lam' k i = lam k i := fun k x hx i => (ha k (h.low k x (hR k x hx)).1 (h.low k x (hR k x hx)).2).2 i
  refine ⟨⟨fun k x hx => ?_, fun k x hx => ?_, fun k x hx hw b o hl => ?_, fun k x hx hw k' x' hx' i b o o' hi hl hl' => ?_, ?_⟩, ?_⟩
  · rcases List.mem_append.1 hx with hx | hx
    · exact h1.has k x hx
    · refine (h.has k x (hF k x hx)).move (h.low k x (hF k x hx)) ha hn (fun i b o hi hl => ?_)
      obtain ⟨g1, g2⟩ := hFb k x hx i b o hi hl
      exact hU.block b g1 g2
  · rcases List.mem_append.1 hx with hx | hx
    · exact h1.low k x hx
    · have := h.low k x (hF k x hx)
      exact ⟨Nat.lt_of_lt_of_le this.1 hn, (ha k this.1 this.2).1⟩
  · rcases List.mem_append.1 hx with hx | hx
    · rcases h1.wr k x hx hw b o hl with g | g
      · exact hD b g
      · exact .inr (Nat.le_trans hN g)
    · rw [hlamF k x hx] at hl
      exact h.wr k x (hF k x hx) hw b o hl
  · rcases List.mem_append.1 hx with hx | hx <;> rcases List.mem_append.1 hx' with hx' | hx'
    · exact h1.apart k x hx hw k' x' hx' i b o o' hi hl hl'
    · exfalso
      rw [hlamF k' x' hx'] at hl'
      obtain ⟨g1, g2⟩ := hFb k' x' hx' i b o' hi hl'
      rcases h1.wr k x hx hw b o hl with g | g
      · exact g2 g
      · omega
    · exfalso
      rw [hlamF k x hx] at hl
      obtain ⟨g1, g2⟩ := hFb k x hx 0 b o (.inl rfl) hl
      cases hw' : x'.writes with
      | true =>
        have hi0 : i = 0 := by
          rcases hi with hi | hi
          · exact hi
          · rw [hw'] at hi; cases hi
        subst hi0
        rcases h1.wr k' x' hx' hw' b o' hl' with g | g
        · exact g2 g
        · omega
      | false =>
        rcases hk k' x' hx' with ⟨y, hy, e⟩ | ⟨_, e⟩
        · have := e hw'; subst this
          rw [hlamR k' x' hy] at hl'
          have := (h.apart k x (hF k x hx) hw k' x' (hR k' x' hy) i b o o' hi hl hl').1
          subst this
          exact hRF _ _ _ hy hx
        · rw [hw'] at e; cases e
    · rw [hlamF k x hx] at hl
      rw [hlamF k' x' hx'] at hl'
      exact h.apart k x (hF k x hx) hw k' x' (hF k' x' hx') i b o o' hi hl hl'
  · rw [List.map_append, List.nodup_append]
    refine ⟨h1.nd, hFn, ?_⟩
    intro a ha' b hb
    obtain ⟨⟨k, x⟩, hx, rfl⟩ := List.mem_map.1 ha'
    obtain ⟨⟨k', x'⟩, hx', rfl⟩ := List.mem_map.1 hb
    rintro e
    simp only at e
    subst e
    rcases hk k x hx with ⟨y, hy, _⟩ | ⟨g, _⟩
    · exact hRF _ _ _ hy hx'
    · have := (h.low k x' (hF _ _ hx')).1
      omega
  · refine ⟨hU.os, hU.tape, hU.output, hU.size, fun b hb hd => hU.block b (by omega) (fun g => ?_), hU.defr⟩
    rcases hD b g with g | g
    · exact hd g
    · omega

section
variable {cx : Cx} {ops : Array Oper} {pl : List Row} {m base : Nat} {H0 : Hp} {K : St → Prop} {lst : Array Bool} {done todo : List Row} {st : St} {lam : Lam}
  {N : Nat} {D : Nat → Prop} {nt : Nat} {tmps : Array Value} {rs : List Nat} {w : World}

theorem hideH_keys (ks : List Nat) (H : Hp) : ∀ k, k ∈ (hideH ks H).map (·.1) → k ∈ H.map (·.1) := by
  intro k hk
  obtain ⟨⟨c, x⟩, h, rfl⟩ := List.mem_map.1 hk
  exact List.mem_map.2 ⟨(c, x), (hideH_mem.1 h).1, rfl⟩

/-- The next one of those that go one behind the other comes up. -/
theorem run_great (hpu : PuOk cx) (hpl : planOk ops.toList pl m [] pl = true) (hok : ops.toList.all (dstOk nt) = true) {r : Row} {more : List Row} (hI : Inv cx ops.toList pl m base H0 K lst done (r :: more) st lam) (heff : r.eff = true)
    (hS : Sit N D nt (view ops.toList base lst done st) tmps rs w lam) (han : ∀ a, a ∈ r.an → On lst a) (b : Frame) (rest : List Nat) (k : List Item) (cs : List Frame) :
    ∃ st' tmps' w' lam', Inv cx ops.toList pl m base H0 K (lst.setIfInBounds r.i true) (done ++ [r]) more st' lam' ∧ Sit N D nt (view ops.toList base (lst.setIfInBounds r.i true) (done ++ [r]) st') tmps' rs w' lam' ∧ Upd N D w w' ∧ agree base lam lam' ∧
      Steps cx.P (lone (mk b tmps (rs.map mark) (.inRegion ops (r.i :: rest) :: k)) cs w) (lone (mk b tmps' (rs.map mark) (.inRegion ops rest :: k)) cs w') := by
  obtain ⟨o, hf⟩ := row_facts hpl hI.split
  have ho := hf.ho
  have hoa : ops[r.i]? = some o := by simpa using ho
  have hrpl : r ∈ pl := by rw [hI.split]; simp
  have hoff := hI.todoOff r List.mem_cons_self
  have hdok : dstOk nt o = true := List.all_eq_true.1 hok o (List.mem_of_getElem? ho)
  have hdl := dst_lt hdok
  obtain ⟨hdne, hrne⟩ := rest_ne hpl hI.split
  have hsee := sees_open hpl hI hI.split hf han
  have hseeT : ∀ t, t ∈ seesT ops.toList o → getT (view ops.toList base lst done st).T t = getT st.T t := fun t ht => view_get (hsee t ht)
  have hget := sees_get hseeT
  have hsees2 := want_same hseeT
  have hnm : makes r o = false := by simp [makes, heff]
  have hhyp := hI.hyp
  unfold evRows at hhyp
  rw [ho] at hhyp
  simp only at hhyp
  -- who is still to come stays
  have hpD : ∀ t, t ∈ pendD ops.toList (lst.setIfInBounds r.i true) (done ++ [r]) ↔ t ∈ pendD ops.toList lst done := by
    intro t
    constructor
    · intro h
      obtain ⟨p, hp, hpo, q, hq, hd⟩ := pendD_mem.1 h
      obtain ⟨hne, hpo⟩ := off_set hpo
      rcases List.mem_append.1 hp with hp | hp
      · exact pendD_mem.2 ⟨p, hp, hpo, q, hq, hd⟩
      · simp at hp; subst hp; exact absurd rfl hne
    · intro h
      obtain ⟨p, hp, hpo, q, hq, hd⟩ := pendD_mem.1 h
      exact pendD_mem.2 ⟨p, List.mem_append_left _ hp, off_set' hpo (hdne p hp), q, hq, hd⟩
  have hpK : ∀ t, t ∈ pendK ops.toList base (lst.setIfInBounds r.i true) (done ++ [r]) ↔ t ∈ pendK ops.toList base lst done := by
    intro t
    constructor
    · intro h
      obtain ⟨p, hp, hpo, q, hq, hd⟩ := pendK_mem.1 h
      obtain ⟨hne, hpo⟩ := off_set hpo
      rcases List.mem_append.1 hp with hp | hp
      · exact pendK_mem.2 ⟨p, hp, hpo, q, hq, hd⟩
      · simp at hp; subst hp; exact absurd rfl hne
    · intro h
      obtain ⟨p, hp, hpo, q, hq, hd⟩ := pendK_mem.1 h
      exact pendK_mem.2 ⟨p, List.mem_append_left _ hp, off_set' hpo (hdne p hp), q, hq, hd⟩
  have hdstNo : ∀ t, t ∈ pendD ops.toList lst done → ∀ d, o.dst = some d → t ≠ d := by
    rintro t ht d hd rfl
    obtain ⟨p, hp, hpo, q, hq, hqd⟩ := pendD_mem.1 ht
    have hppl : p ∈ pl := by rw [hI.split]; exact List.mem_append_left _ hp
    exact (rows_differ hpl hrpl hppl (Ne.symm (hdne p hp)) ho hq).1 t hd hqd
  -- a state of the plan that follows
  have next : ∀ (v : AV) (H' : Hp) (n' : Nat) (lam' : Lam), keeps st.n lam lam' → (∀ c, c < st.n → lam'.born c → lam.born c) → st.n ≤ n' → (H'.map (·.1)).Nodup → KeyS H0 base H' →
      (∀ c, c < st.n → c ∉ st.H.map (·.1) → c ∉ H'.map (·.1)) →
      (∀ c e, (c, e) ∈ st.H → c ∈ outs base r.out → (c, e) ∈ H') →
      (∀ p, p ∈ done → Off lst p.i → ∀ q, ops.toList[p.i]? = some q → looks q.op = true → p.eff = false → (H' = st.H ∨ chkO cx.P ops.toList base (some p) (some q) ⟨putT st.T o.dst v, H', n'⟩)) →
      evRows cx ops.toList pl base more ⟨putT st.T o.dst v, H', n'⟩ K →
      Inv cx ops.toList pl m base H0 K (lst.setIfInBounds r.i true) (done ++ [r]) more ⟨putT st.T o.dst v, H', n'⟩ lam' := by
    intro v H' n' lam' hkp hbk hn hnd hky hnew hold hchk hk
    have hput : ∀ t, (∀ d, o.dst = some d → t ≠ d) → getT (putT st.T o.dst v) t = getT st.T t := by
      intro t ht
      rw [getT_put]
      split
      · rename_i h; exact absurd rfl (ht t h)
      · rfl
    have hpar : ∀ p, p ∈ done → Off lst p.i → p.i ∉ r.an := fun p hp hpo ha => not_on_off (han _ ha) hpo
    refine ⟨by rw [hI.split]; simp, by simp [hI.size], ?_, ?_, ?_, ?_, ?_, ?_, hnd, Nat.le_trans hI.room hn, hky, hk⟩
    · intro p hp he
      rcases List.mem_append.1 hp with hp | hp
      · exact on_set (hI.effDone p hp he)
      · simp at hp; subst hp; exact on_self hoff
    · intro p hp
      exact off_set' (hI.todoOff p (List.mem_cons_of_mem _ hp)) (hrne p hp)
    · intro p hp hon a ha
      rcases on_set_or hon with e | hon
      · have := row_unique hpl hp hrpl e; subst this
        exact on_set (han a ha)
      · exact on_set (hI.closed p hp hon a ha)
    · intro p hp hpo q hq
      obtain ⟨hne, hpo⟩ := off_set hpo
      rcases List.mem_append.1 hp with hp | hp
      · have hppl : p ∈ pl := by rw [hI.split]; exact List.mem_append_left _ hp
        have hpe : p.eff = false := by
          cases he : p.eff with
          | false => rfl
          | true => exact absurd hpo (not_on_off (hI.effDone p hp he))
        obtain ⟨q', hq', h1, h2, h3, h4, h5, h6⟩ := hf.pair p hp
        have := oper_eq hq hq'; subst this
        have hsee' : ∀ t, t ∈ seesT ops.toList q → getT (putT st.T o.dst v) t = getT st.T t := by
          intro t ht
          refine hput t ?_
          rintro d hd rfl
          exact hpar p hp hpo (h2 t hd ht).2
        have hdd : ∀ d, q.dst = some d → getT (putT st.T o.dst v) d = getT st.T d := by
          intro d hd
          refine hput d ?_
          rintro d' hd' rfl
          exact (h1 d hd).2 hd'
        refine (hI.cert p hp hpo q hq).keep hsee' hdd (fun hlk v0 hw0 hv0 hop => ?_) (fun v0 e hop he => ?_) (fun hm hno e hmem => ?_)
        · rcases hchk p hp hpo q hq hlk hpe with h | h
          · refine ⟨v0, fun d hd => by rw [hdd d hd, hv0 d hd], ?_⟩
            show opV cx.P q.op (putT st.T o.dst v) (hideH _ H') = _
            rw [h, opV_sees (sees_get hsee')]; exact hop
          · have hw1 : wantA ops.toList (putT st.T o.dst v) q.guard = some true := by rw [want_same hsee', hw0]
            have h : chkW cx.P base p q (wantA ops.toList (putT st.T o.dst v) q.guard) ⟨putT st.T o.dst v, H', n'⟩ := h
            rw [hw1] at h
            unfold chkW at h
            simp only at h
            obtain ⟨v', g1, g2⟩ := oK_some h
            refine ⟨v', fun d hd => ?_, g1⟩
            unfold chkV at g2
            rw [hd] at g2
            exact g2
        · have hm : makes p q = true := by simp [makes, hpe, opN_new hop]
          rcases h4 hm (.inl heff) with g | g
          · exact hold _ _ he (List.mem_map.2 ⟨p.id, g, rfl⟩)
          · exact absurd g (hpar p hp hpo)
        · have hlow : base + p.id < st.n := by
            obtain ⟨A2, B2, q2, hs2, hf2⟩ := row_at hpl hppl
            have := oper_eq hq hf2.ho; subst this
            have := hf2.low hm; have := hI.room; omega
          refine hnew _ hlow (fun hmem' => ?_) (List.mem_map.2 ⟨_, hmem, rfl⟩)
          obtain ⟨⟨c, x⟩, hx, hc⟩ := List.mem_map.1 hmem'
          simp only at hc; subst hc
          exact hno x hx
      · simp at hp; subst hp; exact absurd rfl hne
    · intro p hp hpo q hq hm hb
      obtain ⟨hne, hpo⟩ := off_set hpo
      obtain ⟨A2, B2, q2, hs2, hf2⟩ := row_at hpl hp
      have := oper_eq hq hf2.ho; subst this
      have hlow : base + p.id < st.n := by have := hf2.low hm; have := hI.room; omega
      exact hI.unborn p hp hpo q hq hm (hbk _ hlow hb)
    · intro p hp q hq hm e hmem
      have hppl : p ∈ pl := by rw [hI.split]; simp [hp]
      obtain ⟨A2, B2, q2, hs2, hf2⟩ := row_at hpl hppl
      have := oper_eq hq hf2.ho; subst this
      have hlow : base + p.id < st.n := by have := hf2.low hm; have := hI.room; omega
      refine hnew _ hlow (fun hmem' => ?_) (List.mem_map.2 ⟨_, hmem, rfl⟩)
      obtain ⟨⟨c, x⟩, hx, hc⟩ := List.mem_map.1 hmem'
      simp only at hc; subst hc
      exact hI.nokey p (List.mem_cons_of_mem _ hp) q hq hm x hx
  have hviewT : ∀ (v : AV) (H' : Hp) (n' : Nat) (lam' : Lam) (tm : Array Value), TRel lam' n' (putT (view ops.toList base lst done st).T o.dst v) tm →
      TRel lam' n' (view ops.toList base (lst.setIfInBounds r.i true) (done ++ [r]) ⟨putT st.T o.dst v, H', n'⟩).T tm := by
    intro v H' n' lam' tm hT
    refine hT.less fun t u hu => ?_
    obtain ⟨g1, g2⟩ := view_some hu
    have g2' : getT (putT st.T o.dst v) t = some u := g2
    rw [getT_put] at g2' ⊢
    split at g2'
    · rename_i hd; rw [if_pos hd]; exact g2'
    · rename_i hd
      rw [if_neg hd, view_get (fun h => g1 ((hpD t).2 h))]; exact g2'
  unfold evRow at hhyp
  split at hhyp
  · -- it is not wanted
    rename_i hw
    have hwr := wanted_run hS.tmp ops o (b := false) (by rw [hsees2]; exact hw)
    have hT := hS.tmp.put (dst := o.dst) (v := .tup []) (by rw [hS.nt]; exact hdl) (by simp [AV.ok, okL])
    refine ⟨_, _, w, lam, next (.tup []) st.H st.n lam (keeps.refl _ _) (fun _ _ h => h) (Nat.le_refl _) hI.nd hI.key (fun _ _ h => h) (fun _ _ h _ => h) (fun _ _ _ _ _ _ _ => .inl rfl) hhyp, ?_, Upd.refl _ _ _, agree.refl _ _, .one (st_op_skip hoa hwr)⟩
    refine ⟨hviewT _ _ _ _ _ hT, hS.heap.subset (fun c e hce => ?_) (hI.nd.sublist ((hideH_sub _ _).map _)), hS.size, by rw [putV_size, hS.nt], hS.marks, hS.once⟩
    obtain ⟨g1, g2⟩ := view_mem.1 hce
    exact view_mem.2 ⟨g1, fun h => g2 ((hpK c).2 h)⟩
  · rename_i hw
    rw [heff] at hhyp
    simp only [if_true] at hhyp
    have hwr := wanted_run hS.tmp ops o (b := true) (by rw [hsees2]; exact hw)
    have hdoneA : ∀ p, p ∈ done → p ∈ done := fun _ h => h
    -- the part of the heap that it walks over
    have hopen := outs_open hpl hI hI.split hf han (.inl heff) (fun h => looks_new h) (fun _ p hp => hp)
    have hR : hideH (outs base r.out) (view ops.toList base lst done st).H = hideH (outs base r.out) st.H := hideH_hide hopen st.H
    have hev := evOp_sees (cx := cx) (T' := (view ops.toList base lst done st).T) (by exact hget) hhyp
    obtain ⟨R, hRd⟩ : ∃ R, R = hideH (outs base r.out) st.H := ⟨_, rfl⟩
    rw [← hRd] at hev hR
    have hRv : ∀ c e, (c, e) ∈ R → (c, e) ∈ (view ops.toList base lst done st).H := by
      intro c e h; rw [← hR] at h; exact (hideH_mem.1 h).1
    have hsub := hS.heap.sub (hideH_sub (outs base r.out) _)
    rw [hR] at hsub
    have hS' : Sit w.heap.size (fun b => ∃ k e o, (k, e) ∈ R ∧ e.writes = true ∧ lam k 0 = some (b, o)) nt ⟨(view ops.toList base lst done st).T, R, st.n⟩ tmps [] w lam :=
      ⟨hS.tmp, ⟨hsub.has, hsub.low, fun c x hx hw b o hl => .inl ⟨c, x, o, hx, hw, hl⟩, hsub.apart, hsub.nd⟩, Nat.le_refl _, hS.nt, (fun r hr => by cases hr), List.nodup_nil⟩
    obtain ⟨v, st1, tmps1, w1, lam1, hk, hS1, hT1, hn1, hU1, hag, hky, hst⟩ := evOp_run hpu hev hS' hoa hwr hdok b (rs.map mark) rest k cs
    obtain ⟨hchk, hk⟩ := hk
    rw [hT1] at hS1
    -- what it left
    obtain ⟨F, hFd⟩ : ∃ F, F = showH (outs base r.out) (view ops.toList base lst done st).H := ⟨_, rfl⟩
    have hFm : ∀ c e, (c, e) ∈ F → (c, e) ∈ (view ops.toList base lst done st).H := by
      intro c e h; rw [hFd] at h; exact (showH_mem.1 h).1
    obtain ⟨hH2, hU2⟩ := hS.heap.frame hS.size hRv hFm (fun c e e' h1 h2 => by
        rw [hFd] at h2; rw [hRd] at h1
        exact (hideH_mem.1 h1).2 (showH_mem.1 h2).2) (by rw [hFd]; exact hS.heap.nd.sublist ((showH_sub _ _).map _)) hS1.heap hU1 hag.keeps hn1 hky
    have hlowAll : ∀ c e, (c, e) ∈ st.H → c < st.n := by
      intro c e hce
      by_cases hin : c ∈ pendK ops.toList base lst done
      · obtain ⟨p, hp, hpo, q, hq, hm, rfl⟩ := pendK_mem.1 hin
        have hppl : p ∈ pl := by rw [hI.split]; exact List.mem_append_left _ hp
        obtain ⟨A2, B2, q2, hs2, hf2⟩ := row_at hpl hppl
        have := oper_eq hq hf2.ho; subst this
        have := hf2.low hm; have := hI.room; omega
      · exact (hS.heap.low c e (view_mem.2 ⟨hce, hin⟩)).1
    have hkeys : ∀ c x, (c, x) ∈ st1.H → (∃ y, (c, y) ∈ st.H ∧ c ∉ outs base r.out ∧ (x.writes = false → x = y)) ∨ (st.n ≤ c ∧ x.writes = true) := by
      intro c x hx
      rcases hky c x hx with ⟨y, hy, e⟩ | h
      · rw [show (⟨(view ops.toList base lst done st).T, R, st.n⟩ : St).H = R from rfl, hRd] at hy
        exact .inl ⟨y, (hideH_mem.1 hy).1, (hideH_mem.1 hy).2, e⟩
      · exact .inr h
    have hndAll : ((st1.H ++ showH (outs base r.out) st.H).map (·.1)).Nodup := by
      rw [List.map_append, List.nodup_append]
      refine ⟨hS1.heap.nd, hI.nd.sublist ((showH_sub _ _).map _), ?_⟩
      intro a ha' b hb
      obtain ⟨⟨c, x⟩, hx, rfl⟩ := List.mem_map.1 ha'
      obtain ⟨⟨c', x'⟩, hx', rfl⟩ := List.mem_map.1 hb
      intro e
      simp only at e
      subst e
      obtain ⟨g1, g2⟩ := showH_mem.1 hx'
      rcases hkeys c x hx with ⟨y, _, g3, _⟩ | ⟨g3, _⟩
      · exact g3 g2
      · have := hlowAll c x' g1; omega
    have hkyAll : KeyS st.H base (st1.H ++ showH (outs base r.out) st.H) := by
      intro c x hx
      rcases List.mem_append.1 hx with hx | hx
      · rcases hkeys c x hx with ⟨y, hy, _, e⟩ | ⟨g, e⟩
        · exact .inl ⟨y, hy, e⟩
        · exact .inr ⟨by have := hI.room; omega, e⟩
      · exact .inl ⟨x, (showH_mem.1 hx).1, fun _ => rfl⟩
    refine ⟨_, tmps1, w1, lam1, next v _ st1.n lam1 hag.keeps hag.back hn1 hndAll (hI.key.trans hkyAll) ?_ (fun c e hce hco => List.mem_append_right _ (showH_mem.2 ⟨hce, hco⟩)) ?_ hk, ?_, hU2, hag.mono (by show base ≤ st.n; have := hI.room; omega), hst⟩
    · intro c hc hno hmem
      obtain ⟨⟨c', x⟩, hx, e⟩ := List.mem_map.1 hmem
      simp only at e; subst e
      rcases List.mem_append.1 hx with hx | hx
      · rcases hkeys c' x hx with ⟨y, hy, _⟩ | ⟨g, _⟩
        · exact hno (List.mem_map.2 ⟨_, hy, rfl⟩)
        · omega
      · exact hno (List.mem_map.2 ⟨_, (showH_mem.1 hx).1, rfl⟩)
    · intro p hp hpo q hq hlk hpe
      right
      obtain ⟨q', hq', h1, h2, h3, h4, h5, h6⟩ := hf.pair p hp
      have := oper_eq hq hq'; subst this
      have hppl : p ∈ pl := by rw [hI.split]; exact List.mem_append_left _ hp
      rcases h3 heff hpe hlk with g | g
      · have hc := chkAll_mem hchk p.i g
        rw [hq] at hc
        cases hrow : rowOf pl p.i with
        | none => rw [hrow] at hc; exact hc.elim
        | some p' =>
          rw [hrow] at hc
          obtain ⟨g1, g2⟩ := rowOf_mem hrow
          have := row_unique hpl g1 hppl g2; subst this
          exact hc
      · exact absurd hpo (not_on_off (han _ g))
    · refine ⟨hviewT _ _ _ _ _ hS1.tmp, hH2.subset (fun c e hce => ?_) (hndAll.sublist ((hideH_sub _ _).map _)), Nat.le_trans hS.size hU2.size, hS1.nt, hU2.marks hS.marks, hS.once⟩
      obtain ⟨g1, g2⟩ := view_mem.1 hce
      rcases List.mem_append.1 g1 with g1 | g1
      · exact List.mem_append_left _ g1
      · refine List.mem_append_right _ ?_
        rw [hFd]
        exact showH_mem.2 ⟨view_mem.2 ⟨(showH_mem.1 g1).1, fun h => g2 ((hpK c).2 h)⟩, (showH_mem.1 g1).2⟩
  · exact hhyp.elim
end

end Go.Y
