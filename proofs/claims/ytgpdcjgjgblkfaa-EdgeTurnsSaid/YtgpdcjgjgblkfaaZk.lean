/-
  A region whose order is open, second half: whatever order is picked, the plan's state is met at the end.
-/
import Derived.Test.YtgpdcjgjgblkfaaZg
set_option linter.unusedVariables false
set_option linter.unusedSimpArgs false
namespace Go.Z
open RowKit

structure RF (cx : Cx) (ops : List Oper) (pl A : List Row) (r : Row) (o : Oper) : Prop where
  ho : ops[r.i]? = some o
  kind : r.eff = true ∨ calm cx o = true
  new : r.eff = true → isNew o = false
  preds : ∀ e, e ∈ o.after.toList → bindsE e = true → ∃ p ∈ A, p.i = e.on
  an : ∀ a, a ∈ r.an → ∃ e ∈ o.after.toList, bindsE e = true ∧ (e.on = a ∨ a ∈ anOf pl e.on)
  effs : ∀ p, p ∈ A → p.eff = true → p.i ∈ r.an
  fresh : r.i ∉ A.map (·.i)
  pair : ∀ p, p ∈ A → ∃ q, ops[p.i]? = some q ∧ (∀ d, q.dst = some d → (d ∈ seesT ops o → p.i ∈ r.an) ∧ o.dst ≠ some d) ∧
    (∀ d, o.dst = some d → d ∈ seesT ops q → r.eff = true ∧ p.i ∈ r.an) ∧ (r.eff = true → p.eff = false → isLoad q = true → p.i ∈ r.chk ∨ p.i ∈ r.an)
  self : ∀ d, o.dst = some d → r.eff = true ∨ d ∉ seesT ops o
  newd : o.dst = none → isNew o = false ∧ isLoad o = false

theorem memb_false {x : Nat} {l : List Nat} (h : (!memb x l) = true) : x ∉ l := by
  intro hm
  rw [memb_iff.2 hm] at h
  cases h

theorem rowOk_spec {cx : Cx} {ops : List Oper} {pl A B : List Row} {r : Row} (h : rowOk cx ops pl A B r = true) : ∃ o, RF cx ops pl A r o := by
  unfold rowOk at h
  cases ho : ops[r.i]? with
  | none => rw [ho] at h; cases h
  | some o =>
    rw [ho] at h
    simp only [Bool.and_eq_true] at h
    obtain ⟨⟨⟨⟨⟨⟨⟨⟨h1, h2⟩, h3⟩, h4⟩, h5⟩, h6⟩, h7⟩, h8⟩, h9⟩ := h
    refine ⟨o, ho, ?_, ?_, ?_, ?_, ?_, ?_, ?_, ?_, ?_⟩
    · simpa using h1
    · intro he; rw [he] at h2; simpa using h2
    · intro e he hb
      have := List.all_eq_true.1 h3 e he
      rw [hb] at this
      simpa using this
    · intro a ha
      have := List.all_eq_true.1 h4 a ha
      obtain ⟨e, he, h⟩ := List.any_eq_true.1 this
      simp only [Bool.and_eq_true, Bool.or_eq_true, beq_iff_eq, memb_iff] at h
      exact ⟨e, he, h.1, h.2⟩
    · intro p hp he
      have := List.all_eq_true.1 h5 p hp
      rw [he] at this
      simpa [memb_iff] using this
    · exact memb_false h6
    · intro p hp
      have := List.all_eq_true.1 h7 p hp
      cases hq : ops[p.i]? with
      | none => rw [hq] at this; cases this
      | some q =>
        rw [hq] at this
        simp only [Bool.and_eq_true] at this
        obtain ⟨⟨g1, g2⟩, g3⟩ := this
        refine ⟨q, rfl, fun d hd => ?_, fun d hd hs => ?_, fun he hpe hl => ?_⟩
        · rw [hd] at g1
          simp only [Bool.and_eq_true, Bool.or_eq_true, memb_iff] at g1
          refine ⟨fun hs => ?_, by simpa using g1.2⟩
          rcases g1.1 with g | g
          · exact absurd hs (memb_false g)
          · exact g
        · rw [hd] at g2
          simp only [Bool.and_eq_true, Bool.or_eq_true, memb_iff] at g2
          rcases g2 with g | g
          · exact absurd hs (memb_false g)
          · exact g
        · rw [he, hpe, hl] at g3
          simpa [memb_iff] using g3
    · intro d hd
      rw [hd] at h8
      simp only [Bool.or_eq_true] at h8
      rcases h8 with h8 | h8
      · exact .inl h8
      · exact .inr (memb_false h8)
    · intro hd
      rw [hd] at h8
      simpa using h8

theorem planOk_split {cx : Cx} {ops : List Oper} {pl : List Row} : ∀ (rs A0 : List Row), planOk cx ops pl A0 rs = true → ∀ A r B, rs = A ++ r :: B → ∃ o, RF cx ops pl (A0 ++ A) r o
  | [], A0, _, A, r, B, h => by simp at h
  | x :: rs, A0, hp, A, r, B, h => by
    unfold planOk at hp
    simp only [Bool.and_eq_true] at hp
    cases A with
    | nil =>
      simp only [List.nil_append, List.cons.injEq] at h
      obtain ⟨rfl, rfl⟩ := h
      simpa using rowOk_spec hp.1
    | cons y A =>
      simp only [List.cons_append, List.cons.injEq] at h
      obtain ⟨rfl, rfl⟩ := h
      have := planOk_split (A ++ r :: B) (A0 ++ [x]) hp.2 A r B rfl
      simpa using this

section
variable {cx : Cx} {ops : List Oper} {pl : List Row} (hpl : planOk cx ops pl [] pl = true)
include hpl

theorem row_facts {A B : List Row} {r : Row} (h : pl = A ++ r :: B) : ∃ o, RF cx ops pl A r o := by
  have := planOk_split pl [] hpl A r B h
  simpa using this

theorem rows_nodup : ∀ (n : Nat) (A B : List Row), A.length = n → pl = A ++ B → (A.map (·.i)).Nodup := by
  intro n
  induction n with
  | zero => intro A B hn _; cases A with
    | nil => exact List.nodup_nil
    | cons x A => cases hn
  | succ n ih =>
    intro A B hn h
    rcases List.eq_nil_or_concat A with rfl | ⟨A', r, rfl⟩
    · cases hn
    · rw [List.concat_eq_append] at *
      obtain ⟨o, hf⟩ := row_facts hpl (A := A') (B := B) (r := r) (by simpa using h)
      rw [List.map_append, List.nodup_append]
      refine ⟨ih A' (r :: B) (by simpa using hn) (by simpa using h), by simp, ?_⟩
      intro a ha b hb
      simp at hb
      subst hb
      rintro rfl
      exact hf.fresh ha

theorem row_unique {r p : Row} (hr : r ∈ pl) (hp : p ∈ pl) (h : r.i = p.i) : r = p := by
  have hn := rows_nodup hpl _ pl [] rfl (by simp)
  clear hpl
  induction pl with
  | nil => cases hr
  | cons x l ih =>
    simp only [List.map_cons, List.nodup_cons] at hn
    rcases List.mem_cons.1 hr with rfl | hr' <;> rcases List.mem_cons.1 hp with rfl | hp'
    · rfl
    · exact absurd (List.mem_map.2 ⟨p, hp', h.symm⟩) hn.1
    · exact absurd (List.mem_map.2 ⟨r, hr', h⟩) hn.1
    · exact ih hr' hp' hn.2

omit hpl in
theorem anOf_sub : ∀ (l : List Row) (i a : Nat), a ∈ anOf l i → ∃ r ∈ l, r.i = i ∧ a ∈ r.an
  | [], i, a, h => by simp [anOf] at h
  | r :: l, i, a, h => by
    unfold anOf at h
    split at h
    · rename_i e; exact ⟨r, List.mem_cons_self, e, h⟩
    · obtain ⟨p, hp, h2⟩ := anOf_sub l i a h; exact ⟨p, List.mem_cons_of_mem _ hp, h2⟩
end

/-! ### The state that the machine is in, while some calm operations of the plan are still to come -/
def On (lst : Array Bool) (i : Nat) : Prop := lst[i]? = some true
def Off (lst : Array Bool) (i : Nat) : Prop := lst[i]? = some false

theorem on_set {lst : Array Bool} {i j : Nat} (h : On lst j) : On (lst.setIfInBounds i true) j := by
  unfold On at *
  have hj := (Array.getElem?_eq_some_iff.1 h).1
  by_cases e : i = j
  · subst e; simp [Array.getElem?_setIfInBounds, hj]
  · rw [Array.getElem?_setIfInBounds_ne e]; exact h
theorem on_self {lst : Array Bool} {i : Nat} (h : Off lst i) : On (lst.setIfInBounds i true) i := by
  unfold On Off at *
  have hj := (Array.getElem?_eq_some_iff.1 h).1
  simp [Array.getElem?_setIfInBounds, hj]
theorem off_set {lst : Array Bool} {i j : Nat} (h : Off (lst.setIfInBounds i true) j) : j ≠ i ∧ Off lst j := by
  unfold Off at *
  by_cases e : i = j
  · subst e
    by_cases hlt : i < lst.size
    · simp [Array.getElem?_setIfInBounds, hlt] at h
    · simp [Array.getElem?_setIfInBounds, hlt] at h
  · rw [Array.getElem?_setIfInBounds_ne e] at h; exact ⟨fun e' => e e'.symm, h⟩
theorem off_set' {lst : Array Bool} {i j : Nat} (h : Off lst j) (e : j ≠ i) : Off (lst.setIfInBounds i true) j := by
  unfold Off at *
  rw [Array.getElem?_setIfInBounds_ne (Ne.symm e)]; exact h
theorem not_on_off {lst : Array Bool} {i : Nat} (h : On lst i) : ¬ Off lst i := by
  intro h'; unfold On at h; unfold Off at h'; rw [h] at h'; cases h'

def OpenD (ops : List Oper) (lst : Array Bool) (done : List Row) (d : Nat) : Prop := ∃ r, r ∈ done ∧ Off lst r.i ∧ ∃ o, ops[r.i]? = some o ∧ o.dst = some d
def OpenN (ops : List Oper) (lst : Array Bool) (done : List Row) (d : Nat) : Prop := ∃ r, r ∈ done ∧ Off lst r.i ∧ ∃ o, ops[r.i]? = some o ∧ o.dst = some d ∧ isNew o = true

open Classical in
noncomputable def under (ops : List Oper) (lst : Array Bool) (done : List Row) (st : St) : St :=
  { tmps := fun t => if OpenD ops lst done t then .bad else st.tmps t
    locs := fun s => if OpenN ops lst done s then none else st.locs s
    heap := st.heap }

theorem under_tmps {ops : List Oper} {lst : Array Bool} {done : List Row} {st : St} {t : Nat} (h : ¬ OpenD ops lst done t) : (under ops lst done st).tmps t = st.tmps t := by
  simp [under, h]
theorem under_bad {ops : List Oper} {lst : Array Bool} {done : List Row} {st : St} {t : Nat} (h : OpenD ops lst done t) : (under ops lst done st).tmps t = .bad := by
  simp [under, h]
theorem under_locs {ops : List Oper} {lst : Array Bool} {done : List Row} {st : St} {t : Nat} (h : ¬ OpenN ops lst done t) : (under ops lst done st).locs t = st.locs t := by
  simp [under, h]
theorem under_none {ops : List Oper} {lst : Array Bool} {done : List Row} {st : St} {t : Nat} (h : OpenN ops lst done t) : (under ops lst done st).locs t = none := by
  simp [under, h]

/-- Less is known of slots; the rest is as it was. -/
theorem Rel.weaken {N : Nat} {D E : Nat → Prop} {st s2 : St} {tmps : Array Value} {w : World} {lam : Nat → Nat} (h : Rel N D E st tmps w lam)
    (ht : ∀ t, s2.tmps t = st.tmps t ∨ s2.tmps t = .bad) (hl : ∀ s, s2.locs s = st.locs s) (hh : s2.heap = st.heap) : Rel N D E s2 tmps w lam := by
  have hl' : s2.locs = st.locs := funext hl
  refine ⟨fun t => ?_, fun t s off e => ?_, fun s cs hs => h.loc s cs (by rw [← hl]; exact hs), fun s s' h1 h2 => h.linj s s' (by rw [← hl]; exact h1) (by rw [← hl]; exact h2), fun b x hb => h.blk b x (by rw [← hh]; exact hb), by rw [hh]; exact h.nd, fun s hs => by rw [hh]; exact h.apart s (by rw [← hl]; exact hs)⟩
  · rcases ht t with e | e
    · rw [e]; exact h.tmp t
    · rw [e]; trivial
  · rcases ht t with e' | e'
    · rw [e'] at e; rw [hl]; exact h.known t s off e
    · rw [e'] at e; cases e

theorem Sit.weaken {N : Nat} {D E : Nat → Prop} {nt : Nat} {st s2 : St} {tmps : Array Value} {rs : List Nat} {w : World} {lam : Nat → Nat} (h : Sit N D E nt st tmps rs w lam)
    (ht : ∀ t, s2.tmps t = st.tmps t ∨ s2.tmps t = .bad) (hl : ∀ s, s2.locs s = st.locs s) (hh : s2.heap = st.heap) : Sit N D E nt s2 tmps rs w lam :=
  ⟨h.rel.weaken ht hl hh, h.size, h.nt, h.marks, h.once⟩

theorem Sit.forget {N : Nat} {D E : Nat → Prop} {nt : Nat} {st : St} {tmps : Array Value} {rs : List Nat} {w : World} {lam : Nat → Nat} (h : Sit N D E nt st tmps rs w lam) (ds : List Nat) :
    Sit N D E nt (st.forget ds) tmps rs w lam := by
  have hlocs : ∀ s, (st.forget ds).locs s ≠ none → (st.forget ds).locs s = st.locs s := by
    intro s hs
    show (if memb s ds = true then none else st.locs s) = _
    by_cases e : memb s ds = true
    · exact absurd (show (if memb s ds = true then none else st.locs s) = none by rw [if_pos e]) hs
    · rw [if_neg e]
  have htm : ∀ t, (st.forget ds).tmps t = st.tmps t ∨ (st.forget ds).tmps t = .bad := by
    intro t
    show (match st.tmps t with | .loc s off => if memb s ds = true then TV.bad else .loc s off | v => v) = _ ∨ (match st.tmps t with | .loc s off => if memb s ds = true then TV.bad else .loc s off | v => v) = _
    cases st.tmps t with
    | val v => exact .inl rfl
    | bad => exact .inl rfl
    | loc s off => dsimp only; split <;> simp
  refine ⟨⟨fun t => ?_, fun t s off e => ?_, fun s cs hs => h.rel.loc s cs (by rw [← hlocs s (by rw [hs]; simp)]; exact hs), fun s s' h1 h2 => h.rel.linj s s' (by rw [← hlocs s h1]; exact h1) (by rw [← hlocs s' h2]; exact h2), h.rel.blk, h.rel.nd, fun s hs => h.rel.apart s (by rw [← hlocs s hs]; exact hs)⟩, h.size, h.nt, h.marks, h.once⟩
  · rcases htm t with e | e
    · rw [e]; exact h.rel.tmp t
    · rw [e]; trivial
  · have e' : (match st.tmps t with | .loc s off => if memb s ds = true then TV.bad else .loc s off | v => v) = .loc s off := e
    cases ht : st.tmps t with
    | val v => rw [ht] at e'; cases e'
    | bad => rw [ht] at e'; cases e'
    | loc s2 off2 =>
      rw [ht] at e'
      dsimp only at e'
      split at e'
      · cases e'
      · rename_i hm
        cases e'
        show (if memb s ds = true then none else st.locs s) ≠ none
        rw [if_neg hm]
        exact h.rel.known t s off ht

/-! ### The invariant -/
structure Inv (cx : Cx) (ops : List Oper) (pl : List Row) (K : St → Prop) (lst : Array Bool) (done todo : List Row) (st : St) : Prop where
  split : pl = done ++ todo
  size : lst.size = ops.length
  effDone : ∀ r, r ∈ done → r.eff = true → On lst r.i
  todoOff : ∀ r, r ∈ todo → Off lst r.i
  closed : ∀ r, r ∈ pl → On lst r.i → ∀ a, a ∈ r.an → On lst a
  cert : ∀ r, r ∈ done → Off lst r.i → ∀ o, ops[r.i]? = some o → Cert cx ops o st
  fresh : ∀ r, r ∈ todo → ∀ o, ops[r.i]? = some o → isNew o = true → ∀ d, o.dst = some d → st.locs d = none
  hyp : evPlan cx ops todo st K

section
variable {cx : Cx} {ops : List Oper} {pl : List Row} {K : St → Prop} {lst : Array Bool} {done todo : List Row} {st : St}

/-- Who has come up, or may come up now, sees what the plan's state has. -/
theorem sees_open (hpl : planOk cx ops pl [] pl = true) (hI : Inv cx ops pl K lst done todo st) {A B : List Row} {r : Row} (hr : pl = A ++ r :: B) {o : Oper} (hf : RF cx ops pl A r o)
    (han : ∀ a, a ∈ r.an → On lst a) (hcase : r ∈ done ∧ Off lst r.i ∧ r.eff = false ∨ ∃ rs, todo = r :: rs) : ∀ t, t ∈ seesT ops o → ¬ OpenD ops lst done t := by
  rintro t ht ⟨p, hp, hoff, q, hq, hqd⟩
  have hppl : p ∈ pl := by rw [hI.split]; exact List.mem_append_left _ hp
  -- where p stands: ahead of r, r itself, behind r
  rw [hr] at hppl
  rcases List.mem_append.1 hppl with hA | hB
  · obtain ⟨q', hq', h1, _, _⟩ := hf.pair p hA
    rw [hq] at hq'; cases hq'
    exact not_on_off (han _ ((h1 t hqd).1 ht)) hoff
  · rcases List.mem_cons.1 hB with rfl | hB
    · -- r itself
      have : q = o := by have := hf.ho; rw [hq] at this; exact Option.some.inj this
      subst this
      rcases hf.self t hqd with h | h
      · exact not_on_off (hI.effDone p hp h) hoff
      · exact h ht
    · -- behind r
      obtain ⟨B1, B2, rfl⟩ := List.append_of_mem hB
      obtain ⟨q', hf'⟩ := row_facts hpl (A := A ++ r :: B1) (B := B2) (r := p) (by rw [hr]; simp)
      have : q' = q := by have := hf'.ho; rw [hq] at this; exact (Option.some.inj this).symm
      subst this
      obtain ⟨o', ho', _, h2, _⟩ := hf'.pair r (by simp)
      have : o' = o := by have := hf.ho; rw [ho'] at this; exact Option.some.inj this
      subst this
      obtain ⟨he, _⟩ := h2 t hqd ht
      exact not_on_off (hI.effDone p hp he) hoff

theorem alike_under {N : Nat} {D E : Nat → Prop} {nt : Nat} {tmps : Array Value} {rs : List Nat} {w : World} {lam : Nat → Nat} {o : Oper}
    (hS : Sit N D E nt (under ops lst done st) tmps rs w lam) (hsee : ∀ t, t ∈ seesT ops o → ¬ OpenD ops lst done t) :
    Alike o st (under ops lst done st) ∧ ∀ t, t ∈ seesT ops o → (under ops lst done st).tmps t = st.tmps t := by
  have h1 : ∀ t, t ∈ seesT ops o → (under ops lst done st).tmps t = st.tmps t := fun t ht => under_tmps (hsee t ht)
  refine ⟨⟨sees_get h1, rfl, fun s hs => ?_, fun x s off e => hS.rel.knownG e⟩, h1⟩
  by_cases hn : OpenN ops lst done s
  · exact absurd (under_none hn) hs
  · exact under_locs hn

theorem chkAll_last {cx : Cx} {ops : List Oper} {X : Prop} {st : St} : ∀ {js : List Nat}, chkAll cx ops js st X → X ∧ ∀ j, j ∈ js → chkOne cx ops (ops[j]?) st
  | [], h => ⟨h, fun j hj => by cases hj⟩
  | j :: js, h => by
    obtain ⟨h1, h2⟩ := chkAll_last (js := js) h.2
    refine ⟨h1, fun i hi => ?_⟩
    rcases List.mem_cons.1 hi with rfl | hi
    · exact h.1
    · exact h2 i hi

/-- A calm operation yields the same in a state that differs where it does not look. -/
theorem ev_keep {o : Oper} {s2 : St} {v : TV} (he : evOp cx o st fun v' st' => v' = v ∧ st' = st) (hn : isNew o = false) (hg : ∀ x, x ∈ o.op.operands → s2.get x = st.get x) (hcalm : calm cx o = true)
    (hload : ∀ t a u, o.op = .load t a → loadF cx.P t (st.get a) st = some u → v = .val u → loadF cx.P t (s2.get a) s2 = some u) : evOp cx o s2 fun v' st' => v' = v ∧ st' = s2 := by
  cases hL : isLoad o with
  | true =>
    unfold isLoad at hL
    split at hL
    · rename_i t a ho
      unfold evOp at he ⊢
      simp only [ho] at he ⊢
      obtain ⟨r, hr, hk1, hk2⟩ := oK_some he
      simp only [opF] at hr
      obtain ⟨u, hu, hu2, _⟩ := pairV_some (show pairV (loadF cx.P t (st.get a) st) st = some (r.1, r.2) from hr)
      have := hload t a u ho hu (by rw [← hk1, hu2])
      simp only [opF, this, pairV]
      exact ⟨by rw [← hk1, hu2], rfl⟩
    · cases hL
  | false =>
    -- nothing in memory is looked at
    unfold evOp at he ⊢
    split at he
    · rename_i c hop
      unfold evCall at he ⊢
      have hargs : getAll s2 c.args = getAll st c.args := by
        unfold getAll
        rw [List.map_congr_left fun x hx => hg x (by rw [hop]; simp [Op.operands, Call.operands]; exact .inr (by simpa using hx))]
      split at he
      · rename_i f hc
        have hf : s2.get f = st.get f := hg f (by rw [hop]; simp [Op.operands, Call.operands, hc])
        rw [hf, hargs]
        unfold evFunc at he ⊢
        split at he
        · rename_i g first captured args hf' ha'
          have hp : memb g cx.pu = true := by
            simp only [calm, hop, hc] at hcalm
            split at hcalm
            · rename_i g' e2
              cases e2
              simp only [St.get, TV.val.injEq, Value.func.injEq, Fn.func.injEq] at hf'
              rw [← hf'.1]; exact hcalm
            · rename_i e2; cases e2
            · rename_i e2; cases e2
            · rename_i e2; cases e2
            · cases hcalm
          rw [if_pos hp] at he ⊢
          obtain ⟨u, hu, hk1, hk2⟩ := oK_some he
          rw [hu]
          exact ⟨hk1, rfl⟩
        · exact he.elim
      · rename_i b hc
        rw [hargs]
        obtain ⟨u, hu, hk1, hk2⟩ := oK_some he
        rw [hu]
        exact ⟨hk1, rfl⟩
      · exact he.elim
    · rename_i op hne
      obtain ⟨⟨tv, st1⟩, hr, hk1, hk2⟩ := oK_some he
      have := opF_sees (cx := cx) hg hn (calm_notStore hcalm) hL hr
      rw [this]
      exact ⟨hk1, rfl⟩
/-- What is known of a calm operation stays known while the state turns where it does not look. -/
theorem Cert.keep {o : Oper} {s2 : St} (h : Cert cx ops o st) (hsee : ∀ t, t ∈ seesT ops o → s2.tmps t = st.tmps t) (hdst : ∀ d, o.dst = some d → s2.tmps d = st.tmps d)
    (hnew : isNew o = true → ∀ d, o.dst = some d → s2.locs d = st.locs d) (hcalm : calm cx o = true)
    (hload : ∀ t a d v, o.op = .load t a → o.dst = some d → wantF ops o st = some true → loadF cx.P t (st.get a) st = some v → st.tmps d = .val v → loadF cx.P t (s2.get a) s2 = some v)
    (hnone : o.dst = none → isLoad o = false) : Cert cx ops o s2 := by
  have hw := wantF_same hsee
  have hg := sees_get hsee
  rcases h with ⟨h1, h2⟩ | ⟨h1, hn, d, z, hd, hm, hv, ht, hl⟩ | ⟨h1, hn, v, hv, he⟩
  · exact .inl ⟨by rw [hw]; exact h1, fun d hd => ⟨by rw [hdst d hd]; exact (h2 d hd).1, fun hn => by rw [hnew hn d hd]; exact (h2 d hd).2 hn⟩⟩
  · refine .inr (.inl ⟨by rw [hw]; exact h1, hn, d, z, hd, hm, ?_, by rw [hdst d hd]; exact ht, by rw [hnew hn d hd]; exact hl⟩)
    unfold newV at hv ⊢
    split at hv
    · rename_i t ho; simpa only [ho] using hv
    · rename_i t x ho
      rw [hg x (by rw [ho]; simp [Op.operands])]
      exact hv
    · cases hv
  · refine .inr (.inr ⟨by rw [hw]; exact h1, hn, v, fun d hd => by rw [hdst d hd]; exact hv d hd, ?_⟩)
    refine ev_keep he hn hg hcalm ?_
    intro t a u ho hu hvu
    cases hd : o.dst with
    | none => have := hnone hd; simp [isLoad, ho] at this
    | some d => exact hload t a d u ho hd h1 hu (by rw [hv d hd, hvu])
end

end Go.Z
