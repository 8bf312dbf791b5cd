/-
  Regions whose order is open: where the machine stands while some operations of the plan are still to come.
-/
import Derived.Test.YtbkmhkeihbgcfaaYq
set_option linter.unusedVariables false
set_option linter.unusedSimpArgs false
namespace Go.Y
open RowKit

def On (lst : Array Bool) (i : Nat) : Prop := lst[i]? = some true
def Off (lst : Array Bool) (i : Nat) : Prop := lst[i]? = some false

theorem on_set {lst : Array Bool} {i j : Nat} (h : On lst j) : On (lst.setIfInBounds i true) j := by
  unfold On at *
  have hj := (Array.getElem?_eq_some_iff.1 h).1
  by_cases e : i = j
  · subst e; simp [Array.getElem?_setIfInBounds, hj]
  · rw [Array.getElem?_setIfInBounds_ne e]; exact h
theorem on_self {lst : Array Bool} {i : Nat} (h : Off lst i) : On (lst.setIfInBounds i true) i := by
  unfold On Off at *
  have hj := (Array.getElem?_eq_some_iff.1 h).1
  simp [Array.getElem?_setIfInBounds, hj]
theorem off_set {lst : Array Bool} {i j : Nat} (h : Off (lst.setIfInBounds i true) j) : j ≠ i ∧ Off lst j := by
  unfold Off at *
  by_cases e : i = j
  · subst e
    by_cases hlt : i < lst.size
    · simp [Array.getElem?_setIfInBounds, hlt] at h
    · simp [Array.getElem?_setIfInBounds, hlt] at h
  · rw [Array.getElem?_setIfInBounds_ne e] at h; exact ⟨fun e' => e e'.symm, h⟩
theorem off_set' {lst : Array Bool} {i j : Nat} (h : Off lst j) (e : j ≠ i) : Off (lst.setIfInBounds i true) j := by
  unfold Off at *
  rw [Array.getElem?_setIfInBounds_ne (Ne.symm e)]; exact h
theorem not_on_off {lst : Array Bool} {i : Nat} (h : On lst i) : ¬ Off lst i := by
  intro h'; unfold On at h; unfold Off at h'; rw [h] at h'; cases h'
theorem on_set_or {lst : Array Bool} {i j : Nat} (h : On (lst.setIfInBounds i true) j) : j = i ∨ On lst j := by
  by_cases e : j = i
  · exact .inl e
  · right; unfold On at *; rw [Array.getElem?_setIfInBounds_ne (Ne.symm e)] at h; exact h

def offB (lst : Array Bool) (i : Nat) : Bool := lst[i]? == some false
theorem offB_iff {lst : Array Bool} {i : Nat} : offB lst i = true ↔ Off lst i := by simp [offB, Off]

/-- The slots, and the blocks, of operations that are still to come. -/
def pendD (ops : List Oper) (lst : Array Bool) (done : List Row) : List Nat :=
  done.filterMap fun p => if offB lst p.i = true then (ops[p.i]?).bind (·.dst) else none
def pendK (ops : List Oper) (base : Nat) (lst : Array Bool) (done : List Row) : List Nat :=
  done.filterMap fun p => if offB lst p.i = true then (ops[p.i]?).bind (fun o => if makes p o = true then some (base + p.id) else none) else none

theorem pendD_mem {ops : List Oper} {lst : Array Bool} {done : List Row} {t : Nat} : t ∈ pendD ops lst done ↔ ∃ p, p ∈ done ∧ Off lst p.i ∧ ∃ o, ops[p.i]? = some o ∧ o.dst = some t := by
  unfold pendD
  rw [List.mem_filterMap]
  constructor
  · rintro ⟨p, hp, h⟩
    split at h
    · rename_i ho
      cases hq : ops[p.i]? with
      | none => rw [hq] at h; cases h
      | some o => rw [hq] at h; exact ⟨p, hp, offB_iff.1 ho, o, hq, h⟩
    · cases h
  · rintro ⟨p, hp, ho, o, hq, hd⟩
    exact ⟨p, hp, by rw [if_pos (offB_iff.2 ho), hq]; exact hd⟩
theorem pendK_mem {ops : List Oper} {base : Nat} {lst : Array Bool} {done : List Row} {t : Nat} : t ∈ pendK ops base lst done ↔ ∃ p, p ∈ done ∧ Off lst p.i ∧ ∃ o, ops[p.i]? = some o ∧ makes p o = true ∧ t = base + p.id := by
  unfold pendK
  rw [List.mem_filterMap]
  constructor
  · rintro ⟨p, hp, h⟩
    split at h
    · rename_i ho
      cases hq : ops[p.i]? with
      | none => rw [hq] at h; cases h
      | some o =>
        rw [hq] at h
        simp only [Option.bind_some] at h
        split at h
        · rename_i hm; cases h; exact ⟨p, hp, offB_iff.1 ho, o, hq, hm, rfl⟩
        · cases h
    · cases h
  · rintro ⟨p, hp, ho, o, hq, hm, rfl⟩
    exact ⟨p, hp, by rw [if_pos (offB_iff.2 ho), hq]; simp [hm]⟩

/-- What the machine has of a state of the plan. -/
def view (ops : List Oper) (base : Nat) (lst : Array Bool) (done : List Row) (st : St) : St := ⟨hideT (pendD ops lst done) st.T, hideH (pendK ops base lst done) st.H, st.n⟩

theorem view_get {ops : List Oper} {base : Nat} {lst : Array Bool} {done : List Row} {st : St} {t : Nat} (h : t ∉ pendD ops lst done) : getT (view ops base lst done st).T t = getT st.T t := by
  unfold view
  rw [getT_hide, if_neg (fun h' => h (memb_iff.1 h'))]
theorem view_some {ops : List Oper} {base : Nat} {lst : Array Bool} {done : List Row} {st : St} {t : Nat} {v : AV} (h : getT (view ops base lst done st).T t = some v) : t ∉ pendD ops lst done ∧ getT st.T t = some v := by
  unfold view at h
  rw [getT_hide] at h
  split at h
  · cases h
  · rename_i h'; exact ⟨fun h2 => h' (memb_iff.2 h2), h⟩
theorem view_mem {ops : List Oper} {base : Nat} {lst : Array Bool} {done : List Row} {st : St} {k : Nat} {e : Ent} : (k, e) ∈ (view ops base lst done st).H ↔ (k, e) ∈ st.H ∧ k ∉ pendK ops base lst done := hideH_mem

/-- What is known of an operation that may come up yet: whenever it does it yields what the plan's state has of it. -/
def Cert (P : Program) (ops : List Oper) (base : Nat) (p : Row) (o : Oper) (st : St) : Prop :=
  (wantA ops st.T o.guard = some false ∧ (∀ d, o.dst = some d → getT st.T d = some (.tup [])) ∧ (makes p o = true → ∀ e, (base + p.id, e) ∉ st.H)) ∨
  (wantA ops st.T o.guard = some true ∧ ∃ v, (∀ d, o.dst = some d → getT st.T d = some v) ∧
    (opV P o.op st.T (hideH (outs base p.out) st.H) = some v ∨ ∃ e, opN P o.op st.T (base + p.id) = some (v, e) ∧ (base + p.id, e) ∈ st.H))

theorem Cert.keep {P : Program} {ops : List Oper} {base : Nat} {p : Row} {o : Oper} {st st' : St} (h : Cert P ops base p o st) (hs : ∀ t, t ∈ seesT ops o → getT st'.T t = getT st.T t)
    (hd : ∀ d, o.dst = some d → getT st'.T d = getT st.T d)
    (hl : looks o.op = true → ∀ v, wantA ops st.T o.guard = some true → (∀ d, o.dst = some d → getT st.T d = some v) → opV P o.op st.T (hideH (outs base p.out) st.H) = some v →
      ∃ v', (∀ d, o.dst = some d → getT st'.T d = some v') ∧ opV P o.op st'.T (hideH (outs base p.out) st'.H) = some v')
    (hm : ∀ v e, opN P o.op st.T (base + p.id) = some (v, e) → (base + p.id, e) ∈ st.H → (base + p.id, e) ∈ st'.H)
    (hk : makes p o = true → (∀ e, (base + p.id, e) ∉ st.H) → ∀ e, (base + p.id, e) ∉ st'.H) : Cert P ops base p o st' := by
  have hw := want_same (T := st.T) (T' := st'.T) hs
  have hg := sees_get hs
  rcases h with ⟨h1, h2, h4⟩ | ⟨h1, v, h2, h3⟩
  · exact .inl ⟨by rw [hw, h1], fun d e => by rw [hd d e, h2 d e], fun hm => hk hm (h4 hm)⟩
  · rcases h3 with h3 | ⟨e, h3, h4⟩
    · cases hlk : looks o.op with
      | true =>
        obtain ⟨v', g1, g2⟩ := hl hlk v h1 h2 h3
        exact .inr ⟨by rw [hw, h1], v', g1, .inl g2⟩
      | false =>
        refine .inr ⟨by rw [hw, h1], v, fun d e => by rw [hd d e, h2 d e], .inl ?_⟩
        rw [opV_sees hg, opV_blind hlk]; exact h3
    · exact .inr ⟨by rw [hw, h1], v, fun d e => by rw [hd d e, h2 d e], .inr ⟨e, by rw [opN_sees hg]; exact h3, hm v e h3 h4⟩⟩

/-! ### Situations, less or more told -/
theorem HSit.subset {N : Nat} {D : Nat → Prop} {H H' : Hp} {n : Nat} {w : World} {lam : Lam} (h : HSit N D lam H n w) (hs : ∀ k e, (k, e) ∈ H' → (k, e) ∈ H) (hn : (H'.map (·.1)).Nodup) : HSit N D lam H' n w :=
  ⟨fun k x hk => h.has k x (hs k x hk), fun k x hk => h.low k x (hs k x hk), fun k x hk => h.wr k x (hs k x hk), fun k x hk hw k' x' hk' => h.apart k x (hs k x hk) hw k' x' (hs k' x' hk'), hn⟩
theorem TRel.less {lam : Lam} {n : Nat} {T T' : Sl} {tmps : Array Value} (h : TRel lam n T tmps) (hs : ∀ t v, getT T' t = some v → getT T t = some v) : TRel lam n T' tmps :=
  fun t v hv => h t v (hs t v hv)

theorem opN_writes {P : Program} {op : Op} {T : Sl} {n : Nat} {v : AV} {e : Ent} (h : opN P op T n = some (v, e)) : e.writes = true := by
  unfold opN at h
  split at h
  · unfold newA at h; split at h
    · split at h
      · cases h; rfl
      · cases h
    · cases h
  · unfold newA at h; split at h
    · split at h
      · cases h; rfl
      · cases h
    · cases h
  · unfold buildSliceA at h; split at h
    · split at h
      · split at h
        · cases h; rfl
        · cases h
      · cases h
    · cases h
  · cases h; rfl
  · split at h
    · unfold makeSliceA at h; split at h
      · split at h
        · cases h; rfl
        · cases h
      · cases h
    · cases h
  · cases h

/-! ### The invariant -/
structure Inv (cx : Cx) (ops : List Oper) (pl : List Row) (m base : Nat) (H0 : Hp) (K : St → Prop) (lst : Array Bool) (done todo : List Row) (st : St) (lam : Lam) : Prop where
  split : pl = done ++ todo
  size : lst.size = ops.length
  effDone : ∀ r, r ∈ done → r.eff = true → On lst r.i
  todoOff : ∀ r, r ∈ todo → Off lst r.i
  closed : ∀ r, r ∈ pl → On lst r.i → ∀ a, a ∈ r.an → On lst a
  cert : ∀ r, r ∈ done → Off lst r.i → ∀ o, ops[r.i]? = some o → Cert cx.P ops base r o st
  unborn : ∀ r, r ∈ pl → Off lst r.i → ∀ o, ops[r.i]? = some o → makes r o = true → ¬ lam.born (base + r.id)
  nokey : ∀ r, r ∈ todo → ∀ o, ops[r.i]? = some o → makes r o = true → ∀ e, (base + r.id, e) ∉ st.H
  nd : (st.H.map (·.1)).Nodup
  room : base + m ≤ st.n
  key : KeyS H0 base st.H
  hyp : evRows cx ops pl base todo st K

section
variable {cx : Cx} {ops : List Oper} {pl : List Row} {m base : Nat} {H0 : Hp} {K : St → Prop} {lst : Array Bool} {done todo : List Row} {st : St} {lam : Lam}

/-- Who has come up, or may come up now, sees what the plan's state has. -/
theorem sees_open (hpl : planOk ops pl m [] pl = true) (hI : Inv cx ops pl m base H0 K lst done todo st lam) {A B : List Row} {r : Row} (hr : pl = A ++ r :: B) {o : Oper} (hf : RF ops pl m A r o)
    (han : ∀ a, a ∈ r.an → On lst a) : ∀ t, t ∈ seesT ops o → t ∉ pendD ops lst done := by
  intro t ht hpend
  obtain ⟨p, hp, hoff, q, hq, hqd⟩ := pendD_mem.1 hpend
  have hppl : p ∈ pl := by rw [hI.split]; exact List.mem_append_left _ hp
  rw [hr] at hppl
  rcases List.mem_append.1 hppl with hA | hB
  · obtain ⟨q', hq', h1, _⟩ := hf.pair p hA
    have := oper_eq hq hq'; subst this
    exact not_on_off (han _ ((h1 t hqd).1 ht)) hoff
  · rcases List.mem_cons.1 hB with rfl | hB
    · have := oper_eq hf.ho hq; subst this
      rcases hf.self t hqd with h | h
      · exact not_on_off (hI.effDone p hp h) hoff
      · exact h ht
    · obtain ⟨B1, B2, rfl⟩ := List.append_of_mem hB
      obtain ⟨q', hf'⟩ := row_facts hpl (A := A ++ r :: B1) (B := B2) (r := p) (by rw [hr]; simp)
      have := oper_eq hq hf'.ho; subst this
      obtain ⟨o', ho', _, h2, _⟩ := hf'.pair r (by simp)
      have := oper_eq hf.ho ho'; subst this
      obtain ⟨he, _⟩ := h2 t hqd ht
      exact not_on_off (hI.effDone p hp he) hoff

/-- And who looks at blocks sees none that is still to come. -/
theorem outs_open (hpl : planOk ops pl m [] pl = true) (hI : Inv cx ops pl m base H0 K lst done todo st lam) {A B : List Row} {r : Row} (hr : pl = A ++ r :: B) {o : Oper} (hf : RF ops pl m A r o)
    (han : ∀ a, a ∈ r.an → On lst a) (hlk : r.eff = true ∨ looks o.op = true) (hnew : looks o.op = true → isNew o.op = false) (hcase : r.eff = true → ∀ p, p ∈ done → p ∈ A) : ∀ k, k ∈ pendK ops base lst done → k ∈ outs base r.out := by
  intro k hk
  obtain ⟨p, hp, hoff, q, hq, hm, rfl⟩ := pendK_mem.1 hk
  have hppl : p ∈ pl := by rw [hI.split]; exact List.mem_append_left _ hp
  have hout : ∀ j, j ∈ r.out → base + j ∈ outs base r.out := fun j hj => List.mem_map.2 ⟨j, hj, rfl⟩
  have hahead : p ∈ A → base + p.id ∈ outs base r.out := by
    intro hA
    obtain ⟨q', hq', _, _, _, h4, _⟩ := hf.pair p hA
    have := oper_eq hq hq'; subst this
    rcases h4 hm hlk with h | h
    · exact hout _ h
    · exact absurd hoff (not_on_off (han _ h))
  rw [hr] at hppl
  rcases List.mem_append.1 hppl with hA | hB
  · exact hahead hA
  · cases heff : r.eff with
    | true => exact hahead (hcase heff p hp)
    | false =>
      have hlk' : looks o.op = true := by rcases hlk with h | h; rw [heff] at h; cases h; exact h
      rcases List.mem_cons.1 hB with rfl | hB
      · have := oper_eq hf.ho hq; subst this
        unfold makes at hm
        rw [hnew hlk'] at hm
        simp at hm
      · obtain ⟨B1, B2, rfl⟩ := List.append_of_mem hB
        obtain ⟨q', hf'⟩ := row_facts hpl (A := A ++ r :: B1) (B := B2) (r := p) (by rw [hr]; simp)
        have := oper_eq hq hf'.ho; subst this
        obtain ⟨o', ho', _, _, _, _, h5, _⟩ := hf'.pair r (by simp)
        have := oper_eq hf.ho ho'; subst this
        exact hout _ (h5 hm hlk' heff)

theorem looks_new {op : Op} (h : looks op = true) : isNew op = false := by
  cases op <;> first | rfl | (simp [looks] at h; done)

theorem rest_ne (hpl : planOk ops pl m [] pl = true) {r : Row} {rest : List Row} (h : pl = done ++ r :: rest) : (∀ p, p ∈ done → p.i ≠ r.i) ∧ ∀ p, p ∈ rest → p.i ≠ r.i := by
  have hnd := rows_nodup hpl _ pl [] rfl (by simp)
  rw [h, List.map_append, List.map_cons] at hnd
  obtain ⟨_, h2, h3⟩ := List.nodup_append.1 hnd
  simp only [List.nodup_cons] at h2
  exact ⟨fun p hp e => h3 _ (List.mem_map.2 ⟨p, hp, rfl⟩) _ List.mem_cons_self e, fun p hp e => h2.1 (List.mem_map.2 ⟨p, hp, e⟩)⟩

/-- The plan goes on over its calm rows. -/
theorem advance (hpl : planOk ops pl m [] pl = true) {N : Nat} {D : Nat → Prop} {nt : Nat} {tmps : Array Value} {rs : List Nat} {w : World} :
    ∀ (todo done : List Row) (st : St), Inv cx ops pl m base H0 K lst done todo st lam → Sit N D nt (view ops base lst done st) tmps rs w lam →
    ∃ done' todo' st', Inv cx ops pl m base H0 K lst done' todo' st' lam ∧ (∀ r r', todo' = r :: r' → r.eff = true) ∧ Sit N D nt (view ops base lst done' st') tmps rs w lam := by
  intro todo
  induction todo with
  | nil => intro done st hI hS; exact ⟨done, [], st, hI, (fun r r' h => by cases h), hS⟩
  | cons r rest ih =>
    intro done st hI hS
    cases heff : r.eff with
    | true => exact ⟨done, r :: rest, st, hI, (fun r0 r' h => by cases h; exact heff), hS⟩
    | false =>
      obtain ⟨o, hf⟩ := row_facts hpl hI.split
      have ho := hf.ho
      have hrpl : r ∈ pl := by rw [hI.split]; simp
      have hroff := hI.todoOff r List.mem_cons_self
      have hself : ∀ d, o.dst = some d → d ∉ seesT ops o := fun d hd => by rcases hf.self d hd with h | h; rw [heff] at h; cases h; exact h
      obtain ⟨hdne, hrne⟩ := rest_ne hpl hI.split
      have hhyp := hI.hyp
      unfold evRows at hhyp
      rw [ho] at hhyp
      simp only at hhyp
      -- what the next state of the plan is
      have next : ∀ (v : AV) (H' : Hp), (H' = st.H ∨ ∃ e, opN cx.P o.op st.T (base + r.id) = some (v, e) ∧ H' = (base + r.id, e) :: st.H) →
          Cert cx.P ops base r o ⟨putT st.T o.dst v, H', st.n⟩ → evRows cx ops pl base rest ⟨putT st.T o.dst v, H', st.n⟩ K →
          ∃ done' todo' st2, Inv cx ops pl m base H0 K lst done' todo' st2 lam ∧ (∀ r r', todo' = r :: r' → r.eff = true) ∧ Sit N D nt (view ops base lst done' st2) tmps rs w lam := by
        intro v H' hH hcert hk
        have hput : ∀ t, (∀ d, o.dst = some d → t ≠ d) → getT (putT st.T o.dst v) t = getT st.T t := by
          intro t ht
          rw [getT_put]
          split
          · rename_i h; exact absurd rfl (ht t h)
          · rfl
        have hmk : ∀ e, opN cx.P o.op st.T (base + r.id) = some (v, e) → makes r o = true := fun e he => by simp [makes, heff, opN_new he]
        have hpk : ∀ k, k ∈ pendK ops base lst done → k ∈ pendK ops base lst (done ++ [r]) := by
          intro k hk
          obtain ⟨p, hp, h⟩ := pendK_mem.1 hk
          exact pendK_mem.2 ⟨p, List.mem_append_left _ hp, h⟩
        have hnd' : (H'.map (·.1)).Nodup := by
          rcases hH with rfl | ⟨e, he, rfl⟩
          · exact hI.nd
          · simp only [List.map_cons, List.nodup_cons]
            refine ⟨fun hm => ?_, hI.nd⟩
            obtain ⟨⟨k, x⟩, hx, hkk⟩ := List.mem_map.1 hm
            simp only at hkk
            subst hkk
            exact hI.nokey r List.mem_cons_self o ho (hmk e he) x hx
        refine ih (done ++ [r]) ⟨putT st.T o.dst v, H', st.n⟩ ⟨by rw [hI.split]; simp, hI.size, ?_, fun p hp => hI.todoOff p (List.mem_cons_of_mem _ hp), hI.closed, ?_, hI.unborn, ?_, hnd', hI.room, ?_, hk⟩ ?_
        · intro p hp he
          rcases List.mem_append.1 hp with hp | hp
          · exact hI.effDone p hp he
          · simp at hp; subst hp; rw [heff] at he; cases he
        · intro p hp hoff q hq
          rcases List.mem_append.1 hp with hp | hp
          · have hppl : p ∈ pl := by rw [hI.split]; exact List.mem_append_left _ hp
            have hpe : p.eff = false := by
              cases he : p.eff with
              | false => rfl
              | true => exact absurd hoff (not_on_off (hI.effDone p hp he))
            obtain ⟨q', hq', h1, h2, h3, h4, h5, h6⟩ := hf.pair p hp
            have := oper_eq hq hq'; subst this
            have hsee : ∀ t, t ∈ seesT ops q → getT (putT st.T o.dst v) t = getT st.T t := by
              intro t ht
              refine hput t ?_
              rintro d hd rfl
              have := (h2 t hd ht).1
              rw [heff] at this; cases this
            have hdd : ∀ d, q.dst = some d → getT (putT st.T o.dst v) d = getT st.T d := by
              intro d hd
              refine hput d ?_
              rintro d' hd' rfl
              exact (h1 d hd).2 hd'
            refine (hI.cert p hp hoff q hq).keep hsee hdd (fun hlk v0 _ hv0 hop => ⟨v0, fun d hd => by rw [hdd d hd, hv0 d hd], ?_⟩) (fun v0 e _ he => ?_) (fun hm hno e hmem => ?_)
            · rw [opV_sees (sees_get hsee)]
              rcases hH with rfl | ⟨e, he, rfl⟩
              · exact hop
              · have hin : base + r.id ∈ outs base p.out := List.mem_map.2 ⟨r.id, h5 (hmk e he) hlk hpe, rfl⟩
                simp only [hideH, memb_iff.2 hin, if_true]
                exact hop
            · rcases hH with rfl | ⟨e', he', rfl⟩
              · exact he
              · exact List.mem_cons_of_mem _ he
            · rcases hH with rfl | ⟨e', he', rfl⟩
              · exact hno e hmem
              · rcases List.mem_cons.1 hmem with h | h
                · simp only [Prod.mk.injEq] at h
                  exact h6 hm (hmk e' he') (by omega)
                · exact hno e h
          · simp at hp; subst hp
            have := oper_eq ho hq; subst this
            exact hcert
        · intro p hp q hq hm e
          rcases hH with rfl | ⟨e', he', rfl⟩
          · exact hI.nokey p (List.mem_cons_of_mem _ hp) q hq hm e
          · intro hmem
            rcases List.mem_cons.1 hmem with h | h
            · simp only [Prod.mk.injEq] at h
              have hppl : p ∈ pl := by rw [hI.split]; simp [hp]
              exact (rows_differ hpl hrpl hppl (Ne.symm (hrne p hp)) ho hq).2 (hmk e' he') hm (by omega)
            · exact hI.nokey p (List.mem_cons_of_mem _ hp) q hq hm e h
        · rcases hH with rfl | ⟨e, he, rfl⟩
          · exact hI.key
          · exact hI.key.cons (opN_writes he) (by omega)
        · refine ⟨hS.tmp.less fun t u hu => ?_, hS.heap.subset (fun k e hk => ?_) ?_, hS.size, hS.nt, hS.marks, hS.once⟩
          · obtain ⟨g1, g2⟩ := view_some hu
            have hnot : ∀ d, o.dst = some d → t ≠ d := by
              rintro d hd rfl
              exact g1 (pendD_mem.2 ⟨r, by simp, hroff, o, ho, hd⟩)
            have hnp : t ∉ pendD ops lst done := by
              intro h
              obtain ⟨p, hp, h'⟩ := pendD_mem.1 h
              exact g1 (pendD_mem.2 ⟨p, List.mem_append_left _ hp, h'⟩)
            rw [view_get hnp]
            have g2' : getT (putT st.T o.dst v) t = some u := g2
            rw [hput t hnot] at g2'
            exact g2'
          · obtain ⟨g1, g2⟩ := view_mem.1 hk
            refine view_mem.2 ⟨?_, fun h => g2 (hpk k h)⟩
            rcases hH with rfl | ⟨e', he', rfl⟩
            · exact g1
            · rcases List.mem_cons.1 g1 with h | h
              · simp only [Prod.mk.injEq] at h
                exact absurd (pendK_mem.2 ⟨r, by simp, hroff, o, ho, hmk e' he', h.1⟩) g2
              · exact h
          · exact hnd'.sublist ((hideH_sub _ _).map _)
      unfold evRow at hhyp
      have hsees : ∀ (v : AV) t, t ∈ seesT ops o → getT (putT st.T o.dst v) t = getT st.T t := by
        intro v t ht
        rw [getT_put]
        split
        · rename_i h; exact absurd ht (hself t h)
        · rfl
      have hown : ∀ (v : AV) d, o.dst = some d → getT (putT st.T o.dst v) d = some v := by
        intro v d hd
        rw [getT_put, if_pos hd]
      split at hhyp
      · rename_i hw
        refine next (.tup []) st.H (.inl rfl) (.inl ⟨?_, hown _, fun hm e => hI.nokey r List.mem_cons_self o ho hm e⟩) hhyp
        rw [want_same (hsees _)]; exact hw
      · rename_i hw
        rw [heff] at hhyp
        simp only [Bool.false_eq_true, if_false] at hhyp
        split at hhyp
        · rename_i v hv
          refine next v st.H (.inl rfl) (.inr ⟨by rw [want_same (hsees v)]; exact hw, v, hown v, .inl ?_⟩) hhyp
          rw [opV_sees (sees_get (hsees v))]; exact hv
        · split at hhyp
          · rename_i v e hv
            refine next v _ (.inr ⟨e, hv, rfl⟩) (.inr ⟨by rw [want_same (hsees v)]; exact hw, v, hown v, .inr ⟨e, ?_, List.mem_cons_self⟩⟩) hhyp
            rw [opN_sees (sees_get (hsees v))]; exact hv
          · exact hhyp.elim
      · exact hhyp.elim
end

end Go.Y
