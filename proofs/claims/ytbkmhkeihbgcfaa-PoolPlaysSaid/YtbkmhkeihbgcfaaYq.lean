/-
  Regions whose order is open: the plan, and what an operation looks at.
-/
import Derived.Test.YtbkmhkeihbgcfaaYp
import Derived.Orders
set_option linter.unusedVariables false
set_option linter.unusedSimpArgs false
namespace Go.Y
open RowKit

def memb (x : Nat) : List Nat → Bool
  | [] => false
  | y :: r => if x = y then true else memb x r
theorem memb_iff {x : Nat} : ∀ {l : List Nat}, memb x l = true ↔ x ∈ l
  | [] => by simp [memb]
  | y :: r => by
    unfold memb
    split
    · rename_i h; simp [h]
    · rename_i h; rw [memb_iff]; simp [h]
theorem memb_false {x : Nat} {l : List Nat} (h : (!memb x l) = true) : x ∉ l := by
  intro hm
  rw [memb_iff.2 hm] at h
  cases h

def hideH (ks : List Nat) : Hp → Hp
  | [] => []
  | (k, e) :: r => if memb k ks = true then hideH ks r else (k, e) :: hideH ks r
def showH (ks : List Nat) : Hp → Hp
  | [] => []
  | (k, e) :: r => if memb k ks = true then (k, e) :: showH ks r else showH ks r
def hideT (ds : List Nat) : Sl → Sl
  | [] => []
  | (k, e) :: r => if memb k ds = true then hideT ds r else (k, e) :: hideT ds r

theorem hideH_mem {ks : List Nat} {k : Nat} {e : Ent} : ∀ {H : Hp}, (k, e) ∈ hideH ks H ↔ (k, e) ∈ H ∧ k ∉ ks
  | [] => by simp [hideH]
  | (c, x) :: r => by
    unfold hideH
    have ih := hideH_mem (ks := ks) (k := k) (e := e) (H := r)
    split
    · rename_i h
      rw [memb_iff] at h
      rw [ih, List.mem_cons]
      constructor
      · rintro ⟨h1, h2⟩; exact ⟨.inr h1, h2⟩
      · rintro ⟨h1 | h1, h2⟩
        · cases h1; exact absurd h h2
        · exact ⟨h1, h2⟩
    · rename_i h
      rw [memb_iff] at h
      rw [List.mem_cons, List.mem_cons, ih]
      constructor
      · rintro (h1 | h1)
        · cases h1; exact ⟨.inl rfl, h⟩
        · exact ⟨.inr h1.1, h1.2⟩
      · rintro ⟨h1 | h1, h2⟩
        · exact .inl h1
        · exact .inr ⟨h1, h2⟩
theorem showH_mem {ks : List Nat} {k : Nat} {e : Ent} : ∀ {H : Hp}, (k, e) ∈ showH ks H ↔ (k, e) ∈ H ∧ k ∈ ks
  | [] => by simp [showH]
  | (c, x) :: r => by
    unfold showH
    have ih := showH_mem (ks := ks) (k := k) (e := e) (H := r)
    split
    · rename_i h
      rw [memb_iff] at h
      rw [List.mem_cons, List.mem_cons, ih]
      constructor
      · rintro (h1 | h1)
        · cases h1; exact ⟨.inl rfl, h⟩
        · exact ⟨.inr h1.1, h1.2⟩
      · rintro ⟨h1 | h1, h2⟩
        · exact .inl h1
        · exact .inr ⟨h1, h2⟩
    · rename_i h
      rw [memb_iff] at h
      rw [ih, List.mem_cons]
      constructor
      · rintro ⟨h1, h2⟩; exact ⟨.inr h1, h2⟩
      · rintro ⟨h1 | h1, h2⟩
        · cases h1; exact absurd h2 h
        · exact ⟨h1, h2⟩
theorem hideH_sub (ks : List Nat) : ∀ H : Hp, (hideH ks H).Sublist H
  | [] => by simp [hideH]
  | (c, x) :: r => by
    unfold hideH
    split
    · exact (hideH_sub ks r).cons _
    · exact (hideH_sub ks r).cons_cons _
theorem showH_sub (ks : List Nat) : ∀ H : Hp, (showH ks H).Sublist H
  | [] => by simp [showH]
  | (c, x) :: r => by
    unfold showH
    split
    · exact (showH_sub ks r).cons_cons _
    · exact (showH_sub ks r).cons _
theorem hideH_hide {ks js : List Nat} (h : ∀ k, k ∈ js → k ∈ ks) : ∀ H : Hp, hideH ks (hideH js H) = hideH ks H
  | [] => by simp [hideH]
  | (c, x) :: r => by
    have ih := hideH_hide h r
    by_cases hj : c ∈ js
    · have hk := h c hj
      rw [← memb_iff] at hj hk
      simp only [hideH, hj, hk, if_true, ih]
    · have hj' : memb c js = false := by
        cases h : memb c js with
        | false => rfl
        | true => exact absurd (memb_iff.1 h) hj
      simp only [hideH, hj']
      simp only [Bool.false_eq_true, if_false, hideH, ih]
theorem hideH_nil : ∀ H : Hp, hideH [] H = H
  | [] => rfl
  | (c, x) :: r => by simp only [hideH, memb, Bool.false_eq_true, if_false, hideH_nil r]
theorem getT_hide (ds : List Nat) (t : Nat) : ∀ T : Sl, getT (hideT ds T) t = if memb t ds = true then none else getT T t
  | [] => by simp [hideT, getT]
  | (c, x) :: r => by
    have ih := getT_hide ds t r
    unfold hideT
    split
    · rename_i h
      rw [ih]
      split
      · rfl
      · rename_i h2
        have : t ≠ c := by rintro rfl; exact h2 h
        simp [getT, this]
    · rename_i h
      simp only [getT, ih]
      by_cases e : t = c
      · subst e; simp [h]
      · simp [e]

/-- Does an operation look at blocks. -/
def looks : Op → Bool
  | .load .. | .convert .. | .call .. | .lookup .. => true
  | _ => false
/-- Does it make one. -/
def isNew : Op → Bool
  | .alloc _ | .box .. | .buildSlice .. | .makeMap .. | .makeSlice .. => true
  | _ => false

def seesT (ops : List Oper) (o : Oper) : List Nat :=
  (o.op.operands.toList.filterMap fun | .tmp t => some t | _ => none) ++
  (match o.guard with
   | some (g, _) => ((ops[g]?).bind (·.dst)).toList
   | none => [])

def bindsE (e : Edge) : Bool := Region.binds .any e

def anOf (pl : List Row) (i : Nat) : List Nat :=
  match pl with
  | [] => []
  | r :: rs => if r.i = i then r.an else anOf rs i
def rowOf (pl : List Row) (i : Nat) : Option Row :=
  match pl with
  | [] => none
  | r :: rs => if r.i = i then some r else rowOf rs i

/-- A row that makes a block whose number is kept for it. -/
def makes (r : Row) (o : Oper) : Bool := !r.eff && isNew o.op

/-- One row of a plan, against the rows ahead of it. -/
def rowOk (ops : List Oper) (pl : List Row) (m : Nat) (ahead : List Row) (r : Row) : Bool :=
  match ops[r.i]? with
  | none => false
  | some o =>
    (o.after.toList.all fun e => !bindsE e || ahead.any (·.i == e.on)) &&
    (r.an.all fun a => o.after.toList.any fun e => bindsE e && (e.on == a || memb a (anOf pl e.on))) &&
    (ahead.all fun p => !p.eff || memb p.i r.an) &&
    (!memb r.i (ahead.map (·.i))) &&
    (ahead.all fun p => match ops[p.i]? with
      | none => false
      | some q =>
        (match q.dst with
          | some d => (!memb d (seesT ops o) || memb p.i r.an) && (o.dst != some d)
          | none => true) &&
        (match o.dst with
          | some d => !memb d (seesT ops q) || (r.eff && memb p.i r.an)
          | none => true) &&
        (!r.eff || p.eff || !looks q.op || memb p.i r.chk || memb p.i r.an) &&
        (!makes p q || !(r.eff || looks o.op) || memb p.id r.out || memb p.i r.an) &&
        (!makes r o || !looks q.op || p.eff || memb r.id p.out) &&
        (!makes p q || !makes r o || p.id != r.id)) &&
    (match o.dst with
      | some d => r.eff || !memb d (seesT ops o)
      | none => true) &&
    (!makes r o || decide (r.id < m))

def planOk (ops : List Oper) (pl : List Row) (m : Nat) : List Row → List Row → Bool
  | _, [] => true
  | ahead, r :: rs => rowOk ops pl m ahead r && planOk ops pl m (ahead ++ [r]) rs

structure RF (ops : List Oper) (pl : List Row) (m : Nat) (A : List Row) (r : Row) (o : Oper) : Prop where
  ho : ops[r.i]? = some o
  preds : ∀ e, e ∈ o.after.toList → bindsE e = true → ∃ p ∈ A, p.i = e.on
  an : ∀ a, a ∈ r.an → ∃ e ∈ o.after.toList, bindsE e = true ∧ (e.on = a ∨ a ∈ anOf pl e.on)
  effs : ∀ p, p ∈ A → p.eff = true → p.i ∈ r.an
  fresh : r.i ∉ A.map (·.i)
  pair : ∀ p, p ∈ A → ∃ q, ops[p.i]? = some q ∧ (∀ d, q.dst = some d → (d ∈ seesT ops o → p.i ∈ r.an) ∧ o.dst ≠ some d) ∧
    (∀ d, o.dst = some d → d ∈ seesT ops q → r.eff = true ∧ p.i ∈ r.an) ∧ (r.eff = true → p.eff = false → looks q.op = true → p.i ∈ r.chk ∨ p.i ∈ r.an) ∧
    (makes p q = true → r.eff = true ∨ looks o.op = true → p.id ∈ r.out ∨ p.i ∈ r.an) ∧
    (makes r o = true → looks q.op = true → p.eff = false → r.id ∈ p.out) ∧
    (makes p q = true → makes r o = true → p.id ≠ r.id)
  self : ∀ d, o.dst = some d → r.eff = true ∨ d ∉ seesT ops o
  low : makes r o = true → r.id < m

theorem rowOk_spec {ops : List Oper} {pl A : List Row} {m : Nat} {r : Row} (h : rowOk ops pl m A r = true) : ∃ o, RF ops pl m A r o := by
  unfold rowOk at h
  cases ho : ops[r.i]? with
  | none => rw [ho] at h; cases h
  | some o =>
    rw [ho] at h
    simp only [Bool.and_eq_true] at h
    obtain ⟨⟨⟨⟨⟨⟨h3, h4⟩, h5⟩, h6⟩, h7⟩, h8⟩, h9⟩ := h
    refine ⟨o, ho, ?_, ?_, ?_, ?_, ?_, ?_, ?_⟩
    · intro e he hb
      have := List.all_eq_true.1 h3 e he
      rw [hb] at this
      simpa using this
    · intro a ha
      have := List.all_eq_true.1 h4 a ha
      obtain ⟨e, he, h⟩ := List.any_eq_true.1 this
      simp only [Bool.and_eq_true, Bool.or_eq_true, beq_iff_eq, memb_iff] at h
      exact ⟨e, he, h.1, h.2⟩
    · intro p hp he
      have := List.all_eq_true.1 h5 p hp
      rw [he] at this
      simpa [memb_iff] using this
    · exact memb_false h6
    · intro p hp
      have := List.all_eq_true.1 h7 p hp
      cases hq : ops[p.i]? with
      | none => rw [hq] at this; cases this
      | some q =>
        rw [hq] at this
        simp only [Bool.and_eq_true] at this
        obtain ⟨⟨⟨⟨⟨g1, g2⟩, g3⟩, g4⟩, g5⟩, g6⟩ := this
        refine ⟨q, rfl, fun d hd => ?_, fun d hd hs => ?_, fun he hpe hl => ?_, fun hm hr => ?_, fun hm hl he => ?_, fun hm hm2 => ?_⟩
        · rw [hd] at g1
          simp only [Bool.and_eq_true, Bool.or_eq_true, memb_iff] at g1
          refine ⟨fun hs => ?_, by simpa using g1.2⟩
          rcases g1.1 with g | g
          · exact absurd hs (memb_false g)
          · exact g
        · rw [hd] at g2
          simp only [Bool.and_eq_true, Bool.or_eq_true, memb_iff] at g2
          rcases g2 with g | g
          · exact absurd hs (memb_false g)
          · exact g
        · rw [he, hpe, hl] at g3
          simpa [memb_iff] using g3
        · rw [hm] at g4
          have : (r.eff || looks o.op) = true := by simpa using hr
          rw [this] at g4
          simpa [memb_iff] using g4
        · rw [hm, hl, he] at g5
          simpa [memb_iff] using g5
        · rw [hm, hm2] at g6
          simpa using g6
    · intro d hd
      rw [hd] at h8
      simp only [Bool.or_eq_true] at h8
      rcases h8 with h8 | h8
      · exact .inl h8
      · exact .inr (memb_false h8)
    · intro hm
      rw [hm] at h9
      simpa using h9

theorem planOk_split {ops : List Oper} {pl : List Row} {m : Nat} : ∀ (rs A0 : List Row), planOk ops pl m A0 rs = true → ∀ A r B, rs = A ++ r :: B → ∃ o, RF ops pl m (A0 ++ A) r o
  | [], A0, _, A, r, B, h => by simp at h
  | x :: rs, A0, hp, A, r, B, h => by
    unfold planOk at hp
    simp only [Bool.and_eq_true] at hp
    cases A with
    | nil =>
      simp only [List.nil_append, List.cons.injEq] at h
      obtain ⟨rfl, rfl⟩ := h
      simpa using rowOk_spec hp.1
    | cons y A =>
      simp only [List.cons_append, List.cons.injEq] at h
      obtain ⟨rfl, rfl⟩ := h
      have := planOk_split (A ++ r :: B) (A0 ++ [x]) hp.2 A r B rfl
      simpa using this

section
variable {ops : List Oper} {pl : List Row} {m : Nat} (hpl : planOk ops pl m [] pl = true)
include hpl

theorem row_facts {A B : List Row} {r : Row} (h : pl = A ++ r :: B) : ∃ o, RF ops pl m A r o := by
  have := planOk_split pl [] hpl A r B h
  simpa using this

theorem rows_nodup : ∀ (n : Nat) (A B : List Row), A.length = n → pl = A ++ B → (A.map (·.i)).Nodup := by
  intro n
  induction n with
  | zero => intro A B hn _; cases A with
    | nil => exact List.nodup_nil
    | cons x A => cases hn
  | succ n ih =>
    intro A B hn h
    rcases List.eq_nil_or_concat A with rfl | ⟨A', r, rfl⟩
    · cases hn
    · rw [List.concat_eq_append] at *
      obtain ⟨o, hf⟩ := row_facts hpl (A := A') (B := B) (r := r) (by simpa using h)
      rw [List.map_append, List.nodup_append]
      refine ⟨ih A' (r :: B) (by simpa using hn) (by simpa using h), by simp, ?_⟩
      intro a ha b hb
      simp at hb
      subst hb
      rintro rfl
      exact hf.fresh ha

theorem row_unique {r p : Row} (hr : r ∈ pl) (hp : p ∈ pl) (h : r.i = p.i) : r = p := by
  have hn := rows_nodup hpl _ pl [] rfl (by simp)
  clear hpl
  induction pl with
  | nil => cases hr
  | cons x l ih =>
    simp only [List.map_cons, List.nodup_cons] at hn
    rcases List.mem_cons.1 hr with rfl | hr' <;> rcases List.mem_cons.1 hp with rfl | hp'
    · rfl
    · exact absurd (List.mem_map.2 ⟨p, hp', h.symm⟩) hn.1
    · exact absurd (List.mem_map.2 ⟨r, hr', h⟩) hn.1
    · exact ih hr' hp' hn.2

theorem row_at {r : Row} (hr : r ∈ pl) : ∃ A B o, pl = A ++ r :: B ∧ RF ops pl m A r o := by
  obtain ⟨A, B, h⟩ := List.append_of_mem hr
  obtain ⟨o, hf⟩ := row_facts hpl h
  exact ⟨A, B, o, h, hf⟩

omit hpl in
theorem anOf_sub : ∀ (l : List Row) (i a : Nat), a ∈ anOf l i → ∃ r ∈ l, r.i = i ∧ a ∈ r.an
  | [], i, a, h => by simp [anOf] at h
  | r :: l, i, a, h => by
    unfold anOf at h
    split at h
    · rename_i e; exact ⟨r, List.mem_cons_self, e, h⟩
    · obtain ⟨p, hp, h2⟩ := anOf_sub l i a h; exact ⟨p, List.mem_cons_of_mem _ hp, h2⟩

omit hpl in
theorem oper_eq {i : Nat} {a b : Oper} (h : ops[i]? = some a) (h' : ops[i]? = some b) : a = b := by rw [h] at h'; exact Option.some.inj h'

/-- Two rows of a plan: the slots that they write differ, and so do the blocks. -/
theorem rows_differ {r p : Row} (hr : r ∈ pl) (hp : p ∈ pl) (hne : r.i ≠ p.i) {o q : Oper} (ho : ops[r.i]? = some o) (hq : ops[p.i]? = some q) :
    (∀ d, o.dst = some d → q.dst ≠ some d) ∧ (makes r o = true → makes p q = true → p.id ≠ r.id) := by
  obtain ⟨A, B, o', h, hf⟩ := row_at hpl hr
  have := oper_eq hf.ho ho
  subst this
  rw [h] at hp
  rcases List.mem_append.1 hp with hA | hB
  · obtain ⟨q', hq', h1, _, _, _, _, h2⟩ := hf.pair p hA
    have := oper_eq hq hq'
    subst this
    exact ⟨fun d hd hqd => (h1 d hqd).2 hd, fun g1 g2 => h2 g2 g1⟩
  · rcases List.mem_cons.1 hB with rfl | hB
    · exact absurd rfl hne
    · obtain ⟨B1, B2, rfl⟩ := List.append_of_mem hB
      obtain ⟨q', hf'⟩ := row_facts hpl (A := A ++ r :: B1) (B := B2) (r := p) (by rw [h]; simp)
      have := oper_eq hq hf'.ho
      subst this
      obtain ⟨o2, ho2, h1, _, _, _, _, h2⟩ := hf'.pair r (by simp)
      have := oper_eq ho ho2
      subst this
      exact ⟨fun d hd hqd => (h1 d hd).2 hqd, fun g1 g2 => Ne.symm (h2 g1 g2)⟩
end

/-! ### What an operation looks at -/
section
variable {P : Program} {T T' : Sl} {H H' : Hp}

theorem opV_sees {op : Op} (h : ∀ x, x ∈ op.operands → getO T' x = getO T x) : opV P op T' H = opV P op T H := by
  have hall : ∀ xs : Array Operand, (∀ x, x ∈ xs → x ∈ op.operands) → getOs T' xs.toList = getOs T xs.toList := by
    intro xs hx
    unfold getOs
    rw [List.map_congr_left fun x hm => h x (hx x (by simpa using hm))]
  cases op
  case move x => simp only [opV]; exact h x (by simp [Op.operands])
  case assign x => simp only [opV]; exact h x (by simp [Op.operands])
  case pick c a b => simp only [opV, h c (by simp [Op.operands]), h a (by simp [Op.operands]), h b (by simp [Op.operands])]
  case build t parts =>
    have : (parts.toList.map fun p => (p.1, getO T' p.2)) = parts.toList.map fun p => (p.1, getO T p.2) :=
      List.map_congr_left fun p hp => by rw [h p.2 (by simp only [Op.operands, List.mem_toArray]; exact List.mem_map.2 ⟨p, hp, rfl⟩)]
    simp only [opV, this]
  case load t a => simp only [opV, h a (by simp [Op.operands])]
  case nilCheck x => simp only [opV, h x (by simp [Op.operands])]
  case binOp op t x y u => simp only [opV, h x (by simp [Op.operands]), h y (by simp [Op.operands])]
  case unOp op t x => simp only [opV, h x (by simp [Op.operands])]
  case convert a b x => simp only [opV, h x (by simp [Op.operands])]
  case makeFunc fn a b => simp only [opV, hall a (fun x hx => by simp [Op.operands, hx]), hall b (fun x hx => by simp [Op.operands, hx])]
  case slice t x lo hi mx =>
    have e : ∀ y : Option Operand, (∀ z, y = some z → z ∈ (Op.slice t x lo hi mx).operands) → y.map (getO T') = y.map (getO T) := by
      intro y hy
      cases y with
      | none => rfl
      | some z => simp only [Option.map_some, h z (hy z rfl)]
    simp only [opV, h x (by simp [Op.operands]), e lo (fun z hz => by simp [Op.operands, hz]), e hi (fun z hz => by simp [Op.operands, hz]), e mx (fun z hz => by simp [Op.operands, hz])]
  case fieldAddr t x f => simp only [opV, h x (by simp [Op.operands])]
  case field t x f => simp only [opV, h x (by simp [Op.operands])]
  case indexAddr t x i => simp only [opV, h x (by simp [Op.operands]), h i (by simp [Op.operands])]
  case index t x i => simp only [opV, h x (by simp [Op.operands]), h i (by simp [Op.operands])]
  case extract x i => simp only [opV, h x (by simp [Op.operands])]
  case lookup t x y ok => simp only [opV, h x (by simp [Op.operands]), h y (by simp [Op.operands])]
  case call c =>
    obtain ⟨ce, args, ts⟩ := c
    cases ce with
    | builtin b => simp only [opV, hall args (fun x hx => by simp [Op.operands, Call.operands, hx])]
    | _ => rfl
  all_goals rfl

theorem opV_blind {op : Op} (h : looks op = false) : opV P op T H' = opV P op T H := by
  cases op <;> first | rfl | (simp [looks] at h; done)

theorem opN_sees {op : Op} {n : Nat} (h : ∀ x, x ∈ op.operands → getO T' x = getO T x) : opN P op T' n = opN P op T n := by
  cases op
  case box t x => simp only [opN, h x (by simp [Op.operands])]
  case buildSlice t len parts =>
    have : (parts.toList.map fun p => (p.1, getO T' p.2)) = parts.toList.map fun p => (p.1, getO T p.2) :=
      List.map_congr_left fun p hp => by rw [h p.2 (by simp only [Op.operands, List.mem_toArray]; exact List.mem_map.2 ⟨p, hp, rfl⟩)]
    simp only [opN, this]
  case makeMap t r => cases r <;> rfl
  case makeSlice t l c => simp only [opN, h l (by simp [Op.operands]), h c (by simp [Op.operands])]
  all_goals rfl

theorem opE_sees {op : Op} (h : ∀ x, x ∈ op.operands → getO T' x = getO T x) : opE P op T' H = opE P op T H := by
  cases op
  case store t a x => simp only [opE, h x (by simp [Op.operands]), h a (by simp [Op.operands])]
  all_goals rfl

theorem opX_sees {op : Op} {n : Nat} {K : AV → Hp → Nat → Prop} (h : ∀ x, x ∈ op.operands → getO T' x = getO T x) : opX P op T' H n K = opX P op T H n K := by
  have hall : ∀ xs : Array Operand, (∀ x, x ∈ xs → x ∈ op.operands) → getOs T' xs.toList = getOs T xs.toList := by
    intro xs hx
    unfold getOs
    rw [List.map_congr_left fun x hm => h x (hx x (by simpa using hm))]
  cases op
  case mapUpdate t m x y => simp only [opX, h m (by simp [Op.operands]), h x (by simp [Op.operands]), h y (by simp [Op.operands])]
  case range t x => simp only [opX, h x (by simp [Op.operands])]
  case next x b => cases b <;> simp only [opX, h x (by simp [Op.operands])]
  case entry x => simp only [opX, h x (by simp [Op.operands])]
  case call c =>
    obtain ⟨ce, args, ts⟩ := c
    cases ce with
    | value f => rfl
    | invoke r m => rfl
    | builtin b =>
      have := hall args (fun x hx => by simp [Op.operands, Call.operands, hx])
      cases b
      case clear => simp only [opX, this]
      case copy => simp only [opX, this]
      all_goals rfl
  all_goals rfl

theorem opN_new {op : Op} {n : Nat} {v : AV} {e : Ent} (h : opN P op T n = some (v, e)) : isNew op = true := by
  cases op <;> first | rfl | (simp [opN] at h; done)

theorem evOp_sees {cx : Cx} {op : Op} {n : Nat} {k : AV → St → Prop} (h : ∀ x, x ∈ op.operands → getO T' x = getO T x) (e : evOp cx op ⟨T, H, n⟩ k) :
    evOp cx op ⟨T', H, n⟩ fun v st1 => k v ⟨T, st1.H, st1.n⟩ := by
  have hall : ∀ xs : Array Operand, (∀ x, x ∈ xs → x ∈ op.operands) → getOs T' xs.toList = getOs T xs.toList := by
    intro xs hx
    unfold getOs
    rw [List.map_congr_left fun x hm => h x (hx x (by simpa using hm))]
  have hV := opV_sees (P := cx.P) (H := H) h
  have hN := opN_sees (P := cx.P) (n := n) h
  have hE := opE_sees (P := cx.P) (H := H) h
  have hX := opX_sees (P := cx.P) (H := H) (n := n) (K := fun v H' n' => k v ⟨T, H', n'⟩) h
  have fin : ∀ (x x' : Option AV) (y y' : Option (AV × Ent)) (z z' : Option (AV × Hp)) (X X' : Prop), x' = x → y' = y → z' = z → X' = X →
      (match x with | some v => k v ⟨T, H, n⟩ | none => match y with | some (v, e) => k v ⟨T, (n, e) :: H, n + 1⟩ | none => match z with | some (v, H') => k v ⟨T, H', n⟩ | none => X) →
      (match x' with | some v => k v ⟨T, H, n⟩ | none => match y' with | some (v, e) => k v ⟨T, (n, e) :: H, n + 1⟩ | none => match z' with | some (v, H') => k v ⟨T, H', n⟩ | none => X') := by
    rintro x x' y y' z z' X X' rfl rfl rfl rfl h
    exact h
  cases op
  case call c =>
    obtain ⟨ce, args, ts⟩ := c
    cases ce with
    | value f =>
      simp only [evOp] at e ⊢
      rw [h f (by simp [Op.operands, Call.operands]), hall args (fun x hx => by simp [Op.operands, Call.operands, hx])]
      exact e
    | invoke r m => exact fin _ _ _ _ _ _ _ _ hV hN hE hX e
    | builtin b =>
      cases b
      case append =>
        simp only [evOp] at e ⊢
        rw [hall args (fun x hx => by simp [Op.operands, Call.operands, hx])]
        exact e
      all_goals exact fin _ _ _ _ _ _ _ _ hV hN hE hX e
  all_goals exact fin _ _ _ _ _ _ _ _ hV hN hE hX e

theorem sees_get {ops : List Oper} {o : Oper} (h : ∀ t, t ∈ seesT ops o → getT T' t = getT T t) : ∀ x, x ∈ o.op.operands → getO T' x = getO T x := by
  intro x hx
  cases x with
  | tmp t => exact h t (by simp only [seesT, List.mem_append, List.mem_filterMap]; exact .inl ⟨.tmp t, by simpa using hx, rfl⟩)
  | const v => rfl
  | global g => rfl
  | func f => rfl

theorem want_same {ops : List Oper} {o : Oper} (h : ∀ t, t ∈ seesT ops o → getT T' t = getT T t) : wantA ops T' o.guard = wantA ops T o.guard := by
  unfold wantA
  split
  · rfl
  · rename_i j w hg
    have : guardT ops T' j = guardT ops T j := by
      unfold guardT
      split
      · rename_i d hd; exact h d (by simp [seesT, hg, hd])
      · rfl
    rw [this]
end

/-! ### The walk over a plan -/
def outs (base : Nat) (l : List Nat) : List Nat := l.map (base + ·)

/-- A look that may come up yet: it still sees what it saw. -/
def chkV (dst : Option Nat) (T : Sl) (v : AV) : Prop :=
  match dst with
  | some d => getT T d = some v
  | none => True
def chkW (P : Program) (base : Nat) (p : Row) (o : Oper) (w : Option Bool) (st : St) : Prop :=
  match w with
  | some true => oK (opV P o.op st.T (hideH (outs base p.out) st.H)) (chkV o.dst st.T)
  | some false => True
  | none => False
def chkO (P : Program) (ops : List Oper) (base : Nat) (p : Option Row) (o : Option Oper) (st : St) : Prop :=
  match p, o with
  | some p, some o => chkW P base p o (wantA ops st.T o.guard) st
  | _, _ => False
def chkAll (P : Program) (ops : List Oper) (pl : List Row) (base : Nat) : List Nat → St → Prop
  | [], _ => True
  | j :: js, st => chkO P ops base (rowOf pl j) (ops[j]?) st ∧ chkAll P ops pl base js st

def evRow (cx : Cx) (ops : List Oper) (pl : List Row) (base : Nat) (r : Row) (o : Oper) (w : Option Bool) (st : St) (k : St → Prop) : Prop :=
  match w with
  | some false => k ⟨putT st.T o.dst (.tup []), st.H, st.n⟩
  | some true =>
    if r.eff = true then evOp cx o.op ⟨st.T, hideH (outs base r.out) st.H, st.n⟩ fun v st1 =>
      chkAll cx.P ops pl base r.chk ⟨putT st.T o.dst v, st1.H ++ showH (outs base r.out) st.H, st1.n⟩ ∧ k ⟨putT st.T o.dst v, st1.H ++ showH (outs base r.out) st.H, st1.n⟩
    else match opV cx.P o.op st.T (hideH (outs base r.out) st.H) with
      | some v => k ⟨putT st.T o.dst v, st.H, st.n⟩
      | none => match opN cx.P o.op st.T (base + r.id) with
        | some (v, e) => k ⟨putT st.T o.dst v, (base + r.id, e) :: st.H, st.n⟩
        | none => False
  | none => False

def evRows (cx : Cx) (ops : List Oper) (pl : List Row) (base : Nat) : List Row → St → (St → Prop) → Prop
  | [], st, K => K st
  | r :: rs, st, K => match ops[r.i]? with
    | some o => evRow cx ops pl base r o (wantA ops st.T o.guard) st fun st' => evRows cx ops pl base rs st' K
    | none => False

end Go.Y
