/-
  A region whose order is open: a plan of its operations serves every order.
-/
import Derived.Test.YtgpdcjgjgblkfaaZe
import Derived.Orders
set_option linter.unusedVariables false
set_option linter.unusedSimpArgs false
namespace Go.Z
open RowKit

theorem memb_iff {x : Nat} : ∀ {l : List Nat}, memb x l = true ↔ x ∈ l
  | [] => by simp [memb]
  | y :: r => by
    unfold memb
    split
    · rename_i h; simp [h]
    · rename_i h; rw [memb_iff]; simp [h]

/-! ### What an operation looks at -/
section
variable {cx : Cx} {st s0 : St}

structure Alike (o : Oper) (st s0 : St) : Prop where
  get : ∀ x, x ∈ o.op.operands → s0.get x = st.get x
  heap : s0.heap = st.heap
  locs : ∀ s, s0.locs s ≠ none → s0.locs s = st.locs s
  known : ∀ x s off, s0.get x = .loc s off → s0.locs s ≠ none

theorem Alike.all {o : Oper} (h : Alike o st s0) {xs : List Operand} (hx : ∀ x, x ∈ xs → x ∈ o.op.operands) : xs.map s0.get = xs.map st.get :=
  List.map_congr_left fun x hm => h.get x (hx x hm)

theorem Alike.load {o : Oper} (h : Alike o st s0) {t : TypeId} {a : Operand} (ha : a ∈ o.op.operands) : loadF cx.P t (s0.get a) s0 = loadF cx.P t (st.get a) st := by
  have e := h.get a ha
  unfold loadF
  rw [← e]
  split
  · rename_i s off hs
    rw [h.locs s (h.known a s off hs)]
  · rw [h.heap]
  · rfl

/-- An operation that makes no local variable and stores nothing yields the same. -/
theorem opF_alike {o : Oper} (h : Alike o st s0) (hn : isNew o = false) (hs : ∀ t a x, o.op ≠ .store t a x) {tv : TV} {st1 : St} (e : opF cx o.op o.dst st = some (tv, st1)) :
    opF cx o.op o.dst s0 = some (tv, s0) ∧ st1 = st := by
  obtain ⟨dst, op, ty, pos, af, gd⟩ := o
  have hg := h.get
  cases op
  case move x => simp only [opF, Option.some.injEq, Prod.mk.injEq] at e ⊢; rw [hg x (by simp [Op.operands])]; exact ⟨⟨e.1, trivial⟩, e.2.symm⟩
  case assign x => simp only [opF, Option.some.injEq, Prod.mk.injEq] at e ⊢; rw [hg x (by simp [Op.operands])]; exact ⟨⟨e.1, trivial⟩, e.2.symm⟩
  case pick c a b =>
    obtain ⟨e1, rfl⟩ := pairF_some e
    simp only [opF, hg c (by simp [Op.operands]), hg a (by simp [Op.operands]), hg b (by simp [Op.operands]), e1, pairF, and_self]
  case alloc t => simp [isNew] at hn
  case box t x => simp [isNew] at hn
  case build t parts =>
    obtain ⟨v, e1, rfl, rfl⟩ := pairV_some e
    have : (parts.toList.map fun p => (p.1, s0.get p.2)) = parts.toList.map fun p => (p.1, st.get p.2) :=
      List.map_congr_left fun p hp => by rw [hg p.2 (by simp only [Op.operands, List.mem_toArray]; exact List.mem_map.2 ⟨p, hp, rfl⟩)]
    simp only [opF, this, e1, pairV, and_self]
  case load t a =>
    obtain ⟨v, e1, rfl, rfl⟩ := pairV_some e
    have := h.load (cx := cx) (t := t) (a := a) (by simp [Op.operands])
    simp only [opF, this, e1, pairV, and_self]
  case store t a x => exact absurd rfl (hs t a x)
  case nilCheck x =>
    obtain ⟨e1, rfl⟩ := pairF_some e
    simp only [opF, hg x (by simp [Op.operands]), e1, pairF, and_self]
  case binOp op t x y u =>
    obtain ⟨v, e1, rfl, rfl⟩ := pairV_some e
    simp only [opF, hg x (by simp [Op.operands]), hg y (by simp [Op.operands]), e1, pairV, and_self]
  case unOp op t x =>
    obtain ⟨v, e1, rfl, rfl⟩ := pairV_some e
    simp only [opF, hg x (by simp [Op.operands]), e1, pairV, and_self]
  case convert a b x =>
    obtain ⟨v, e1, rfl, rfl⟩ := pairV_some e
    simp only [opF, hg x (by simp [Op.operands]), e1, pairV, and_self]
  case makeFunc fn a b =>
    obtain ⟨v, e1, rfl, rfl⟩ := pairV_some e
    have h1 : getAll s0 a = getAll st a := by unfold getAll; rw [h.all (fun x hx => by simp [Op.operands]; exact .inl (by simpa using hx))]
    have h2 : getAll s0 b = getAll st b := by unfold getAll; rw [h.all (fun x hx => by simp [Op.operands]; exact .inr (by simpa using hx))]
    simp only [opF, h1, h2, e1, pairV, and_self]
  case fieldAddr t x f =>
    obtain ⟨e1, rfl⟩ := pairF_some e
    simp only [opF, hg x (by simp [Op.operands]), e1, pairF, and_self]
  case field t x f =>
    obtain ⟨v, e1, rfl, rfl⟩ := pairV_some e
    simp only [opF, hg x (by simp [Op.operands]), e1, pairV, and_self]
  case indexAddr t x i =>
    obtain ⟨e1, rfl⟩ := pairF_some e
    simp only [opF, hg x (by simp [Op.operands]), hg i (by simp [Op.operands]), e1, pairF, and_self]
  case index t x i =>
    obtain ⟨v, e1, rfl, rfl⟩ := pairV_some e
    simp only [opF, hg x (by simp [Op.operands]), hg i (by simp [Op.operands]), e1, pairV, and_self]
  case extract x i =>
    obtain ⟨v, e1, rfl, rfl⟩ := pairV_some e
    simp only [opF, hg x (by simp [Op.operands]), e1, pairV, and_self]
  all_goals (simp only [opF] at e; cases e)

/-- An operation that looks at no memory yields what its operands make. -/
theorem opF_sees {o : Oper} (hg : ∀ x, x ∈ o.op.operands → s0.get x = st.get x) (hn : isNew o = false) (hs : ∀ t a x, o.op ≠ .store t a x) (hl : isLoad o = false) {tv : TV} {st1 : St} (e : opF cx o.op o.dst st = some (tv, st1)) :
    opF cx o.op o.dst s0 = some (tv, s0) := by
  obtain ⟨dst, op, ty, pos, af, gd⟩ := o
  cases op
  case move x => simp only [opF, Option.some.injEq, Prod.mk.injEq] at e ⊢; rw [hg x (by simp [Op.operands])]; exact ⟨e.1, trivial⟩
  case assign x => simp only [opF, Option.some.injEq, Prod.mk.injEq] at e ⊢; rw [hg x (by simp [Op.operands])]; exact ⟨e.1, trivial⟩
  case pick c a b =>
    obtain ⟨e1, rfl⟩ := pairF_some e
    simp only [opF, hg c (by simp [Op.operands]), hg a (by simp [Op.operands]), hg b (by simp [Op.operands]), e1, pairF]
  case alloc t => simp [isNew] at hn
  case box t x => simp [isNew] at hn
  case build t parts =>
    obtain ⟨v, e1, rfl, rfl⟩ := pairV_some e
    have : (parts.toList.map fun p => (p.1, s0.get p.2)) = parts.toList.map fun p => (p.1, st.get p.2) :=
      List.map_congr_left fun p hp => by rw [hg p.2 (by simp only [Op.operands, List.mem_toArray]; exact List.mem_map.2 ⟨p, hp, rfl⟩)]
    simp only [opF, this, e1, pairV]
  case load t a => simp [isLoad] at hl
  case store t a x => exact absurd rfl (hs t a x)
  case nilCheck x =>
    obtain ⟨e1, rfl⟩ := pairF_some e
    simp only [opF, hg x (by simp [Op.operands]), e1, pairF]
  case binOp op t x y u =>
    obtain ⟨v, e1, rfl, rfl⟩ := pairV_some e
    simp only [opF, hg x (by simp [Op.operands]), hg y (by simp [Op.operands]), e1, pairV]
  case unOp op t x =>
    obtain ⟨v, e1, rfl, rfl⟩ := pairV_some e
    simp only [opF, hg x (by simp [Op.operands]), e1, pairV]
  case convert a b x =>
    obtain ⟨v, e1, rfl, rfl⟩ := pairV_some e
    simp only [opF, hg x (by simp [Op.operands]), e1, pairV]
  case makeFunc fn a b =>
    obtain ⟨v, e1, rfl, rfl⟩ := pairV_some e
    have h1 : getAll s0 a = getAll st a := by unfold getAll; rw [List.map_congr_left fun x hx => hg x (by simp [Op.operands]; exact .inl (by simpa using hx))]
    have h2 : getAll s0 b = getAll st b := by unfold getAll; rw [List.map_congr_left fun x hx => hg x (by simp [Op.operands]; exact .inr (by simpa using hx))]
    simp only [opF, h1, h2, e1, pairV]
  case fieldAddr t x f =>
    obtain ⟨e1, rfl⟩ := pairF_some e
    simp only [opF, hg x (by simp [Op.operands]), e1, pairF]
  case field t x f =>
    obtain ⟨v, e1, rfl, rfl⟩ := pairV_some e
    simp only [opF, hg x (by simp [Op.operands]), e1, pairV]
  case indexAddr t x i =>
    obtain ⟨e1, rfl⟩ := pairF_some e
    simp only [opF, hg x (by simp [Op.operands]), hg i (by simp [Op.operands]), e1, pairF]
  case index t x i =>
    obtain ⟨v, e1, rfl, rfl⟩ := pairV_some e
    simp only [opF, hg x (by simp [Op.operands]), hg i (by simp [Op.operands]), e1, pairV]
  case extract x i =>
    obtain ⟨v, e1, rfl, rfl⟩ := pairV_some e
    simp only [opF, hg x (by simp [Op.operands]), e1, pairV]
  all_goals (simp only [opF] at e; cases e)

theorem opF_keeps {o : Oper} (hn : isNew o = false) (hs : ∀ t a x, o.op ≠ .store t a x) {tv : TV} {st1 : St} (e : opF cx o.op o.dst st = some (tv, st1)) : st1 = st := by
  obtain ⟨dst, op, ty, pos, af, gd⟩ := o
  cases op <;> simp only [opF] at e <;> first
    | (cases e; rfl)
    | (obtain ⟨_, rfl⟩ := pairF_some e; rfl)
    | (obtain ⟨_, _, _, rfl⟩ := pairV_some e; rfl)
    | (simp [isNew] at hn; done)
    | exact absurd rfl (hs _ _ _)
    | (cases e; done)

/-- How the local variables of two alike states are turned alike. -/
def LocsTurn (a b a' b' : Nat → Option (List Value)) : Prop := (a' = a ∧ b' = b) ∨ ∃ s cs, a s ≠ none ∧ a' = upd a s (some cs) ∧ b' = upd b s (some cs)

theorem store_alike {o : Oper} (h : Alike o st s0) {t : TypeId} {a x : Operand} (ho : o.op = .store t a x) {st1 : St} (e : storeF cx.P t (st.get a) (st.get x) st = some st1) :
    ∃ s1, storeF cx.P t (s0.get a) (s0.get x) s0 = some s1 ∧ s1.tmps = s0.tmps ∧ st1.tmps = st.tmps ∧ s1.heap = st1.heap ∧ LocsTurn s0.locs st.locs s1.locs st1.locs := by
  have ha := h.get a (by simp [ho, Op.operands])
  have hx := h.get x (by simp [ho, Op.operands])
  unfold storeF at e ⊢
  rw [ha, hx]
  split at e
  · rename_i s off v hs hv
    have hk := h.known a s off (by rw [ha, hs])
    rw [h.locs s hk]
    unfold St.setLoc at e ⊢
    split at e
    · rename_i cs hc
      cases e
      exact ⟨_, rfl, rfl, rfl, h.heap, .inr ⟨s, cs, hk, rfl, rfl⟩⟩
    · cases e
  · rename_i b off v hs hv
    rw [h.heap]
    unfold St.setBlk at e ⊢
    split at e
    · rename_i cs hc
      cases e
      exact ⟨_, rfl, rfl, rfl, by simp [h.heap], .inl ⟨rfl, rfl⟩⟩
    · cases e
  · cases e

theorem evOp_alike {o : Oper} (h : Alike o st s0) (hn : isNew o = false) {k : TV → St → Prop} (e : evOp cx o st k) :
    evOp cx o s0 (fun v s1 => ∃ st1, k v st1 ∧ s1.tmps = s0.tmps ∧ st1.tmps = st.tmps ∧ s1.heap = st1.heap ∧ LocsTurn s0.locs st.locs s1.locs st1.locs) := by
  unfold evOp at e ⊢
  split at e
  · rename_i c hop
    unfold evCall at e ⊢
    have hargs : getAll s0 c.args = getAll st c.args := by
      unfold getAll
      rw [h.all (fun x hx => by rw [hop]; simp [Op.operands, Call.operands]; exact .inr (by simpa using hx))]
    split at e
    · rename_i f hc
      have hf : s0.get f = st.get f := h.get f (by rw [hop]; simp [Op.operands, Call.operands, hc])
      rw [hf, hargs]
      unfold evFunc at e ⊢
      split at e
      · rename_i g first captured args hf' ha'
        split at e
        · rename_i hp
          simp only [hp, if_true]
          obtain ⟨v, hv, hk⟩ := oK_some e
          rw [hv]
          exact ⟨st, hk, (by first | rfl | trivial), (by first | rfl | trivial), h.heap, .inl ⟨(by first | rfl | trivial), (by first | rfl | trivial)⟩⟩
        · rename_i hp
          simp only [hp]
          rw [h.heap]
          refine ⟨e.1, fun w hH => (e.2 w hH).mono ?_⟩
          rintro en w' ⟨v, H', he, hk, rest⟩
          exact ⟨v, H', he, ⟨_, hk, (by first | rfl | trivial), (by first | rfl | trivial), (by first | rfl | trivial), .inl ⟨(by first | rfl | trivial), (by first | rfl | trivial)⟩⟩, rest⟩
      · exact e.elim
    · rename_i b hc
      rw [hargs]
      obtain ⟨v, hv, hk⟩ := oK_some e
      rw [hv]
      exact ⟨st, hk, rfl, rfl, h.heap, .inl ⟨rfl, rfl⟩⟩
    · exact e.elim
  · rename_i op hne
    obtain ⟨⟨tv, st1⟩, hr, hk⟩ := oK_some e
    by_cases hs : ∃ t a x, o.op = .store t a x
    · obtain ⟨t, a, x, ho⟩ := hs
      rw [ho] at hr ⊢
      simp only [opF] at hr
      cases hst : storeF cx.P t (st.get a) (st.get x) st with
      | none => rw [hst] at hr; cases hr
      | some st2 =>
        rw [hst] at hr
        cases hr
        obtain ⟨s1, e1, h1, h2, h3, h4⟩ := store_alike h ho hst
        have : opF cx (.store t a x) o.dst s0 = some (.val undef, s1) := by simp only [opF, e1, Option.map_some]
        rw [this]; exact ⟨_, hk, h1, h2, h3, h4⟩
    · obtain ⟨e1, rfl⟩ := opF_alike h hn (fun t a x ho => hs ⟨t, a, x, ho⟩) hr
      rw [e1]; exact ⟨st1, hk, rfl, rfl, h.heap, .inl ⟨rfl, rfl⟩⟩
end

/-! ### Guards -/
def wantF (ops : List Oper) (o : Oper) (st : St) : Option Bool :=
  match o.guard with
  | none => some true
  | some (j, w) =>
    match guardT ops st j with
    | .val (.bool b) => some (b == w)
    | .val (.tuple _) => some false
    | _ => none

theorem evRow_want {cx : Cx} {ops : List Oper} {o : Oper} {st : St} {k : St → Prop} (h : evRow cx ops o st k) :
    (wantF ops o st = some true ∧ evOp cx o st fun v st' => k (st'.put o.dst v)) ∨ (wantF ops o st = some false ∧ k (st.put o.dst (.val undef))) := by
  unfold evRow at h
  unfold wantF
  split at h
  · rename_i hg; simp only [hg]; exact .inl ⟨trivial, h⟩
  · rename_i j w hg
    simp only [hg]
    unfold evGuard at h
    split at h
    · rename_i b hb
      simp only [hb]
      split at h
      · rename_i hbw; subst hbw; exact .inl ⟨by simp, h⟩
      · rename_i hbw; exact .inr ⟨by simp [hbw], h⟩
    · rename_i vs hb; simp only [hb]; exact .inr ⟨trivial, h⟩
    · exact h.elim

theorem wantF_run {N : Nat} {D E : Nat → Prop} {st : St} {tmps : Array Value} {w : World} {lam : Nat → Nat} (h : Rel N D E st tmps w lam) (ops : Array Oper) (o : Oper) {b : Bool}
    (e : wantF ops.toList o st = some b) : Region.wanted o (yielded ops tmps) = b := by
  unfold wantF at e
  split at e
  · rename_i hg; cases e; simp [Region.wanted, hg]
  · rename_i j w hg
    have hy := yielded_guard h ops j rfl
    split at e
    · rename_i bb hb; cases e; simp [Region.wanted, hg, hy.1 bb hb]
    · rename_i vs hb; cases e; simp [Region.wanted, hg, hy.2 vs hb]
    · cases e

theorem wantF_same {ops : List Oper} {o : Oper} {st s0 : St} (h : ∀ t, t ∈ seesT ops o → s0.tmps t = st.tmps t) : wantF ops o s0 = wantF ops o st := by
  unfold wantF
  split
  · rfl
  · rename_i j w hg
    have : guardT ops s0 j = guardT ops st j := by
      unfold guardT
      split
      · rename_i d hd; exact h d (by simp [seesT, hg, hd])
      · rfl
    rw [this]

theorem sees_get {ops : List Oper} {o : Oper} {st s0 : St} (h : ∀ t, t ∈ seesT ops o → s0.tmps t = st.tmps t) : ∀ x, x ∈ o.op.operands → s0.get x = st.get x := by
  intro x hx
  cases x with
  | tmp t => exact h t (by simp only [seesT, List.mem_append, List.mem_filterMap]; exact .inl ⟨.tmp t, by simpa using hx, rfl⟩)
  | const v => rfl
  | global g => rfl
  | func f => rfl

/-! ### Calm operations -/
/-- The cells of the local variable that an operation makes. -/
def newV (cx : Cx) (o : Oper) (st : St) : Option (List Value) :=
  match o.op with
  | .alloc t => zeroOf cx.P t
  | .box _ x => (valF (st.get x)).map vcells
  | _ => none

/-- What is known of a calm operation that may come up yet: whenever it does it yields what the plan's state has of it. -/
def Cert (cx : Cx) (ops : List Oper) (o : Oper) (st : St) : Prop :=
  (wantF ops o st = some false ∧ ∀ d, o.dst = some d → st.tmps d = .val undef ∧ (isNew o = true → st.locs d = none)) ∨
  (wantF ops o st = some true ∧ isNew o = true ∧ ∃ d z, o.dst = some d ∧ memb d cx.L = true ∧ newV cx o st = some z ∧ st.tmps d = .loc d 0 ∧ st.locs d = some z) ∨
  (wantF ops o st = some true ∧ isNew o = false ∧ ∃ v, (∀ d, o.dst = some d → st.tmps d = v) ∧ evOp cx o st fun v' st' => v' = v ∧ st' = st)

theorem calm_notStore {cx : Cx} {o : Oper} (h : calm cx o = true) : ∀ t a x, o.op ≠ .store t a x := by
  intro t a x ho
  simp [calm, ho] at h

/-- A calm operation, carried out in the plan's state. -/
theorem calm_step {cx : Cx} {o : Oper} {st : St} {k : TV → St → Prop} (hc : calm cx o = true) (h : evOp cx o st k) :
    (isNew o = true ∧ ∃ d z, o.dst = some d ∧ memb d cx.L = true ∧ newV cx o st = some z ∧ k (.loc d 0) (st.newLoc d z)) ∨
    (isNew o = false ∧ ∃ v, k v st ∧ evOp cx o st fun v' st' => v' = v ∧ st' = st) := by
  unfold evOp at h
  split at h
  · rename_i c hop
    have hn : isNew o = false := by simp [isNew, hop]
    refine .inr ⟨hn, ?_⟩
    unfold evCall at h
    split at h
    · rename_i f hcal
      unfold evFunc at h
      split at h
      · rename_i g first captured args hf ha
        have hp : memb g cx.pu = true := by
          simp only [calm, hop, hcal] at hc
          split at hc
          · rename_i g' e2
            cases e2
            simp only [St.get, TV.val.injEq, Value.func.injEq, Fn.func.injEq] at hf
            rw [← hf.1]; exact hc
          · rename_i e2; cases e2
          · rename_i e2; cases e2
          · rename_i e2; cases e2
          · cases hc
        simp only [hp, if_true] at h
        obtain ⟨v, hv, hk⟩ := oK_some h
        refine ⟨_, hk, ?_⟩
        unfold evOp evCall evFunc
        simp only [hop, hcal, hf, ha, hp, if_true, hv]
        exact ⟨(by first | rfl | trivial), (by first | rfl | trivial)⟩
      · exact h.elim
    · rename_i b hcal
      obtain ⟨v, hv, hk⟩ := oK_some h
      refine ⟨_, hk, ?_⟩
      unfold evOp evCall
      simp only [hop, hcal, hv]
      exact ⟨(by first | rfl | trivial), (by first | rfl | trivial)⟩
    · exact h.elim
  · rename_i op hne
    obtain ⟨⟨tv, st1⟩, hr, hk⟩ := oK_some h
    cases hn : isNew o with
    | false =>
      have e2 := opF_keeps hn (calm_notStore hc) hr
      subst e2
      refine .inr ⟨rfl, tv, hk, ?_⟩
      unfold evOp
      split
      · rename_i c hc'; exact absurd hc' (hne c)
      · rw [hr]; exact ⟨rfl, rfl⟩
    | true =>
      refine .inl ⟨rfl, ?_⟩
      unfold isNew at hn
      split at hn
      · rename_i t ho
        rw [ho] at hr
        simp only [opF] at hr
        unfold newF at hr
        split at hr
        · rename_i d vs hd hz
          split at hr
          · rename_i hm
            cases hr
            exact ⟨d, vs, hd, hm, by simp only [newV, ho]; exact hz, hk⟩
          · cases hr
        · cases hr
      · rename_i t x ho
        rw [ho] at hr
        simp only [opF] at hr
        unfold newF at hr
        split at hr
        · rename_i d vs hd hz
          split at hr
          · rename_i hm
            cases hr
            exact ⟨d, vs, hd, hm, by simp only [newV, ho]; exact hz, hk⟩
          · cases hr
        · cases hr
      · cases hn

end Go.Z
