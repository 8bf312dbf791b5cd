/-
  The evaluator's word on code holds at the machine: steps, regions in the order of the text, sequences, tests, blocks, loops.
-/
import Derived.Test.YtgpdcjgjgblkfaaZd
set_option linter.unusedVariables false
set_option linter.unusedSimpArgs false
namespace Go.Z
open RowKit

section
variable {P : Program} {b : Frame} {tmps : Array Value} {ds : List Deferred} {k : List Item} {cs : List Frame} {w : World}

theorem mk_eval (todo : List Item) : (mk b tmps ds todo).eval = evalT tmps := by
  funext x; cases x <;> rfl

theorem st_skip : step P (lone (mk b tmps ds (.code .skip :: k)) cs w) = .next (lone (mk b tmps ds k) cs w) :=
  step_lone_go (by simp [stepG, stepG.exec, mk])
theorem st_inBlock {id : Nat} : step P (lone (mk b tmps ds (.inBlock id :: k)) cs w) = .next (lone (mk b tmps ds k) cs w) :=
  step_lone_go (by simp [stepG, stepG.exec, mk])
theorem st_seq {x y : Code} : step P (lone (mk b tmps ds (.code (.seq x y) :: k)) cs w) = .next (lone (mk b tmps ds (.code x :: .code y :: k)) cs w) :=
  step_lone_go (by simp [stepG, stepG.exec, mk])
theorem st_block {id : Nat} {c : Code} : step P (lone (mk b tmps ds (.code (.block id c) :: k)) cs w) = .next (lone (mk b tmps ds (.code c :: .inBlock id :: k)) cs w) :=
  step_lone_go (by simp [stepG, stepG.exec, mk])
theorem st_loop {c : Code} : step P (lone (mk b tmps ds (.code (.loop c) :: k)) cs w) = .next (lone (mk b tmps ds (.code c :: .inLoop c :: k)) cs w) :=
  step_lone_go (by simp [stepG, stepG.exec, mk])
theorem st_inLoop {c : Code} : step P (lone (mk b tmps ds (.inLoop c :: k)) cs w) = .next (lone (mk b tmps ds (.code c :: .inLoop c :: k)) cs w) :=
  step_lone_go (by simp [stepG, stepG.exec, mk])
theorem st_exit {id : Nat} {k' : List Item} (h : exitTo id k = some k') : step P (lone (mk b tmps ds (.code (.exit id) :: k)) cs w) = .next (lone (mk b tmps ds k') cs w) :=
  step_lone_go (by simp [stepG, stepG.exec, mk, h])
theorem st_cond {c : Operand} {x y : Code} {t : Bool} (h : evalT tmps c = .bool t) :
    step P (lone (mk b tmps ds (.code (.cond c x y) :: k)) cs w) = .next (lone (mk b tmps ds (.code (if t then x else y) :: k)) cs w) :=
  step_lone_go (by
    have e := congrFun (mk_eval (b := b) (tmps := tmps) (ds := ds) (.code (.cond c x y) :: k)) c
    rw [h] at e
    simp only [mk] at e
    simp [stepG, stepG.exec, mk, e])
theorem st_region {id : Nat} {ops : Array Oper} :
    step P (lone (mk b tmps ds (.code (.region id ops false) :: k)) cs w) = .next (lone (mk b tmps ds (.inRegion ops (List.range ops.size) :: k)) cs w) :=
  step_lone_go (by simp [stepG, stepG.exec, mk])
theorem st_region_end {ops : Array Oper} : step P (lone (mk b tmps ds (.inRegion ops [] :: k)) cs w) = .next (lone (mk b tmps ds k) cs w) :=
  step_lone_go (by simp [stepG, stepG.exec, mk])
theorem st_region_draw {id : Nat} {ops : Array Oper} :
    step P (lone (mk b tmps ds (.code (.region id ops true) :: k)) cs w) =
      .next (lone (mk b tmps ds (.inRegion ops (Region.schedule (P.follows .mixedOrders) ops (w.tape w.drawn (.order b.fn id))) :: k)) cs { w with drawn := w.drawn + 1 }) :=
  step_lone_go (by simp [stepG, stepG.exec, mk, choose, Sem.run, Question.forced, Question.cut])

variable {ops : Array Oper} {i : Nat} {rest : List Nat} {o : Oper}

theorem mk_finish (ho : ops[i]? = some o) (v : Value) : (mk b tmps ds (.inRegion ops (i :: rest) :: k)).finish v = mk b (putT tmps o.dst v) ds (.inRegion ops rest :: k) := by
  unfold Frame.finish mk putT
  simp only [ho, Option.bind_some]
  cases o.dst <;> rfl

theorem st_op_skip (ho : ops[i]? = some o) (h : Region.wanted o (yielded ops tmps) = false) :
    step P (lone (mk b tmps ds (.inRegion ops (i :: rest) :: k)) cs w) = .next (lone (mk b (putT tmps o.dst undef) ds (.inRegion ops rest :: k)) cs w) := by
  rw [← mk_finish ho]
  exact step_lone_go (by simp [stepG, stepG.exec, mk, ho, h])

theorem stG_op (ho : ops[i]? = some o) (hw : Region.wanted o (yielded ops tmps) = true) (hd : ∀ c, o.op ≠ .defer c) :
    stepG P true { frame := mk b tmps ds (.inRegion ops (i :: rest) :: k), callers := cs, status := .running, dying := none } w =
      stepG.apply P true (mk b tmps ds (.inRegion ops (i :: rest) :: k)) cs none (execOp (evalT tmps) o) w := by
  have he := mk_eval (b := b) (tmps := tmps) (ds := ds) (.inRegion ops (i :: rest) :: k)
  simp only [mk] at he
  simp only [stepG, stepG.exec, mk, ho, Option.map_some, hw, Option.getD_some, if_true, stepG.oper, Frame.oper?, he]
  split
  · rename_i l c h1 h2; exact absurd h2 (hd c)
  · rfl

theorem st_op_val (ho : ops[i]? = some o) (hw : Region.wanted o (yielded ops tmps) = true) (hd : ∀ c, o.op ≠ .defer c) {v : Value} {w' : World}
    (hr : (execOp (evalT tmps) o).run P w = .ok (.value v) w' ∨ ((execOp (evalT tmps) o).run P w = .ok .skip w' ∧ v = undef)) :
    step P (lone (mk b tmps ds (.inRegion ops (i :: rest) :: k)) cs w) = .next (lone (mk b (putT tmps o.dst v) ds (.inRegion ops rest :: k)) cs w') := by
  refine step_lone_go ?_
  rw [stG_op ho hw hd, ← mk_finish ho]
  rcases hr with hr | ⟨hr, rfl⟩
  · simp [stepG.apply, hr]
  · simp [stepG.apply, hr]

theorem st_op_call (ho : ops[i]? = some o) (hw : Region.wanted o (yielded ops tmps) = true) (hd : ∀ c, o.op ≠ .defer c) {f : FuncId} {args : Array Value}
    (hr : (execOp (evalT tmps) o).run P w = .ok (.enter f args) w) {v : Value} {w' : World} {fr : Frame}
    (hs : Steps P (lone (Frame.enter P f args .normal) (mk b tmps ds (.inRegion ops (i :: rest) :: k) :: cs) w) (lone fr (mk b tmps ds (.inRegion ops (i :: rest) :: k) :: cs) w'))
    (hl : fr.leaving P w' (.returned v)) :
    Steps P (lone (mk b tmps ds (.inRegion ops (i :: rest) :: k)) cs w) (lone (mk b (putT tmps o.dst v) ds (.inRegion ops rest :: k)) cs w') := by
  have henter : step P (lone (mk b tmps ds (.inRegion ops (i :: rest) :: k)) cs w) =
      .next (lone (Frame.enter P f args .normal) (mk b tmps ds (.inRegion ops (i :: rest) :: k) :: cs) w) :=
    step_lone_go (by rw [stG_op ho hw hd]; simp [stepG.apply, hr, mk])
  refine .head henter (hs.trans (.one ?_))
  rw [← mk_finish ho]
  exact step_leave_returned hl
end

theorem callFunc_run {P : Program} {f : FuncId} (h : hasBody P f = true) (args : Array Value) (w : World) : (callFunc f args).run P w = .ok (.enter f args) w := by
  unfold hasBody at h
  cases hf : P.funcs[f]? with
  | none => rw [hf] at h; cases h
  | some fn =>
    rw [hf] at h
    simp only [Bool.and_eq_true, Bool.not_eq_true', Option.isSome_iff_exists] at h
    obtain ⟨⟨c, hc⟩, hn⟩ := h
    simp only [callFunc, Sem.run_bind, run_program, Result.andThen_ok, hf, hn, Bool.false_eq_true, if_false, hc, Option.isNone_some, Sem.run_pure]

theorem callValue_run {P : Program} {ρ : Operand → Value} {c : Call} {o : Oper} {f : Operand} {g : FuncId} {first captured args : List Value} {w : World}
    (ho : o.op = .call c) (hc : c.callee = .value f) (hf : ρ f = .func (.func g) first.toArray captured.toArray) (ha : c.args.map ρ = args.toArray) (hb : hasBody P g = true) :
    (execOp ρ o).run P w = .ok (.enter g (first ++ args ++ captured).toArray) w := by
  have := callFunc_run hb (first ++ args ++ captured).toArray w
  simp only [execOp, ho, Sem.run_bind, resolve, hc, hf, ha, Deferred.ofValue, Sem.run_pure, Result.andThen_ok, invoke]
  simpa using this

theorem calls_unique {P : Program} {f : FuncId} {args : Array Value} {w : World} {v v' : Value} (hi : P.inits.idxOf? f = none)
    (h : Calls P f args w fun e w' => e = .returned v) (h' : Calls P f args w fun e w' => e = .returned v') : v = v' := by
  have a := Calls.done (R := fun u _ => u = v) (h.mono fun e w' he => by subst he; rfl) hi
  have b := Calls.done (R := fun u _ => u = v') (h'.mono fun e w' he => by subst he; rfl) hi
  obtain ⟨n, u, w1, h1, rfl⟩ := a
  obtain ⟨m, u', w2, h2, rfl⟩ := b
  have key : ∀ n m : Nat, ∀ M : Machine, ∀ u u' w1 w2, runN P n M = .ended (.done u) w1 → runN P m M = .ended (.done u') w2 → u = u' := by
    intro n
    induction n with
    | zero => intro m M u u' w1 w2 h; simp [runN] at h
    | succ n ih =>
      intro m M u u' w1 w2 h h2
      cases m with
      | zero => simp [runN] at h2
      | succ m =>
        simp only [runN] at h h2
        cases hs : step P M with
        | next M' => rw [hs] at h h2; exact ih m M' u u' w1 w2 h h2
        | ended o w0 => rw [hs] at h h2; cases h; cases h2; rfl
  exact key n m _ _ _ _ _ h1 h2

theorem pureOf_eq {P : Program} {f : FuncId} {args : List Value} {v : Value} (hi : P.inits.idxOf? f = none) (h : PureF P f args v) : pureOf P f args = some v := by
  unfold pureOf
  have hex : ∃ v, PureF P f args v := ⟨v, h⟩
  rw [dif_pos hex]
  congr 1
  exact calls_unique hi ((hex.choose_spec.2 default).mono fun e w' he => he.1) ((h.2 default).mono fun e w' he => he.1)

theorem pureF_of {P : Program} {f : FuncId} {args : List Value} {v : Value} (h : pureOf P f args = some v) : PureF P f args v := by
  unfold pureOf at h
  split at h
  · rename_i hex; cases h; exact hex.choose_spec
  · cases h

/-! ### Operations -/
section
variable {P : Program} {N : Nat} {D E : Nat → Prop} {nt : Nat} {st : St} {tmps : Array Value} {rs : List Nat} {w : World} {lam : Nat → Nat}

theorem Upd.marks {w w' : World} (hu : Upd N D w w') (h : ∀ r, r ∈ rs → N ≤ r ∧ w.heap[r]? = some (.deferred (some []))) :
    ∀ r, r ∈ rs → N ≤ r ∧ w'.heap[r]? = some (.deferred (some [])) := fun r hr => ⟨(h r hr).1, hu.defr r _ (h r hr).2⟩

theorem putT_size (tmps : Array Value) (dst : Option Nat) (v : Value) : (putT tmps dst v).size = tmps.size := by
  cases dst <;> simp [putT]

def dstOk (nt : Nat) (o : Oper) : Bool :=
  match o.dst with
  | some d => decide (d < nt)
  | none => true

theorem dst_lt {o : Oper} (h : dstOk nt o = true) (hs : tmps.size = nt) : ∀ d, o.dst = some d → d < tmps.size := by
  intro d hd
  have h2 : d < nt := by unfold dstOk at h; rw [hd] at h; exact of_decide_eq_true h
  rw [hs]; exact h2

theorem Sit.put (h : Sit N D E nt st tmps rs w lam) {dst : Option Nat} {tv : TV} {v : Value} (hd : ∀ d, dst = some d → d < tmps.size) (hv : TRel lam tv v)
    (hk : ∀ s off, tv = .loc s off → st.locs s ≠ none) : Sit N D E nt (st.put dst tv) (putT tmps dst v) rs w lam :=
  ⟨h.rel.put hd hv hk, h.size, by rw [putT_size]; exact h.nt, h.marks, h.once⟩

theorem HRel.of_rel (h : Rel N D E st tmps w lam) : HRel st.heap w := ⟨fun b x hb => (h.blk b x hb).1, h.nd⟩

/-- Behind a call: the frame's own things stand. -/
theorem Sit.called (h : Sit N D E nt st tmps rs w lam) {H' : List (Nat × Blk)} {w' : World} (hH : HRel H' w')
    (hk : ∀ b x, (b, x) ∈ H' → (x.writes = true → wr st.heap b ∨ w.heap.size ≤ b) ∧ (b ∈ st.heap.map (·.1) ∨ w.heap.size ≤ b)) (hu : Upd w.heap.size (wr st.heap) w w') :
    Sit N D E nt { st with heap := H' } tmps rs w' lam ∧ Upd N D w w' := by
  have hloc : ∀ s cs, st.locs s = some cs → w'.heap[lam s]? = w.heap[lam s]? := fun s cs hs => by
    refine hu.block _ (h.rel.loc s cs hs).2.lt ?_
    rintro ⟨x, hx, _⟩
    exact h.rel.apart s (by rw [hs]; simp) (List.mem_map.2 ⟨_, hx, rfl⟩)
  have hwr : ∀ b, wr st.heap b → D b ∨ N ≤ b := fun b ⟨x, hx, hw⟩ => (h.rel.blk b x hx).2.1 hw
  refine ⟨⟨⟨h.rel.tmp, h.rel.known, fun s cs hs => ⟨(h.rel.loc s cs hs).1, (h.rel.loc s cs hs).2.of_block (hloc s cs hs)⟩, h.rel.linj, fun b x hb => ⟨hH.1 b x hb, fun hw => ?_, ?_⟩, hH.2, fun s hs hm => ?_⟩,
    Nat.le_trans h.size hu.size, h.nt, fun r hr => ⟨(h.marks r hr).1, hu.defr r _ (h.marks r hr).2⟩, h.once⟩, ?_⟩
  · rcases (hk b x hb).1 hw with h1 | h1
    · exact hwr b h1
    · exact .inr (Nat.le_trans h.size h1)
  · rcases (hk b x hb).2 with h1 | h1
    · obtain ⟨⟨b2, x2⟩, hb2, rfl⟩ := List.mem_map.1 h1
      exact (h.rel.blk _ x2 hb2).2.2
    · exact .inr (Nat.le_trans h.size h1)
  · obtain ⟨⟨b, x⟩, hb, rfl⟩ := List.mem_map.1 hm
    rcases (hk _ x hb).2 with h1 | h1
    · exact h.rel.apart s hs h1
    · cases hc : st.locs s with
      | none => exact hs hc
      | some cs => have h2 : lam s < w.heap.size := (h.rel.loc s cs hc).2.lt; have h3 : w.heap.size ≤ lam s := h1; omega
  · refine ⟨hu.os, hu.tape, hu.output, hu.size, fun b hb hd => hu.block b (Nat.lt_of_lt_of_le hb h.size) ?_, hu.defr⟩
    intro hw
    rcases hwr b hw with h1 | h1
    · exact hd h1
    · omega

theorem below_upd {w w' : World} (h : Below w.heap.size w w') (N : Nat) (hN : N ≤ w.heap.size) (D : Nat → Prop) : Upd N D w w' :=
  ⟨h.os, h.tape, h.output, h.size, fun b hb _ => h.block b (by omega), fun b ds hd => (h.block b (Array.getElem?_eq_some_iff.1 hd).1).trans hd⟩

theorem Sit.below (h : Sit N D E nt st tmps rs w lam) {w' : World} (hb : Below w.heap.size w w') : Sit N D E nt st tmps rs w' lam :=
  ⟨h.rel.upd_world hb.block, Nat.le_trans h.size hb.size, h.nt, (below_upd hb N h.size D).marks h.marks, h.once⟩

theorem built_run {cx : Cx} {b : Builtin} {c : Call} {o : Oper} {ρ : Operand → Value} {vs : List Value} {v : Value} (ho : o.op = .call c) (hc : c.callee = .builtin b)
    (ha : c.args.map ρ = vs.toArray) (h : builtF cx.P b c.argTypes.toList vs = some v) : (execOp ρ o).run cx.P w = .ok (.value v) w := by
  simp only [execOp, ho, Sem.run_bind, resolve, hc, ha, Sem.run_pure, Result.andThen_ok, invoke]
  unfold builtF at h
  have hts : c.argTypes = c.argTypes.toList.toArray := by simp
  split at h
  · rename_i t x ht
    rw [hts, ht]
    unfold lenC at h
    split at h
    · rename_i n a m hl
      obtain ⟨e, hu, _⟩ := arrOf_spec hl
      cases h
      simp [builtin, Builtin.len_, run_underlying hu w, goInt]
    · split at h
      · rename_i a p n cap hl hs
        obtain ⟨e, hu, _⟩ := slcOf_spec hs
        cases h
        simp [builtin, Builtin.len_, run_underlying hu w, goInt]
      · cases h
  · rename_i k a k' b'
    split at h
    · rename_i hk; subst hk; cases h
      simp [builtin, Builtin.min_, Builtin.min2]
    · cases h
  · rename_i k a k' b'
    split at h
    · rename_i hk; subst hk; cases h
      simp [builtin, Builtin.max_, Builtin.max2]
    · cases h
  · rename_i k a k' b' k'' c'
    split at h
    · rename_i hk; obtain ⟨rfl, rfl⟩ := hk; cases h
      simp [builtin, Builtin.min_, Builtin.min2]
    · cases h
  · rename_i k a k' b' k'' c'
    split at h
    · rename_i hk; obtain ⟨rfl, rfl⟩ := hk; cases h
      simp [builtin, Builtin.max_, Builtin.max2]
    · cases h
  · cases h

theorem oK_some {α : Type} {x : Option α} {k : α → Prop} (h : oK x k) : ∃ a, x = some a ∧ k a := by
  cases x with
  | none => exact h.elim
  | some a => exact ⟨a, rfl, h⟩

/-- One operation of a region, carried out. -/
theorem evOp_sound {cx : Cx} {o : Oper} {kk : TV → St → Prop} (h : evOp cx o st kk) (hs : Sit N D E nt st tmps rs w lam) {ops : Array Oper} {i : Nat} (ho : ops[i]? = some o)
    (hw : Region.wanted o (yielded ops tmps) = true) (hd : dstOk nt o = true) (b : Frame) (rest : List Nat) (k : List Item) (cs : List Frame) :
    ∃ tv st' tmps' w' lam', kk tv st' ∧ Sit N D E nt (st'.put o.dst tv) tmps' rs w' lam' ∧ Upd N D w w' ∧
      Steps cx.P (lone (mk b tmps (rs.map mark) (.inRegion ops (i :: rest) :: k)) cs w) (lone (mk b tmps' (rs.map mark) (.inRegion ops rest :: k)) cs w') := by
  have plain : ∀ r, opF cx o.op o.dst st = some r → (∀ c, o.op ≠ .defer c) → kk r.1 r.2 → ∃ tv st' tmps' w' lam', kk tv st' ∧ Sit N D E nt (st'.put o.dst tv) tmps' rs w' lam' ∧ Upd N D w w' ∧
      Steps cx.P (lone (mk b tmps (rs.map mark) (.inRegion ops (i :: rest) :: k)) cs w) (lone (mk b tmps' (rs.map mark) (.inRegion ops rest :: k)) cs w') := by
    rintro ⟨tv, st'⟩ e hdf hk
    obtain ⟨v, w', lam', hr, ht, hkn, hR, hU⟩ := opF_sound hs.rel hs.size e
    have hS : Sit N D E nt st' tmps rs w' lam' := ⟨hR, Nat.le_trans hs.size hU.size, hs.nt, hU.marks hs.marks, hs.once⟩
    exact ⟨tv, st', _, w', lam', hk, hS.put (dst_lt hd hs.nt) ht hkn, hU, .one (st_op_val ho hw hdf hr)⟩
  unfold evOp at h
  split at h
  · rename_i c hop
    have hdf : ∀ c, o.op ≠ .defer c := fun c' => by rw [hop]; simp
    unfold evCall at h
    split at h
    · rename_i f hc
      unfold evFunc at h
      split at h
      · rename_i g first captured args hf ha
        have hfv := hs.rel.val hf
        have hav := getAll_arr hs.rel ha
        split at h
        · obtain ⟨v, hp, hk⟩ := oK_some h
          have hP := pureF_of hp
          have hr := callValue_run (w := w) hop hc (first := first.toList) (captured := captured.toList) (by simpa using hfv) hav hP.1
          obtain ⟨e, w', fr, ⟨he, hb⟩, hst, _, hl⟩ := hP.2 w (mk b tmps (rs.map mark) (.inRegion ops (i :: rest) :: k) :: cs)
          subst he
          exact ⟨.val v, st, _, w', lam, hk, (hs.below hb).put (dst_lt hd hs.nt) rfl (fun s off e => by cases e), below_upd hb N hs.size D, st_op_call ho hw hdf hr hst hl⟩
        · have hr := callValue_run (w := w) hop hc (first := first.toList) (captured := captured.toList) (by simpa using hfv) hav h.1
          obtain ⟨e, w', fr, ⟨v, H', he, hk, hH, hkeys, hU⟩, hst, _, hl⟩ := h.2 w (HRel.of_rel hs.rel) (mk b tmps (rs.map mark) (.inRegion ops (i :: rest) :: k) :: cs)
          subst he
          obtain ⟨hS, hU'⟩ := hs.called hH hkeys hU
          exact ⟨.val v, _, _, w', lam, hk, hS.put (dst_lt hd hs.nt) rfl (fun s off e => by cases e), hU', st_op_call ho hw hdf hr hst hl⟩
      · exact h.elim
    · rename_i bi hc
      obtain ⟨v, hv, hk⟩ := oK_some h
      cases ha : getAll st c.args with
      | none => rw [ha] at hv; cases hv
      | some vs =>
        rw [ha] at hv
        have hr := built_run (w := w) hop hc (getAll_arr hs.rel ha) hv
        exact ⟨.val v, st, _, w, lam, hk, hs.put (dst_lt hd hs.nt) rfl (fun s off e => by cases e), Upd.refl _ _ _, .one (st_op_val ho hw hdf (.inl hr))⟩
    · exact h.elim
  · rename_i op hne
    obtain ⟨r, hr, hk⟩ := oK_some h
    refine plain r hr ?_ hk
    intro c hc
    rw [hc] at hr
    cases hr

theorem yielded_guard (h : Rel N D E st tmps w lam) (ops : Array Oper) (j : Nat) : ∀ {x : TV}, guardT ops.toList st j = x → (∀ bb, x = .val (.bool bb) → yielded ops tmps j = some bb) ∧ (∀ vs, x = .val (.tuple vs) → yielded ops tmps j = none) := by
  intro x hx
  unfold guardT at hx
  have e : ops.toList[j]? = ops[j]? := by simp
  rw [e] at hx
  have hget : ∀ d, tmps[d]? = none ∨ tmps[d]? = some (tmps.getD d undef) := fun d => by
    by_cases hlt : d < tmps.size
    · right; simp [hlt]
    · left; simp; omega
  constructor
  · rintro bb rfl
    split at hx
    · rename_i d hd
      have hv : tmps.getD d undef = .bool bb := by have := h.tmp d; rw [hx] at this; exact this
      unfold yielded
      rw [hd]
      rcases hget d with h0 | h0
      · have : tmps.getD d undef = undef := by simp [h0]
        rw [this] at hv; cases hv
      · simp only [Option.bind_some, h0, hv]
    · cases hx
  · rintro vs rfl
    split at hx
    · rename_i d hd
      have hv : tmps.getD d undef = .tuple vs := by have := h.tmp d; rw [hx] at this; exact this
      unfold yielded
      rw [hd]
      rcases hget d with h0 | h0
      · simp only [Option.bind_some, h0]
      · simp only [Option.bind_some, h0, hv]
    · cases hx

/-- Operations of a region in the order of the text. -/
theorem evOps_sound {cx : Cx} {ops : Array Oper} (hok : ops.toList.all (dstOk nt) = true) : ∀ (l : List Oper) (i : Nat) (st : St) (K : St → Prop) (tmps : Array Value) (w : World) (lam : Nat → Nat),
    ops.toList.drop i = l → evOps cx ops.toList l st K → Sit N D E nt st tmps rs w lam → ∀ (b : Frame) (k : List Item) (cs : List Frame),
    ∃ st' tmps' w' lam', K st' ∧ Sit N D E nt st' tmps' rs w' lam' ∧ Upd N D w w' ∧
      Steps cx.P (lone (mk b tmps (rs.map mark) (.inRegion ops ((List.range' i l.length)) :: k)) cs w) (lone (mk b tmps' (rs.map mark) k) cs w') := by
  intro l
  induction l with
  | nil =>
    intro i st K tmps w lam _ h hs b k cs
    exact ⟨st, tmps, w, lam, h, hs, Upd.refl _ _ _, .one st_region_end⟩
  | cons o l ih =>
    intro i st K tmps w lam hl h hs b k cs
    have hi : ops.toList[i]? = some o := by
      have := congrArg (fun x => x[0]?) hl
      simpa using this
    have ho : ops[i]? = some o := by simpa using hi
    have hl' : ops.toList.drop (i + 1) = l := by
      have := congrArg List.tail hl
      simpa using this
    have hd : dstOk nt o = true := List.all_eq_true.1 hok o (List.mem_of_getElem? hi)
    rw [List.length_cons, List.range'_succ]
    have doit : Region.wanted o (yielded ops tmps) = true → evOp cx o st (fun v st' => evOps cx ops.toList l (st'.put o.dst v) K) →
        ∃ st' tmps' w' lam', K st' ∧ Sit N D E nt st' tmps' rs w' lam' ∧ Upd N D w w' ∧
          Steps cx.P (lone (mk b tmps (rs.map mark) (.inRegion ops (i :: List.range' (i + 1) l.length) :: k)) cs w) (lone (mk b tmps' (rs.map mark) k) cs w') := by
      intro hw h
      obtain ⟨tv, st1, tmps1, w1, lam1, hk, hS, hU, hst⟩ := evOp_sound h hs ho hw hd b (List.range' (i + 1) l.length) k cs
      obtain ⟨st2, tmps2, w2, lam2, hK, hS2, hU2, hst2⟩ := ih (i + 1) _ K tmps1 w1 lam1 hl' hk hS b k cs
      exact ⟨st2, tmps2, w2, lam2, hK, hS2, hU.trans hU2, hst.trans hst2⟩
    have skip : Region.wanted o (yielded ops tmps) = false → evOps cx ops.toList l (st.put o.dst (.val undef)) K →
        ∃ st' tmps' w' lam', K st' ∧ Sit N D E nt st' tmps' rs w' lam' ∧ Upd N D w w' ∧
          Steps cx.P (lone (mk b tmps (rs.map mark) (.inRegion ops (i :: List.range' (i + 1) l.length) :: k)) cs w) (lone (mk b tmps' (rs.map mark) k) cs w') := by
      intro hw h
      obtain ⟨st2, tmps2, w2, lam2, hK, hS2, hU2, hst2⟩ := ih (i + 1) _ K _ w lam hl' h (hs.put (v := undef) (dst_lt hd hs.nt) rfl (fun s off e => by cases e)) b k cs
      exact ⟨st2, tmps2, w2, lam2, hK, hS2, hU2, .head (st_op_skip ho hw) hst2⟩
    unfold evOps at h
    split at h
    · rename_i hg
      exact doit (by simp [Region.wanted, hg]) h
    · rename_i j want hg
      have hy := yielded_guard hs.rel ops j rfl
      unfold evGuard at h
      split at h
      · rename_i bb hbb
        have hyb := hy.1 bb hbb
        split at h
        · rename_i hbw
          exact doit (by simp [Region.wanted, hg, hyb, hbw]) h
        · rename_i hbw
          exact skip (by simp [Region.wanted, hg, hyb, hbw]) h
      · rename_i vs hvs
        have hyn := hy.2 vs hvs
        exact skip (by simp [Region.wanted, hg, hyn]) h
      · exact h.elim
end

end Go.Z
