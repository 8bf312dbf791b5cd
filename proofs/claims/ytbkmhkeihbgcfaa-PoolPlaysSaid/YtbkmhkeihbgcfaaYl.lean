/-
  Steps of the machine, and one operation of a region carried out.
-/
import Derived.Test.YtbkmhkeihbgcfaaYk
set_option linter.unusedVariables false
set_option linter.unusedSimpArgs false
namespace Go.Y
open RowKit

section
variable {P : Program} {b : Frame} {tmps : Array Value} {ds : List Deferred} {k : List Item} {cs : List Frame} {w : World}

theorem mk_eval (todo : List Item) : (mk b tmps ds todo).eval = evalT tmps := by
  funext x; cases x <;> rfl

theorem st_skip : step P (lone (mk b tmps ds (.code .skip :: k)) cs w) = .next (lone (mk b tmps ds k) cs w) :=
  step_lone_go (by simp [stepG, stepG.exec, mk])
theorem st_label {l : Nat} : step P (lone (mk b tmps ds (.code (.label l) :: k)) cs w) = .next (lone (mk b tmps ds k) cs w) :=
  step_lone_go (by simp [stepG, stepG.exec, mk])
theorem st_inBlock {id : Nat} : step P (lone (mk b tmps ds (.inBlock id :: k)) cs w) = .next (lone (mk b tmps ds k) cs w) :=
  step_lone_go (by simp [stepG, stepG.exec, mk])
theorem st_inScope {c : Code} : step P (lone (mk b tmps ds (.inScope c :: k)) cs w) = .next (lone (mk b tmps ds k) cs w) :=
  step_lone_go (by simp [stepG, stepG.exec, mk])
theorem st_seq {x y : Code} : step P (lone (mk b tmps ds (.code (.seq x y) :: k)) cs w) = .next (lone (mk b tmps ds (.code x :: .code y :: k)) cs w) :=
  step_lone_go (by simp [stepG, stepG.exec, mk])
theorem st_block {id : Nat} {c : Code} : step P (lone (mk b tmps ds (.code (.block id c) :: k)) cs w) = .next (lone (mk b tmps ds (.code c :: .inBlock id :: k)) cs w) :=
  step_lone_go (by simp [stepG, stepG.exec, mk])
theorem st_scope {c : Code} : step P (lone (mk b tmps ds (.code (.scope c) :: k)) cs w) = .next (lone (mk b tmps ds (.code c :: .inScope c :: k)) cs w) :=
  step_lone_go (by simp [stepG, stepG.exec, mk])
theorem st_loop {c : Code} : step P (lone (mk b tmps ds (.code (.loop c) :: k)) cs w) = .next (lone (mk b tmps ds (.code c :: .inLoop c :: k)) cs w) :=
  step_lone_go (by simp [stepG, stepG.exec, mk])
theorem st_inLoop {c : Code} : step P (lone (mk b tmps ds (.inLoop c :: k)) cs w) = .next (lone (mk b tmps ds (.code c :: .inLoop c :: k)) cs w) :=
  step_lone_go (by simp [stepG, stepG.exec, mk])
theorem st_exit {id : Nat} {k' : List Item} (h : exitTo id k = some k') : step P (lone (mk b tmps ds (.code (.exit id) :: k)) cs w) = .next (lone (mk b tmps ds k') cs w) :=
  step_lone_go (by simp [stepG, stepG.exec, mk, h])
theorem st_cond {c : Operand} {x y : Code} {t : Bool} (h : evalT tmps c = .bool t) :
    step P (lone (mk b tmps ds (.code (.cond c x y) :: k)) cs w) = .next (lone (mk b tmps ds (.code (if t then x else y) :: k)) cs w) :=
  step_lone_go (by
    have e := congrFun (mk_eval (b := b) (tmps := tmps) (ds := ds) (.code (.cond c x y) :: k)) c
    rw [h] at e
    simp only [mk] at e
    simp [stepG, stepG.exec, mk, e])
theorem st_region {id : Nat} {ops : Array Oper} :
    step P (lone (mk b tmps ds (.code (.region id ops false) :: k)) cs w) = .next (lone (mk b tmps ds (.inRegion ops (List.range ops.size) :: k)) cs w) :=
  step_lone_go (by simp [stepG, stepG.exec, mk])
theorem st_region_end {ops : Array Oper} : step P (lone (mk b tmps ds (.inRegion ops [] :: k)) cs w) = .next (lone (mk b tmps ds k) cs w) :=
  step_lone_go (by simp [stepG, stepG.exec, mk])
theorem st_region_draw {id : Nat} {ops : Array Oper} :
    step P (lone (mk b tmps ds (.code (.region id ops true) :: k)) cs w) =
      .next (lone (mk b tmps ds (.inRegion ops (Region.schedule (P.follows .mixedOrders) ops (w.tape w.drawn (.order b.fn id))) :: k)) cs { w with drawn := w.drawn + 1 }) :=
  step_lone_go (by simp [stepG, stepG.exec, mk, choose, Sem.run, Question.forced, Question.cut])

variable {ops : Array Oper} {i : Nat} {rest : List Nat} {o : Oper}

def putV (tmps : Array Value) (dst : Option Nat) (v : Value) : Array Value :=
  match dst with
  | some d => tmps.setIfInBounds d v
  | none => tmps

theorem mk_finish (ho : ops[i]? = some o) (v : Value) : (mk b tmps ds (.inRegion ops (i :: rest) :: k)).finish v = mk b (putV tmps o.dst v) ds (.inRegion ops rest :: k) := by
  unfold Frame.finish mk putV
  simp only [ho, Option.bind_some]
  cases o.dst <;> rfl

theorem st_op_skip (ho : ops[i]? = some o) (h : Region.wanted o (yielded ops tmps) = false) :
    step P (lone (mk b tmps ds (.inRegion ops (i :: rest) :: k)) cs w) = .next (lone (mk b (putV tmps o.dst undef) ds (.inRegion ops rest :: k)) cs w) := by
  rw [← mk_finish ho]
  exact step_lone_go (by simp [stepG, stepG.exec, mk, ho, h])

theorem stG_op (ho : ops[i]? = some o) (hw : Region.wanted o (yielded ops tmps) = true) (hd : ∀ c, o.op ≠ .defer c) :
    stepG P true { frame := mk b tmps ds (.inRegion ops (i :: rest) :: k), callers := cs, status := .running, dying := none } w =
      stepG.apply P true (mk b tmps ds (.inRegion ops (i :: rest) :: k)) cs none (execOp (evalT tmps) o) w := by
  have he := mk_eval (b := b) (tmps := tmps) (ds := ds) (.inRegion ops (i :: rest) :: k)
  simp only [mk] at he
  simp only [stepG, stepG.exec, mk, ho, Option.map_some, hw, Option.getD_some, if_true, stepG.oper, Frame.oper?, he]
  split
  · rename_i l c h1 h2; exact absurd h2 (hd c)
  · rfl

theorem st_op_val (ho : ops[i]? = some o) (hw : Region.wanted o (yielded ops tmps) = true) (hd : ∀ c, o.op ≠ .defer c) {v : Value} {w' : World}
    (hr : (execOp (evalT tmps) o).run P w = .ok (.value v) w' ∨ ((execOp (evalT tmps) o).run P w = .ok .skip w' ∧ v = undef)) :
    step P (lone (mk b tmps ds (.inRegion ops (i :: rest) :: k)) cs w) = .next (lone (mk b (putV tmps o.dst v) ds (.inRegion ops rest :: k)) cs w') := by
  refine step_lone_go ?_
  rw [stG_op ho hw hd, ← mk_finish ho]
  rcases hr with hr | ⟨hr, rfl⟩
  · simp [stepG.apply, hr]
  · simp [stepG.apply, hr]

theorem st_op_enter (ho : ops[i]? = some o) (hw : Region.wanted o (yielded ops tmps) = true) (hd : ∀ c, o.op ≠ .defer c) {f : FuncId} {args : Array Value}
    (hr : (execOp (evalT tmps) o).run P w = .ok (.enter f args) w) :
    step P (lone (mk b tmps ds (.inRegion ops (i :: rest) :: k)) cs w) = .next (lone (Frame.enter P f args .normal) (mk b tmps ds (.inRegion ops (i :: rest) :: k) :: cs) w) :=
  step_lone_go (by rw [stG_op ho hw hd]; simp [stepG.apply, hr, mk])

theorem st_op_round (ho : ops[i]? = some o) (hw : Region.wanted o (yielded ops tmps) = true) (hd : ∀ c, o.op ≠ .defer c) {l : Nat} {f : FuncId} {tm : Array Value} {as bd : Code}
    (hr : (execOp (evalT tmps) o).run P w = .ok (.round l f tm as bd) w) :
    step P (lone (mk b tmps ds (.inRegion ops (i :: rest) :: k)) cs w) = .next (lone (Frame.round l f tm as bd .normal) (mk b tmps ds (.inRegion ops (i :: rest) :: k) :: cs) w) :=
  step_lone_go (by rw [stG_op ho hw hd]; simp [stepG.apply, hr, mk])
end

theorem callFunc_run {P : Program} {f : FuncId} (h : hasBody P f = true) (args : Array Value) (w : World) : (callFunc f args).run P w = .ok (.enter f args) w := by
  unfold hasBody at h
  cases hf : P.funcs[f]? with
  | none => rw [hf] at h; cases h
  | some fn =>
    rw [hf] at h
    simp only [Bool.and_eq_true, Bool.not_eq_true', Option.isSome_iff_exists] at h
    obtain ⟨⟨c, hc⟩, hn⟩ := h
    simp only [callFunc, Sem.run_bind, run_program, Result.andThen_ok, hf, hn, Bool.false_eq_true, if_false, hc, Option.isNone_some, Sem.run_pure]

theorem concL_app (lam : Lam) (l m : List AV) : concL lam (l ++ m) = concL lam l ++ concL lam m := by simp [concL_eq]

theorem callValue_run {P : Program} {ρ : Operand → Value} {o : Oper} {f : Operand} {cargs : Array Operand} {ts : Array TypeId} {g : FuncId} {first captured args : List Value} {w : World}
    (ho : o.op = .call ⟨.value f, cargs, ts⟩) (hf : ρ f = .func (.func g) first.toArray captured.toArray) (ha : cargs.map ρ = args.toArray) (hb : hasBody P g = true) :
    (execOp ρ o).run P w = .ok (.enter g (first ++ args ++ captured).toArray) w := by
  have := callFunc_run hb (first ++ args ++ captured).toArray w
  simp only [execOp, ho, Sem.run_bind, resolve, hf, ha, Deferred.ofValue, Sem.run_pure, Result.andThen_ok, invoke]
  simpa using this

theorem callYield_run {P : Program} {ρ : Operand → Value} {o : Oper} {f : Operand} {cargs : Array Operand} {ts : Array TypeId} {args : List Value} {w : World} {l : Nat} {r : Loop}
    (ho : o.op = .call ⟨.value f, cargs, ts⟩) (hf : ρ f = .func (.yield l) #[] #[]) (ha : cargs.map ρ = args.toArray) (hl : w.heap[l]? = some (.loop r)) (hn : args.length = r.params.size) :
    (execOp ρ o).run P w = .ok (.round l r.fn ((r.params.zip args.toArray).foldl (fun tmps (t, a) => tmps.setIfInBounds t a) r.tmps) r.assign r.body) w := by
  simp [execOp, ho, resolve, hf, ha, Deferred.ofValue, invoke, Instr.yield, Instr.getLoop, getObj, Sem.run, hl, hn]

section
variable {P : Program} {N : Nat} {D : Nat → Prop} {nt : Nat} {st : St} {tmps : Array Value} {rs : List Nat} {w : World} {lam : Lam}

def dstOk (nt : Nat) (o : Oper) : Bool :=
  match o.dst with
  | some d => decide (d < nt)
  | none => true

theorem dst_lt {o : Oper} (h : dstOk nt o = true) : ∀ d, o.dst = some d → d < nt := by
  intro d hd
  unfold dstOk at h
  rw [hd] at h
  simpa using h

theorem putV_size (tmps : Array Value) (dst : Option Nat) (v : Value) : (putV tmps dst v).size = tmps.size := by
  cases dst <;> simp [putV]

theorem TRel.put {n : Nat} {T : Sl} (h : TRel lam n T tmps) {dst : Option Nat} {v : AV} (hd : ∀ d, dst = some d → d < tmps.size) (hv : v.ok lam n) : TRel lam n (putT T dst v) (putV tmps dst (v.conc lam)) := by
  intro t u hu
  rw [getT_put] at hu
  cases dst with
  | none => simp at hu; exact h t u hu
  | some d =>
    simp only [Option.some.injEq] at hu
    split at hu
    · rename_i e
      subst e
      cases hu
      have := hd d rfl
      exact ⟨by simp [putV, this], hv⟩
    · rename_i e
      obtain ⟨h1, h2⟩ := h t u hu
      refine ⟨?_, h2⟩
      rw [← h1]
      simp [putV, Array.getElem?_setIfInBounds_ne e]

theorem Upd.marks {w' : World} (hu : Upd N D w w') (h : ∀ r, r ∈ rs → N ≤ r ∧ w.heap[r]? = some (.deferred (some []))) :
    ∀ r, r ∈ rs → N ≤ r ∧ w'.heap[r]? = some (.deferred (some [])) := fun r hr => ⟨(h r hr).1, hu.defr r _ (h r hr).2⟩

/-- The state behind an operation. -/
theorem Sit.next (h : Sit N D nt st tmps rs w lam) {w' : World} {lam' : Lam} {H' : Hp} {n' : Nat} {dst : Option Nat} {v : AV} (hd : ∀ d, dst = some d → d < nt) (hv : v.ok lam' n') (hH : HSit N D lam' H' n' w')
    (hU : Upd N D w w') (ha : agree st.n lam lam') (hn : st.n ≤ n') : Sit N D nt ⟨putT st.T dst v, H', n'⟩ (putV tmps dst (v.conc lam')) rs w' lam' :=
  ⟨(h.tmp.mono ha hn).put (by rw [h.nt]; exact hd) hv, hH, Nat.le_trans h.size hU.size, by rw [putV_size, h.nt], hU.marks h.marks, h.once⟩

theorem setTree_writes {v : AV} {e e' : Ent} (h : e.setTree v = some e') : e'.writes = true := by
  cases e with
  | cel u => cases h; rfl
  | vec cap m l =>
    cases v with
    | rows n l' =>
      simp only [Ent.setTree] at h
      split at h
      · cases h; rfl
      · cases h
    | _ => cases h
  | _ => cases h
theorem storeA_keys {l : Option (Bool × Nat)} {x v : AV} {H H' : Hp} {n : Nat} (hn : (H.map (·.1)).Nodup) (h : storeA l x v H = some H') : KeyS H n H' := by
  unfold storeA at h
  split at h
  · rename_i k i p
    split at h
    · split at h
      · rename_i e u q hpt
        have hg : hget k H = some e := by
          simp only [ptrTree] at hpt
          split at hpt
          · rename_i e' he
            split at hpt
            · cases hpt; exact he
            · cases hpt
          · cases hpt
        unfold storeB at h
        split at h
        · split at h
          · rename_i e' he
            cases h
            exact KeyS.set hn hg (setTree_writes he)
          · cases h
        · cases h
      · cases h
    · cases h
  · cases h

/-- The effects are the machine's own. -/
theorem opE_run (h : Sit N D nt st tmps rs w lam) {o : Oper} {v : AV} {H' : Hp} (e : opE P o.op st.T st.H = some (v, H')) :
    ∃ w' u, ((execOp (evalT tmps) o).run P w = .ok (.value u) w' ∨ ((execOp (evalT tmps) o).run P w = .ok .skip w' ∧ u = undef)) ∧ u = v.conc lam ∧ v.ok lam st.n ∧ HSit N D lam H' st.n w' ∧ Upd N D w w' ∧ KeyS st.H st.n H' := by
  unfold opE at e
  split at e
  · rename_i t a x hop
    obtain ⟨p, u, hp, hu, e⟩ := both_some e
    obtain ⟨H2, hs, he⟩ := Option.map_eq_some_iff.1 e
    cases he
    obtain ⟨h1, h2⟩ := getO_spec h.tmp hp
    obtain ⟨h3, h4⟩ := getO_spec h.tmp hu
    obtain ⟨w', hr, hH, hU⟩ := store_run (P := P) h.heap h2 h4 hs
    refine ⟨w', undef, .inr ⟨?_, rfl⟩, by simp [AV.conc, concL, undef], by simp [AV.ok, okL], hH, hU, storeA_keys h.heap.nd hs⟩
    simp only [execOp, hop, h1, h3, Sem.run_bind, hr, Result.andThen_ok, Sem.run_pure]
  · cases e

theorem oK_some {α : Type} {x : Option α} {k : α → Prop} (h : oK x k) : ∃ a, x = some a ∧ k a := by
  cases x with
  | none => exact h.elim
  | some a => exact ⟨a, rfl, h⟩

theorem After.mono {P : Program} {N : Nat} {D : Nat → Prop} {n : Nat} {lam : Lam} {H : Hp} {w : World} {Q Q' : AV → Hp → Nat → Prop} {v' : Value} {w' : World} (h : After N D n lam H w Q v' w') (hq : ∀ v H' n', Q v H' n' → Q' v H' n') : After N D n lam H w Q' v' w' := by
  obtain ⟨v, H', n', lam', h1, h2, rest⟩ := h
  exact ⟨v, H', n', lam', h1, hq _ _ _ h2, rest⟩
theorem Ends.rets {P : Program} {f : FuncId} {args : Array Value} {w : World} {R : Value → World → Prop} (h : Ends P f args w R) : Rets P (Frame.enter P f args .normal) w R := by
  intro caller cs
  obtain ⟨v, w', fr, hR, hst, _, hl⟩ := h (caller :: cs)
  exact ⟨v, w', hR, hst.trans (.one (step_leave_returned hl))⟩
theorem callA_mono {P : Program} {f : FuncId} {args : List AV} {H : Hp} {n : Nat} {Q Q' : AV → Hp → Nat → Prop} (h : callA P f args H n Q) (hq : ∀ v H' n', Q v H' n' → Q' v H' n') : callA P f args H n Q' := by
  refine ⟨h.1, fun N D w lam hH hN ha cs => ?_⟩
  obtain ⟨v, w', fr, hA, hst⟩ := h.2 N D w lam hH hN ha cs
  exact ⟨v, w', fr, After.mono (P := P) hA hq, hst⟩
theorem roundA_mono {P : Program} {L : Nat} {args : List AV} {H : Hp} {n : Nat} {Q Q' : AV → Hp → Nat → Prop} (h : roundA P L args H n Q) (hq : ∀ v H' n', Q v H' n' → Q' v H' n') : roundA P L args H n Q' := by
  obtain ⟨r, hr, hl, h⟩ := h
  refine ⟨r, hr, hl, fun N D w lam b o l hH hN ha hlam hheap caller cs => ?_⟩
  obtain ⟨v, w', hA, hst⟩ := h N D w lam b o l hH hN ha hlam hheap caller cs
  exact ⟨v, w', After.mono (P := P) hA hq, hst⟩

theorem lrec_facts (hH : HSit N D lam st.H st.n w) {L : Nat} {r : LRec} (h : hget L st.H = some (.lp r)) : ∃ b o l, lam L 0 = some (b, o) ∧ w.heap[b]? = some (.loop l) ∧ l.fn = r.fn ∧ l.params = r.ps.toArray ∧ l.assign = r.assign ∧ l.body = r.body := by
  obtain ⟨b, o, l, h1, h2, h3, h4, h5, h6, _⟩ := hH.has L _ (hget_mem h)
  exact ⟨b, o, l, h1, h2, h3, h4, h5, h6⟩

theorem callExt_run {P : Program} {ρ : Operand → Value} {o : Oper} {f : Operand} {cargs : Array Operand} {ts : Array TypeId} {g : FuncId} {first captured args : List Value} {w : World}
    (ho : o.op = .call ⟨.value f, cargs, ts⟩) (hf : ρ f = .func (.func g) first.toArray captured.toArray) (ha : cargs.map ρ = args.toArray) :
    (execOp ρ o).run P w = (callFunc g (first ++ args ++ captured).toArray).run P w := by
  simp only [execOp, ho, Sem.run_bind, resolve, hf, ha, Deferred.ofValue, Sem.run_pure, Result.andThen_ok, invoke]
  simp
/-- Other operations. -/
theorem opX_run (h : Sit N D nt st tmps rs w lam) {o : Oper} {K : AV → Hp → Nat → Prop} (e : opX P o.op st.T st.H st.n K) :
    ∃ v H' n' w' lam' u, ((execOp (evalT tmps) o).run P w = .ok (.value u) w' ∨ ((execOp (evalT tmps) o).run P w = .ok .skip w' ∧ u = undef)) ∧ u = v.conc lam' ∧ K v H' n' ∧ v.ok lam' n' ∧ st.n ≤ n' ∧ HSit N D lam' H' n' w' ∧ Upd N D w w' ∧ agree st.n lam lam' ∧ KeyS st.H st.n H' ∧ ∀ c, o.op ≠ .defer c := by
  have hg : ∀ {x : Operand} {v : AV}, getO st.T x = some v → evalT tmps x = v.conc lam ∧ v.ok lam st.n := fun hx => getO_spec h.tmp hx
  have hu0 : undef = (AV.tup []).conc lam := by simp [AV.conc, concL, undef]
  unfold opX at e
  split at e
  · rename_i t m x y hop
    obtain ⟨H', hb, hK⟩ := oK_some e
    obtain ⟨m', xy, hm, hxy, hb⟩ := both_some hb
    obtain ⟨x', y', hx, hy, e2⟩ := both_some hxy
    cases e2
    obtain ⟨a1, a2⟩ := hg hm
    obtain ⟨a3, a4⟩ := hg hx
    obtain ⟨a5, a6⟩ := hg hy
    obtain ⟨w', hr, hH, hU, hk⟩ := upd_run (P := P) h.heap a4 a6 hb
    refine ⟨_, _, _, w', lam, undef, .inr ⟨?_, rfl⟩, hu0, hK, by simp [AV.ok, okL], Nat.le_refl _, hH, hU, agree.refl _ _, hk, fun c => by rw [hop]; simp⟩
    simp only [execOp, hop, a1, a3, a5, Sem.run_bind, hr, Result.andThen_ok, Sem.run_pure]
  · rename_i t x hop
    unfold rangeO at e
    split at e
    · rename_i k hx
      obtain ⟨a1, a2⟩ := hg hx
      obtain ⟨ht, e⟩ := e
      obtain ⟨m, hm, hK⟩ := oK_some e
      obtain ⟨s, w', lam', hr, hok, hH, hU, hag, hk⟩ := range_run (P := P) h.heap h.size ht hm
      refine ⟨_, _, _, w', lam', _, .inl ?_, rfl, hK s, hok, Nat.le_succ _, hH, hU, hag, hk, fun c => by rw [hop]; simp⟩
      simp only [execOp, hop, a1, Sem.run_bind, hr, Result.andThen_ok, Sem.run_pure]
    · exact e.elim
  · rename_i x hop
    unfold iterO at e
    split at e
    · rename_i it hx
      obtain ⟨a1, a2⟩ := hg hx
      unfold nextO at e
      split at e
      · rename_i s seen k hit
        split at e
        · rename_i s' m hlk
          obtain ⟨rfl, e⟩ := e
          obtain ⟨v, H', w', hr, hok, hH, hU, hk, hc⟩ := next_run (P := P) (ty := o.type) h.heap hit hlk
          refine ⟨v, H', st.n, w', lam, _, .inl ?_, rfl, ?_, hok, Nat.le_refl _, hH, hU, agree.refl _ _, hk, fun c => by rw [hop]; simp⟩
          · simp only [execOp, hop, a1, Sem.run_bind, hr, Result.andThen_ok, Sem.run_pure]
          · rcases hc with ⟨i, q, h1, h2, rfl, rfl⟩ | ⟨h1, rfl, rfl⟩
            · exact e.1 i q h1 h2
            · exact e.2 h1
        · exact e.elim
      · exact e.elim
    · exact e.elim
  · rename_i x hop
    unfold iterO at e
    split at e
    · rename_i it hx
      obtain ⟨a1, a2⟩ := hg hx
      unfold entryO at e
      split at e
      · rename_i s seen k hit
        split at e
        · rename_i s' m hlk
          obtain ⟨rfl, e⟩ := e
          obtain ⟨q, hq, hK⟩ := oK_some e
          obtain ⟨hr, hok⟩ := entry_run (P := P) h.heap hit hlk hq
          refine ⟨_, _, _, w, lam, _, .inl ?_, rfl, hK, hok, Nat.le_refl _, h.heap, Upd.refl _ _ _, agree.refl _ _, KeyS.refl _ _, fun c => by rw [hop]; simp⟩
          simp only [execOp, hop, a1, Sem.run_bind, hr, Result.andThen_ok, Sem.run_pure]
        · exact e.elim
      · exact e.elim
    · exact e.elim
  · rename_i args ts hop
    split at e
    · rename_i x t hvs hts
      obtain ⟨H', hb, hK⟩ := oK_some e
      have hav := getOs_arr h.tmp hvs
      obtain ⟨w', hr, hH, hU, hk⟩ := clear_run (P := P) (ty := o.type) h.heap hb
      have hts' : ts = #[t] := by
        apply Array.ext'; simpa using hts
      refine ⟨_, _, _, w', lam, .tuple #[], .inl ?_, by simp [AV.conc, concL], hK, by simp [AV.ok, okL], Nat.le_refl _, hH, hU, agree.refl _ _, hk, fun c => by rw [hop]; simp⟩
      simp only [execOp, hop, Sem.run_bind, resolve, Sem.run_pure, Result.andThen_ok, invoke, hav, hts', builtin, concL]
      rw [hr]
      rfl
    · exact e.elim
  · rename_i args ts hop
    split at e
    · rename_i x y t u hvs hts
      split at e
      · rename_i a m hs
        obtain ⟨r, hb, hK⟩ := oK_some e
        obtain ⟨v, H'⟩ := r
        have hav := getOs_arr h.tmp hvs
        have haok := (getOs_spec h.tmp hvs).2
        simp only [okL] at haok
        obtain ⟨el, ht, hl⟩ := slcOf_spec hs
        obtain ⟨w', hr, hok, hH, hU, hk⟩ := copy_run (P := P) (u := u) (ty := o.type) h.heap ht hl haok.1 haok.2.1 hb
        have hts' : ts = #[t, u] := by
          apply Array.ext'; simpa using hts
        refine ⟨_, _, _, w', lam, _, .inl ?_, rfl, hK, hok, Nat.le_refl _, hH, hU, agree.refl _ _, hk, fun c => by rw [hop]; simp⟩
        simp only [execOp, hop, Sem.run_bind, resolve, Sem.run_pure, Result.andThen_ok, invoke, hav, hts', builtin, concL]
        rw [hr]
        rfl
      · exact e.elim
    · exact e.elim
  · exact e.elim

/-- One operation of a region, whatever is deferred. -/
theorem evOp_run {cx : Cx} (hpu : PuOk cx) {o : Oper} {kk : AV → St → Prop} (h : evOp cx o.op st kk) (hs : Sit N D nt st tmps [] w lam) {ops : Array Oper} {i : Nat} (ho : ops[i]? = some o)
    (hw : Region.wanted o (yielded ops tmps) = true) (hd : dstOk nt o = true) (b : Frame) (ds : List Deferred) (rest : List Nat) (k : List Item) (cs : List Frame) :
    ∃ v st' tmps' w' lam', kk v st' ∧ Sit N D nt ⟨putT st'.T o.dst v, st'.H, st'.n⟩ tmps' [] w' lam' ∧ st'.T = st.T ∧ st.n ≤ st'.n ∧ Upd N D w w' ∧ agree st.n lam lam' ∧ KeyS st.H st.n st'.H ∧
      Steps cx.P (lone (mk b tmps ds (.inRegion ops (i :: rest) :: k)) cs w) (lone (mk b tmps' ds (.inRegion ops rest :: k)) cs w') := by
  have hdl := dst_lt hd
  unfold evOp at h
  split at h
  · rename_i f args ts hop
    have hdf : ∀ c, o.op ≠ .defer c := fun c' => by rw [hop]; simp
    obtain ⟨fa, hfa, hk⟩ := oK_some h
    obtain ⟨fv, av, hf, ha, e⟩ := both_some hfa
    cases e
    obtain ⟨hfv, hfok⟩ := getO_spec hs.tmp hf
    have hav := getOs_arr hs.tmp ha
    have haok := (getOs_spec hs.tmp ha).2
    have hcase : (∃ g first captured, fv = .fn (.func g) first captured) ∨ ∃ L, fv = .yld L := by
      cases fv with
      | fn f a b => cases f <;> first | exact hk.elim | exact .inl ⟨_, _, _, rfl⟩
      | yld L => exact .inr ⟨L, rfl⟩
      | _ => exact hk.elim
    rcases hcase with ⟨g, first, captured, rfl⟩ | ⟨L, rfl⟩
    · simp only [AV.ok] at hfok
      have hk2 : callA cx.P g (first ++ av ++ captured) st.H st.n (fun v H' n' => kk v ⟨st.T, H', n'⟩) ∨ ∃ v, ExtA cx.P g (first ++ av ++ captured) st.H v ∧ kk v ⟨st.T, st.H, st.n⟩ := by
        simp only [evCall] at hk
        unfold evFn at hk
        split at hk
        · rename_i s hs
          obtain ⟨v, hv, hk⟩ := oK_some hk
          rcases hpu g s hs _ _ v hv with hp | hx
          · refine .inl (callA_mono (hp st.H st.n) ?_)
            rintro v' H' n' ⟨rfl, rfl, rfl⟩
            exact hk
          · exact .inr ⟨v, hx, hk⟩
        · exact .inl hk
      clear hk
      rcases hk2 with hk | ⟨v, hx, hk⟩
      rotate_left
      · have hargs : okL lam st.n (first ++ av ++ captured) := okL_app.2 ⟨okL_app.2 ⟨hfok.1, haok⟩, hfok.2.1⟩
        obtain ⟨hr, hvok⟩ := hx N D w lam st.n hs.heap hargs
        have hr2 := callExt_run (P := cx.P) (w := w) hop (g := g) (first := concL lam first) (captured := concL lam captured) (by rw [hfv]; simp [AV.conc]) hav
        rw [concL_app, concL_app] at hr
        exact ⟨v, ⟨st.T, st.H, st.n⟩, _, w, lam, hk, hs.next hdl hvok hs.heap (Upd.refl _ _ _) (agree.refl _ _) (Nat.le_refl _), rfl, Nat.le_refl _, Upd.refl _ _ _, agree.refl _ _, KeyS.refl _ _, .one (st_op_val ho hw hdf (.inl (hr2.trans hr)))⟩
      have hargs : okL lam st.n (first ++ av ++ captured) := okL_app.2 ⟨okL_app.2 ⟨hfok.1, haok⟩, hfok.2.1⟩
      have hr := callValue_run (P := cx.P) (w := w) hop (g := g) (first := concL lam first) (captured := concL lam captured) (by rw [hfv]; simp [AV.conc]) hav hk.1
      obtain ⟨v', w', ⟨v, H', n', lam', hv, hq, hn, hvok, hH, hU, hag, hkey⟩, hst⟩ := (hk.2 N D w lam hs.heap hs.size hargs).rets (mk b tmps ds (.inRegion ops (i :: rest) :: k)) cs
      rw [concL_app, concL_app] at hst
      subst hv
      refine ⟨v, ⟨st.T, H', n'⟩, _, w', lam', hq, hs.next hdl hvok hH hU hag hn, rfl, hn, hU, hag, hkey, .head (st_op_enter ho hw hdf hr) ?_⟩
      rw [← mk_finish ho]
      exact hst
    · obtain ⟨r, hL, hlen, hk⟩ := hk
      obtain ⟨bl, off, l, h1, h2, h3, h4, h5, h6⟩ := lrec_facts hs.heap hL
      have hr := callYield_run (P := cx.P) (w := w) hop (l := bl) (args := concL lam av) (by rw [hfv]; simp [AV.conc, h1, yldV]) hav h2 (by rw [h4]; simp [concL_eq, hlen])
      obtain ⟨v', w', ⟨v, H', n', lam', hv, hq, hn, hvok, hH, hU, hag, hkey⟩, hst⟩ := hk N D w lam bl off l hs.heap hs.size haok h1 h2 (mk b tmps ds (.inRegion ops (i :: rest) :: k)) cs
      subst hv
      refine ⟨v, ⟨st.T, H', n'⟩, _, w', lam', hq, hs.next hdl hvok hH hU hag hn, rfl, hn, hU, hag, hkey, .head (st_op_round ho hw hdf hr) ?_⟩
      rw [← mk_finish ho, h3, h5, h6]
      exact hst
  · rename_i args ts hop
    have hdf : ∀ c, o.op ≠ .defer c := fun c' => by rw [hop]; simp
    split at h
    · rename_i x y t u hvs hts
      have hav := getOs_arr hs.tmp hvs
      have haok := (getOs_spec hs.tmp hvs).2
      simp only [okL] at haok
      have hts' : ts = #[t, u] := by
        apply Array.ext'; simpa using hts
      rcases h with h | h
      rotate_left
      · obtain ⟨r, hr, ⟨hroom, hgr⟩, hk⟩ := oK_some h
        obtain ⟨cp, sz, l, m⟩ := r
        obtain ⟨c, w', lam', hc, hrun, hvok, hH, hU, hag⟩ := append_keep (P := cx.P) (ty := o.type) hs.heap hs.size haok.1 haok.2.1 hr hroom hgr
        refine ⟨_, _, _, w', lam', hk c hc, hs.next (dst := o.dst) hdl hvok hH hU hag (by simp), rfl, by simp, hU, hag, (KeyS.refl _ _).cons rfl, .one (st_op_val ho hw hdf (.inl ?_))⟩
        simp only [execOp, hop, Sem.run_bind, resolve, Sem.run_pure, Result.andThen_ok, invoke, hav, hts', builtin, concL]
        rw [hrun]
        rfl
      obtain ⟨r, hr, hroom, hk⟩ := oK_some h
      obtain ⟨ko, sz, l, m⟩ := r
      obtain ⟨c, w', lam', hc, hrun, hvok, hH, hU, hag⟩ := append_run (P := cx.P) (ty := o.type) hs.heap hs.size haok.1 haok.2.1 hr hroom
      refine ⟨_, _, _, w', lam', hk c hc, hs.next (dst := o.dst) hdl hvok hH hU hag (by simp), rfl, by simp, hU, hag, (KeyS.sub (dropO_sub _ _)).cons rfl, .one (st_op_val ho hw hdf (.inl ?_))⟩
      simp only [execOp, hop, Sem.run_bind, resolve, Sem.run_pure, Result.andThen_ok, invoke, hav, hts', builtin, concL]
      rw [hrun]
      rfl
    · exact h.elim
  · rename_i hn1 hn2
    split at h
    · rename_i v hv
      obtain ⟨hr, hvok⟩ := opV_run (P := cx.P) hs.tmp hs.heap hv
      have hdf : ∀ c, o.op ≠ .defer c := fun c' e => by rw [e] at hv; cases hv
      exact ⟨v, st, _, w, lam, h, hs.next hdl hvok hs.heap (Upd.refl _ _ _) (agree.refl _ _) (Nat.le_refl _), rfl, Nat.le_refl _, Upd.refl _ _ _, agree.refl _ _, KeyS.refl _ _, .one (st_op_val ho hw hdf (.inl hr))⟩
    · split at h
      · rename_i v e hv
        obtain ⟨s, hs1, w', lam', hr, hvok, hH, hU, hkp, hbk, hwr⟩ := opN_run (P := cx.P) (Nat.lt_succ_self st.n) (Nat.le_succ st.n) (fun h => absurd h (Nat.lt_irrefl _)) hs.tmp hs.heap hs.size hv
        have hag : agree st.n lam lam' := ⟨hkp, fun k hk hb => by rcases hbk k hb with h | h; omega; exact h⟩
        have hdf : ∀ c, o.op ≠ .defer c := fun c' e => by rw [e] at hv; cases hv
        refine ⟨v, _, _, w', lam', h, hs.next hdl hvok hH hU hag (by simp), rfl, by simp, hU, hag, (KeyS.refl _ _).cons hwr, .one (st_op_val ho hw hdf (.inl ?_))⟩
        rw [hs1]
        simp only [Sem.run_bind, hr, Result.andThen_ok, Sem.run_pure]
      · split at h
        · rename_i v H' hv
          obtain ⟨w', u, hr, hu, hvok, hH, hU, hkey⟩ := opE_run (P := cx.P) hs hv
          have hdf : ∀ c, o.op ≠ .defer c := fun c' e => by rw [e] at hv; cases hv
          subst hu
          exact ⟨v, _, _, w', lam, h, hs.next hdl hvok hH hU (agree.refl _ _) (Nat.le_refl _), rfl, Nat.le_refl _, hU, agree.refl _ _, hkey, .one (st_op_val ho hw hdf hr)⟩
        · obtain ⟨v, H', n', w', lam', u, hr, hu, hK, hvok, hn, hH, hU, hag, hkey, hdf⟩ := opX_run (P := cx.P) hs h
          subst hu
          exact ⟨v, ⟨st.T, H', n'⟩, _, w', lam', hK, hs.next hdl hvok hH hU hag hn, rfl, hn, hU, hag, hkey, .one (st_op_val ho hw hdf hr)⟩

/-- **One operation of a region, carried out.** -/
theorem evOp_sound {cx : Cx} (hpu : PuOk cx) {o : Oper} {kk : AV → St → Prop} (h : evOp cx o.op st kk) (hs : Sit N D nt st tmps rs w lam) {ops : Array Oper} {i : Nat} (ho : ops[i]? = some o)
    (hw : Region.wanted o (yielded ops tmps) = true) (hd : dstOk nt o = true) (b : Frame) (rest : List Nat) (k : List Item) (cs : List Frame) :
    ∃ v st' tmps' w' lam', kk v st' ∧ Sit N D nt ⟨putT st'.T o.dst v, st'.H, st'.n⟩ tmps' rs w' lam' ∧ st'.T = st.T ∧ st.n ≤ st'.n ∧ Upd N D w w' ∧ agree st.n lam lam' ∧ KeyS st.H st.n st'.H ∧
      Steps cx.P (lone (mk b tmps (rs.map mark) (.inRegion ops (i :: rest) :: k)) cs w) (lone (mk b tmps' (rs.map mark) (.inRegion ops rest :: k)) cs w') := by
  obtain ⟨v, st', tmps', w', lam', h1, h2, h3, h4, h5, h6, h7, h8⟩ := evOp_run hpu h ⟨hs.tmp, hs.heap, hs.size, hs.nt, (fun r hr => by cases hr), List.nodup_nil⟩ ho hw hd b (rs.map mark) rest k cs
  exact ⟨v, st', tmps', w', lam', h1, ⟨h2.tmp, h2.heap, h2.size, h2.nt, h5.marks hs.marks, hs.once⟩, h3, h4, h5, h6, h7, h8⟩

end

end Go.Y
