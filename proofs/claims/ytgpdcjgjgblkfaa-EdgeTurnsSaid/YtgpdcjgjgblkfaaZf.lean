/-
  From the evaluator's word on a function's body to its contract: a call over named blocks; a function that only computes.
-/
import Derived.Test.YtgpdcjgjgblkfaaZh
set_option linter.unusedVariables false
set_option linter.unusedSimpArgs false
namespace Go.Z
open RowKit

theorem putObj_other {w : World} {r b : Nat} {o : Obj} (h : b ≠ r) : (w.putObj' r o).heap[b]? = w.heap[b]? := by
  simp [World.putObj', Array.getElem?_setIfInBounds_ne (Ne.symm h)]

def shutAll (rs : List Nat) (w : World) : World := rs.foldl (fun w r => w.putObj' r (.deferred none)) w

theorem shutAll_other : ∀ (rs : List Nat) (w : World) (b : Nat), b ∉ rs → (shutAll rs w).heap[b]? = w.heap[b]?
  | [], _, _, _ => rfl
  | r :: rs, w, b, h => by
    simp only [List.mem_cons, not_or] at h
    show (shutAll rs (w.putObj' r (.deferred none))).heap[b]? = _
    rw [shutAll_other rs _ b h.2, putObj_other h.1]

theorem shutAll_same : ∀ (rs : List Nat) (w : World), (shutAll rs w).os = w.os ∧ (shutAll rs w).tape = w.tape ∧ (shutAll rs w).output = w.output ∧ (shutAll rs w).heap.size = w.heap.size
  | [], _ => ⟨rfl, rfl, rfl, rfl⟩
  | r :: rs, w => by
    obtain ⟨h1, h2, h3, h4⟩ := shutAll_same rs (w.putObj' r (.deferred none))
    exact ⟨h1, h2, h3, by rw [show shutAll (r :: rs) w = shutAll rs (w.putObj' r (.deferred none)) from rfl, h4]; simp [World.putObj']⟩

theorem takeDeferred_run {P : Program} {w : World} {r : Nat} (h : w.heap[r]? = some (.deferred (some []))) : (Instr.takeDeferred r).run P w = .ok [] (w.putObj' r (.deferred none)) := by
  simp [Instr.takeDeferred, getObj, setObj, Sem.run, h, World.putObj']

theorem step_mark {P : Program} {fr : Frame} {cs : List Frame} {w w' : World} {r : Nat} {ds : List Deferred}
    (hm : fr.mode = .returning) (hd : fr.defers = mark r :: ds) (hk : (Instr.takeDeferred r).run P w = .ok [] w') :
    step P (lone fr cs w) = .next (lone { fr with defers := ds } cs w') := by
  refine step_lone_go ?_
  simp [stepG, unwind, hm, hd, mark, Sem.runT_eq, hk, GStep.bare_after]

theorem unwind_marks {P : Program} {cs : List Frame} : ∀ (rs : List Nat) (w : World) (fr : Frame), fr.mode = .returning → fr.defers = rs.map mark → (∀ r, r ∈ rs → w.heap[r]? = some (.deferred (some []))) → rs.Nodup →
    Steps P (lone fr cs w) (lone { fr with defers := [] } cs (shutAll rs w))
  | [], w, fr, hm, hd, _, _ => by
    have : { fr with defers := [] } = fr := by rw [show ([] : List Deferred) = fr.defers from hd.symm]
    rw [this]; exact .refl _ _
  | r :: rs, w, fr, hm, hd, h, hn => by
    simp only [List.nodup_cons] at hn
    have h1 := step_mark (P := P) (cs := cs) hm hd (takeDeferred_run (h r List.mem_cons_self))
    refine .head h1 (unwind_marks rs (w.putObj' r (.deferred none)) { fr with defers := rs.map mark } hm rfl (fun r' hr' => ?_) hn.2)
    rw [putObj_other (by rintro rfl; exact hn.1 hr')]
    exact h r' (List.mem_cons_of_mem _ hr')

theorem st_end {P : Program} {b : Frame} {tmps : Array Value} {ds : List Deferred} {cs : List Frame} {w : World} (hb : b.roundOf = none) :
    step P (lone (mk b tmps ds []) cs w) = .next (lone { mk b tmps ds [] with mode := .returning } cs w) :=
  step_lone_go (by simp [stepG, stepG.exec, mk, hb])
theorem st_ret {P : Program} {b : Frame} {tmps : Array Value} {ds : List Deferred} {k : List Item} {cs : List Frame} {w : World} (hb : b.roundOf = none) :
    step P (lone (mk b tmps ds (.code .ret :: k)) cs w) = .next (lone { mk b tmps ds (.code .ret :: k) with mode := .returning } cs w) :=
  step_lone_go (by simp [stepG, stepG.exec, mk, hb])

section
variable {P : Program} {N : Nat} {D E : Nat → Prop} {st : St} {tmps : Array Value} {w : World} {lam : Nat → Nat}

def resS (tmps : Array Value) (r : ResultVar) : Sem Value :=
  match r with
  | .tmp t => pure (tmps.getD t undef)
  | .cell a t => asAddr (tmps.getD a undef) >>= fun x => loadVar t x

theorem results_eq (fn : Func) (tmps : Array Value) : results fn tmps = (fn.results.mapM (resS tmps) >>= fun vs => pure (if h : vs.size = 1 then vs[0] else .tuple vs)) := by
  unfold results
  congr 1

theorem resOne_run (h : Rel N D E st tmps w lam) (r : ResultVar) (v : Value) (e : resOne P st r = some v) : (resS tmps r).run P w = .ok v w := by
  cases r with
  | tmp t =>
    have hv := valF_some e
    have := h.tmp t
    rw [hv] at this
    simp only [resS, Sem.run_pure]
    rw [show tmps.getD t undef = v from this]
  | cell a t =>
    have hl := load_run (P := P) h (t := t) (x := .tmp a) (v := v) e
    have e2 : evalT tmps (.tmp a) = tmps.getD a undef := rfl
    rw [e2] at hl
    unfold resS
    dsimp only
    generalize tmps.getD a undef = x at hl ⊢
    cases x <;> simp only [Instr.loadAt, Instr.sureAddr, Sem.run_bind, run_stuck, Result.andThen] at hl <;> first | (cases hl; done) | skip
    rename_i p
    cases p with
    | none => simp only [Instr.sureAddr, Sem.run_bind, run_stuck, Result.andThen] at hl; cases hl
    | some a =>
      simp only [Instr.sureAddr, Sem.run_bind, Sem.run_pure, Result.andThen] at hl
      simp only [asAddr, Sem.run_bind, Sem.run_pure, Result.andThen]
      exact hl

theorem resAll_run (h : Rel N D E st tmps w lam) : ∀ (rs : List ResultVar) (vs : List Value), resAll P st rs = some vs → (rs.mapM (resS tmps)).run P w = .ok vs w
  | [], vs, e => by simp [resAll] at e; subst e; simp
  | r :: rs, vs, e => by
    unfold resAll at e
    cases h1 : resOne P st r with
    | none => simp [h1] at e
    | some v =>
      cases h2 : resAll P st rs with
      | none => simp [h1, h2] at e
      | some vs' =>
        simp [h1, h2] at e
        subst e
        rw [List.mapM_cons]
        simp only [Sem.run_bind, resOne_run h r v h1, resAll_run h rs vs' h2, Result.andThen_ok, Sem.run_pure]

theorem results_run (h : Rel N D E st tmps w lam) {fn : Func} {v : Value} (e : resF P fn.results.toList st = some v) : (results fn tmps).run P w = .ok v w := by
  unfold resF at e
  cases h1 : resAll P st fn.results.toList with
  | none => rw [h1] at e; cases e
  | some vs =>
    rw [h1] at e
    cases e
    have h2 := resAll_run h fn.results.toList vs h1
    rw [results_eq, Array.mapM_eq_mapM_toList]
    simp only [Sem.run_bind, Sem.run_map, h2, Result.andThen_ok, Sem.run_pure]
    congr 1
    match vs with
    | [] => rfl
    | [v] => rfl
    | v :: u :: r => simp [tup]

theorem Rel.shutAll (h : Rel N D E st tmps w lam) {rs : List Nat} (hr : ∀ r, r ∈ rs → w.heap[r]? = some (.deferred (some []))) : Rel N D E st tmps (shutAll rs w) lam := by
  have hne : ∀ b x, Has w b x → b ∉ rs := fun b x hb hm => by
    have h2 := hr b hm
    cases x with
    | rw vs => obtain ⟨c, ty, h1, _⟩ := hb; rw [h1] at h2; cases h2
    | ro vs => obtain ⟨c, ty, fr, h1, _⟩ := hb; rw [h1] at h2; cases h2
  exact ⟨h.tmp, h.known, fun s cs hs => ⟨(h.loc s cs hs).1, (h.loc s cs hs).2.of_block (shutAll_other _ _ _ (hne _ _ (h.loc s cs hs).2))⟩, h.linj,
    fun b x hb => ⟨(h.blk b x hb).1.of_block (shutAll_other _ _ _ (hne _ _ (h.blk b x hb).1)), (h.blk b x hb).2⟩, h.nd, h.apart⟩
end

theorem argT_eq : ∀ (args : List Value) (t : Nat), argT args t = (match args[t]? with | some v => TV.val v | none => TV.bad)
  | [], t => by simp [argT]
  | v :: r, 0 => by simp [argT]
  | v :: r, t + 1 => by simp [argT, argT_eq r t]

/-- **A function's contract out of the evaluator's word on its body.** -/
theorem callF_awp {P : Program} {f : FuncId} {fn : Func} {c : Code} {args : List Value} {H : List (Nat × Blk)} {Q : Value → List (Nat × Blk) → Prop}
    (hf : P.funcs[f]? = some fn) (hb : fn.body = some c) (hn : (fn.name == "runtime.NumGoroutine") = false) (hsz : args.length ≤ fn.ntmps)
    (h : awp P fn.ntmps c (St.init args H) (fin P fn.results.toList Q)) : callF P f args H Q := by
  refine ⟨by simp [hasBody, hf, hb, hn], fun w hH cs => ?_⟩
  obtain ⟨b, hbf⟩ : ∃ b : Frame, b = { (default : Frame) with fn := f, kind := .normal, roundOf := none } := ⟨_, rfl⟩
  have hro : b.roundOf = none := by rw [hbf]
  have henter : Frame.enter P f args.toArray .normal = mk b (args.toArray ++ Array.replicate (fn.ntmps - args.toArray.size) undef) [] [.code c] := by
    simp [Frame.enter, mk, hf, hb, hbf]
  have hS : Sit w.heap.size (wr H) (fun b => b ∈ H.map (·.1)) fn.ntmps (St.init args H) (args.toArray ++ Array.replicate (fn.ntmps - args.toArray.size) undef) [] w (fun _ => 0) := by
    refine ⟨⟨fun t => ?_, fun t s off e => ?_, (fun s cs hs => by cases hs), (fun s s' hs => absurd rfl hs), (fun b x hb => ⟨hH.1 b x hb, fun hw => .inl ⟨x, hb, hw⟩, .inl (List.mem_map.2 ⟨_, hb, rfl⟩)⟩), hH.2, (fun s hs => absurd rfl hs)⟩,
      Nat.le_refl _, (by simp; omega), (fun r hr => by cases hr), List.nodup_nil⟩
    · show TRel _ (argT args t) _
      rw [argT_eq]
      cases ha : args[t]? with
      | none => trivial
      | some v =>
        have hlt : t < args.length := (List.getElem?_eq_some_iff.1 ha).1
        show _ = v
        have : (args.toArray ++ Array.replicate (fn.ntmps - args.toArray.size) undef)[t]? = some v := by
          rw [Array.getElem?_append_left (by simpa using hlt)]; simpa using ha
        simp only [Array.getD_eq_getD_getElem?, this, Option.getD_some]
    · have e' : argT args t = .loc s off := e
      rw [argT_eq] at e'
      split at e' <;> cases e'
  obtain ⟨e, st', tmps', rs', w', lam', hK, hS', hU, hA⟩ := h w.heap.size (wr H) (fun b => b ∈ H.map (·.1)) b [] cs _ [] w (fun _ => 0) hS
  rw [show ([] : List Nat).map mark = [] from rfl, ← henter] at hA
  have done : ∀ (todo : List Item), oK (resF P fn.results.toList st') (fun v => Q v st'.heap) →
      Steps P (lone (Frame.enter P f args.toArray .normal) cs w) (lone { mk b tmps' (rs'.map mark) todo with mode := .returning } cs w') →
      ∃ e w' fr, (∃ v H', e = .returned v ∧ Q v H' ∧ HRel H' w' ∧
        (∀ b x, (b, x) ∈ H' → (x.writes = true → wr H b ∨ w.heap.size ≤ b) ∧ (b ∈ H.map (·.1) ∨ w.heap.size ≤ b)) ∧ Upd w.heap.size (wr H) w w') ∧
        Comes P (lone (Frame.enter P f args.toArray .normal) cs w) (lone fr cs w') e ∧ fr.fn = f ∧ fr.leaving P w' e := by
    intro todo hq hst
    obtain ⟨v, hv, hQ⟩ := oK_some hq
    have hm := fun r hr => (hS'.marks r hr).2
    have hun := unwind_marks (P := P) (cs := cs) rs' w' { mk b tmps' (rs'.map mark) todo with mode := .returning } rfl rfl hm hS'.once
    have hR := hS'.rel.shutAll hm
    obtain ⟨s1, s2, s3, s4⟩ := shutAll_same rs' w'
    refine ⟨.returned v, shutAll rs' w', _, ⟨v, st'.heap, rfl, hQ, ⟨fun b x hb => (hR.blk b x hb).1, hR.nd⟩, fun b x hb => (hR.blk b x hb).2, ?_⟩, hst.trans hun, by rw [hbf]; rfl, rfl, rfl, by rw [hbf]; rfl, fn, by rw [hbf]; exact hf, results_run hR hv⟩
    refine ⟨s1.trans hU.os, s2.trans hU.tape, s3.trans hU.output, by rw [s4]; exact hU.size, fun b hb hd => ?_, fun b ds hd => ?_⟩
    · rw [shutAll_other _ _ _ (fun hm' => by have := (hS'.marks b hm').1; omega)]
      exact hU.block b hb hd
    · have hlt := (Array.getElem?_eq_some_iff.1 hd).1
      rw [shutAll_other _ _ _ (fun hm' => by have := (hS'.marks b hm').1; omega)]
      exact hU.defr b ds hd
  cases e with
  | normal => exact done [] hK (Steps.trans hA (.one (st_end hro)))
  | exit id => exact hK.elim
  | ret =>
    obtain ⟨k1, hst⟩ := hA
    exact done _ hK (hst.trans (.one (st_ret hro)))

theorem callF_of {cx : Cx} {f : FuncId} {fn : Func} {c : Code} {args : List Value} {H : List (Nat × Blk)} {Q : Value → List (Nat × Blk) → Prop}
    (hf : cx.P.funcs[f]? = some fn) (hb : fn.body = some c) (hn : (fn.name == "runtime.NumGoroutine") = false) (hok : okc cx fn.ntmps c = true) (hsz : args.length ≤ fn.ntmps)
    (h : ev cx fn.ntmps c (St.init args H) (fin cx.P fn.results.toList Q)) : callF cx.P f args H Q :=
  callF_awp hf hb hn hsz (ev_sound c _ _ hok h)

/-- What a call leaves may be said in part. -/
theorem callF_mono {P : Program} {f : FuncId} {args : List Value} {H : List (Nat × Blk)} {Q Q' : Value → List (Nat × Blk) → Prop} (h : callF P f args H Q)
    (hq : ∀ v H', Q v H' → ∃ H2, H2.Sublist H' ∧ Q' v H2) : callF P f args H Q' := by
  refine ⟨h.1, fun w hH => (h.2 w hH).mono ?_⟩
  rintro e w' ⟨v, H', he, hQ, hR, hk, hU⟩
  obtain ⟨H2, hs, hQ'⟩ := hq v H' hQ
  exact ⟨v, H2, he, hQ', ⟨fun b x hb => hR.1 b x (hs.subset hb), hR.2.sublist (hs.map _)⟩, fun b x hb => hk b x (hs.subset hb), hU⟩

/-- Blocks that the call does not meet may stand beside. -/
theorem pure_of_callF {P : Program} {f : FuncId} {args : List Value} {v : Value} (h : callF P f args [] fun u _ => u = v) : PureF P f args v := by
  refine ⟨h.1, fun w => (h.2 w ⟨fun b x hb => (by cases hb), List.nodup_nil⟩).mono ?_⟩
  rintro e w' ⟨u, H', rfl, rfl, _, _, hU⟩
  exact ⟨rfl, hU.os, hU.tape, hU.output, hU.size, fun b hb => hU.block b hb (fun ⟨x, hx, _⟩ => by cases hx)⟩

theorem callF_of_pure {P : Program} {f : FuncId} {args : List Value} {v : Value} {H : List (Nat × Blk)} {Q : Value → List (Nat × Blk) → Prop} (h : PureF P f args v) (hQ : Q v H) : callF P f args H Q := by
  refine ⟨h.1, fun w hH => (h.2 w).mono ?_⟩
  rintro e w' ⟨rfl, hb⟩
  exact ⟨v, H, rfl, hQ, ⟨fun b x hx => (hH.1 b x hx).of_block (hb.block b (hH.1 b x hx).lt), hH.2⟩, fun b x hx => ⟨fun hw => .inl ⟨x, hx, hw⟩, .inl (List.mem_map.2 ⟨_, hx, rfl⟩)⟩,
    hb.os, hb.tape, hb.output, hb.size, fun b hlt _ => hb.block b hlt, fun b ds hd => (hb.block b (Array.getElem?_eq_some_iff.1 hd).1).trans hd⟩

end Go.Z
