/-
  Functions, rounds of loops over functions, and such loops.
-/
import Derived.Test.YtbkmhkeihbgcfaaYm
set_option linter.unusedVariables false
set_option linter.unusedSimpArgs false
namespace Go.Y
open RowKit

def shutAll (rs : List Nat) (w : World) : World := rs.foldl (fun w r => w.putObjY r (.deferred none)) w

theorem shutAll_other : ∀ (rs : List Nat) (w : World) (b : Nat), b ∉ rs → (shutAll rs w).heap[b]? = w.heap[b]?
  | [], w, b, h => rfl
  | r :: rs, w, b, h => by
    simp only [List.mem_cons, not_or] at h
    show (shutAll rs (w.putObjY r _)).heap[b]? = _
    rw [shutAll_other rs _ b h.2, putObj_other h.1]

theorem shutAll_same : ∀ (rs : List Nat) (w : World), (shutAll rs w).os = w.os ∧ (shutAll rs w).tape = w.tape ∧ (shutAll rs w).output = w.output ∧ (shutAll rs w).heap.size = w.heap.size
  | [], w => ⟨rfl, rfl, rfl, rfl⟩
  | r :: rs, w => by
    obtain ⟨h1, h2, h3, h4⟩ := shutAll_same rs (w.putObjY r (.deferred none))
    exact ⟨h1, h2, h3, by show (shutAll rs _).heap.size = _; rw [h4]; simp [World.putObjY]⟩

theorem takeDeferred_run {P : Program} {w : World} {r : Nat} (h : w.heap[r]? = some (.deferred (some []))) : (Instr.takeDeferred r).run P w = .ok [] (w.putObjY r (.deferred none)) := by
  simp [Instr.takeDeferred, getObj, setObj, Sem.run, h, World.putObjY]

theorem step_mark {P : Program} {fr : Frame} {cs : List Frame} {w w' : World} {r : Nat} {ds : List Deferred}
    (hm : fr.mode = .returning) (hd : fr.defers = mark r :: ds) (hk : (Instr.takeDeferred r).run P w = .ok [] w') :
    step P (lone fr cs w) = .next (lone { fr with defers := ds } cs w') := by
  refine step_lone_go ?_
  simp [stepG, unwind, hm, hd, mark, Sem.runT_eq, hk, GStep.bare_after]

theorem unwind_marks {P : Program} {cs : List Frame} : ∀ (rs : List Nat) (w : World) (fr : Frame), fr.mode = .returning → fr.defers = rs.map mark → (∀ r, r ∈ rs → w.heap[r]? = some (.deferred (some []))) → rs.Nodup →
    Steps P (lone fr cs w) (lone { fr with defers := [] } cs (shutAll rs w))
  | [], w, fr, hm, hd, _, _ => by
    have : { fr with defers := [] } = fr := by rw [show ([] : List Deferred) = fr.defers from hd.symm]
    rw [this]; exact .refl _ _
  | r :: rs, w, fr, hm, hd, h, hn => by
    simp only [List.nodup_cons] at hn
    have h1 := step_mark (P := P) (cs := cs) hm hd (takeDeferred_run (h r List.mem_cons_self))
    refine .head h1 (unwind_marks rs (w.putObjY r (.deferred none)) { fr with defers := rs.map mark } hm rfl (fun r' hr' => ?_) hn.2)
    rw [putObj_other (by rintro rfl; exact hn.1 hr')]
    exact h r' (List.mem_cons_of_mem _ hr')

theorem st_end {P : Program} {b : Frame} {tmps : Array Value} {ds : List Deferred} {cs : List Frame} {w : World} (hb : b.roundOf = none) :
    step P (lone (mk b tmps ds []) cs w) = .next (lone { mk b tmps ds [] with mode := .returning } cs w) :=
  step_lone_go (by simp [stepG, stepG.exec, mk, hb])
theorem st_ret {P : Program} {b : Frame} {tmps : Array Value} {ds : List Deferred} {k : List Item} {cs : List Frame} {w : World} (hb : b.roundOf = none) :
    step P (lone (mk b tmps ds (.code .ret :: k)) cs w) = .next (lone { mk b tmps ds (.code .ret :: k) with mode := .returning } cs w) :=
  step_lone_go (by simp [stepG, stepG.exec, mk, hb])

section
variable {P : Program} {N : Nat} {D : Nat → Prop} {T : Sl} {H : Hp} {n : Nat} {tmps : Array Value} {w : World} {lam : Lam}

def resS (tmps : Array Value) (r : ResultVar) : Sem Value :=
  match r with
  | .tmp t => pure (tmps.getD t undef)
  | .cell a t => asAddr (tmps.getD a undef) >>= fun x => loadVar t x

theorem results_eq (fn : Func) (tmps : Array Value) : results fn tmps = (fn.results.mapM (resS tmps) >>= fun vs => pure (if h : vs.size = 1 then vs[0] else .tuple vs)) := by
  unfold results
  congr 1

theorem resOne_run (h : TRel lam n T tmps) (hH : HSit N D lam H n w) (r : ResultVar) (v : AV) (e : resOne P T H r = some v) : (resS tmps r).run P w = .ok (v.conc lam) w ∧ v.ok lam n := by
  cases r with
  | tmp t =>
    obtain ⟨h1, h2⟩ := h t v e
    exact ⟨by simp only [resS, Sem.run_pure, h1], h2⟩
  | cell a t =>
    obtain ⟨x, hx, e⟩ := one_some e
    obtain ⟨h1, h2⟩ := h a x hx
    obtain ⟨hl, h3, _⟩ := load_run (P := P) hH e
    refine ⟨?_, h3⟩
    unfold resS
    dsimp only
    rw [h1]
    generalize x.conc lam = y at hl ⊢
    cases y <;> simp only [Instr.loadAt, Instr.sureAddr, Sem.run_bind, run_stuck, Result.andThen] at hl <;> first | (cases hl; done) | skip
    rename_i p
    cases p with
    | none => simp only [Instr.sureAddr, Sem.run_bind, run_stuck, Result.andThen] at hl; cases hl
    | some a =>
      simp only [Instr.sureAddr, Sem.run_bind, Sem.run_pure, Result.andThen] at hl
      simp only [asAddr, Sem.run_bind, Sem.run_pure, Result.andThen]
      exact hl

theorem resAll_run (h : TRel lam n T tmps) (hH : HSit N D lam H n w) : ∀ (rs : List ResultVar) (vs : List AV), resAll P T H rs = some vs → (rs.mapM (resS tmps)).run P w = .ok (concL lam vs) w ∧ okL lam n vs
  | [], vs, e => by simp only [resAll, Option.some.injEq] at e; subst e; exact ⟨by simp [concL], by simp [okL]⟩
  | r :: rs, vs, e => by
    unfold resAll at e
    split at e
    · rename_i v vs' h1 h2
      cases e
      obtain ⟨g1, g2⟩ := resOne_run h hH r v h1
      obtain ⟨g3, g4⟩ := resAll_run h hH rs vs' h2
      refine ⟨?_, by simp only [okL]; exact ⟨g2, g4⟩⟩
      rw [List.mapM_cons]
      simp only [Sem.run_bind, g1, g3, Result.andThen_ok, Sem.run_pure, concL]
    · cases e

theorem results_run (h : TRel lam n T tmps) (hH : HSit N D lam H n w) {fn : Func} {v : AV} (e : resF P fn.results.toList T H = some v) : (results fn tmps).run P w = .ok (v.conc lam) w ∧ v.ok lam n := by
  unfold resF at e
  obtain ⟨vs, h1, rfl⟩ := Option.map_eq_some_iff.1 e
  obtain ⟨h2, h3⟩ := resAll_run h hH fn.results.toList vs h1
  constructor
  · rw [results_eq, Array.mapM_eq_mapM_toList]
    simp only [Sem.run_bind, Sem.run_map, h2, Result.andThen_ok, Sem.run_pure]
    congr 1
    match vs with
    | [] => rfl
    | [v] => simp [concL, tupA]
    | v :: u :: r => simp [tupA, AV.conc, concL]
  · match vs, h3 with
    | [], _ => simp [tupA, AV.ok, okL]
    | [v], h3 => simp only [okL] at h3; exact h3.1
    | v :: u :: r, h3 => simp only [tupA, AV.ok]; exact h3

theorem HSit.others (h : HSit N D lam H n w) {w' : World} (hw : ∀ (b : Nat) (o' : Obj), w.heap[b]? = some o' → (∀ ds, o' ≠ Obj.deferred ds) → w'.heap[b]? = w.heap[b]?) : HSit N D lam H n w' := by
  refine ⟨fun k x hk => ?_, h.low, h.wr, h.apart, h.nd⟩
  have hx := h.has k x hk
  refine hx.move (h.low k x hk) (keeps.refl _ _) (Nat.le_refl _) (fun i b o hi hl => ?_)
  cases x with
  | cel v =>
    rcases hi with rfl | hi
    · obtain ⟨_, _, b', c, ty, h1, h2, _⟩ := hx
      rw [h1] at hl; cases hl; exact hw b _ h2 (by simp)
    · cases hi
  | vec cap sz l =>
    rcases hi with rfl | hi
    · obtain ⟨_, _, _, _, h⟩ := hx
      rcases h with ⟨h1, _⟩ | ⟨b', c, ty, h1, h2, _⟩
      · rw [h1] at hl; cases hl
      · rw [h1] at hl; cases hl; exact hw b _ h2 (by simp)
    · cases hi
  | ro f =>
    obtain ⟨_, h⟩ := hx i
    rcases h with ⟨h1, _⟩ | ⟨b', o', c, ty, fr, h1, h2, _⟩
    · rw [h1] at hl; cases hl
    · rw [h1] at hl; cases hl; exact hw b _ h2 (by simp)
  | mp m =>
    rcases hi with rfl | hi
    · obtain ⟨_, b', o', es, clock, h1, h2, _⟩ := hx
      rw [h1] at hl; cases hl; exact hw b _ h2 (by simp)
    · cases hi
  | lk s m =>
    rcases hi with rfl | hi
    · obtain ⟨_, b', o', h1, h2, _⟩ := hx
      rw [h1] at hl; cases hl; exact hw b _ h2 (by simp)
    · cases hi
  | it s sn q =>
    rcases hi with rfl | hi
    · obtain ⟨_, _, _, b', bm, om, last, h1, _, _, h2⟩ := hx
      rw [h1] at hl; cases hl; exact hw b _ h2 (by simp)
    · cases hi
  | lp r =>
    rcases hi with rfl | hi
    · obtain ⟨b', o', l, h1, h2, _⟩ := hx
      rw [h1] at hl; cases hl; exact hw b _ h2 (by simp)
    · cases hi

/-- The slots of a function that is called. -/
def argT : Nat → List AV → Sl
  | _, [] => []
  | i, v :: r => (i, v) :: argT (i + 1) r

theorem argT_get : ∀ (args : List AV) (i t : Nat) (v : AV), getT (argT i args) t = some v → i ≤ t ∧ args[t - i]? = some v
  | [], i, t, v, h => by cases h
  | a :: r, i, t, v, h => by
    unfold argT getT at h
    split at h
    · rename_i e; cases h; exact ⟨by omega, by rw [e]; simp⟩
    · obtain ⟨h1, h2⟩ := argT_get r (i + 1) t v h
      refine ⟨by omega, ?_⟩
      rw [show t - i = (t - (i + 1)) + 1 by omega, List.getElem?_cons_succ]
      exact h2

/-- **A function's contract out of the walk through its body.** -/
theorem callA_awp {f : FuncId} {fn : Func} {c : Code} {args : List AV} {Q : AV → Hp → Nat → Prop}
    (hf : P.funcs[f]? = some fn) (hb : fn.body = some c) (hn : (fn.name == "runtime.NumGoroutine") = false) (hsz : args.length ≤ fn.ntmps)
    (h : awp P ⟨fn.ntmps, n, none, f⟩ c ⟨argT 0 args, H, n⟩ (Kc.sem P ⟨fn.ntmps, n, none, f⟩ (.top fn.results.toList Q))) : callA P f args H n Q := by
  refine ⟨by simp [hasBody, hf, hb, hn], fun N D w lam hH hN hargs cs => ?_⟩
  obtain ⟨b, hbf⟩ : ∃ b : Frame, b = { (default : Frame) with fn := f, kind := .normal, roundOf := none } := ⟨_, rfl⟩
  have hro : b.roundOf = none := by rw [hbf]
  have hclen : (concL lam args).length = args.length := by simp [concL_eq]
  have henter : Frame.enter P f (concL lam args).toArray .normal = mk b ((concL lam args).toArray ++ Array.replicate (fn.ntmps - (concL lam args).toArray.size) undef) [] [.code c] := by
    simp [Frame.enter, mk, hf, hb, hbf]
  have hS : Sit w.heap.size (fun b => D b ∨ N ≤ b) fn.ntmps ⟨argT 0 args, H, n⟩ ((concL lam args).toArray ++ Array.replicate (fn.ntmps - (concL lam args).toArray.size) undef) [] w lam := by
    refine ⟨fun t v ht => ?_, ⟨hH.has, hH.low, fun k x hk hw b o hl => .inl (hH.wr k x hk hw b o hl), hH.apart, hH.nd⟩, Nat.le_refl _, by simp [hclen]; omega, (fun r hr => by cases hr), List.nodup_nil⟩
    obtain ⟨_, ha⟩ := argT_get args 0 t v ht
    rw [Nat.sub_zero] at ha
    have hc := concL_get lam ha
    refine ⟨?_, okL_get hargs ha⟩
    have hlt := (List.getElem?_eq_some_iff.1 hc).1
    have : ((concL lam args).toArray ++ Array.replicate (fn.ntmps - (concL lam args).toArray.size) undef)[t]? = some (v.conc lam) := by
      rw [Array.getElem?_append_left (by simpa using hlt)]; simpa using hc
    simp only [Array.getD_eq_getD_getElem?, this, Option.getD_some]
  obtain ⟨e, st', tmps', rs', w', lam', hK, hS', hn0, hU, hag, hky, hA⟩ := h w.heap.size (fun b => D b ∨ N ≤ b) b [] cs _ [] w lam hS (Nat.le_refl _) ⟨by rw [hbf], hro⟩
  rw [show ([] : List Nat).map mark = [] from rfl, ← henter] at hA
  obtain ⟨hne, v, hv, hQ⟩ := hK
  have done : ∀ (todo : List Item), Steps P (lone (Frame.enter P f (concL lam args).toArray .normal) cs w) (lone { mk b tmps' (rs'.map mark) todo with mode := .returning } cs w') →
      ∃ v' w' fr, After N D n lam H w Q v' w' ∧ Steps P (lone (Frame.enter P f (concL lam args).toArray .normal) cs w) (lone fr cs w') ∧ fr.fn = f ∧ fr.leaving P w' (.returned v') := by
    intro todo hst
    have hm := fun r hr => (hS'.marks r hr).2
    have hun := unwind_marks (P := P) (cs := cs) rs' w' { mk b tmps' (rs'.map mark) todo with mode := .returning } rfl rfl hm hS'.once
    have hH' : HSit w.heap.size (fun b => D b ∨ N ≤ b) lam' st'.H st'.n (shutAll rs' w') := hS'.heap.others (fun b o' ho hnd => shutAll_other _ _ _ (fun hmem => hnd _ (by have := hm b hmem; rw [ho] at this; exact Option.some.inj this)))
    obtain ⟨hr, hvok⟩ := results_run (P := P) hS'.tmp hH' hv
    obtain ⟨s1, s2, s3, s4⟩ := shutAll_same rs' w'
    refine ⟨v.conc lam', shutAll rs' w', _, ⟨v, st'.H, st'.n, lam', rfl, hQ, hn0, hvok, ⟨hH'.has, hH'.low, fun k x hk hw b o hl => ?_, hH'.apart, hH'.nd⟩, ?_, hag, hky⟩, hst.trans hun, by rw [hbf]; rfl, ?_⟩
    · rcases hH'.wr k x hk hw b o hl with h | h
      · exact h
      · exact .inr (by omega)
    · refine ⟨s1.trans hU.os, s2.trans hU.tape, s3.trans hU.output, by rw [s4]; exact hU.size, fun b hb hd => ?_, fun b ds hd => ?_⟩
      · rw [shutAll_other _ _ _ (fun hm' => by have := (hS'.marks b hm').1; omega)]
        exact hU.block b (by omega) (by rintro (h | h); exact hd h; omega)
      · have hlt := (Array.getElem?_eq_some_iff.1 hd).1
        rw [shutAll_other _ _ _ (fun hm' => by have := (hS'.marks b hm').1; omega)]
        exact hU.defr b ds hd
    · exact ⟨rfl, rfl, by rw [hbf]; rfl, fn, by rw [hbf]; exact hf, hr⟩
  cases e with
  | nrm => exact done [] (Steps.trans hA (.one (st_end hro)))
  | exi id => exact absurd rfl (hne id)
  | ret =>
    obtain ⟨k1, hst⟩ := hA
    exact done _ (hst.trans (.one (st_ret hro)))

end

end Go.Y
