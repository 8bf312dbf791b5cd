/-
  Rounds of loops over functions, and such loops.
-/
import Derived.Test.YtbkmhkeihbgcfaaYn
set_option linter.unusedVariables false
set_option linter.unusedSimpArgs false
namespace Go.Y
open RowKit

section
variable {P : Program} {b : Frame} {tmps : Array Value} {ds : List Deferred} {k : List Item} {cs : List Frame} {w : World}

theorem st_begin {l : Nat} {r : Loop} (hb : b.roundOf = some l) (hl : w.heap[l]? = some (.loop r)) (hs : r.state = .ready) :
    step P (lone (mk b tmps ds (.beginRound :: k)) cs w) = .next (lone (mk b tmps ds k) cs (w.putObjY l (.loop { r with state := .busy }))) :=
  step_lone_go (by simp [stepG, stepG.exec, mk, hb, stepG.apply, Instr.beginRound, Instr.getLoop, getObj, setObj, Sem.run, hl, hs, Frame.finish, World.putObjY])

theorem endRound_run {l : Nat} {r : Loop} (hl : w.heap[l]? = some (.loop r)) (jump : Option Code) :
    (Instr.endRound l jump).run P w = .ok (.bool jump.isNone) (w.putObjY l (.loop { r with state := if jump.isNone then .ready else .done, pending := jump })) := by
  simp [Instr.endRound, Instr.getLoop, getObj, setObj, Sem.run, hl, World.putObjY]

theorem st_leave {l : Nat} {r : Loop} {caller : Frame} {todo : List Item} {jump : Option Code} (hb : b.roundOf = some l) (hk : b.kind = .normal) (hl : w.heap[l]? = some (.loop r))
    (ht : (todo = [] ∧ jump = none) ∨ (∃ k1, todo = .code .ret :: k1 ∧ jump = some .ret) ∨ ∃ id k1, todo = .code (.exit id) :: k1 ∧ exitTo id k1 = none ∧ jump = some (.exit id)) :
    step P (lone (mk b tmps ds todo) (caller :: cs) w) = .next (lone (caller.finish (.bool jump.isNone)) cs (w.putObjY l (.loop { r with state := if jump.isNone then .ready else .done, pending := jump }))) := by
  refine step_lone_go ?_
  have hr := endRound_run (P := P) hl jump
  rcases ht with ⟨rfl, rfl⟩ | ⟨k1, rfl, rfl⟩ | ⟨id, k1, rfl, he, rfl⟩
  · simp [stepG, stepG.exec, mk, hb, Sem.runT_eq, hr, GStep.bare_after, doReturn, hk]
  · simp [stepG, stepG.exec, mk, hb, Sem.runT_eq, hr, GStep.bare_after, doReturn, hk]
  · simp [stepG, stepG.exec, mk, hb, he, Sem.runT_eq, hr, GStep.bare_after, doReturn, hk]
end

section
variable {P : Program} {N : Nat} {D : Nat → Prop} {T : Sl} {H : Hp} {n : Nat} {tmps : Array Value} {w : World} {lam : Lam}

def putPs : List Nat → List AV → Sl → Sl
  | p :: ps, v :: vs, T => putPs ps vs (putT T (some p) v)
  | _, _, T => T

theorem TRel.puts : ∀ (ps : List Nat) (vs : List AV) (T : Sl) (tmps : Array Value), TRel lam n T tmps → (∀ p, p ∈ ps → p < tmps.size) → okL lam n vs →
    TRel lam n (putPs ps vs T) ((ps.zip (concL lam vs)).foldl (fun tm (x : Nat × Value) => tm.setIfInBounds x.1 x.2) tmps) ∧ ((ps.zip (concL lam vs)).foldl (fun tm (x : Nat × Value) => tm.setIfInBounds x.1 x.2) tmps).size = tmps.size
  | [], vs, T, tmps, h, _, _ => by simp [putPs, h]
  | p :: ps, [], T, tmps, h, _, _ => by simp [putPs, concL, h]
  | p :: ps, v :: vs, T, tmps, h, hp, hv => by
    simp only [okL] at hv
    have h1 := h.put (dst := some p) (v := v) (fun d e => by cases e; exact hp p List.mem_cons_self) hv.1
    have := TRel.puts ps vs _ _ h1 (fun q hq => by simp [putV]; exact hp q (List.mem_cons_of_mem _ hq)) hv.2
    simp only [concL, List.zip_cons_cons, List.foldl_cons, putPs]
    refine ⟨this.1, ?_⟩
    have h2 := this.2
    simp only [putV, Array.size_setIfInBounds] at h2
    exact h2

theorem setLp_spec {L : Nat} {s : LState} {H' : Hp} (h : setLp L s H = some H') : ∃ r, hget L H = some (.lp r) ∧ H' = hset L (.lp { r with st := s }) H := by
  unfold setLp at h
  split at h
  · rename_i r hr; cases h; exact ⟨r, hr, rfl⟩
  · cases h

/-- A loop's state is turned. -/
theorem HSit.setLp (h : HSit N D lam H n w) {L : Nat} {s : LState} {H' : Hp} (hs : setLp L s H = some H') {bl o : Nat} {l : Loop} (hl : lam L 0 = some (bl, o)) (hw : w.heap[bl]? = some (.loop l)) {l' : Loop}
    (hfn : l'.fn = l.fn) (hps : l'.params = l.params) (has : l'.assign = l.assign) (hbd : l'.body = l.body) (htm : l'.tmps = l.tmps) (hst : s.is l') :
    HSit N D lam H' n (w.putObjY bl (.loop l')) ∧ Upd N D w (w.putObjY bl (.loop l')) ∧ ∀ m, KeyS H m H' := by
  obtain ⟨r, hr, rfl⟩ := setLp_spec hs
  have hm := hget_mem hr
  obtain ⟨b, o', l0, h1, h2, h3, h4, h5, h6, h7, h8, h9⟩ := h.has L _ hm
  rw [hl] at h1; cases h1
  rw [hw] at h2; cases h2
  refine ⟨h.set hr rfl rfl hl (fun b' hb' => putObj_other hb') ⟨bl, o, l', hl, putObj_same hw, by rw [hfn, h3], by rw [hps, h4], by rw [has, h5], by rw [hbd, h6], by rw [htm]; exact h7, by rw [htm]; exact h8, hst⟩, ?_⟩
  refine ⟨?_, fun m => KeyS.set h.nd hr rfl⟩
  refine ⟨rfl, rfl, rfl, by simp [World.putObjY], fun b' hb' hd => putObj_other (by rintro rfl; rcases h.wr L _ hm rfl _ _ hl with h | h; exact hd h; omega), fun b' ds hd => ?_⟩
  rw [putObj_other (by rintro rfl; rw [hw] at hd; cases hd)]
  exact hd

/-- **A round's contract out of the walk through the loop's code.** -/
theorem roundA_awp {L : Nat} {args : List AV} {Q : AV → Hp → Nat → Prop} {r : LRec} (hL : hget L H = some (.lp r)) (hlen : args.length = r.ps.length) (hps : r.ps.all (fun p => decide (p < r.nt)) = true)
    (h : awp P ⟨r.nt, n, some L, r.fn⟩ r.assign ⟨putPs r.ps args r.T, H, n⟩ (Kc.sem P ⟨r.nt, n, some L, r.fn⟩ (.bgn L r.body (.rnd L Q)))) : roundA P L args H n Q := by
  refine ⟨r, hL, hlen, fun N D w lam bl o l hH hN hargs hlam hheap caller cs => ?_⟩
  obtain ⟨b0, o', l0, h1, h2, h3, h4, h5, h6, h7, h8, h9⟩ := hH.has L _ (hget_mem hL)
  rw [hlam] at h1; cases h1
  rw [hheap] at h2; cases h2
  have hlow := hH.low L _ (hget_mem hL)
  obtain ⟨b, hbf⟩ : ∃ b : Frame, b = { (default : Frame) with fn := r.fn, kind := .normal, roundOf := some bl } := ⟨_, rfl⟩
  obtain ⟨g1, g2⟩ := TRel.puts (lam := lam) r.ps args r.T l.tmps h7 (fun p hp => by rw [h8]; simpa using List.all_eq_true.1 hps p hp) hargs
  obtain ⟨tm, htm⟩ : ∃ tm, tm = (l.params.zip (concL lam args).toArray).foldl (fun tmps (t, a) => tmps.setIfInBounds t a) l.tmps := ⟨_, rfl⟩
  have htm' : tm = (r.ps.zip (concL lam args)).foldl (fun tm (x : Nat × Value) => tm.setIfInBounds x.1 x.2) l.tmps := by
    rw [htm, h4, ← Array.foldl_toList]; simp
  have henter : Frame.round bl r.fn tm r.assign r.body .normal = mk b tm (([] : List Nat).map mark) [.code r.assign, .beginRound, .code r.body] := by
    simp [Frame.round, mk, hbf]
  rw [← htm, henter]
  have hS : Sit w.heap.size (fun b => D b ∨ N ≤ b) r.nt ⟨putPs r.ps args r.T, H, n⟩ tm [] w lam :=
    ⟨by rw [htm']; exact g1, ⟨hH.has, hH.low, fun k x hk hw b o hl => .inl (hH.wr k x hk hw b o hl), hH.apart, hH.nd⟩, Nat.le_refl _, by rw [htm', g2, h8], (fun r hr => by cases hr), List.nodup_nil⟩
  have hSt : Stands ⟨r.nt, n, some L, r.fn⟩ b lam := ⟨by rw [hbf], hlow.1, hlow.2, bl, o, hlam, by rw [hbf]⟩
  obtain ⟨e, st1, tmps1, rs1, w1, lam1, hK, hS1, hn1, hU1, hag1, hky1, hA1⟩ := h w.heap.size (fun b => D b ∨ N ≤ b) b [.beginRound, .code r.body] (caller :: cs) _ [] w lam hS (Nat.le_refl _) hSt
  cases e with
  | exi id => exact hK.elim
  | ret => exact hK.elim
  | nrm =>
    obtain ⟨r1, H1, hr1, hready, hset1, hbody⟩ := hK
    have hlam1 : lam1 L 0 = some (bl, o) := by rw [(hag1.keeps L hlow.1 hlow.2).2 0]; exact hlam
    obtain ⟨b1, o1, l1, k1, k2, k3, k4, k5, k6, k7, k8, k9⟩ := hS1.heap.has L _ (hget_mem hr1)
    rw [hlam1] at k1; cases k1
    rw [hready] at k9
    obtain ⟨hHb, hUb, hkyb⟩ := hS1.heap.setLp hset1 hlam1 k2 (l' := { l1 with state := .busy }) rfl rfl rfl rfl rfl (by simp [LState.is])
    have hstep1 := st_begin (P := P) (b := b) (tmps := tmps1) (ds := rs1.map mark) (k := [.code r.body]) (cs := caller :: cs) (by rw [hbf]) k2 k9.1
    have hSb : Sit w.heap.size (fun b => D b ∨ N ≤ b) r.nt ⟨st1.T, H1, st1.n⟩ tmps1 rs1 (w1.putObjY bl (.loop { l1 with state := .busy })) lam1 :=
      ⟨hS1.tmp, hHb, Nat.le_trans hS1.size hUb.size, hS1.nt, hUb.marks hS1.marks, hS1.once⟩
    obtain ⟨e2, st2, tmps2, rs2, w2, lam2, hK2, hS2, hn2, hU2, hag2, hky2, hA2⟩ := hbody w.heap.size (fun b => D b ∨ N ≤ b) b [] (caller :: cs) _ rs1 _ lam1 hSb hn1 (hSt.agree hag1)
    obtain ⟨H2, hset2, hQ⟩ := hK2
    have hlam2 : lam2 L 0 = some (bl, o) := by rw [(hag2.keeps L hlow.1 (hag1.keeps L hlow.1 hlow.2).1).2 0]; exact hlam1
    obtain ⟨r2, hr2, _⟩ := setLp_spec hset2
    obtain ⟨b2, o2, l2, m1, m2, _⟩ := hS2.heap.has L _ (hget_mem hr2)
    rw [hlam2] at m1; cases m1
    have hag : agree n lam lam2 := hag1.trans hag2
    have hUall := hU1.trans (hUb.trans hU2)
    have fin : ∀ (jump : Option Code) (todo : List Item) (s : LState), ((todo = [] ∧ jump = none) ∨ (∃ k1, todo = .code .ret :: k1 ∧ jump = some .ret) ∨ ∃ id k1, todo = .code (.exit id) :: k1 ∧ exitTo id k1 = none ∧ jump = some (.exit id)) →
        setLp L s st2.H = some H2 → (s = match jump with | none => .ready | some c => .done c) → Q (.bool jump.isNone) H2 st2.n →
        Steps P (lone (mk b tm (([] : List Nat).map mark) [.code r.assign, .beginRound, .code r.body]) (caller :: cs) w) (lone (mk b tmps2 (rs2.map mark) todo) (caller :: cs) w2) →
        ∃ v' w', After N D n lam H w Q v' w' ∧ Steps P (lone (mk b tm (([] : List Nat).map mark) [.code r.assign, .beginRound, .code r.body]) (caller :: cs) w) (lone (caller.finish v') cs w') := by
      intro jump todo s ht hset hs hq hst
      obtain ⟨hHe, hUe, hkye⟩ := hS2.heap.setLp hset hlam2 m2 (l' := { l2 with state := if jump.isNone then .ready else .done, pending := jump }) rfl rfl rfl rfl rfl (by
        subst hs
        cases jump <;> simp [LState.is])
      have hUf := hUall.trans hUe
      refine ⟨.bool jump.isNone, _, ⟨.bool jump.isNone, H2, st2.n, lam2, by simp [AV.conc], hq, hn2, by simp [AV.ok], ⟨hHe.has, hHe.low, fun k x hk hw b o hl => ?_, hHe.apart, hHe.nd⟩, ?_, hag, hky1.trans ((hkyb _).trans (hky2.trans (hkye _)))⟩, hst.trans (.one (st_leave (by rw [hbf]) (by rw [hbf]) m2 ht))⟩
      · rcases hHe.wr k x hk hw b o hl with h | h
        · exact h
        · exact .inr (by omega)
      · exact ⟨hUf.os, hUf.tape, hUf.output, hUf.size, fun b hb hd => hUf.block b (by omega) (by rintro (h | h); exact hd h; omega), hUf.defr⟩
    have hsteps : Steps P (lone (mk b tm (([] : List Nat).map mark) [.code r.assign, .beginRound, .code r.body]) (caller :: cs) w) (lone (mk b tmps1 (rs1.map mark) [.code r.body]) (caller :: cs) (w1.putObjY bl (.loop { l1 with state := .busy }))) :=
      Steps.trans hA1 (.one hstep1)
    cases e2 with
    | nrm => exact fin none [] .ready (.inl ⟨rfl, rfl⟩) hset2 rfl hQ (hsteps.trans hA2)
    | exi id =>
      obtain ⟨k1, he, hst⟩ := hA2
      exact fin (some (.exit id)) _ (.done (.exit id)) (.inr (.inr ⟨id, k1, rfl, by rw [he]; rfl, rfl⟩)) hset2 rfl hQ (hsteps.trans hst)
    | ret =>
      obtain ⟨k1, hst⟩ := hA2
      exact fin (some .ret) _ (.done .ret) (.inr (.inl ⟨k1, rfl, rfl⟩)) hset2 rfl hQ (hsteps.trans hst)

end

end Go.Y
