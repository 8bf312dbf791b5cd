/-
  Loops over functions.
-/
import Derived.Test.YtbkmhkeihbgcfaaYo
set_option linter.unusedVariables false
set_option linter.unusedSimpArgs false
namespace Go.Y
open RowKit

section
variable {P : Program} {b : Frame} {tmps : Array Value} {ds : List Deferred} {k : List Item} {cs : List Frame} {w : World}

def loopObj (fn : FuncId) (tmps : Array Value) (ps : Array Tmp) (as bd : Code) (d : Nat) : Obj :=
  .loop { state := .ready, pending := none, fn, tmps, params := ps, assign := as, body := bd, defers := d }

theorem enterLoop_none (fn : FuncId) (ps : Array Tmp) (as bd : Code) : (Instr.enterLoop fn tmps ps as bd none).run P w =
    .ok (w.heap.size + 1, [mark w.heap.size]) ((w.alloc (.deferred (some []))).alloc (loopObj fn tmps ps as bd w.heap.size)) := by
  simp [Instr.enterLoop, newObj, Sem.run, loopObj, mark]

theorem enterLoop_some (fn : FuncId) (ps : Array Tmp) (as bd : Code) {l0 : Nat} {r0 : Loop} (h : w.heap[l0]? = some (.loop r0)) : (Instr.enterLoop fn tmps ps as bd (some l0)).run P w =
    .ok (w.heap.size, []) (w.alloc (loopObj fn tmps ps as bd r0.defers)) := by
  simp [Instr.enterLoop, newObj, Sem.run, loopObj, Instr.getLoop, getObj, h]

theorem st_rangeFunc {f : Operand} {ps : Array Tmp} {as bd : Code} {g : FuncId} {first captured : List Value} {l : Nat} {ms : List Deferred} {w' : World}
    (he : (Instr.enterLoop b.fn tmps ps as bd b.roundOf).run P w = .ok (l, ms) w') (hf : evalT tmps f = .func (.func g) first.toArray captured.toArray) (hb : hasBody P g = true) :
    step P (lone (mk b tmps ds (.code (.rangeFunc f ps as bd) :: k)) cs w) =
      .next (lone (Frame.enter P g (first ++ [Value.func (.yield l) #[] #[]] ++ captured).toArray .normal) (mk b tmps (ms ++ ds) (.inRangeFunc l :: k) :: cs) w') := by
  have hcf := callFunc_run hb (first ++ [Value.func (.yield l) #[] #[]] ++ captured).toArray w'
  have hev : ∀ kk dd, (mk b tmps dd kk).eval f = .func (.func g) first.toArray captured.toArray := fun kk dd => by rw [mk_eval, hf]
  simp only [mk] at hev
  have hcst : ∀ kk dd, (mk b tmps dd kk).eval (.const (.func (.yield l) #[] #[])) = .func (.yield l) #[] #[] := fun kk dd => by rw [mk_eval]; rfl
  simp only [mk] at hcst
  refine step_lone_go ?_
  simp only [List.append_assoc, List.cons_append, List.nil_append] at hcf
  simp only [stepG, stepG.exec, mk, Sem.runT_eq, he, GStep.bare_after, stepG.apply, resolve, Sem.run_bind, hev, Sem.run_pure, Result.andThen_ok, Deferred.ofValue, invoke, List.map_toArray, List.map_cons, List.map_nil, hcst]
  simp [hcf]

theorem endLoop_run {l : Nat} {r : Loop} (hl : w.heap[l]? = some (.loop r)) (hs : r.state ≠ .busy) :
    (Instr.endLoop l).run P w = .ok r.pending (w.putObjY l (.loop { r with state := .exhausted })) := by
  have : (r.state == .busy) = false := by simp [hs]
  simp [Instr.endLoop, Instr.getLoop, getObj, setObj, Sem.run, hl, this, World.putObjY]
  exact fun h => absurd h hs

theorem st_endRangeFunc {l : Nat} {r : Loop} (hl : w.heap[l]? = some (.loop r)) (hs : r.state ≠ .busy) :
    step P (lone (mk b tmps ds (.endRangeFunc l :: k)) cs w) = .next (lone (mk b tmps ds ((r.pending.map Item.code).toList ++ k)) cs (w.putObjY l (.loop { r with state := .exhausted }))) := by
  refine step_lone_go ?_
  simp [stepG, stepG.exec, mk, Sem.runT_eq, endLoop_run hl hs, GStep.bare_after]
end

section
variable {P : Program} {fx : Fx}

/-- What is owed where a loop over a function has ended. -/
def ranK (P : Program) (fx : Fx) (L : Nat) (T : Sl) (K : Ex → St → Prop) (H : Hp) (n : Nat) : Prop :=
  ∃ r, hget L H = some (.lp r) ∧ match r.st with
    | .ready => K .nrm ⟨T, hdel L H, n⟩
    | .busy => False
    | .done c => awp P fx c ⟨T, hdel L H, n⟩ K

/-- Is a frame a round of a loop that the heap tells of. -/
def around (fx : Fx) (H : Hp) : Prop :=
  match fx.rd with
  | none => True
  | some L => ∃ r, hget L H = some (.lp r)

theorem awp_rangeFunc {f : Operand} {ps : List Nat} {as bd : Code} {T : Sl} {H : Hp} {n : Nat} {K : Ex → St → Prop} {g : FuncId} {first captured : List AV} (hf : getO T f = some (.fn (.func g) first captured)) (har : around fx H)
    (h : callA P g (first ++ [.yld n] ++ captured) ((n, .lp ⟨fx.f, fx.nt, T, ps, as, bd, .ready⟩) :: H) (n + 1) (fun v H2 n2 => ranK P fx n T K H2 n2)) : awp P fx (.rangeFunc f ps.toArray as bd) ⟨T, H, n⟩ K := by
  intro N D b k cs tmps rs w lam hs hn hb
  obtain ⟨hfv, hfok⟩ := getO_spec hs.tmp hf
  simp only [AV.ok] at hfok
  -- the loop's record is laid
  have key : ∃ (l : Nat) (ms : List Deferred) (w1 : World) (rs1 : List Nat), (Instr.enterLoop b.fn tmps ps.toArray as bd b.roundOf).run P w = .ok (l, ms) w1 ∧ ms ++ rs.map mark = rs1.map mark ∧ HSit N D (setLam lam n (some (l, 0))) ((n, .lp ⟨fx.f, fx.nt, T, ps, as, bd, .ready⟩) :: H) (n + 1) w1 ∧
      Upd N D w w1 ∧ (∀ r, r ∈ rs1 → N ≤ r ∧ w1.heap[r]? = some (.deferred (some []))) ∧ rs1.Nodup := by
    have hag : ∀ l, agree n lam (setLam lam n (some (l, 0))) := fun l => setLam_agree _ _ _
    have hbfn := hb.1
    have hb2 := hb.2
    have has : ∀ (d : Nat) (w0 : World), HasE (setLam lam n (some (w0.heap.size, 0))) (n + 1) (w0.alloc (loopObj b.fn tmps ps.toArray as bd d)) n (.lp ⟨fx.f, fx.nt, T, ps, as, bd, .ready⟩) := fun d w0 =>
      ⟨w0.heap.size, 0, _, setLam_same _ _ _, heap_alloc_new w0 _, hbfn, rfl, rfl, rfl, hs.tmp.mono (hag _).keeps (by simp), hs.nt, ⟨rfl, rfl⟩⟩
    cases hr : fx.rd with
    | none =>
      rw [hr] at hb2
      have h1 := enterLoop_none (P := P) (tmps := tmps) (w := w) b.fn ps.toArray as bd
      have hU1 := upd_alloc N D w hs.size (.deferred (some []))
      have hH1 : HSit N D lam H n (w.alloc (.deferred (some []))) := hs.heap.others (fun b' o' ho _ => Below.heap_alloc w _ b' (Array.getElem?_eq_some_iff.1 ho).1)
      have hN1 : N ≤ (w.alloc (.deferred (some []))).heap.size := Nat.le_trans hs.size hU1.size
      have hH2 := hH1.alloc (o := loopObj b.fn tmps ps.toArray as bd w.heap.size) hN1 (Nat.lt_succ_self n) (Nat.le_succ n) (fun h => absurd h (Nat.lt_irrefl n)) rfl (has _ _)
      have hU2 := upd_alloc N D (w.alloc (.deferred (some []))) hN1 (loopObj b.fn tmps ps.toArray as bd w.heap.size)
      have hsz : (w.alloc (.deferred (some []))).heap.size = w.heap.size + 1 := by simp
      rw [hsz] at hH2
      refine ⟨w.heap.size + 1, [mark w.heap.size], _, w.heap.size :: rs, by rw [hb2]; exact h1, rfl, hH2, hU1.trans hU2, fun r hr' => ?_, ?_⟩
      · rcases List.mem_cons.1 hr' with rfl | hr'
        · refine ⟨hs.size, ?_⟩
          rw [Below.heap_alloc (w.alloc (.deferred (some []))) _ w.heap.size (by simp)]
          exact heap_alloc_new w _
        · exact (hU1.trans hU2).marks hs.marks r hr'
      · refine List.nodup_cons.2 ⟨fun hm => ?_, hs.once⟩
        have := (Array.getElem?_eq_some_iff.1 (hs.marks _ hm).2).1
        omega
    | some L0 =>
      rw [hr] at hb2
      obtain ⟨hlow, hbn, bl, o, hlam, hro⟩ := hb2
      unfold around at har
      rw [hr] at har
      obtain ⟨r0, hr0⟩ := har
      obtain ⟨b0, o0, l0, k1, k2, _⟩ := hs.heap.has L0 _ (hget_mem hr0)
      rw [hlam] at k1; cases k1
      have h1 := enterLoop_some (P := P) (tmps := tmps) b.fn ps.toArray as bd k2
      have hH2 := hs.heap.alloc (o := loopObj b.fn tmps ps.toArray as bd l0.defers) hs.size (Nat.lt_succ_self n) (Nat.le_succ n) (fun h => absurd h (Nat.lt_irrefl n)) rfl (has _ _)
      have hU2 := upd_alloc N D w hs.size (loopObj b.fn tmps ps.toArray as bd l0.defers)
      exact ⟨w.heap.size, [], _, rs, by rw [hro]; exact h1, rfl, hH2, hU2, hU2.marks hs.marks, hs.once⟩
  obtain ⟨l, ms, w1, rs1, henter, hms, hH1, hU1, hmarks1, honce1⟩ := key
  have hag1 := setLam_agree lam n (some (l, 0))
  have hargs : okL (setLam lam n (some (l, 0))) (n + 1) (first ++ [.yld n] ++ captured) := by
    rw [okL_app, okL_app]
    refine ⟨⟨okL_mono (by omega) hag1.keeps hfok.1, ?_⟩, okL_mono (by omega) hag1.keeps hfok.2.1⟩
    simp [okL, AV.ok, setLam_same, setLam_born]
  have hconcA : concL (setLam lam n (some (l, 0))) (first ++ [.yld n] ++ captured) = concL lam first ++ [Value.func (.yield l) #[] #[]] ++ concL lam captured := by
    rw [concL_app, concL_app, concL_agree hag1.keeps hfok.1, concL_agree hag1.keeps hfok.2.1]
    simp [concL, AV.conc, setLam_same, yldV]
  have hstep := st_rangeFunc (P := P) (ds := rs.map mark) (k := k) (cs := cs) henter (g := g) (first := concL lam first) (captured := concL lam captured) (by rw [hfv]; simp [AV.conc]) h.1
  obtain ⟨v', w2, ⟨v, H2, n2, lam2, hv, hq, hn2, hvok, hH2, hU2, hag2, hky2⟩, hst⟩ := (h.2 N D w1 _ hH1 (Nat.le_trans hs.size hU1.size) hargs).rets (mk b tmps (ms ++ rs.map mark) (.inRangeFunc l :: k)) cs
  rw [hconcA] at hst
  have hfin : (mk b tmps (ms ++ rs.map mark) (.inRangeFunc l :: k)).finish v' = mk b tmps (rs1.map mark) (.endRangeFunc l :: k) := by
    rw [← hms]; rfl
  rw [hfin] at hst
  obtain ⟨r, hr, hK⟩ := hq
  have hlam2 : lam2 n 0 = some (l, 0) := by rw [(hag2.keeps n (by omega) (setLam_born _ _ _)).2 0, setLam_same]
  obtain ⟨b2, o2, l2, m1, m2, m3, m4, m5, m6, m7, m8, m9⟩ := hH2.has n _ (hget_mem hr)
  rw [hlam2] at m1; cases m1
  have hagf : agree n lam lam2 := hag1.trans (hag2.mono (by omega))
  have hnb : l2.state ≠ .busy := by
    cases hst : r.st with
    | ready => rw [hst] at m9; rw [m9.1]; simp
    | busy => rw [hst] at hK; exact hK.elim
    | done c => rw [hst] at m9; rw [m9.1]; simp
  have hend := st_endRangeFunc (P := P) (b := b) (tmps := tmps) (ds := rs1.map mark) (k := k) (cs := cs) m2 hnb
  -- the state behind the loop
  have hH3 : HSit N D lam2 (hdel n H2) n2 (w2.putObjY l (.loop { l2 with state := .exhausted })) := by
    have hsub := hH2.sub (hdel_sub n H2)
    refine ⟨fun k x hk => ?_, hsub.low, hsub.wr, hsub.apart, hsub.nd⟩
    refine (hsub.has k x hk).move (hsub.low k x hk) (keeps.refl _ _) (Nat.le_refl _) (fun i b' o' hi hl => putObj_other ?_)
    rintro rfl
    have hne := hdel_ne hH2.nd k x hk
    exact hne (hH2.apart n _ (hget_mem hr) rfl k x ((hdel_sub n H2).subset hk) i _ _ _ hi hlam2 hl).1
  have hU3 : Upd N D w2 (w2.putObjY l (.loop { l2 with state := .exhausted })) := by
    refine ⟨rfl, rfl, rfl, by simp [World.putObjY], fun b' hb' hd => putObj_other (by rintro rfl; rcases hH2.wr n _ (hget_mem hr) rfl _ _ hlam2 with h | h; exact hd h; omega), fun b' ds hd => ?_⟩
    rw [putObj_other (by rintro rfl; rw [m2] at hd; cases hd)]
    exact hd
  have hS3 : Sit N D fx.nt ⟨T, hdel n H2, n2⟩ tmps rs1 (w2.putObjY l (.loop { l2 with state := .exhausted })) lam2 :=
    ⟨hs.tmp.mono hagf (by simp; omega), hH3, Nat.le_trans (Nat.le_trans (Nat.le_trans hs.size hU1.size) hU2.size) hU3.size, hs.nt, fun r hr' => ⟨(hmarks1 r hr').1, (hU2.trans hU3).defr r _ (hmarks1 r hr').2⟩, honce1⟩
  have hUall := hU1.trans (hU2.trans hU3)
  have hn3 : fx.n0 ≤ n2 := by simp at hn; omega
  have hag0 : agree fx.n0 lam lam2 := hagf.mono hn
  have hkyA : KeyS H fx.n0 (hdel n H2) := by
    refine KeyS.trans ?_ (KeyS.sub (hdel_sub n H2))
    exact ((KeyS.refl H n).cons rfl).trans (hky2.mono (by omega)) |>.mono hn
  have hsteps : Steps P (lone (mk b tmps (rs.map mark) (.code (.rangeFunc f ps.toArray as bd) :: k)) cs w) (lone (mk b tmps (rs1.map mark) ((l2.pending.map Item.code).toList ++ k)) cs (w2.putObjY l (.loop { l2 with state := .exhausted }))) :=
    .head hstep (Steps.trans hst (.one hend))
  cases hst2 : r.st with
  | ready =>
    rw [hst2] at hK m9
    have e1 : (l2.pending.map Item.code).toList ++ k = k := by rw [m9.2]; rfl
    rw [e1] at hsteps
    exact ⟨.nrm, _, tmps, rs1, _, lam2, hK, hS3, hn3, hUall, hag0, hkyA, hsteps⟩
  | busy => rw [hst2] at hK; exact hK.elim
  | done c =>
    rw [hst2] at hK m9
    have e1 : (l2.pending.map Item.code).toList ++ k = .code c :: k := by rw [m9.2]; rfl
    rw [e1] at hsteps
    obtain ⟨e, st', tmps', rs', w', lam', hK', hS', hn', hU', hag', hky', hA⟩ := hK N D b k cs tmps rs1 _ lam2 hS3 hn3 (hb.agree hag0)
    exact ⟨e, st', tmps', rs', w', lam', hK', hS', hn', hUall.trans hU', hag0.trans hag', hkyA.trans hky', .of_steps hsteps hA⟩

end

end Go.Y
