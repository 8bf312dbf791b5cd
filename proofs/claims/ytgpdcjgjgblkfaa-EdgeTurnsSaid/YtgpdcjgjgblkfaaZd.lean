/-
  The evaluator's plain operations, all: each is the machine's own.
-/
import Derived.Test.YtgpdcjgjgblkfaaZc
set_option linter.unusedVariables false
set_option linter.unusedSimpArgs false
namespace Go.Z
open RowKit

theorem foldl_splice : ∀ (vs : List Value) (i : Nat) (cells : Array Value) (off : Nat),
    (vs.zipIdx i).foldl (fun cs (x : Value × Nat) => cs.setIfInBounds (off + x.2) x.1) cells = (splice cells.toList (off + i) vs).toArray
  | [], i, cells, off => by simp [splice]
  | v :: vs, i, cells, off => by
    rw [List.zipIdx_cons, List.foldl_cons, foldl_splice vs (i + 1)]
    simp [splice, Nat.add_assoc]

theorem fill_of_fillF (place : Nat → Option (Nat × Nat)) (st : St) (tmps : Array Value) (lam : Nat → Nat) (hget : ∀ x, TRel lam (st.get x) (evalT tmps x)) :
    ∀ (parts : List (Nat × Operand)) (cells out : List Value), fillF place cells (parts.map fun p => (p.1, st.get p.2)) = some out →
      Instr.fill place cells.toArray (parts.map fun p => (p.1, evalT tmps p.2)) = some out.toArray
  | [], cells, out, h => by simp [fillF] at h; simp [Instr.fill, h]
  | (i, x) :: r, cells, out, h => by
    simp only [List.map_cons] at h ⊢
    cases hx : st.get x with
    | loc s off => rw [hx] at h; simp [fillF] at h
    | bad => rw [hx] at h; simp [fillF] at h
    | val v =>
      have hv : evalT tmps x = v := by have := hget x; rw [hx] at this; exact this
      rw [hx] at h
      simp only [fillF] at h
      cases hp : place i with
      | none => simp [hp] at h
      | some q =>
        obtain ⟨off, n⟩ := q
        simp only [hp] at h
        split at h
        · rename_i hh
          obtain ⟨h1, h2⟩ := hh
          have ih := fill_of_fillF place st tmps lam hget r _ out h
          have hs : v.cells.size = n := by simpa [vcells] using h1
          have e := foldl_splice v.cells.toList 0 cells.toArray off
          have e2 : v.cells.zipIdx.foldl (fun cs (x : Value × Nat) => cs.setIfInBounds (off + x.2) x.1) cells.toArray = (splice cells off (vcells v)).toArray := by
            rw [← Array.foldl_toList]
            simpa [vcells] using e
          simp only [Instr.fill, hp, hv]
          rw [if_neg (by simp; omega)]
          rw [show (v.cells.zipIdx.foldl (fun cs x => match x with | (c, j) => cs.setIfInBounds (off + j) c) cells.toArray) = (splice cells off (vcells v)).toArray from e2]
          exact ih
        · cases h

section
variable {P : Program} {w : World}

theorem mapM_places : ∀ (fs : List Field) (pl : List (Nat × Nat)), fs.mapM (fun f => (lay P f.type).map fun l => (f.offset, l.2)) = some pl →
    (fs.mapM (fun f => do pure (f.offset, ← sizeOf f.type) : Field → Sem (Nat × Nat))).run P w = .ok pl w
  | [], pl, h => by simp at h; subst h; simp
  | f :: fs, pl, h => by
    rw [List.mapM_cons] at h
    cases hl : lay P f.type with
    | none => simp [hl] at h
    | some l =>
      obtain ⟨a, n⟩ := l
      cases hr : fs.mapM (fun f => (lay P f.type).map fun l => (f.offset, l.2)) with
      | none => simp [hl, hr] at h
      | some pl' =>
        have ih := mapM_places fs pl' hr
        have h2 := (lay_spec (w := w) hl).2.1
        simp [hl, hr] at h
        subst h
        rw [List.mapM_cons]
        simp only [Sem.run_bind, h2, Result.andThen_ok, Sem.run_pure, ih]

theorem build_run {st : St} {tmps : Array Value} {lam : Nat → Nat} (hget : ∀ x, TRel lam (st.get x) (evalT tmps x)) {t : TypeId} {parts : Array (Nat × Operand)} {v : Value}
    (e : buildF P t (parts.toList.map fun p => (p.1, st.get p.2)) = some v) :
    (Instr.build t (parts.map fun (i, x) => (i, evalT tmps x))).run P w = .ok v w := by
  unfold buildF at e
  split at e
  · rename_i pl z hp hz
    cases hf : fillF (fun i => pl[i]?) z (parts.toList.map fun p => (p.1, st.get p.2)) with
    | none => rw [hf] at e; cases e
    | some out =>
      rw [hf] at e
      cases e
      have hfill := fill_of_fillF _ st tmps lam hget parts.toList z out hf
      unfold zeroOf at hz
      cases hi : P.info? t with
      | none => simp [hi] at hz
      | some i =>
        cases hz0 : i.zero with
        | none => simp [hi, hz0] at hz
        | some z0 =>
          have hz1 : z0.cells = z.toArray := by
            have : z0.cells.toList = z := by simpa [hi, hz0] using hz
            rw [← this]
          have hzr : (zeroValue t).run P w = .ok z0 w := by simp [zeroValue, typeInfo, hi, hz0]
          unfold placesOf at hp
          split at hp
          · rename_i fs hu
            have hm := mapM_places (w := w) fs.toList pl hp
            have hpl : ((fs.mapM fun f => do pure (f.offset, ← sizeOf f.type) : Sem (Array (Nat × Nat)))).run P w = .ok pl.toArray w := by
              rw [Array.mapM_eq_mapM_toList]
              simp only [Sem.run_map, hm, Result.andThen_ok]
            simp only [Instr.build, Sem.run_bind, hzr, Result.andThen_ok, run_underlying hu w, hpl, Array.toList_map]
            have : Instr.fill (fun x => pl.toArray[x]?) z0.cells (parts.toList.map fun x => match x with | (i, x) => (i, evalT tmps x)) = some out.toArray := by
              rw [hz1]; simpa using hfill
            rw [this]
            rfl
          · rename_i len el hu
            cases hl : lay P el with
            | none => rw [hl] at hp; cases hp
            | some l =>
              obtain ⟨a, n⟩ := l
              rw [hl] at hp
              cases hp
              have h2 := (lay_spec (w := w) hl).2.1
              have hmono : ∀ (ps : List (Nat × Value)) (cells out : Array Value), Instr.fill (fun i => ((List.range len).map fun i => (i * n, n))[i]?) cells ps = some out →
                  Instr.fill (fun i => some (i * n, n)) cells ps = some out := by
                intro ps
                induction ps with
                | nil => intro cells out h; exact h
                | cons p ps ih =>
                  intro cells out h
                  obtain ⟨i, v⟩ := p
                  unfold Instr.fill at h ⊢
                  by_cases hi : i < len
                  · simp only [List.getElem?_map, List.getElem?_range hi, Option.map_some] at h
                    dsimp only
                    split at h
                    · cases h
                    · rename_i hc
                      rw [if_neg hc]
                      exact ih _ _ (by simpa only [List.getElem?_map] using h)
                  · have : (List.range len)[i]? = none := by simp; omega
                    simp only [List.getElem?_map, this, Option.map_none] at h
                    cases h
              simp only [Instr.build, Sem.run_bind, hzr, Result.andThen_ok, run_underlying hu w, h2, Array.toList_map]
              have : Instr.fill (fun i => some (i * n, n)) z0.cells (parts.toList.map fun x => match x with | (i, x) => (i, evalT tmps x)) = some out.toArray := by
                rw [hz1]; exact hmono _ _ _ hfill
              rw [this]
              rfl
          · cases hp
  · cases e
end

section
variable {P : Program} {N : Nat} {D E : Nat → Prop} {st : St} {tmps : Array Value} {w : World} {lam : Nat → Nat}

theorem getAll_val (h : Rel N D E st tmps w lam) : ∀ (xs : List Operand) (vs : List Value), valsF (xs.map st.get) = some vs → xs.map (evalT tmps) = vs
  | [], vs, e => by simp [valsF] at e; simp [e]
  | x :: xs, vs, e => by
    simp only [List.map_cons] at e ⊢
    cases hx : st.get x with
    | loc s off => rw [hx] at e; simp [valsF] at e
    | bad => rw [hx] at e; simp [valsF] at e
    | val v =>
      rw [hx] at e
      simp only [valsF] at e
      cases hr : valsF (xs.map st.get) with
      | none => simp [hr] at e
      | some r =>
        rw [hr] at e
        simp at e
        subst e
        rw [getAll_val h xs r hr, h.val hx]

theorem getAll_arr (h : Rel N D E st tmps w lam) {xs : Array Operand} {vs : List Value} (e : getAll st xs = some vs) : xs.map (evalT tmps) = vs.toArray := by
  apply Array.ext'
  simpa using getAll_val h xs.toList vs e

theorem indexAddr_run (h : Rel N D E st tmps w lam) {t : TypeId} {x i : Operand} {tv : TV} (e : indexAddrF P t (st.get x) (st.get i) = some tv) :
    ∃ v, (Instr.indexAt t (evalT tmps x) (evalT tmps i)).run P w = .ok v w ∧ TRel lam tv v ∧ ∀ s o, tv = .loc s o → ∃ o2, st.get x = .loc s o2 := by
  unfold indexAddrF indexAddrC at e
  split at e
  · rename_i k n hi
    have hiv := h.val hi
    split at e
    · rename_i len a sz ha
      obtain ⟨el, hu, hl⟩ := arrOf_spec ha
      have h2 := (lay_spec (w := w) hl).2.1
      split at e
      · rename_i hh
        obtain ⟨b, off, hx, ht, hloc⟩ := addrF_run (h.get x) e
        refine ⟨_, ?_, ht, hloc⟩
        simp only [hiv, hx, Instr.indexAt, asIntOf, Sem.run_bind, Sem.run_pure, Result.andThen_ok, run_underlying hu w, Instr.sureAddr, hh, and_self, if_true, h2, add_addr]
      · cases e
    · split at e
      · rename_i a sz hs
        unfold slotA at e
        split at e
        · rename_i b off len cap hx
          obtain ⟨el, hu, hl⟩ := slcOf_spec hs
          have h2 := (lay_spec (w := w) hl).2.1
          split at e
          · rename_i hh
            cases e
            refine ⟨_, ?_, rfl, fun s o e' => by cases e'⟩
            simp only [hiv, h.val hx, Instr.indexAt, asIntOf, Sem.run_bind, Sem.run_pure, Result.andThen_ok, run_underlying hu w, hh, and_self, if_true, h2, add_addr]
          · cases e
        · cases e
      · cases e
  · cases e

theorem fieldAddr_run (h : Rel N D E st tmps w lam) {t : TypeId} {x : Operand} {f : Nat} {tv : TV} (e : fieldAddrF P t (st.get x) f = some tv) :
    ∃ v, (Instr.fieldAt t (evalT tmps x) f).run P w = .ok v w ∧ TRel lam tv v ∧ ∀ s o, tv = .loc s o → ∃ o2, st.get x = .loc s o2 := by
  unfold fieldAddrF fieldAddrC at e
  split at e
  · rename_i off a n hf
    split at e
    · cases e
    · rename_i hn
      obtain ⟨fs, g, hu, hg, rfl, hl⟩ := fldOf_spec hf
      have h2 := (lay_spec (w := w) hl).2.1
      obtain ⟨b, off, hx, ht, hloc⟩ := addrF_run (h.get x) e
      refine ⟨_, ?_, ht, hloc⟩
      simp only [hx, Instr.fieldAt, Sem.run_bind, Sem.run_pure, Result.andThen_ok, run_underlying hu w, hg, Instr.sureAddr, fieldPlace, h2, hn, if_false, add_addr]
  · cases e

theorem opF_sound {cx : Cx} {o : Oper} {tv : TV} {st' : St} (h : Rel N D E st tmps w lam) (hN : N ≤ w.heap.size) (e : opF cx o.op o.dst st = some (tv, st')) : Did cx.P o N D E tmps w tv st' := by
  obtain ⟨dst, op, ty, pos, af, gd⟩ := o
  cases op
  case move x =>
    simp only [opF, Option.some.injEq, Prod.mk.injEq] at e
    obtain ⟨rfl, rfl⟩ := e
    exact did_same h rfl (h.get x) fun s off hs => h.knownG hs
  case assign x =>
    simp only [opF, Option.some.injEq, Prod.mk.injEq] at e
    obtain ⟨rfl, rfl⟩ := e
    exact did_same h rfl (h.get x) fun s off hs => h.knownG hs
  case pick c a b =>
    replace e := pairF_some e
    obtain ⟨e, rfl⟩ := e
    unfold pickF at e
    split at e
    · rename_i t hc
      cases e
      refine did_same h (v := if t then evalT tmps a else evalT tmps b) ?_ ?_ ?_
      · simp [execOp, h.val hc, asBool]
      · cases t
        · exact h.get b
        · exact h.get a
      · cases t
        · exact fun s off hs => h.knownG hs
        · exact fun s off hs => h.knownG hs
    · cases e
  case alloc t =>
    simp only [opF] at e
    unfold newF at e
    split at e
    · rename_i d vs hz
      split at e
      · cases e
        unfold zeroOf at hz
        cases hi : cx.P.info? t with
        | none => simp [hi] at hz
        | some i =>
          cases hz0 : i.zero with
          | none => simp [hi, hz0] at hz
          | some z0 =>
            have hz1 : z0.cells.toList = vs := by simpa [hi, hz0] using hz
            have hR := h.newLoc hN d z0.cells t
            rw [hz1] at hR
            refine ⟨.pointer (some ⟨w.heap.size, 0, none⟩), w.alloc (.cells z0.cells t), upd lam d w.heap.size, .inl ?_, ?_, ?_, hR, upd_alloc N D w hN _⟩
            · simp [execOp, Instr.alloc, zeroValue, typeInfo, hi, hz0, newVar_run]
            · simp [TRel, upd_same]
            · intro s off es; cases es; simp [St.newLoc, upd_same]
      · cases e
    · cases e
  case box t x =>
    simp only [opF] at e
    unfold newF at e
    split at e
    · rename_i d vs hz
      split at e
      · cases e
        cases hx : valF (st.get x) with
        | none => rw [hx] at hz; cases hz
        | some v =>
          rw [hx] at hz
          cases hz
          have hxv := h.val (valF_some hx)
          have hR := h.newLoc hN d v.cells t
          refine ⟨.pointer (some ⟨w.heap.size, 0, none⟩), w.alloc (.cells v.cells t), upd lam d w.heap.size, .inl ?_, ?_, ?_, hR, upd_alloc N D w hN _⟩
          · simp [execOp, Instr.box, hxv, newVar_run]
          · simp [TRel, upd_same]
          · intro s off es; cases es; simp [St.newLoc, upd_same]
      · cases e
    · cases e
  case build t parts =>
    replace e := pairV_some e
    obtain ⟨v, e, rfl, rfl⟩ := e
    have := build_run (P := cx.P) (w := w) h.get e
    exact did_val h (by simp only [execOp, Sem.run_bind, this, Result.andThen_ok, Sem.run_pure])
  case load t a =>
    replace e := pairV_some e
    obtain ⟨v, e, rfl, rfl⟩ := e
    have := load_run (P := cx.P) h e
    exact did_val h (by simp only [execOp, Sem.run_bind, this, Result.andThen_ok, Sem.run_pure])
  case store t a x =>
    simp only [opF] at e
    cases hs : storeF cx.P t (st.get a) (st.get x) st with
    | none => rw [hs] at e; cases e
    | some s2 =>
      rw [hs] at e
      cases e
      obtain ⟨w', hr, hR, hU⟩ := store_run h hs
      refine ⟨undef, w', lam, .inr ⟨?_, rfl⟩, rfl, (fun s off e' => by cases e'), hR, hU⟩
      simp only [execOp, Sem.run_bind, hr, Result.andThen_ok, Sem.run_pure]
  case nilCheck x =>
    replace e := pairF_some e
    obtain ⟨e, rfl⟩ := e
    have hx := h.get x
    unfold nilF at e
    split at e
    · rename_i s off hs
      cases e
      rw [hs] at hx
      exact did_same h (by rw [show (execOp (evalT tmps) _) = _ from rfl]; simp only [execOp, show evalT tmps x = _ from hx, Sem.run_pure]) rfl fun s' o' e' => by cases e'; exact h.knownG hs
    · rename_i a hs
      cases e
      rw [hs] at hx
      exact did_val h (by simp only [execOp, show evalT tmps x = _ from hx, Sem.run_pure])
    · cases e
  case binOp op t x y ty2 =>
    replace e := pairV_some e
    obtain ⟨v, e, rfl, rfl⟩ := e
    cases hx : valF (st.get x) with
    | none => rw [hx] at e; cases e
    | some a =>
      cases hy : valF (st.get y) with
      | none => rw [hx, hy] at e; cases e
      | some b =>
        rw [hx, hy] at e
        have hr := bin_run (P := cx.P) (w := w) (ox := x) (oy := y) (show binF cx.P op t a b = some v from e)
        refine did_val h ?_
        simp only [execOp, h.val (valF_some hx), h.val (valF_some hy)]
        simp only [Sem.run_bind] at hr ⊢
        simp only [hr, Result.andThen_ok, Sem.run_pure]
  case unOp op t x =>
    replace e := pairV_some e
    obtain ⟨v, e, rfl, rfl⟩ := e
    cases hx : valF (st.get x) with
    | none => rw [hx] at e; cases e
    | some a =>
      rw [hx] at e
      have hr := un_run (P := cx.P) (w := w) (show unF op a = some v from e)
      exact did_val h (by simp only [execOp, h.val (valF_some hx), Sem.run_bind, hr, Result.andThen_ok, Sem.run_pure])
  case convert src dst' x =>
    replace e := pairV_some e
    obtain ⟨v, e, rfl, rfl⟩ := e
    cases hx : valF (st.get x) with
    | none => rw [hx] at e; cases e
    | some a =>
      rw [hx] at e
      have hr := conv_run (w := w) (show convF cx.P src dst' a = some v from e)
      exact did_val h (by simp only [execOp, h.val (valF_some hx), Sem.run_bind, hr, Result.andThen_ok, Sem.run_pure])
  case makeFunc fn first captured =>
    replace e := pairV_some e
    obtain ⟨v, e, rfl, rfl⟩ := e
    cases h1 : getAll st first with
    | none => rw [h1] at e; cases e
    | some a =>
      cases h2 : getAll st captured with
      | none => rw [h1, h2] at e; cases e
      | some b =>
        rw [h1, h2] at e
        cases e
        exact did_val h (by simp [execOp, Instr.makeFunc, getAll_arr h h1, getAll_arr h h2])
  case fieldAddr t x f =>
    replace e := pairF_some e
    obtain ⟨e, rfl⟩ := e
    obtain ⟨v, hr, ht, hl⟩ := fieldAddr_run h e
    exact did_same h (by simp only [execOp, Sem.run_bind, hr, Result.andThen_ok, Sem.run_pure]) ht fun s o hs => by obtain ⟨o2, h2⟩ := hl s o hs; exact h.knownG h2
  case field t x f =>
    replace e := pairV_some e
    obtain ⟨v, e, rfl, rfl⟩ := e
    unfold fieldF fieldC at e
    split at e
    · rename_i off a n cs hf hx
      obtain ⟨fs, g, hu, hg, rfl, hl⟩ := fldOf_spec hf
      have hr := part_run (w := w) hl e
      exact did_val h (by simp only [execOp, h.val hx, Instr.field, Sem.run_bind, run_underlying hu w, Result.andThen_ok, hg, asAgg, Sem.run_pure, hr])
    · cases e
  case indexAddr t x i =>
    replace e := pairF_some e
    obtain ⟨e, rfl⟩ := e
    obtain ⟨v, hr, ht, hl⟩ := indexAddr_run h e
    exact did_same h (by simp only [execOp, Sem.run_bind, hr, Result.andThen_ok, Sem.run_pure]) ht fun s o hs => by obtain ⟨o2, h2⟩ := hl s o hs; exact h.knownG h2
  case index t x i =>
    replace e := pairV_some e
    obtain ⟨v, e, rfl, rfl⟩ := e
    unfold indexF indexC at e
    split at e
    · rename_i len a sz cs k n ha hx hi
      obtain ⟨el, hu, hl⟩ := arrOf_spec ha
      have h2 := (lay_spec (w := w) hl).2.1
      split at e
      · rename_i hh
        have hr := part_run (w := w) hl e
        exact did_val h (by simp only [execOp, h.val hx, h.val hi, Instr.index, asIntOf, Sem.run_bind, run_underlying hu w, Result.andThen_ok, Sem.run_pure, hh, and_self, if_true, h2, hr])
      · cases e
    · cases e
  case extract x i =>
    replace e := pairV_some e
    obtain ⟨v, e, rfl, rfl⟩ := e
    unfold extractF at e
    split at e
    · rename_i vs hx
      have e' : vs[i]? = some v := by simpa using e
      exact did_val h (by simp only [execOp, h.val hx, Instr.extract, Sem.run_bind, e', Sem.run_pure, Result.andThen_ok])
    · cases e
  all_goals (simp only [opF] at e; cases e)
end

end Go.Z
