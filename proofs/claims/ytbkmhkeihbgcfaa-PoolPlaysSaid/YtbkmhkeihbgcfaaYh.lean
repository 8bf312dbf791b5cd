/-
  Each operation that looks at values, or at blocks, is the machine's own: slices, addresses, parts, and all of them.
-/
import Derived.Test.YtbkmhkeihbgcfaaYg
set_option linter.unusedVariables false
set_option linter.unusedSimpArgs false
namespace Go.Y
open RowKit

section
variable {P : Program} {N : Nat} {D : Nat → Prop} {T : Sl} {H : Hp} {n : Nat} {tmps : Array Value} {w : World} {lam : Lam}

theorem bndA_run {x : Option AV} {y r : Nat} {code : BoundsCode} (h : bndA x y = some r) : ∃ v, x = some v ∧ (Instr.sliceBound (v.conc lam) y code).run P w = .ok r w ∧ r ≤ y := by
  unfold bndA at h
  split at h
  · rename_i k i
    split at h
    · rename_i hh
      cases h
      exact ⟨_, rfl, by simp [AV.conc, Instr.sliceBound, asIntOf, hh], by omega⟩
    · cases h
  · cases h

/-- Where a slice expression's bounds come to. -/
theorem sliceB_run (h : TRel lam n T tmps) {len cap l hh m : Nat} {isS : Bool} {lo hi mx : Option Operand} (hc : len ≤ cap)
    (e : sliceB len cap (lo.map (getO T)) (hi.map (getO T)) (mx.map (getO T)) = some (l, hh, m)) :
    (Instr.sliceBounds isS len cap (lo.map (evalT tmps)) (hi.map (evalT tmps)) (mx.map (evalT tmps))).run P w = .ok (l, hh, m) w ∧ l ≤ hh ∧ hh ≤ m ∧ m ≤ cap := by
  have hget : ∀ {o : Operand} {v : AV}, getO T o = some v → evalT tmps o = v.conc lam := fun ho => (getO_spec h ho).1
  unfold sliceB at e
  split at e
  · rename_i m' hm
    split at e
    · rename_i h' hh'
      split at e
      · rename_i l' hl'
        cases e
        have hmx : (match mx.map (evalT tmps) with
            | some v => Instr.sliceBound v cap (if isS then .slice3Acap else .slice3Alen)
            | none => pure cap : Sem Nat).run P w = .ok m w ∧ m ≤ cap := by
          cases mx with
          | none => simp only [Option.map_none, bndO, Option.some.injEq] at hm; subst hm; exact ⟨by simp, Nat.le_refl _⟩
          | some o =>
            simp only [Option.map_some, bndO] at hm ⊢
            obtain ⟨v, hv, hr, hle⟩ := bndA_run (P := P) (w := w) (lam := lam) (code := if isS then .slice3Acap else .slice3Alen) hm
            rw [hget hv]; exact ⟨hr, hle⟩
        have hhi : ∀ c1 c2 : BoundsCode, (match hi.map (evalT tmps), mx.map (evalT tmps) with
            | some v, some _ => Instr.sliceBound v m c1
            | some v, none => Instr.sliceBound v m c2
            | none, none => pure len
            | none, some _ => stuck "Slice: max without high" : Sem Nat).run P w = .ok hh w ∧ hh ≤ m := by
          intro c1 c2
          cases hi with
          | none =>
            cases mx with
            | none =>
              simp only [Option.map_none, Option.some.injEq] at hh'
              subst hh'
              simp only [Option.map_none, bndO, Option.some.injEq] at hm
              subst hm
              exact ⟨by simp, hc⟩
            | some o => simp at hh'
          | some o =>
            simp only [Option.map_some] at hh' ⊢
            cases mx with
            | none =>
              obtain ⟨v, hv, hr, hle⟩ := bndA_run (P := P) (w := w) (lam := lam) (code := c2) hh'
              simp only [Option.map_none]
              rw [hget hv]; exact ⟨hr, hle⟩
            | some o2 =>
              obtain ⟨v, hv, hr, hle⟩ := bndA_run (P := P) (w := w) (lam := lam) (code := c1) hh'
              simp only [Option.map_some]
              rw [hget hv]; exact ⟨hr, hle⟩
        have hlo : ∀ c : BoundsCode, (match lo.map (evalT tmps) with
            | some v => Instr.sliceBound v hh c
            | none => pure 0 : Sem Nat).run P w = .ok l w ∧ l ≤ hh := by
          intro c
          cases lo with
          | none => simp only [Option.map_none, bndO, Option.some.injEq] at hl'; subst hl'; exact ⟨by simp, Nat.zero_le _⟩
          | some o =>
            simp only [Option.map_some, bndO] at hl' ⊢
            obtain ⟨v, hv, hr, hle⟩ := bndA_run (P := P) (w := w) (lam := lam) (code := c) hl'
            rw [hget hv]; exact ⟨hr, hle⟩
        refine ⟨?_, (hlo .sliceB).2, (hhi .slice3B .sliceAcap).2, hmx.2⟩
        have e1 := hmx.1
        have e2 := fun c1 c2 => (hhi c1 c2).1
        have e3 := fun c => (hlo c).1
        clear hmx hhi hlo hm hh' hl' hget
        cases mx <;> cases hi <;> cases lo <;> simp only [Option.map_some, Option.map_none] at e1 e2 e3 ⊢
        all_goals first
          | (simp only [Instr.sliceBounds, Sem.run_bind, Sem.run_pure, Result.andThen_ok, Option.isSome_some, Option.isSome_none, if_true, Bool.false_eq_true, if_false] at e1 e2 e3 ⊢
             first
               | (simp only [e1, e2, e3, Result.andThen_ok, Sem.run_pure]; done)
               | (simp_all; done))
          | (have := e2 .slice3B .sliceAcap; simp at this)
      · cases e
    · cases e
  · cases e

theorem cutA_spec {l h m k i s a sz len cap : Nat} {p : List PE} (hs : (AV.slc k i p sz a s len cap).ok lam n) (h1 : l ≤ h) (h2 : h ≤ m) (h3 : m ≤ cap) :
    slcV ((lam k i).map fun q => q) (offP p + mv m l a * sz) (h - l) (m - l) =
      (match (AV.slc k i p sz a s len cap).conc lam with
        | .slice x _ _ => .slice (if m = l then x else x.map (·.add (l * sz))) (h - l) (m - l)
        | v => v) ∧ (AV.slc k i p sz (mv m l a) (s + l) (h - l) (m - l)).ok lam n := by
  simp only [AV.ok] at hs ⊢
  refine ⟨?_, hs.1, hs.2.1, by omega, fun hm => ?_, fun hm => ?_⟩
  · simp only [AV.conc]
    cases hq : lam k i with
    | none => simp only [Option.map_none, slcV]; split <;> rfl
    | some q =>
      obtain ⟨b, o⟩ := q
      simp only [Option.map_some, slcV, mv]
      split
      · rfl
      · simp only [Option.map_some, add_addr, Value.slice.injEq, Option.some.injEq, Addr.mk.injEq, and_true, true_and]
        rw [Nat.add_mul]; omega
  · obtain ⟨h4, h5⟩ := hs.2.2.2.1 (by omega)
    refine ⟨?_, h5⟩
    unfold mv
    rw [if_neg (by omega), h4]
  · by_cases h0 : s = 0
    · exact (hs.2.2.2.1 (by omega)).2
    · exact hs.2.2.2.2 h0

theorem arr_cells (hH : HSit N D lam H n w) : True := trivial

theorem slice_run (h : TRel lam n T tmps) {t : TypeId} {ox : Operand} {x v : AV} {lo hi mx : Option Operand} (hx : getO T ox = some x)
    (e : sliceA P t x (lo.map (getO T)) (hi.map (getO T)) (mx.map (getO T)) = some v) :
    (Instr.sliceAt t (evalT tmps ox) (lo.map (evalT tmps)) (hi.map (evalT tmps)) (mx.map (evalT tmps))).run P w = .ok (v.conc lam) w ∧ v.ok lam n ∧ v.isTup = false := by
  obtain ⟨he, hok⟩ := getO_spec h hx
  rw [he]
  unfold sliceA at e
  split at e
  · rename_i k i p sz a s len cap
    split at e
    · rename_i ag sz' hs
      split at e
      · rename_i hsz
        subst hsz
        obtain ⟨el, hu, hl⟩ := slcOf_spec hs
        have h2 := (lay_spec (w := w) hl).2.1
        unfold cutA at e
        split at e
        · rename_i l hh m hb
          cases e
          have hok' := hok
          simp only [AV.ok] at hok'
          obtain ⟨hr, g1, g2, g3⟩ := sliceB_run (P := P) (w := w) (isS := true) h hok'.2.2.1 hb
          obtain ⟨hc, hokv⟩ := cutA_spec hok g1 g2 g3
          refine ⟨?_, hokv, rfl⟩
          simp only [Instr.sliceAt, Sem.run_bind, run_underlying hu w, Result.andThen_ok]
          rw [show (AV.slc k i p sz (mv m l a) (s + l) (hh - l) (m - l)).conc lam = slcV ((lam k i).map fun q => q) (offP p + mv m l a * sz) (hh - l) (m - l) by simp [AV.conc], hc]
          simp only [AV.conc]
          cases hq : lam k i with
          | none => simp only [slcV, Instr.slice, Sem.run_bind, run_underlying hu w, Result.andThen_ok, hr, h2, Sem.run_pure]
          | some q => simp only [slcV, Instr.slice, Sem.run_bind, run_underlying hu w, Result.andThen_ok, hr, h2, Sem.run_pure]
        · cases e
      · cases e
    · cases e
  · split at e
    · rename_i q hs
      obtain ⟨ag, sz'⟩ := q
      obtain ⟨el, hu, hl⟩ := slcOf_spec hs
      have h2 := (lay_spec (w := w) hl).2.1
      unfold cutN at e
      split at e
      · rename_i l hh m hb
        cases e
        obtain ⟨hr, g1, g2, g3⟩ := sliceB_run (P := P) (w := w) (isS := true) h (Nat.le_refl 0) hb
        refine ⟨?_, by simp [AV.ok], rfl⟩
        obtain ⟨rfl, rfl, rfl⟩ : l = 0 ∧ hh = 0 ∧ m = 0 := by omega
        simp only [Instr.sliceAt, Sem.run_bind, run_underlying hu w, Result.andThen_ok, AV.conc, Instr.slice, hr, h2, Sem.run_pure]
        rfl
      · cases e
    · cases e
  · rename_i k i p
    split at e
    · rename_i len ag sz ha
      obtain ⟨el, hu, hl⟩ := arrOf_spec ha
      have h2 := (lay_spec (w := w) hl).2.1
      unfold cutA at e
      split at e
      · rename_i l hh m hb
        cases e
        simp only [AV.ok] at hok
        obtain ⟨hr, g1, g2, g3⟩ := sliceB_run (P := P) (w := w) (isS := false) h (Nat.le_refl len) hb
        obtain ⟨b, o, hq, hp⟩ := ptrV_some (off := offP p) hok.2.2
        refine ⟨?_, ?_, rfl⟩
        · simp only [Instr.sliceAt, Sem.run_bind, run_underlying hu w, Result.andThen_ok, AV.conc, hq, ptrV, Instr.sureAddr, Sem.run_pure, hr, h2, hq, slcV]
          congr 2
          unfold mv
          split
          · simp
          · rw [add_addr]; simp; omega
        · simp only [AV.ok]
          refine ⟨hok.1, hok.2.1, by omega, fun hm => ⟨?_, hok.2.2⟩, fun _ => hok.2.2⟩
          unfold mv
          rw [if_neg (by omega)]
      · cases e
    · cases e
  · rename_i s
    split at e
    · rename_i hu0
      have hu : P.underlying t = some .string := by
        unfold isStrTy at hu0
        split at hu0
        · assumption
        · cases hu0
      split at e
      · rename_i hmx
        have hmx' : mx = none := by cases mx <;> simp at hmx <;> rfl
        subst hmx'
        unfold cutS at e
        split at e
        · rename_i l hh m hb
          cases e
          obtain ⟨hr, g1, g2, g3⟩ := sliceB_run (P := P) (w := w) (isS := false) (mx := none) h (Nat.le_refl s.length) hb
          refine ⟨?_, by simp [AV.ok], rfl⟩
          have hsz : (⟨s.toArray⟩ : ByteArray).size = s.length := by simp [ByteArray.size]
          simp only [Option.map_none] at hr
          simp only [Instr.sliceAt, Sem.run_bind, run_underlying hu w, Result.andThen_ok, AV.conc, Instr.slice, Option.map_none, Option.isSome_none, Bool.false_eq_true, if_false, hsz, hr, Sem.run_pure]
          congr 2
          apply ByteArray.ext
          simp [ByteArray.data_extract, List.extract_eq_take_drop, List.drop_take]
        · cases e
      · cases e
    · cases e
  · cases e

theorem fieldAddr_run {t : TypeId} {x v : AV} {f : Nat} (hx : x.ok lam n) (e : fieldAddrA (fldOf P t f) x f = some v) :
    (Instr.fieldAt t (x.conc lam) f).run P w = .ok (v.conc lam) w ∧ v.ok lam n ∧ v.isTup = false := by
  unfold fieldAddrA at e
  split at e
  · rename_i off ag sz k i p hf
    split at e
    · cases e
    · rename_i hn
      cases e
      obtain ⟨fs, g, hu, hg, rfl, hl⟩ := fldOf_spec hf
      have h2 := (lay_spec (w := w) hl).2.1
      simp only [AV.ok] at hx
      obtain ⟨b, o, hq, hp⟩ := ptrV_some (off := offP p) hx.2.2
      refine ⟨?_, by simp only [AV.ok]; exact hx, rfl⟩
      simp only [AV.conc, hq, ptrV, Instr.fieldAt, Sem.run_bind, Sem.run_pure, Result.andThen_ok, run_underlying hu w, hg, Instr.sureAddr, fieldPlace, h2, hn, if_false, add_addr, hq, ptrV, offP_app, offP, PE.off, Nat.add_zero, Nat.add_assoc]
  · cases e

theorem indexAddr_run {t : TypeId} {x y v : AV} (hx : x.ok lam n) (e : indexAddrC (arrOf P t) (slcOf P t) x y = some v) :
    (Instr.indexAt t (x.conc lam) (y.conc lam)).run P w = .ok (v.conc lam) w ∧ v.ok lam n ∧ v.isTup = false := by
  unfold indexAddrC at e
  split at e
  · rename_i kk j
    split at e
    · rename_i len ag sz ha
      obtain ⟨el, hu, hl⟩ := arrOf_spec ha
      have h2 := (lay_spec (w := w) hl).2.1
      split at e
      · rename_i k i p
        split at e
        · rename_i hh
          cases e
          simp only [AV.ok] at hx
          obtain ⟨b, o, hq, hp⟩ := ptrV_some (off := offP p) hx.2.2
          refine ⟨?_, by simp only [AV.ok]; exact hx, rfl⟩
          simp only [AV.conc, hq, ptrV, Instr.indexAt, asIntOf, Sem.run_bind, Sem.run_pure, Result.andThen_ok, run_underlying hu w, Instr.sureAddr, hh, and_self, if_true, h2, add_addr, hq, ptrV, offP_app, offP, PE.off, Nat.add_zero, Nat.add_assoc]
        · cases e
      · cases e
    · split at e
      · rename_i ag sz hs
        obtain ⟨el, hu, hl⟩ := slcOf_spec hs
        have h2 := (lay_spec (w := w) hl).2.1
        split at e
        · rename_i k i p sz' a st len cap
          split at e
          · rename_i hsz
            subst hsz
            split at e
            · rename_i hh
              cases e
              simp only [AV.ok] at hx
              obtain ⟨has, hne⟩ := hx.2.2.2.1 (by omega)
              cases hq : lam k i with
              | none => exact absurd hq hne
              | some q =>
                obtain ⟨b, o⟩ := q
                refine ⟨?_, by simp only [AV.ok]; exact ⟨hx.1, hx.2.1, by rw [hq]; simp⟩, rfl⟩
                simp only [AV.conc, hq, slcV, Instr.indexAt, asIntOf, Sem.run_bind, Sem.run_pure, Result.andThen_ok, run_underlying hu w, hh, and_self, if_true, h2, add_addr, ptrV, offP_app, offP, PE.off, Nat.add_zero, has]
                congr 4
                rw [Nat.add_mul]; omega
            · cases e
          · cases e
        · cases e
      · cases e
  · cases e

theorem mid_part (lam : Lam) {l : List AV} {i : Nat} {v : AV} (h : l[i]? = some v) : partF v.isAgg v.size (l.flatMap (cellsA lam)) (sizeL (l.take i)) = some (v.conc lam) := by
  have := partF_conc lam (flat_split lam h)
  rwa [cellsL_length] at this

theorem field_run {t : TypeId} {x v : AV} {f : Nat} (hx : x.ok lam n) (e : fieldC (fldOf P t f) x f = some v) :
    (Instr.field t (x.conc lam) f).run P w = .ok (v.conc lam) w ∧ v.ok lam n ∧ v.isTup = false := by
  unfold fieldC at e
  split at e
  · rename_i off ag sz vs hf
    split at e
    · rename_i hoff
      split at e
      · rename_i u hu'
        split at e
        · rename_i hlay
          cases e
          obtain ⟨a, m, h1, h2, h3, h4, _⟩ := layOK_spec hlay
          cases h1
          obtain ⟨fs, g, hu, hg, rfl, hl⟩ := fldOf_spec hf
          have hp := mid_part lam hu'
          rw [h2, h3, hoff] at hp
          simp only [AV.ok] at hx
          refine ⟨?_, okL_get hx.1 hu', h4⟩
          rw [conc_agg]
          simp only [Instr.field, Sem.run_bind, run_underlying hu w, Result.andThen_ok, hg, asAgg, Sem.run_pure]
          exact part_run hl (by simpa using hp)
        · cases e
      · cases e
    · cases e
  · cases e

theorem index_run {t : TypeId} {x y v : AV} (hx : x.ok lam n) (e : indexC P t (arrOf P t) x y = some v) :
    (Instr.index t (x.conc lam) (y.conc lam)).run P w = .ok (v.conc lam) w ∧ v.ok lam n ∧ v.isTup = false := by
  unfold indexC at e
  split at e
  · rename_i sz vs kk j
    split at e
    · rename_i len ag sz' ha
      obtain ⟨el, hu, hl⟩ := arrOf_spec ha
      have h2 := (lay_spec (w := w) hl).2.1
      split at e
      · rename_i hsz
        subst hsz
        split at e
        · rename_i hh
          split at e
          · rename_i u hu'
            split at e
            · rename_i hlay
              cases e
              obtain ⟨a, m, h1, h3, h4, h5, _⟩ := layOK_spec hlay
              cases h1
              simp only [AV.ok] at hx
              have hp := mid_part lam hu'
              have hlt := (List.getElem?_eq_some_iff.1 hu').1
              rw [h3, h4, sizeL_rep (okR_take hx.2.1 _), List.length_take, Nat.min_eq_left (by omega)] at hp
              refine ⟨?_, okL_get hx.1 hu', h5⟩
              rw [conc_rows]
              simp only [AV.conc, Instr.index, asIntOf, Sem.run_bind, run_underlying hu w, Result.andThen_ok, Sem.run_pure, hh, and_self, if_true, h2]
              exact part_run hl (by simpa using hp)
            · cases e
          · cases e
        · cases e
      · cases e
    · cases e
  · rename_i s kk j
    split at e
    · rename_i hu0
      have hu : P.underlying t = some .string := by
        unfold isStrTy at hu0
        split at hu0
        · assumption
        · cases hu0
      split at e
      · rename_i hh
        split at e
        · rename_i c hc
          cases e
          refine ⟨?_, by simp [AV.ok], rfl⟩
          have hc' : (⟨s.toArray⟩ : ByteArray)[j.toNat]? = some c := by
            have hlt := (List.getElem?_eq_some_iff.1 hc).1
            rw [getElem?_pos (⟨s.toArray⟩ : ByteArray) j.toNat (by simpa [ByteArray.size] using hlt)]
            rw [List.getElem?_eq_some_iff] at hc
            obtain ⟨_, hc⟩ := hc
            congr 1
          simp only [AV.conc, Instr.index, asIntOf, Sem.run_bind, run_underlying hu w, Result.andThen_ok, Sem.run_pure, hh.1, if_true, hc']
        · cases e
      · cases e
    · cases e
  · cases e

theorem concL_get (lam : Lam) : ∀ {l : List AV} {i : Nat} {v : AV}, l[i]? = some v → (concL lam l)[i]? = some (v.conc lam) := by
  intro l i v h
  rw [concL_eq, List.getElem?_map, h]; rfl

theorem built_run (hH : HSit N D lam H n w) {b : Builtin} {ts : Array TypeId} {ty : TypeId} {cs : Array Bool} {vs : List AV} {v : AV} (hvs : okL lam n vs) (h : builtA P b ts.toList vs H = some v) :
    (builtin b ts ty cs (concL lam vs).toArray).run P w = .ok (.value (v.conc lam)) w ∧ v.ok lam n ∧ v.isTup = false := by
  obtain ⟨ts⟩ := ts
  simp only at h
  unfold builtA at h
  split at h
  · rename_i t x
    unfold lenA at h
    split at h
    · rename_i k i p sz a s len cap
      split at h
      · rename_i q hq
        obtain ⟨e, hu, _⟩ := slcOf_spec (a := q.1) (n := q.2) hq
        cases h
        refine ⟨?_, by simp [AV.ok], rfl⟩
        simp only [concL, AV.conc]
        cases lam k i <;> simp [builtin, Builtin.len_, run_underlying hu w, goInt, slcV]
      · cases h
    · split at h
      · rename_i q hq
        obtain ⟨e, hu, _⟩ := slcOf_spec (a := q.1) (n := q.2) hq
        cases h
        exact ⟨by simp [concL, AV.conc, builtin, Builtin.len_, run_underlying hu w, goInt], by simp [AV.ok], rfl⟩
      · cases h
    · rename_i s
      split at h
      · rename_i hu0
        have hu : P.underlying t = some .string := by
          unfold isStrTy at hu0
          split at hu0
          · assumption
          · cases hu0
        cases h
        have hsz : (⟨s.toArray⟩ : ByteArray).size = s.length := by simp [ByteArray.size]
        exact ⟨by simp [concL, AV.conc, builtin, Builtin.len_, run_underlying hu w, goInt, hsz], by simp [AV.ok], rfl⟩
      · cases h
    · split at h
      · rename_i nn aa zz hq
        obtain ⟨e, hu, _⟩ := arrOf_spec hq
        cases h
        exact ⟨by simp [concL, AV.conc, builtin, Builtin.len_, run_underlying hu w, goInt], by simp [AV.ok], rfl⟩
      · cases h
    · cases h
  · rename_i t x
    unfold capA at h
    split at h
    · rename_i k i p sz a s len cap
      split at h
      · rename_i q hq
        obtain ⟨e, hu, _⟩ := slcOf_spec (a := q.1) (n := q.2) hq
        cases h
        refine ⟨?_, by simp [AV.ok], rfl⟩
        simp only [concL, AV.conc]
        cases lam k i <;> simp [builtin, Builtin.cap_, run_underlying hu w, goInt, slcV]
      · cases h
    · split at h
      · rename_i q hq
        obtain ⟨e, hu, _⟩ := slcOf_spec (a := q.1) (n := q.2) hq
        cases h
        exact ⟨by simp [concL, AV.conc, builtin, Builtin.cap_, run_underlying hu w, goInt], by simp [AV.ok], rfl⟩
      · cases h
    · cases h
  · rename_i k a k' b'
    split at h
    · rename_i hk; subst hk; cases h
      exact ⟨by simp [concL, AV.conc, builtin, Builtin.min_, Builtin.min2, minI] <;> rfl, by simp [AV.ok], rfl⟩
    · cases h
  · rename_i k a k' b'
    split at h
    · rename_i hk; subst hk; cases h
      exact ⟨by simp [concL, AV.conc, builtin, Builtin.max_, Builtin.max2, maxI] <;> rfl, by simp [AV.ok], rfl⟩
    · cases h
  · rename_i k a k' b' k'' c'
    split at h
    · rename_i hk; obtain ⟨rfl, rfl⟩ := hk; cases h
      exact ⟨by simp [concL, AV.conc, builtin, Builtin.min_, Builtin.min2, minI] <;> rfl, by simp [AV.ok], rfl⟩
    · cases h
  · rename_i k a k' b' k'' c'
    split at h
    · rename_i hk; obtain ⟨rfl, rfl⟩ := hk; cases h
      exact ⟨by simp [concL, AV.conc, builtin, Builtin.max_, Builtin.max2, maxI] <;> rfl, by simp [AV.ok], rfl⟩
    · cases h
  · cases h

theorem one_some {α γ : Type} {x : Option α} {f : α → Option γ} {r : γ} (h : one x f = some r) : ∃ a, x = some a ∧ f a = some r := by
  cases x with
  | none => cases h
  | some a => exact ⟨a, rfl, h⟩
theorem both_some {α β γ : Type} {x : Option α} {y : Option β} {f : α → β → Option γ} {r : γ} (h : both x y f = some r) : ∃ a b, x = some a ∧ y = some b ∧ f a b = some r := by
  cases x with
  | none => cases h
  | some a => cases y with
    | none => cases h
    | some b => exact ⟨a, b, rfl, rfl, h⟩

/-- **An operation that looks is the machine's own.** -/
theorem opV_run (h : TRel lam n T tmps) (hH : HSit N D lam H n w) {o : Oper} {v : AV} (e : opV P o.op T H = some v) :
    (execOp (evalT tmps) o).run P w = .ok (.value (v.conc lam)) w ∧ v.ok lam n := by
  have hg : ∀ {x : Operand} {v : AV}, getO T x = some v → evalT tmps x = v.conc lam ∧ v.ok lam n := fun hx => getO_spec h hx
  unfold opV at e
  split at e
  · rename_i x hop
    obtain ⟨h1, h2⟩ := hg e
    simp only [execOp, hop]; exact ⟨by simp [h1], h2⟩
  · rename_i x hop
    obtain ⟨h1, h2⟩ := hg e
    simp only [execOp, hop]; exact ⟨by simp [h1], h2⟩
  · rename_i c a b hop
    simp only [execOp, hop]
    unfold pickA at e
    split at e
    · rename_i t hc
      have hcv := (hg hc).1
      cases t with
      | true =>
        rw [if_pos rfl] at e
        exact ⟨by simp [hcv, AV.conc, asBool, (hg e).1], (hg e).2⟩
      | false =>
        rw [if_neg (by simp)] at e
        exact ⟨by simp [hcv, AV.conc, asBool, (hg e).1], (hg e).2⟩
    · cases e
  · rename_i t ps hop
    simp only [execOp, hop]
    obtain ⟨h1, h2, _⟩ := build_run (P := P) (w := w) h e
    exact ⟨by simp only [Sem.run_bind, h1, Result.andThen_ok, Sem.run_pure], h2⟩
  · rename_i t a hop
    simp only [execOp, hop]
    obtain ⟨x, hx, e⟩ := one_some e
    obtain ⟨h1, h2, _⟩ := load_run hH e
    rw [(hg hx).1]
    exact ⟨by simp only [Sem.run_bind, h1, Result.andThen_ok, Sem.run_pure], h2⟩
  · rename_i x hop
    simp only [execOp, hop]
    obtain ⟨x, hx, e⟩ := one_some e
    obtain ⟨h1, h2⟩ := hg hx
    simp only [h1]
    unfold nilA at e
    split at e
    · rename_i k i p
      cases e
      have h2' := h2
      simp only [AV.ok] at h2'
      obtain ⟨b, o, hq, hp⟩ := ptrV_some (off := offP p) h2'.2.2
      exact ⟨by simp [AV.conc, hp], h2⟩
    · rename_i f a b
      cases e
      exact ⟨by simp [AV.conc], h2⟩
    · rename_i k
      cases e
      have h2' := h2
      simp only [AV.ok] at h2'
      cases hq : lam k 0 with
      | none => exact absurd hq h2'.2.2
      | some q => exact ⟨by simp [AV.conc, hq, yldV], h2⟩
    · rename_i k
      cases e
      have h2' := h2
      simp only [AV.ok] at h2'
      cases hq : lam k 0 with
      | none => exact absurd hq h2'.2.2
      | some q => exact ⟨by simp [AV.conc, hq, mapV], h2⟩
    · rename_i k i p sz a s len cap
      cases e
      refine ⟨?_, h2⟩
      cases hq : lam k i <;> simp [AV.conc, hq, slcV]
    · cases e
  · rename_i op t x y u hop
    simp only [execOp, hop]
    obtain ⟨a, b, hx, hy, e⟩ := both_some e
    obtain ⟨h1, h2⟩ := hg hx
    obtain ⟨h3, h4⟩ := hg hy
    obtain ⟨h5, h6, h7⟩ := bin_run (P := P) (w := w) (ox := x) (oy := y) lam h2 h4 e
    simp only [h1, h3]
    exact ⟨by simp only [Sem.run_bind] at h5 ⊢; rw [h5]; rfl, h7⟩
  · rename_i op t x hop
    simp only [execOp, hop]
    obtain ⟨a, hx, e⟩ := one_some e
    obtain ⟨h1, h2, _⟩ := un_run (P := P) (w := w) lam e
    rw [(hg hx).1]
    exact ⟨by simp only [Sem.run_bind, h1, Result.andThen_ok, Sem.run_pure], h2 n⟩
  · rename_i s d x hop
    simp only [execOp, hop]
    obtain ⟨a, hx, e⟩ := one_some e
    obtain ⟨h1, h2, _⟩ := conv_run (P := P) h hH (hg hx).2 e
    rw [(hg hx).1]
    exact ⟨by simp only [Sem.run_bind, h1, Result.andThen_ok, Sem.run_pure], h2⟩
  · rename_i f first captured hop
    simp only [execOp, hop]
    obtain ⟨a, b, ha, hb, e⟩ := both_some e
    have h1 := getOs_arr h ha
    have h2 := getOs_arr h hb
    unfold mkFn at e
    split at e
    · cases e
    · rename_i hf
      cases e
      refine ⟨by simp [Instr.makeFunc, h1, h2, AV.conc], ?_⟩
      simp only [AV.ok]
      exact ⟨(getOs_spec h ha).2, (getOs_spec h hb).2, hf⟩
  · rename_i t x lo hi mx hop
    simp only [execOp, hop]
    obtain ⟨a, hx, e⟩ := one_some e
    obtain ⟨h1, h2, _⟩ := slice_run (P := P) (w := w) h hx e
    exact ⟨by simp only [Sem.run_bind, h1, Result.andThen_ok, Sem.run_pure], h2⟩
  · rename_i t x f hop
    simp only [execOp, hop]
    obtain ⟨a, hx, e⟩ := one_some e
    obtain ⟨h1, h2, _⟩ := fieldAddr_run (P := P) (w := w) (hg hx).2 e
    rw [(hg hx).1]
    exact ⟨by simp only [Sem.run_bind, h1, Result.andThen_ok, Sem.run_pure], h2⟩
  · rename_i t x f hop
    simp only [execOp, hop]
    obtain ⟨a, hx, e⟩ := one_some e
    obtain ⟨h1, h2, _⟩ := field_run (P := P) (w := w) (hg hx).2 e
    rw [(hg hx).1]
    exact ⟨by simp only [Sem.run_bind, h1, Result.andThen_ok, Sem.run_pure], h2⟩
  · rename_i t x i hop
    simp only [execOp, hop]
    obtain ⟨a, b, hx, hy, e⟩ := both_some e
    obtain ⟨h1, h2, _⟩ := indexAddr_run (P := P) (w := w) (hg hx).2 e
    rw [(hg hx).1, (hg hy).1]
    exact ⟨by simp only [Sem.run_bind, h1, Result.andThen_ok, Sem.run_pure], h2⟩
  · rename_i t x i hop
    simp only [execOp, hop]
    obtain ⟨a, b, hx, hy, e⟩ := both_some e
    obtain ⟨h1, h2, _⟩ := index_run (P := P) (w := w) (hg hx).2 e
    rw [(hg hx).1, (hg hy).1]
    exact ⟨by simp only [Sem.run_bind, h1, Result.andThen_ok, Sem.run_pure], h2⟩
  · rename_i x i hop
    simp only [execOp, hop]
    obtain ⟨a, hx, e⟩ := one_some e
    unfold extractA at e
    split at e
    · rename_i vs
      obtain ⟨h1, h2⟩ := hg hx
      simp only [AV.ok] at h2
      refine ⟨?_, okL_get h2 e⟩
      have := concL_get lam e
      simp [h1, AV.conc, Instr.extract, this]
    · cases e
  · rename_i t x i ok hop
    simp only [execOp, hop]
    obtain ⟨a, b, hx, hy, e⟩ := both_some e
    obtain ⟨h1, h2⟩ := look_run (P := P) (w := w) hH e
    rw [(hg hx).1, (hg hy).1]
    exact ⟨by simp only [Sem.run_bind, h1, Result.andThen_ok, Sem.run_pure], h2⟩
  · rename_i b args ts hop
    simp only [execOp, hop]
    obtain ⟨vs, hvs, e⟩ := one_some e
    have h1 := fun cs => built_run (P := P) (cs := cs) (ty := o.type) hH (getOs_spec h hvs).2 e
    have h3 := getOs_arr h hvs
    refine ⟨?_, (h1 #[]).2.1⟩
    simp only [Sem.run_bind, resolve, Sem.run_pure, Result.andThen_ok, invoke, h3]
    exact (h1 _).1
  · cases e

end

end Go.Y
