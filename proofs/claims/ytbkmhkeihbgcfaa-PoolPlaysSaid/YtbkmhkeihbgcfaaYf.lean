/-
  Each operation that looks at values, or at blocks, is the machine's own.
-/
import Derived.Test.YtbkmhkeihbgcfaaYe
set_option linter.unusedVariables false
set_option linter.unusedSimpArgs false
namespace Go.Y
open RowKit

theorem ofC_spec {v : Value} {x : AV} (lam : Lam) (n : Nat) (h : ofC v = some x) : v = x.conc lam ∧ x.ok lam n := by
  unfold ofC at h
  split at h <;> first | (cases h; done) | skip
  all_goals
    cases h
    refine ⟨?_, ?_⟩ <;> simp [AV.conc, concL, AV.ok, okL]

section
variable {P : Program} {N : Nat} {D : Nat → Prop} {T : Sl} {H : Hp} {n : Nat} {tmps : Array Value} {w : World} {lam : Lam}

theorem getO_spec (h : TRel lam n T tmps) {x : Operand} {v : AV} (e : getO T x = some v) : evalT tmps x = v.conc lam ∧ v.ok lam n := by
  cases x with
  | tmp t => exact h t v e
  | const c => exact ofC_spec lam n e
  | global g => cases e
  | func f => cases e; exact ⟨by simp [evalT, AV.conc, concL], by simp [AV.ok, okL]⟩

theorem getOs_spec (h : TRel lam n T tmps) : ∀ {xs : List Operand} {vs : List AV}, getOs T xs = some vs → xs.map (evalT tmps) = concL lam vs ∧ okL lam n vs
  | [], vs, e => by cases e; exact ⟨rfl, by simp [okL]⟩
  | x :: xs, vs, e => by
    unfold getOs at e
    rw [List.map_cons] at e
    cases hx : getO T x with
    | none => rw [hx] at e; cases e
    | some v =>
      rw [hx] at e
      unfold seqO at e
      split at e
      · rename_i us hu
        cases e
        obtain ⟨h1, h2⟩ := getO_spec h hx
        obtain ⟨h3, h4⟩ := getOs_spec h hu
        exact ⟨by rw [List.map_cons, concL, h1, h3], by simp only [okL]; exact ⟨h2, h4⟩⟩
      · cases e

theorem getOs_arr (h : TRel lam n T tmps) {xs : Array Operand} {vs : List AV} (e : getOs T xs.toList = some vs) : xs.map (evalT tmps) = (concL lam vs).toArray := by
  apply Array.ext'
  simpa using (getOs_spec h e).1

/-! ### Blocks -/
/-- A tree, and where its cells lie. -/
theorem tree_cells (hH : HSit N D lam H n w) {k i : Nat} {e : Ent} {v : AV} (hk : hget k H = some e) (hv : e.tree i = some v) :
    v.ok lam n ∧ ((lam k i = none ∧ v.size = 0) ∨ ∃ b o c ty fr, lam k i = some (b, o) ∧ w.heap[b]? = some (.cells c ty fr) ∧ o ≤ c.size ∧ cellsA lam v <+: c.toList.drop o) := by
  have h := hH.has k e (hget_mem hk)
  cases e with
  | cel u =>
    simp only [Ent.tree] at hv
    split at hv
    · rename_i hi
      cases hv
      subst hi
      obtain ⟨h1, _, b, c, ty, h2, h3, h4⟩ := h
      exact ⟨h1, .inr ⟨b, 0, c, ty, _, h2, h3, Nat.zero_le _, by rw [List.drop_zero, h4]; exact List.prefix_rfl⟩⟩
    · cases hv
  | vec cap sz l =>
    simp only [Ent.tree] at hv
    split at hv
    · rename_i hi
      cases hv
      subst hi
      obtain ⟨h1, h2, h2', hlen, h3⟩ := h
      refine ⟨by simp only [AV.ok]; exact ⟨h1, h2, h2'⟩, ?_⟩
      rcases h3 with ⟨h3, h4⟩ | ⟨b, c, ty, h3, h4, h5, h6⟩
      · left
        refine ⟨h3, ?_⟩
        have : l = [] := List.length_eq_zero_iff.1 (by omega)
        subst this
        rfl
      · right
        exact ⟨b, 0, c, ty, _, h3, h4, Nat.zero_le _, by rw [List.drop_zero, cells_rows]; exact h6⟩
    · cases hv
  | ro f =>
    simp only [Ent.tree, Option.some.injEq] at hv
    subst hv
    exact h i
  | mp m => cases hv
  | lk s m => cases hv
  | it s a b => cases hv
  | lp r => cases hv

theorem layOK_spec {l : Option (Bool × Nat)} {v : AV} (h : layOK l v = true) : ∃ a m, l = some (a, m) ∧ v.isAgg = a ∧ v.size = m ∧ v.isTup = false ∧ m ≠ 0 := by
  unfold layOK at h
  split at h
  · rename_i a m
    simp only [Bool.and_eq_true, beq_iff_eq, Bool.not_eq_true', bne_iff_ne] at h
    exact ⟨a, m, rfl, h.1.1.1, h.1.1.2, h.1.2, h.2⟩
  · cases h

theorem chkL_spec {l : Option (Bool × Nat)} {x : Option AV} {v : AV} (h : chkL l x = some v) : x = some v ∧ layOK l v = true := by
  unfold chkL at h
  split at h
  · rename_i u
    split at h
    · rename_i hu; cases h; exact ⟨rfl, hu⟩
    · cases h
  · cases h

/-- A part of a row of cells, read as a value. -/
theorem partF_conc {v : AV} {cs pre post : List Value} (lam : Lam) (h : cs = pre ++ cellsA lam v ++ post) : partF v.isAgg v.size cs pre.length = some (v.conc lam) := by
  subst h
  have hl := cells_length lam v
  cases hv : v.isAgg with
  | true =>
    simp only [partF]
    rw [if_pos (by simp; omega), conc_of_agg lam hv]
    congr 2
    rw [List.append_assoc, List.drop_left, List.take_append_of_le_length (by omega), List.take_of_length_le (by omega)]
  | false =>
    simp only [partF]
    rw [cells_leaf lam hv]
    simp

theorem ptrTree_spec {x : AV} {e : Ent} {v : AV} {p : List PE} (h : ptrTree x H = some (e, v, p)) : ∃ k i, x = .ptr k i p ∧ hget k H = some e ∧ e.tree i = some v := by
  unfold ptrTree at h
  split at h
  · rename_i k i q
    split at h
    · rename_i e' he
      split at h
      · rename_i u hu
        cases h
        exact ⟨k, i, rfl, he, hu⟩
      · cases h
    · cases h
  · cases h

theorem load_run (hH : HSit N D lam H n w) {t : TypeId} {x v : AV} (h : loadA (lay P t) x H = some v) :
    (Instr.loadAt t (x.conc lam)).run P w = .ok (v.conc lam) w ∧ v.ok lam n ∧ v.isTup = false := by
  unfold loadA at h
  split at h
  · rename_i e u p hp
    obtain ⟨k, i, rfl, hk, hu⟩ := ptrTree_spec hp
    obtain ⟨hg, hlay⟩ := chkL_spec h
    obtain ⟨a, m, hl, ha, hm, ht, hm0⟩ := layOK_spec hlay
    obtain ⟨hok, hc⟩ := tree_cells hH hk hu
    obtain ⟨pre, post, h1, h2, h3⟩ := getP_spec lam p hok hg
    rcases hc with ⟨_, h0⟩ | ⟨b, o, c, ty, fr, hlam, hheap, ho, hpre⟩
    · have := congrArg List.length h1
      simp only [List.length_append, cells_length] at this
      omega
    · refine ⟨?_, h3, ht⟩
      have hx : (AV.ptr k i p).conc lam = .pointer (some ⟨b, o + offP p, none⟩) := by simp [AV.conc, hlam, ptrV]
      obtain ⟨rest, hrest⟩ := hpre
      have hcs : c.toList = (c.toList.take o ++ pre) ++ cellsA lam v ++ (post ++ rest) := by
        conv => lhs; rw [← List.take_append_drop o c.toList, ← hrest, h1]
        simp
      have hpart := partF_conc lam hcs
      rw [ha, hm, List.length_append, h2, List.length_take, Nat.min_eq_left (by simpa using ho)] at hpart
      have := run_loadVar_part (P := P) hheap List.prefix_rfl hl hpart
      rw [hx]
      simpa [Instr.loadAt, Instr.sureAddr] using this
  · cases h

/-! ### Rows that are built -/
def splice : List Value → Nat → List Value → List Value
  | cs, _, [] => cs
  | cs, off, v :: vs => splice (cs.set off v) (off + 1) vs

theorem splice_eq : ∀ (vs cs : List Value) (off : Nat), off + vs.length ≤ cs.length → splice cs off vs = cs.take off ++ vs ++ cs.drop (off + vs.length)
  | [], cs, off, _ => by simp [splice]
  | v :: vs, cs, off, h => by
    have hl : off < cs.length := by simp at h; omega
    rw [splice, splice_eq vs _ _ (by simp at h ⊢; omega)]
    have h1 : (cs.set off v).take (off + 1) = cs.take off ++ [v] := by
      rw [List.take_add_one, List.take_set_of_le (Nat.le_refl _)]; simp [hl]
    have h2 : (cs.set off v).drop (off + 1 + vs.length) = cs.drop (off + (vs.length + 1)) := by
      rw [List.drop_set_of_lt (by omega)]; congr 1; omega
    rw [h1, h2]
    simp

theorem splice_mid {A U X B : List Value} {off : Nat} (h1 : A.length = off) (h2 : U.length = X.length) : splice (A ++ U ++ B) off X = A ++ X ++ B := by
  rw [splice_eq _ _ _ (by simp; omega)]
  have e1 : (A ++ U ++ B).take off = A := by rw [List.append_assoc, List.take_left' h1]
  have e2 : (A ++ U ++ B).drop (off + X.length) = B := by rw [List.drop_left' (by simp; omega)]
  rw [e1, e2]

theorem foldl_splice : ∀ (vs : List Value) (i : Nat) (cells : Array Value) (off : Nat),
    (vs.zipIdx i).foldl (fun cs (x : Value × Nat) => cs.setIfInBounds (off + x.2) x.1) cells = (splice cells.toList (off + i) vs).toArray
  | [], i, cells, off => by simp [splice]
  | v :: vs, i, cells, off => by
    rw [List.zipIdx_cons, List.foldl_cons, foldl_splice vs (i + 1)]
    simp [splice, Nat.add_assoc]

theorem setA_spec (lam : Lam) {m : Nat} {v x v' : AV} {i : Nat} {p : Option (Nat × Nat)} (hv : v.ok lam m) (hx : x.ok lam m) (h : setA v i p x = some v') :
    ∃ off, p = some (off, x.size) ∧ off + x.size ≤ v.size ∧ cellsA lam v' = splice (cellsA lam v) off (cellsA lam x) ∧ v'.ok lam m ∧ v'.isAgg = true ∧ v.isAgg = true ∧ v'.size = v.size := by
  unfold setA at h
  split at h
  · rename_i off sz
    split at h
    · rename_i hs
      have hpart : ∀ (l : List AV) (u : AV), l[i]? = some u → u.size = x.size → sizeL (l.take i) = off →
          off + x.size ≤ sizeL l ∧ (l.set i x).flatMap (cellsA lam) = splice (l.flatMap (cellsA lam)) off (cellsA lam x) ∧ sizeL (l.set i x) = sizeL l := by
        intro l u hu hsz hoff
        have h1 := flat_split lam hu
        have h2 := flat_set lam (x := x) hu
        have hlen := congrArg List.length h1
        have hlen2 := congrArg List.length h2
        rw [cellsL_length] at hlen hlen2
        simp only [List.length_append, cells_length, cellsL_length, hoff, hsz] at hlen hlen2
        refine ⟨by omega, ?_, by omega⟩
        rw [h1, h2]
        exact (splice_mid (by rw [cellsL_length, hoff]) (by rw [cells_length, cells_length, hsz])).symm
      split at h
      · rename_i l
        split at h
        · rename_i u hu
          split at h
          · rename_i hh
            cases h
            obtain ⟨g1, g2, g3⟩ := hpart l u hu (by rw [hh.1, hs.1]) hh.2
            simp only [AV.ok] at hv
            exact ⟨off, by rw [hs.1], by simp only [AV.size]; exact g1, by rw [cells_agg, cells_agg]; exact g2, by simp only [AV.ok]; exact ⟨okL_set hv.1 hx, okT_set hv.2 hs.2⟩, rfl, rfl, by simp only [AV.size]; exact g3⟩
          · cases h
        · cases h
      · rename_i m' l
        split at h
        · rename_i u hu
          split at h
          · rename_i hh
            cases h
            simp only [AV.ok] at hv
            have husz := okR_get hv.2.1 hu
            have hlt := (List.getElem?_eq_some_iff.1 hu).1
            obtain ⟨g1, g2, g3⟩ := hpart l u hu (by rw [husz, hh.1, hs.1]) (by rw [sizeL_rep (okR_take hv.2.1 i), List.length_take, Nat.min_eq_left (by omega), hh.1]; exact hh.2)
            exact ⟨off, by rw [hs.1], by simp only [AV.size]; exact g1, by rw [cells_rows, cells_rows]; exact g2, by simp only [AV.ok]; exact ⟨okL_set hv.1 hx, okR_set hv.2.1 (by rw [hs.1, hh.1]), okT_set hv.2.2 hs.2⟩, rfl, rfl, by simp only [AV.size]; exact g3⟩
          · cases h
        · cases h
      · cases h
    · cases h
  · cases h

theorem fillA_spec (h : TRel lam n T tmps) (place : Nat → Option (Nat × Nat)) : ∀ (parts : List (Nat × Operand)) (v out : AV), v.ok lam n → v.isAgg = true → fillA place v (parts.map fun p => (p.1, getO T p.2)) = some out →
      Instr.fill place (cellsA lam v).toArray (parts.map fun p => (p.1, evalT tmps p.2)) = some (cellsA lam out).toArray ∧ out.ok lam n ∧ out.isAgg = true ∧ out.size = v.size
  | [], v, out, hv, hag, hf => by
    simp only [List.map_nil, fillA, Option.some.injEq] at hf
    subst hf
    exact ⟨by simp [Instr.fill], hv, hag, rfl⟩
  | (i, o) :: r, v, out, hv, hag, hf => by
    rw [List.map_cons] at hf
    cases ho : getO T o with
    | none => rw [ho] at hf; cases hf
    | some x =>
      rw [ho] at hf
      obtain ⟨he, hxok⟩ := getO_spec h ho
      unfold fillA at hf
      split at hf
      · rename_i v1 hv1
        obtain ⟨off, hp, hle, hc, hok, hag1, _, hsz⟩ := setA_spec lam hv hxok hv1
        obtain ⟨g1, g2, g3, g4⟩ := fillA_spec h place r v1 out hok hag1 hf
        refine ⟨?_, g2, g3, by rw [g4, hsz]⟩
        have hcs : (x.conc lam).cells.size = x.size := by
          have := cells_length lam x
          simpa [cellsA] using this
        have e := foldl_splice (x.conc lam).cells.toList 0 (cellsA lam v).toArray off
        have e2 : (x.conc lam).cells.zipIdx.foldl (fun cs (x : Value × Nat) => cs.setIfInBounds (off + x.2) x.1) (cellsA lam v).toArray = (cellsA lam v1).toArray := by
          rw [← Array.foldl_toList, hc]
          simpa [cellsA] using e
        simp only [List.map_cons, Instr.fill, hp, he]
        rw [if_neg (by simp [hcs, cells_length]; omega)]
        rw [show ((x.conc lam).cells.zipIdx.foldl (fun cs x => match x with | (c, j) => cs.setIfInBounds (off + j) c) (cellsA lam v).toArray) = (cellsA lam v1).toArray from e2]
        exact g1
      · cases hf

theorem mapM_places : ∀ (fs : List Field) (pl : List (Nat × Nat)), fs.mapM (fun f => (lay P f.type).map fun l => (f.offset, l.2)) = some pl →
    (fs.mapM (fun f => do pure (f.offset, ← sizeOf f.type) : Field → Sem (Nat × Nat))).run P w = .ok pl w
  | [], pl, h => by simp at h; subst h; simp
  | f :: fs, pl, h => by
    rw [List.mapM_cons] at h
    cases hl : lay P f.type with
    | none => simp [hl] at h
    | some l =>
      obtain ⟨a, n⟩ := l
      cases hr : fs.mapM (fun f => (lay P f.type).map fun l => (f.offset, l.2)) with
      | none => simp [hl, hr] at h
      | some pl' =>
        have ih := mapM_places fs pl' hr
        have h2 := (lay_spec (w := w) hl).2.1
        simp [hl, hr] at h
        subst h
        rw [List.mapM_cons]
        simp only [Sem.run_bind, h2, Result.andThen_ok, Sem.run_pure, ih]

/-! ### Zero values -/
theorem ofCs_leaf {v : Value} {x : AV} (h : ofC v = some x) : x.isAgg = false ∧ (∀ cs, v ≠ .agg cs) := by
  unfold ofC at h
  split at h <;> cases h <;> exact ⟨rfl, by simp⟩

mutual
theorem unfl_spec (P : Program) (lam : Lam) (n : Nat) : ∀ (d : Nat) (t : TypeId) (cs : List Value) (v : AV) (r : List Value), unfl P d t cs = some (v, r) →
    cs = cellsA lam v ++ r ∧ v.ok lam n ∧ v.isTup = false
  | 0, t, cs, v, r, h => by simp [unfl] at h
  | d + 1, t, cs, v, r, h => by
    unfold unfl at h
    split at h
    · rename_i fs hu
      obtain ⟨q, hq, he⟩ := Option.map_eq_some_iff.1 h
      cases he
      obtain ⟨h1, h2, h3⟩ := unflS_spec P lam n d _ _ _ _ hq
      exact ⟨by rw [cells_agg]; exact h1, by simp only [AV.ok]; exact ⟨h2, h3⟩, rfl⟩
    · rename_i m e hu
      split at h
      · rename_i a sz hl
        obtain ⟨q, hq, he⟩ := Option.bind_eq_some_iff.1 h
        split at he
        · rename_i hall
          cases he
          obtain ⟨h1, h2, h3⟩ := unflA_spec P lam n d _ _ _ _ _ hq
          refine ⟨by rw [cells_rows]; exact h1, ?_, rfl⟩
          simp only [AV.ok]
          refine ⟨h2, okR_mem.2 fun v hv => ?_, h3⟩
          have := List.all_eq_true.1 hall v hv
          simpa using this
        · cases he
      · cases h
    · split at h
      · rename_i c rest
        obtain ⟨x, hx, he⟩ := Option.bind_eq_some_iff.1 h
        split at he
        · rename_i ht
          cases he
          obtain ⟨h1, h2⟩ := ofC_spec lam n hx
          refine ⟨?_, h2, ht⟩
          rw [cells_leaf lam (ofCs_leaf hx).1, ← h1]; rfl
        · cases he
      · cases h
    · cases h
theorem unflS_spec (P : Program) (lam : Lam) (n : Nat) : ∀ (d : Nat) (fs : List Field) (cs : List Value) (l : List AV) (r : List Value), unflS P d fs cs = some (l, r) →
    cs = l.flatMap (cellsA lam) ++ r ∧ okL lam n l ∧ okT l
  | 0, fs, cs, l, r, h => by simp [unflS] at h
  | d + 1, [], cs, l, r, h => by simp only [unflS, Option.some.injEq, Prod.mk.injEq] at h; obtain ⟨rfl, rfl⟩ := h; exact ⟨by simp, by simp [okL], by simp [okT]⟩
  | d + 1, f :: fs, cs, l, r, h => by
    unfold unflS at h
    obtain ⟨q, hq, he⟩ := Option.bind_eq_some_iff.1 h
    obtain ⟨q2, hq2, he2⟩ := Option.map_eq_some_iff.1 he
    cases he2
    obtain ⟨h1, h2, g2⟩ := unfl_spec P lam n d _ _ _ _ hq
    obtain ⟨h3, h4, g4⟩ := unflS_spec P lam n d _ _ _ _ hq2
    exact ⟨by rw [h1, h3]; simp, by simp only [okL]; exact ⟨h2, h4⟩, by simpa [okT] using ⟨g2, g4⟩⟩
theorem unflA_spec (P : Program) (lam : Lam) (n : Nat) : ∀ (d : Nat) (e : TypeId) (m : Nat) (cs : List Value) (l : List AV) (r : List Value), unflA P d e m cs = some (l, r) →
    cs = l.flatMap (cellsA lam) ++ r ∧ okL lam n l ∧ okT l
  | 0, e, m, cs, l, r, h => by simp [unflA] at h
  | d + 1, e, 0, cs, l, r, h => by simp only [unflA, Option.some.injEq, Prod.mk.injEq] at h; obtain ⟨rfl, rfl⟩ := h; exact ⟨by simp, by simp [okL], by simp [okT]⟩
  | d + 1, e, m + 1, cs, l, r, h => by
    unfold unflA at h
    obtain ⟨q, hq, he⟩ := Option.bind_eq_some_iff.1 h
    obtain ⟨q2, hq2, he2⟩ := Option.map_eq_some_iff.1 he
    cases he2
    obtain ⟨h1, h2, g2⟩ := unfl_spec P lam n d _ _ _ _ hq
    obtain ⟨h3, h4, g4⟩ := unflA_spec P lam n d _ _ _ _ _ hq2
    exact ⟨by rw [h1, h3]; simp, by simp only [okL]; exact ⟨h2, h4⟩, by simpa [okT] using ⟨g2, g4⟩⟩
end

theorem zeroA_spec {t : TypeId} {v : AV} (lam : Lam) (n : Nat) (h : zeroA P t = some v) : (zeroValue t).run P w = .ok (v.conc lam) w ∧ v.ok lam n := by
  unfold zeroA at h
  cases hi : P.info? t with
  | none => simp [hi] at h
  | some i =>
    cases hz0 : i.zero with
    | none => simp [hi, hz0] at h
    | some z =>
      simp only [hi, hz0, Option.bind_some] at h
      split at h
      · rename_i u hu
        split at h
        · rename_i hag
          cases h
          obtain ⟨h1, h2, h3⟩ := unfl_spec P lam n _ _ _ _ _ hu
          refine ⟨?_, h2⟩
          have : z = v.conc lam := by
            rw [List.append_nil] at h1
            cases hv : v.isAgg with
            | true =>
              rw [hv] at hag
              cases z <;> simp [isAggV] at hag
              rename_i cs
              rw [conc_of_agg lam hv, ← h1]
              simp [Value.cells]
            | false =>
              rw [hv] at hag
              have hz : ∀ cs, z ≠ .agg cs := by
                intro cs e; subst e; simp [isAggV] at hag
              rw [cells_leafV hz, cells_leaf lam hv] at h1
              simpa using h1
          simp [zeroValue, typeInfo, hi, hz0, this]
        · cases h
      · cases h

theorem zero_info {t : TypeId} {v : AV} (h : zeroA P t = some v) : ∃ i z, P.info? t = some i ∧ i.zero = some z := by
  unfold zeroA at h
  cases hi : P.info? t with
  | none => simp [hi] at h
  | some i =>
    cases hz0 : i.zero with
    | none => simp [hi, hz0] at h
    | some z => exact ⟨i, z, rfl, hz0⟩

theorem zero_agg {t : TypeId} {pl : List (Nat × Nat)} {z : AV} (hp : placesOf P t = some pl) (h : zeroA P t = some z) : z.isAgg = true := by
  unfold zeroA at h
  split at h
  · rename_i z0 _
    split at h
    · rename_i u hu
      split at h
      · cases h
        unfold unfl at hu
        unfold placesOf at hp
        split at hp
        · rename_i fs hf
          rw [hf] at hu
          obtain ⟨q, _, he⟩ := Option.map_eq_some_iff.1 hu
          simp only [Prod.mk.injEq] at he
          obtain ⟨rfl, _⟩ := he
          rfl
        · rename_i len e hf
          rw [hf] at hu
          dsimp only at hu
          split at hu
          · obtain ⟨q, _, he⟩ := Option.bind_eq_some_iff.1 hu
            split at he
            · simp only [Option.some.injEq, Prod.mk.injEq] at he
              obtain ⟨rfl, _⟩ := he
              rfl
            · cases he
          · cases hu
        · cases hp
      · cases h
    · cases h
  · cases h

theorem build_run (h : TRel lam n T tmps) {t : TypeId} {parts : Array (Nat × Operand)} {v : AV}
    (e : buildA (placesOf P t) (zeroA P t) (parts.toList.map fun p => (p.1, getO T p.2)) = some v) :
    (Instr.build t (parts.map fun (i, x) => (i, evalT tmps x))).run P w = .ok (v.conc lam) w ∧ v.ok lam n ∧ v.isTup = false := by
  unfold buildA at e
  split at e
  · rename_i pl z hp hz
    obtain ⟨hzr, hzok⟩ := zeroA_spec (w := w) lam n hz
    have hzag := zero_agg hp hz
    obtain ⟨hfill, hok, hvag, _⟩ := fillA_spec h (fun i => pl[i]?) parts.toList z v hzok hzag e
    refine ⟨?_, hok, by cases v <;> first | rfl | simp [AV.isAgg] at hvag⟩
    have hz1 : (z.conc lam).cells = (cellsA lam z).toArray := by simp [cellsA]
    have hv1 : v.conc lam = .agg (cellsA lam v).toArray := conc_of_agg lam hvag
    unfold placesOf at hp
    split at hp
    · rename_i fs hu
      have hm := mapM_places (w := w) fs.toList pl hp
      have hpl : ((fs.mapM fun f => do pure (f.offset, ← sizeOf f.type) : Sem (Array (Nat × Nat)))).run P w = .ok pl.toArray w := by
        rw [Array.mapM_eq_mapM_toList]
        simp only [Sem.run_map, hm, Result.andThen_ok]
      simp only [Instr.build, Sem.run_bind, hzr, Result.andThen_ok, run_underlying hu w, hpl, Array.toList_map]
      have : Instr.fill (fun x => pl.toArray[x]?) (z.conc lam).cells (parts.toList.map fun x => match x with | (i, x) => (i, evalT tmps x)) = some (cellsA lam v).toArray := by
        rw [hz1]; simpa using hfill
      rw [this, hv1]
      rfl
    · rename_i len el hu
      cases hl : lay P el with
      | none => rw [hl] at hp; cases hp
      | some l =>
        obtain ⟨a, k⟩ := l
        rw [hl] at hp
        cases hp
        have h2 := (lay_spec (w := w) hl).2.1
        have hmono : ∀ (ps : List (Nat × Value)) (cells out : Array Value), Instr.fill (fun i => ((List.range len).map fun i => (i * k, k))[i]?) cells ps = some out →
            Instr.fill (fun i => some (i * k, k)) cells ps = some out := by
          intro ps
          induction ps with
          | nil => intro cells out h; exact h
          | cons p ps ih =>
            intro cells out h
            obtain ⟨i, v⟩ := p
            unfold Instr.fill at h ⊢
            by_cases hi : i < len
            · simp only [List.getElem?_map, List.getElem?_range hi, Option.map_some] at h
              dsimp only
              split at h
              · cases h
              · rename_i hc
                rw [if_neg hc]
                exact ih _ _ (by simpa only [List.getElem?_map] using h)
            · have : (List.range len)[i]? = none := by simp; omega
              simp only [List.getElem?_map, this, Option.map_none] at h
              cases h
        simp only [Instr.build, Sem.run_bind, hzr, Result.andThen_ok, run_underlying hu w, h2, Array.toList_map]
        have : Instr.fill (fun i => some (i * k, k)) (z.conc lam).cells (parts.toList.map fun x => match x with | (i, x) => (i, evalT tmps x)) = some (cellsA lam v).toArray := by
          rw [hz1]; exact hmono _ _ _ hfill
        rw [this, hv1]
        rfl
    · cases hp
  · cases e
end

end Go.Y
