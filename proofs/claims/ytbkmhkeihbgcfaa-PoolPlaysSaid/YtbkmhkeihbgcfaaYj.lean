/-
  Operations that make blocks, and that write: all.
-/
import Derived.Test.YtbkmhkeihbgcfaaYi
set_option linter.unusedVariables false
set_option linter.unusedSimpArgs false
namespace Go.Y
open RowKit

section
variable {P : Program} {N : Nat} {D : Nat → Prop} {T : Sl} {H : Hp} {n : Nat} {tmps : Array Value} {w : World} {lam : Lam}

theorem elemT_spec {t e : TypeId} (h : P.underlying t = some (.slice e)) : zeroE P t = zeroA P e ∧ slcOf P t = lay P e ∧ bytesE P t = (P.info? e).map (·.bytes) := by
  simp [zeroE, slcOf, bytesE, h]

theorem fitZ_spec {sz : Nat} {z : AV} (h : fitZ sz (some z) = true) : z.size = sz ∧ z.isTup = false := by
  simpa [fitZ] using h

/-- The cells of so many zero values. -/
theorem zero_cells {z : AV} {len sz : Nat} (hz : z.size = sz) : ((Array.range (len * sz)).map ((z.conc lam).cells[· % (z.conc lam).cells.size]!)).toList = (List.replicate len z).flatMap (cellsA lam) ∨ len * sz = 0 := by
  by_cases h0 : len * sz = 0
  · exact .inr h0
  · left
    have hs : (z.conc lam).cells.size = sz := by
      have := cells_length lam z
      rw [hz] at this
      simpa [cellsA] using this
    have := range_rep (z.conc lam).cells len (by rw [hs]; exact h0)
    rw [hs] at this
    rw [flat_rep, hs, this]
    rfl

theorem buildSlice_run {c n' : Nat} (hc : c < n') (hnn : n ≤ n') (hb : c < n → ¬ lam.born c) (h : TRel lam n T tmps) (hH : HSit N D lam H n w) (hN : N ≤ w.heap.size) {t : TypeId} {len : Nat} {parts : Array (Nat × Operand)} {v : AV} {e : Ent}
    (he : buildSliceA (slcOf P t) (zeroE P t) len (parts.toList.map fun p => (p.1, getO T p.2)) c = some (v, e)) :
    MadeA P N D lam H n c n' w (Instr.buildSlice t len (parts.map fun (i, x) => (i, evalT tmps x))) v e := by
  unfold buildSliceA at he
  split at he
  · rename_i a sz z hl hz
    split at he
    · rename_i hh
      obtain ⟨hsmall, hfit⟩ := hh
      obtain ⟨hzs, hzt⟩ := fitZ_spec hfit
      split at he
      · rename_i sz' l hf
        cases he
        obtain ⟨el, hu, hl'⟩ := slcOf_spec hl
        have h2 := (lay_spec (w := w) hl').2.1
        rw [(elemT_spec hu).1] at hz
        obtain ⟨hzr, hzok⟩ := zeroA_spec (w := w) lam n hz
        have hrep : (AV.rows sz (List.replicate len z)).ok lam n := by
          simp only [AV.ok]; exact ⟨okL_rep hzok _, okR_rep hzs _, okT_rep hzt _⟩
        obtain ⟨g1, g2, g3, g4⟩ := fillA_spec h (fun i => some (i * sz, sz)) parts.toList _ _ hrep rfl hf
        -- the part's size
        have hsz' : ∀ (ps : List (Nat × Option AV)) (l0 : List AV) (m : Nat) (l1 : List AV), fillA (fun i => some (i * sz, sz)) (.rows sz l0) ps = some (.rows m l1) → m = sz ∧ l1.length = l0.length ∧ ((∀ v, v ∈ l0 → v.isTup = false) → ∀ v, v ∈ l1 → v.isTup = false) := by
          intro ps
          induction ps with
          | nil => intro l0 m l1 h; simp only [fillA, Option.some.injEq, AV.rows.injEq] at h; obtain ⟨rfl, rfl⟩ := h; exact ⟨rfl, rfl, fun h => h⟩
          | cons p ps ih =>
            intro l0 m l1 h
            obtain ⟨i, x⟩ := p
            cases x with
            | none => cases h
            | some x =>
              unfold fillA at h
              split at h
              · rename_i v1 hv1
                unfold setA at hv1
                dsimp only at hv1
                split at hv1
                · rename_i hx
                  split at hv1
                  · split at hv1
                    · cases hv1
                      obtain ⟨g1, g2, g3⟩ := ih _ _ _ h
                      refine ⟨g1, by rw [g2, List.length_set], fun h0 => g3 (fun v hv => ?_)⟩
                      rcases List.mem_or_eq_of_mem_set hv with hv | rfl
                      · exact h0 v hv
                      · exact hx.2
                    · cases hv1
                  · cases hv1
                · cases hv1
              · cases h
        obtain ⟨e1, e2, e3⟩ := hsz' _ _ _ _ hf
        subst e1
        have hlen : l.length = len := by rw [e2, List.length_replicate]
        simp only [AV.ok] at g2
        have hcells : (cellsA lam (AV.rows sz' l)).length = len * sz' := by
          rw [cells_length, g4]; simp only [AV.size]; rw [sizeL_rep (okR_rep hzs _), List.length_replicate]
        refine made_vec hc hnn hb (t := el) (cs := (cellsA lam (AV.rows sz' l)).toArray) hH hN g2.1 g2.2.1 (e3 (fun v hv => by rw [List.eq_of_mem_replicate hv]; exact hzt)) (by omega) (Nat.le_refl _) (by simpa using hcells) (by rw [cells_rows]; exact List.prefix_rfl) (Upd.refl _ _ _) ?_
        have hsmall' : ¬ len * sz' > 2 ^ 24 := by simp; omega
        have hfin : ∀ arr : Array Value, arr = (cellsA lam (AV.rows sz' (List.replicate len z))).toArray →
            (match Instr.fill (fun i => some (i * sz', sz')) arr (parts.map fun (q : Nat × Operand) => (q.1, evalT tmps q.2)).toList with
              | some cells => (do pure (Value.slice (some (← newRow el cells)) len len) : Sem Value)
              | _ => stuck "buildSlice: a part of the wrong size").run P w = .ok (.slice (some ⟨w.heap.size, 0, none⟩) len len) (w.alloc (.cells (cellsA lam (AV.rows sz' l)).toArray el)) := by
          intro arr harr
          rw [harr, Array.toList_map]
          have : Instr.fill (fun i => some (i * sz', sz')) (cellsA lam (AV.rows sz' (List.replicate len z))).toArray (parts.toList.map fun (q : Nat × Operand) => (q.1, evalT tmps q.2)) = some (cellsA lam (AV.rows sz' l)).toArray := g1
          rw [this]
          simp [newRow]
        have hcl0 : (cellsA lam (AV.rows sz' (List.replicate len z))).length = len * sz' := by
          rw [cells_length]; simp only [AV.size]; rw [sizeL_rep (okR_rep hzs _), List.length_replicate]
        simp only [Instr.buildSlice, Sem.run_bind, run_underlying hu w, Result.andThen_ok, h2, if_neg hsmall', Sem.run_pure]
        by_cases hz0 : len * sz' = 0
        · simp only [hz0, if_true, Sem.run_pure, Result.andThen_ok]
          refine hfin _ ?_
          rw [hz0] at hcl0
          rw [List.length_eq_zero_iff.1 hcl0]
          simp
        · simp only [hz0, if_false, Sem.run_bind, hzr, Sem.run_pure, Result.andThen_ok]
          refine hfin _ ?_
          rcases zero_cells (lam := lam) (len := len) hzs with h0 | h0
          · apply Array.ext'
            rw [h0, cells_rows]
          · exact absurd h0 hz0
      · cases he
    · cases he
  · cases he

theorem madeCells_flat {z : AV} {k sz : Nat} (hz : z.size = sz) : (madeCells (z.conc lam).cells (k * sz)).toList = (List.replicate k z).flatMap (cellsA lam) := by
  by_cases h0 : k * sz = 0
  · have : ((List.replicate k z).flatMap (cellsA lam)).length = 0 := by
      rw [cellsL_length, sizeL_rep (okR_rep hz _), List.length_replicate]; exact h0
    rw [List.length_eq_zero_iff.1 this, h0]
    simp [madeCells]
  · rcases zero_cells (lam := lam) (len := k) hz with h | h
    · exact h
    · exact absurd h h0

theorem makeSlice_run {c n' : Nat} (hc : c < n') (hnn : n ≤ n') (hbn : c < n → ¬ lam.born c) (hH : HSit N D lam H n w) (hN : N ≤ w.heap.size) {t : TypeId} {x y v : AV} {e : Ent} (he : makeSliceA (slcOf P t) (zeroE P t) (bytesE P t) x y c = some (v, e)) :
    MadeA P N D lam H n c n' w (Instr.makeSlice t (x.conc lam) (y.conc lam)) v e := by
  unfold makeSliceA at he
  split at he
  · rename_i a sz z by_ kl len kc cap hl hz hb
    split at he
    · rename_i hh
      obtain ⟨h0, hle, hby, h63, hfit⟩ := hh
      obtain ⟨hzs, hzt⟩ := fitZ_spec hfit
      cases he
      obtain ⟨el, hu, hl'⟩ := slcOf_spec hl
      rw [(elemT_spec hu).1] at hz
      rw [(elemT_spec hu).2.2] at hb
      obtain ⟨i, hi, hib⟩ := Option.map_eq_some_iff.1 hb
      obtain ⟨hzr, hzok⟩ := zeroA_spec (w := w) lam n hz
      obtain ⟨i', z', hi', hz'⟩ := zero_info hz
      rw [hi] at hi'; cases hi'
      have hzc : z' = z.conc lam := by
        have : (zeroValue el).run P w = .ok z' w := by simp [zeroValue, typeInfo, hi, hz']
        rw [hzr] at this; cases this; rfl
      have hsz : i.size = sz := by
        unfold lay at hl'
        rw [hi] at hl'
        split at hl'
        · rename_i d i2 _ h2; cases h2; cases hl'; rfl
        · cases hl'
      subst hzc
      have hr := run_make (P := P) w t el i (z.conc lam) hu hi hz' kl kc len cap h0 hle (by rw [hib]; exact hby) h63
      rw [hsz] at hr
      refine made_vec hc hnn hbn (t := el) hH hN (okL_rep hzok _) (okR_rep hzs _) (fun v hv => by rw [List.eq_of_mem_replicate hv]; exact hzt) (by simp) (by omega) ?_ ?_ (Upd.refl _ _ _) (by simpa [AV.conc] using hr)
      · have := congrArg List.length (madeCells_flat (lam := lam) (k := cap.toNat) hzs)
        rw [cellsL_length, sizeL_rep (okR_rep hzs _), List.length_replicate] at this
        simpa using this
      · rw [madeCells_flat hzs]; exact List.prefix_rfl
    · cases he
  · cases he

theorem newA_spec {z : Option AV} {c : Nat} {v : AV} {e : Ent} (h : newA z c = some (v, e)) : ∃ u, z = some u ∧ u.isTup = false ∧ v = .ptr c 0 [] ∧ e = .cel u := by
  unfold newA at h
  split at h
  · rename_i u
    split at h
    · rename_i ht; cases h; exact ⟨u, rfl, ht, rfl, rfl⟩
    · cases h
  · cases h

/-- **An operation that makes a block is the machine's own.** -/
theorem opN_run {c n' : Nat} (hc : c < n') (hnn : n ≤ n') (hb : c < n → ¬ lam.born c) (h : TRel lam n T tmps) (hH : HSit N D lam H n w) (hN : N ≤ w.heap.size) {o : Oper} {v : AV} {e : Ent} (he : opN P o.op T c = some (v, e)) :
    ∃ s, (execOp (evalT tmps) o) = (do pure (.value (← s))) ∧ MadeA P N D lam H n c n' w s v e := by
  unfold opN at he
  split at he
  · rename_i t hop
    obtain ⟨u, hz, ht, rfl, rfl⟩ := newA_spec he
    obtain ⟨hzr, hzok⟩ := zeroA_spec (w := w) lam n hz
    refine ⟨_, by simp only [execOp, hop] <;> rfl, ?_⟩
    obtain ⟨w', lam', h1, h2⟩ := made_cel hc hnn hb (P := P) (t := t) hH hN hzok ht
    refine ⟨w', lam', ?_, h2⟩
    simp only [Instr.alloc, Sem.run_bind, hzr, Result.andThen_ok]
    exact h1
  · rename_i t x hop
    obtain ⟨u, hx, ht, rfl, rfl⟩ := newA_spec he
    obtain ⟨h1, h2⟩ := getO_spec h hx
    refine ⟨_, by simp only [execOp, hop] <;> rfl, ?_⟩
    rw [h1]
    exact made_cel hc hnn hb hH hN h2 ht
  · rename_i t len ps hop
    exact ⟨_, by simp only [execOp, hop] <;> rfl, buildSlice_run hc hnn hb h hH hN he⟩
  · rename_i t hop
    cases he
    refine ⟨_, by simp only [execOp, hop] <;> rfl, ?_⟩
    have hag := setLam_keeps lam (some (w.heap.size, 0)) hb
    refine ⟨w.alloc (.map #[] 0), setLam lam c (some (w.heap.size, 0)), ?_, ?_, hH.alloc hN hc hnn hb rfl ⟨by simp, w.heap.size, 0, #[], 0, setLam_same _ _ _, heap_alloc_new w _, ⟨by simp, by simp⟩, by simp⟩, upd_alloc N D w hN _, hag, setLam_back _ _ _, rfl⟩
    · simp [Instr.makeMap, AV.conc, setLam_same, mapV]
    · simp [AV.ok, setLam_same, setLam_born, hc]
  · rename_i t l cc hop
    split at he
    · rename_i x y hx hy
      obtain ⟨h1, h2⟩ := getO_spec h hx
      obtain ⟨h3, h4⟩ := getO_spec h hy
      refine ⟨_, by simp only [execOp, hop] <;> rfl, ?_⟩
      rw [h1, h3]
      exact makeSlice_run hc hnn hb hH hN he
    · cases he
  · cases he

/-! ### Stores -/
theorem leaf_one (lam : Lam) {v : AV} (h1 : v.isAgg = false) (h2 : v.isTup = false) : (v.conc lam).oneCell' = true := by
  cases v with
  | ptr k i p => cases h : lam k i <;> simp [AV.conc, ptrV, h, Value.oneCell']
  | slc k i p n a s len cap => cases h : lam k i <;> simp [AV.conc, slcV, h, Value.oneCell']
  | map k => cases h : lam k 0 <;> simp [AV.conc, mapV, h, Value.oneCell']
  | yld k => cases h : lam k 0 <;> simp [AV.conc, yldV, h, Value.oneCell']
  | agg l => cases h1
  | rows sz l => cases h1
  | tup l => cases h2
  | _ => simp [AV.conc, Value.oneCell']

mutual
theorem cells_one {m : Nat} (lam : Lam) : ∀ {v : AV}, v.ok lam m → v.isTup = false → ∀ x, x ∈ cellsA lam v → x.oneCell' = true
  | .agg l, h, _ => by
    rw [cells_agg]; simp only [AV.ok] at h
    exact cellsL_one lam h.1 h.2
  | .rows sz l, h, _ => by
    rw [cells_rows]; simp only [AV.ok] at h
    exact cellsL_one lam h.1 h.2.2
  | .tup l, _, ht => by cases ht
  | .int a b, _, ht => by rw [cells_leaf lam rfl]; simpa using leaf_one lam (v := .int a b) rfl ht
  | .bool a, _, ht => by rw [cells_leaf lam rfl]; simpa using leaf_one lam (v := .bool a) rfl ht
  | .str a, _, ht => by rw [cells_leaf lam rfl]; simpa using leaf_one lam (v := .str a) rfl ht
  | .ptr a b c, _, ht => by rw [cells_leaf lam rfl]; simpa using leaf_one lam (v := .ptr a b c) rfl ht
  | .nilp, _, ht => by rw [cells_leaf lam rfl]; simpa using leaf_one lam (v := .nilp) rfl ht
  | .slc a b c d e f g i, _, ht => by rw [cells_leaf lam rfl]; simpa using leaf_one lam (v := .slc a b c d e f g i) rfl ht
  | .nils, _, ht => by rw [cells_leaf lam rfl]; simpa using leaf_one lam (v := .nils) rfl ht
  | .map a, _, ht => by rw [cells_leaf lam rfl]; simpa using leaf_one lam (v := .map a) rfl ht
  | .nilm, _, ht => by rw [cells_leaf lam rfl]; simpa using leaf_one lam (v := .nilm) rfl ht
  | .fn a b c, _, ht => by rw [cells_leaf lam rfl]; simpa using leaf_one lam (v := .fn a b c) rfl ht
  | .yld a, _, ht => by rw [cells_leaf lam rfl]; simpa using leaf_one lam (v := .yld a) rfl ht
  | .nilf, _, ht => by rw [cells_leaf lam rfl]; simpa using leaf_one lam (v := .nilf) rfl ht
theorem cellsL_one {m : Nat} (lam : Lam) : ∀ {l : List AV}, okL lam m l → okT l → ∀ x, x ∈ l.flatMap (cellsA lam) → x.oneCell' = true
  | [], _, _ => by simp
  | v :: r, h, ht => by
    simp only [okL] at h
    rw [List.flatMap_cons]
    intro x hx
    rcases List.mem_append.1 hx with hx | hx
    · exact cells_one lam h.1 (ht v List.mem_cons_self) x hx
    · exact cellsL_one lam h.2 (fun u hu => ht u (List.mem_cons_of_mem _ hu)) x hx
end

/-- A value stored over a part of a row of cells. -/
theorem run_store_mid {t : TypeId} {b : Nat} {c : Array Value} {ty : TypeId} {pre mid post : List Value} {v : AV} {a : Bool} {sz m : Nat} (hg : w.heap[b]? = some (.cells c ty (0, 0))) (hl : lay P t = some (a, sz))
    (hv : v.size = sz) (hok : v.ok lam m) (ht : v.isTup = false) (hc : c.toList = pre ++ mid ++ post) (hm : mid.length = v.size) :
    (storeVar t ⟨b, pre.length, none⟩ (v.conc lam)).run P w = .ok () (w.setRow b (pre ++ cellsA lam v ++ post).toArray) := by
  have h2 := (lay_spec (w := w) hl).2.1
  have hcs : (v.conc lam).cells.size = v.size := by
    have := cells_length lam v
    simpa [cellsA] using this
  have hone := cells_one lam hok ht
  have hlen := congrArg List.length hc
  simp only [List.length_append] at hlen
  have hcl : (cellsA lam v).length = mid.length := by rw [cells_length, hm]
  have hst := run_storeCells_at P b pre.length ty (cellsA lam v) 0 c w hg (by rw [hcl]; simp at hlen; omega) hone
  simp only [storeVar, Sem.run_bind, h2, Result.andThen_ok, hcs, hv, ne_eq, not_true_eq_false, if_false]
  show (storeCells ⟨b, pre.length, none⟩ (cellsA lam v)).run P w = _
  rw [hst]
  simp only [Nat.add_zero]
  have e1 : c.toList.take pre.length = pre := by rw [hc, List.append_assoc, List.take_left]
  have e2 : c.toList.drop (pre.length + (cellsA lam v).length) = post := by
    rw [hc, hcl, List.drop_left' (by simp)]
  rw [e1, e2]

theorem store_run (hH : HSit N D lam H n w) {t : TypeId} {x v : AV} {H' : Hp} (hx : x.ok lam n) (hv : v.ok lam n) (h : storeA (lay P t) x v H = some H') :
    ∃ w', (Instr.storeAt t (x.conc lam) (v.conc lam)).run P w = .ok () w' ∧ HSit N D lam H' n w' ∧ Upd N D w w' := by
  unfold storeA at h
  split at h
  · rename_i k i p
    split at h
    · rename_i hlay
      obtain ⟨a, sz, hl, ha, hsz, ht, h0⟩ := layOK_spec hlay
      split at h
      · rename_i e u q hp
        obtain ⟨k', i', hkk, hk, hu⟩ := ptrTree_spec hp
        cases hkk
        unfold storeB at h
        split at h
        · rename_i v1 hv1
          split at h
          · rename_i e' he'
            cases h
            obtain ⟨hok, hc⟩ := tree_cells hH hk hu
            obtain ⟨pre, post, mid, g1, g2, g3, g4, g5, g6, g7, g8⟩ := putP_spec lam hv p hok hv1
            have hm := hget_mem hk
            have hhas := hH.has k e hm
            -- who may be written
            cases e with
            | cel u0 =>
              simp only [Ent.tree] at hu
              split at hu
              case isFalse => cases hu
              rename_i hi0
              subst hi0
              cases hu
              simp only [Ent.setTree, Option.some.injEq] at he'
              subst he'
              obtain ⟨k1, k2, b, c, ty, k3, k4, k5⟩ := hhas
              have hrun := run_store_mid (P := P) (t := t) (pre := pre) (mid := mid) (post := post) k4 hl hsz hv ht (by rw [k5, g1]) g2
              refine ⟨_, ?_, hH.set hk rfl rfl k3 (fun b' hb' => setRow_other w b b' _ hb') ⟨g5, g8, b, _, ty, k3, setRow_heap w b c _ ty _ k4, by rw [g3]⟩, upd_setRow w b _ (hH.wr k _ hm rfl b 0 k3) k4⟩
              simp only [AV.conc, k3, ptrV, Instr.storeAt, Instr.sureAddr, Sem.run_bind, Sem.run_pure, Result.andThen_ok, Nat.zero_add]
              rw [← g4]; exact hrun
            | vec cap m l =>
              simp only [Ent.tree] at hu
              split at hu
              case isFalse => cases hu
              rename_i hi0
              subst hi0
              cases hu
              simp only [Ent.setTree] at he'
              split at he'
              case h_2 => cases he'
              rename_i m' l'
              split at he'
              case isFalse => cases he'
              rename_i hml
              cases he'
              obtain ⟨rfl, hl'⟩ := hml
              obtain ⟨k1, k2, k2', hlen, k3⟩ := hhas
              rcases k3 with ⟨_, hcap⟩ | ⟨b, c, ty, k3, k4, k5, k6⟩
              · exfalso
                have : l = [] := List.length_eq_zero_iff.1 (by omega)
                subst this
                have := congrArg List.length g1
                simp only [List.length_append, cells_length, AV.size, sizeL] at this
                omega
              · obtain ⟨rest, hrest⟩ := k6
                rw [← cells_rows lam m'] at hrest
                have hrun := run_store_mid (P := P) (t := t) (pre := pre) (mid := mid) (post := post ++ rest) k4 hl hsz hv ht (by rw [← hrest, g1]; simp) g2
                simp only [AV.ok] at g5
                refine ⟨w.setRow b (pre ++ cellsA lam v ++ (post ++ rest)).toArray, ?_, hH.set hk rfl rfl k3 (fun b' hb' => setRow_other w b b' _ hb') ⟨g5.1, g5.2.1, g5.2.2, by omega, .inr ⟨b, (pre ++ cellsA lam v ++ (post ++ rest)).toArray, ty, k3, setRow_heap w b c _ ty _ k4, ?_, ?_⟩⟩, upd_setRow w b _ (hH.wr k _ hm rfl b 0 k3) k4⟩
                · simp only [AV.conc, k3, ptrV, Instr.storeAt, Instr.sureAddr, Sem.run_bind, Sem.run_pure, Result.andThen_ok, Nat.zero_add]
                  rw [← g4]; exact hrun
                · rw [← k5]
                  have h1 := congrArg List.length hrest
                  have h2 := congrArg List.length g1
                  simp only [List.length_append, cells_length] at h1 h2
                  simp only [List.size_toArray, List.length_append, cells_length]
                  simp at h1
                  omega
                · rw [← cells_rows lam m', g3]
                  exact ⟨rest, by simp⟩
            | ro f => simp [Ent.setTree] at he'
            | mp m => simp [Ent.setTree] at he'
            | lk s m => simp [Ent.setTree] at he'
            | it s a b => simp [Ent.setTree] at he'
            | lp r => simp [Ent.setTree] at he'
          · cases h
        · cases h
      · cases h
    · cases h
  · cases h

/-! ### append -/
theorem notInt_spec {t : TypeId} (h : notInt P t = true) : ∃ d, P.underlying t = some d ∧ ∀ k, d ≠ .int k := by
  unfold notInt at h
  split at h
  · cases h
  · rename_i d hne hu; exact ⟨d, hu, fun k e => hne k e⟩
  · cases h

/-- What is appended, as the machine reads it. -/
theorem more_run (hH : HSit N D lam H n w) {sz : Nat} {x : AV} {m : List AV} (hx : x.ok lam n) (h : moreOf sz x H = some m) :
    okL lam n m ∧ okT m ∧ okR sz m ∧ (Builtin.lenOf (x.conc lam)).run P w = .ok m.length w ∧ (Builtin.firstCells sz m.length (x.conc lam)).run P w = .ok (m.flatMap (cellsA lam)).toArray w ∧
      (∀ w', (Builtin.lenOf (x.conc lam)).run P w' = .ok m.length w') := by
  unfold moreOf at h
  split at h
  · rename_i s
    split at h
    · rename_i h1
      subst h1
      cases h
      have hlen : (strRow s).length = s.length := by simp [strRow]
      have hsz : (⟨s.toArray⟩ : ByteArray).size = s.length := by simp [ByteArray.size]
      refine ⟨okL_mem.2 fun v hv => ?_, fun v hv => ?_, okR_mem.2 fun v hv => ?_, ?_, ?_, ?_⟩
      · obtain ⟨b, _, rfl⟩ := List.mem_map.1 hv; simp [encB, AV.ok]
      · obtain ⟨b, _, rfl⟩ := List.mem_map.1 hv; rfl
      · obtain ⟨b, _, rfl⟩ := List.mem_map.1 hv; simp [encB, AV.size]
      · simp [AV.conc, Builtin.lenOf, hlen, hsz]
      · rw [hlen, show (strRow s).flatMap (cellsA lam) = s.map fun b => Value.int .u8 b.toNat from enc_flat lam s]
        simp only [AV.conc, Builtin.firstCells, Sem.run_pure]
        congr 1
        apply Array.ext'
        simp [ByteArray.data_extract, List.extract_eq_take_drop]
      · intro w'; simp [AV.conc, Builtin.lenOf, hlen, hsz]
    · cases h
  · rename_i k i p m' a s len cap
    split at h
    · rename_i h1
      subst h1
      obtain ⟨g1, g2, hc⟩ := elems_cells hH hx h
      rcases hc with ⟨e, _⟩ | ⟨k', i', p', sz, a', s', len', cap', e, hlen, hR, hc⟩
      · cases e
      · cases e
        have hl : ∀ w', (Builtin.lenOf ((AV.slc k i p m' a s len cap).conc lam)).run P w' = .ok m.length w' := by
          intro w'
          simp only [AV.conc]
          cases lam k i <;> simp [slcV, Builtin.lenOf, hlen]
        refine ⟨g1, g2, hR, hl w, ?_, hl⟩
        rcases hc with h0 | ⟨b, o, c, ty, fr, hlam, hheap, has, pre, post, h1, h2⟩
        · have hnil : m.flatMap (cellsA lam) = [] := by
            apply List.length_eq_zero_iff.1; rw [cellsL_length]; exact h0
          have hz : m.length * m' = 0 := by rw [← sizeL_rep hR]; exact h0
          rw [hnil]
          simp only [AV.conc]
          cases hq : lam k i with
          | none => simp only [slcV]; exact run_firstCells_none (P := P) w _ _ _ _
          | some q =>
            simp only [slcV]
            have := run_firstCells_some (P := P) w m' m.length ⟨q.1, q.2 + (offP p + a * m'), none⟩ len cap [] (by simpa using hz.symm) (by simp)
            simpa using this
        · simp only [AV.conc, hlam, slcV]
          refine run_firstCells_some (P := P) w m' m.length _ len cap _ (by rw [cellsL_length, sizeL_rep hR]) (fun j v hj => ?_)
          rw [add_addr]
          rw [← has] at h2
          have : c.toList[pre.length + j]? = some v := by
            rw [h1, List.append_assoc, List.getElem?_append_right (by omega), List.getElem?_append_left (by have := (List.getElem?_eq_some_iff.1 hj).1; omega)]
            rw [show pre.length + j - pre.length = j by omega]; exact hj
          rw [h2] at this
          simpa [World.cell?, hheap] using this
    · cases h
  · cases h
    refine ⟨by simp [okL], by simp [okT], by simp [okR], by simp [AV.conc, Builtin.lenOf], ?_, by simp [AV.conc, Builtin.lenOf]⟩
    simp only [AV.conc, List.length_nil, List.flatMap_nil]
    exact run_firstCells_none (P := P) w _ _ _ _
  · cases h

theorem append_room {t u ty e : TypeId} {i : TypeInfo} (ht : P.underlying t = some (.slice e)) (hu : ∃ d, P.underlying u = some d ∧ ∀ k, d ≠ .int k) (hi : P.info? e = some i)
    {base : Option Addr} {sLen sCap m : Nat} {y : Value} {news : Array Value} {w' : World} (hl : (Builtin.lenOf y).run P w = .ok m w) (hn : (Builtin.firstCells i.size m y).run P w = .ok news w) (hroom : sLen + m ≤ sCap)
    (hst : match base with
      | some a => (storeCells (a.add (sLen * i.size)) news.toList).run P w = .ok () w'
      | none => w' = w) :
    (Builtin.append_ #[t, u] ty #[.slice base sLen sCap, y]).run P w = .ok (.slice base (sLen + m) sCap) w' := by
  obtain ⟨d, hu, hd⟩ := hu
  have hz : (match d with | .int _ => true | _ => false) = false := by cases d <;> first | rfl | exact absurd rfl (hd _)
  cases base with
  | none =>
    subst hst
    simp [Builtin.append_, run_underlying ht, run_underlying hu, sizeOf, typeInfo, hi]
    cases d <;> first | exact absurd rfl (hd _) | simp [hl, hroom, hn]
  | some a =>
    simp [Builtin.append_, run_underlying ht, run_underlying hu, sizeOf, typeInfo, hi]
    cases d <;> first | exact absurd rfl (hd _) | simp [hl, hroom, hn, hst]

theorem append_grow {t u ty e : TypeId} {i : TypeInfo} {z : Value} (ht : P.underlying t = some (.slice e)) (hu : ∃ d, P.underlying u = some d ∧ ∀ k, d ≠ .int k) (hi : P.info? e = some i) (hz : i.zero = some z)
    {base : Option Addr} {sLen sCap m : Nat} {y : Value} {news olds : Array Value} (hl : ∀ w', (Builtin.lenOf y).run P w' = .ok m w') (hn : (Builtin.firstCells i.size m y).run P w.drew = .ok news w.drew)
    (ho : (Builtin.firstCells i.size sLen (.slice base sLen sCap)).run P w.drew = .ok olds w.drew) (hroom : sCap < sLen + m) (h63 : sLen + m ≤ 9223372036854775807) (hb : (sLen + m) * i.bytes ≤ 140737488355328) :
    (Builtin.append_ #[t, u] ty #[.slice base sLen sCap, y]).run P w = .ok (.slice (some ⟨w.heap.size, 0, none⟩) (sLen + m) (grownCap w (sLen + m) sCap e))
      (w.drew.alloc (.cells (olds ++ news ++ Builtin.zeroCells z.cells (grownCap w (sLen + m) sCap e - (sLen + m))) e)) := by
  obtain ⟨d, hu, hd⟩ := hu
  have hfit := growslice_fits hroom hb
  have hnr : ¬ (sLen + m ≤ sCap) := by omega
  have h63' : ¬ (9223372036854775807 < ((sLen : Int) + (m : Int))) := by omega
  have h48' : ¬ (281474976710656 < Builtin.nextslicecap (sLen + m) sCap * i.bytes) := by omega
  have hl' := hl w
  simp [Builtin.append_, run_underlying ht, run_underlying hu, sizeOf, typeInfo, hi, zeroValue, hz]
  cases d <;> first | exact absurd rfl (hd _) | (simp [hl', hnr, h63', h48', Question.forced, hn, ho, newRow, grownCap])

end

end Go.Y
