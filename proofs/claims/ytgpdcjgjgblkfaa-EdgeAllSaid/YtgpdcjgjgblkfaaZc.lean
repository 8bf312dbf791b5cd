/-
  Each plain operation of the evaluator is the machine's own operation.
-/
import Derived.Test.YtgpdcjgjgblkfaaZb
import Derived.ChangeKeysEq
import Derived.Laws.StructEq
set_option linter.unusedVariables false
set_option linter.unusedSimpArgs false
namespace Go.Z
open RowKit

section
variable {N : Nat} {D E : Nat → Prop} {st : St} {tmps : Array Value} {w : World} {lam : Nat → Nat}

theorem Has.alloc_new (w : World) (vs : Array Value) (t : TypeId) : Has (w.alloc (.cells vs t)) w.heap.size (.rw vs.toList) :=
  ⟨vs, t, by show (w.heap.push _)[w.heap.size]? = _; simp, List.prefix_rfl⟩

theorem Rel.newLoc (h : Rel N D E st tmps w lam) (hN : N ≤ w.heap.size) (s : Nat) (vs : Array Value) (t : TypeId) :
    Rel N D E (st.newLoc s vs.toList) tmps (w.alloc (.cells vs t)) (upd lam s w.heap.size) := by
  have hold : ∀ b, b < w.heap.size → (w.alloc (.cells vs t)).heap[b]? = w.heap[b]? := fun b hb => Below.heap_alloc w _ b hb
  have hlt : ∀ s' , st.locs s' ≠ none → lam s' < w.heap.size := fun s' hs' => by
    cases hc : st.locs s' with
    | none => exact absurd hc hs'
    | some cs => exact (h.loc s' cs hc).2.lt
  have htmps : ∀ t, (st.newLoc s vs.toList).tmps t = st.tmps t ∨ (st.newLoc s vs.toList).tmps t = .bad := by
    intro t
    show (match st.locs s with | none => st.tmps | some _ => purge s st.tmps) t = _ ∨ (match st.locs s with | none => st.tmps | some _ => purge s st.tmps) t = _
    cases st.locs s with
    | none => exact .inl rfl
    | some _ =>
      show purge s st.tmps t = _ ∨ purge s st.tmps t = _
      unfold purge
      cases st.tmps t with
      | loc s' off => dsimp only; split <;> simp
      | val v => exact .inl rfl
      | bad => exact .inl rfl
  have hne : ∀ t s' off, (st.newLoc s vs.toList).tmps t = .loc s' off → s' ≠ s ∧ st.tmps t = .loc s' off := by
    intro t s' off e
    have e' : (match st.locs s with | none => st.tmps | some _ => purge s st.tmps) t = .loc s' off := e
    cases hc : st.locs s with
    | none =>
      rw [hc] at e'
      refine ⟨?_, e'⟩
      intro es; subst es
      exact h.known t s' off e' hc
    | some cs =>
      rw [hc] at e'
      have e2 : purge s st.tmps t = .loc s' off := e'
      unfold purge at e2
      cases ht : st.tmps t with
      | loc s2 off2 =>
        rw [ht] at e2
        dsimp only at e2
        split at e2
        · cases e2
        · rename_i hs2; cases e2; exact ⟨hs2, rfl⟩
      | val v => rw [ht] at e2; cases e2
      | bad => rw [ht] at e2; cases e2
  have hlocs : ∀ s', (st.newLoc s vs.toList).locs s' = upd st.locs s (some vs.toList) s' := fun _ => rfl
  refine ⟨fun t => ?_, fun t s' off e => ?_, fun s' cs hs => ?_, fun a b ha hb e => ?_, fun b x hb => ?_, h.nd, fun s' hs => ?_⟩
  · rcases htmps t with e | e
    · cases hc : (st.newLoc s vs.toList).tmps t with
      | loc s' off =>
        obtain ⟨h1, h2⟩ := hne t s' off hc
        have := h.tmp t
        rw [h2] at this
        show _ = Value.pointer (some ⟨upd lam s w.heap.size s', off, none⟩)
        rw [upd_other _ _ h1]
        exact this
      | val v => have := h.tmp t; rw [← e, hc] at this; exact this
      | bad => trivial
    · rw [e]; trivial
  · obtain ⟨h1, h2⟩ := hne t s' off e
    rw [hlocs, upd_other _ _ h1]
    exact h.known t s' off h2
  · rw [hlocs] at hs
    by_cases e : s' = s
    · subst e
      rw [upd_same] at hs ⊢
      cases hs
      exact ⟨hN, Has.alloc_new w vs t⟩
    · rw [upd_other _ _ e] at hs ⊢
      exact ⟨(h.loc s' cs hs).1, (h.loc s' cs hs).2.of_block (hold _ (h.loc s' cs hs).2.lt)⟩
  · rw [hlocs] at ha hb
    by_cases ea : a = s <;> by_cases eb : b = s
    · rw [ea, eb]
    · subst ea
      rw [upd_same, upd_other _ _ eb] at e
      rw [upd_other _ _ eb] at hb
      have := hlt b hb; omega
    · subst eb
      rw [upd_same, upd_other _ _ ea] at e
      rw [upd_other _ _ ea] at ha
      have := hlt a ha; omega
    · rw [upd_other _ _ ea, upd_other _ _ eb] at e
      rw [upd_other _ _ ea] at ha
      rw [upd_other _ _ eb] at hb
      exact h.linj a b ha hb e
  · exact ⟨(h.blk b x hb).1.of_block (hold _ (h.blk b x hb).1.lt), (h.blk b x hb).2⟩
  · rw [hlocs] at hs
    by_cases e : s' = s
    · subst e
      rw [upd_same]
      intro hm
      obtain ⟨⟨b, x⟩, hb, rfl⟩ := List.mem_map.1 hm
      have := (h.blk _ x hb).1.lt
      simp at this
    · rw [upd_other _ _ e] at hs ⊢
      exact h.apart s' hs

theorem upd_alloc (N : Nat) (D : Nat → Prop) (w : World) (hN : N ≤ w.heap.size) (o : Obj) : Upd N D w (w.alloc o) :=
  ⟨rfl, rfl, rfl, by simp, fun b hb _ => Below.heap_alloc w o b (by omega), fun b ds hd => (Below.heap_alloc w o b (Array.getElem?_eq_some_iff.1 hd).1).trans hd⟩

theorem upd_setRow {N : Nat} {D : Nat → Prop} (w : World) (b : Nat) (c : Array Value) (h : D b ∨ N ≤ b) {c0 : Array Value} {ty : TypeId} {fr : Nat × Nat} (hg : w.heap[b]? = some (.cells c0 ty fr)) : Upd N D w (w.setRow b c) :=
  ⟨rfl, rfl, rfl, by simp, fun k hk hd => setRow_other w b k c (by rintro rfl; rcases h with h | h; exact hd h; omega),
    fun k ds hd => (setRow_other w b k c (by rintro rfl; rw [hg] at hd; cases hd)).trans hd⟩

/-- A local variable's cells are turned. -/
theorem Rel.setLoc (h : Rel N D E st tmps w lam) {s : Nat} {cs cs' : List Value} (hs : st.locs s = some cs) {c' : Array Value} (hc : cs' <+: c'.toList) :
    Rel N D E { st with locs := upd st.locs s (some cs') } tmps (w.setRow (lam s) c') lam := by
  obtain ⟨hN, c, ty, hg, hp⟩ := h.loc s cs hs
  have hne : ∀ s', (upd st.locs s (some cs')) s' ≠ none → st.locs s' ≠ none := by
    intro s' h'
    by_cases e : s' = s
    · subst e; rw [hs]; simp
    · rwa [upd_other _ _ e] at h'
  refine ⟨h.tmp, fun t s' off e => ?_, fun s' x hx => ?_, fun a b ha hb => h.linj a b (hne a ha) (hne b hb), fun b x hb => ?_, h.nd, fun s' hs' => h.apart s' (hne s' hs')⟩
  · have := h.known t s' off e
    by_cases e' : s' = s
    · subst e'; simp [upd_same]
    · show upd st.locs s (some cs') s' ≠ none
      rwa [upd_other _ _ e']
  · have hx' : upd st.locs s (some cs') s' = some x := hx
    by_cases e : s' = s
    · subst e
      rw [upd_same] at hx'; cases hx'
      exact ⟨hN, c', ty, setRow_heap w _ c c' ty _ hg, hc⟩
    · rw [upd_other _ _ e] at hx'
      refine ⟨(h.loc s' x hx').1, (h.loc s' x hx').2.of_block (setRow_other w _ _ _ ?_)⟩
      intro e2
      exact e (h.linj s' s (by rw [hx']; simp) (by rw [hs]; simp) e2)
  · refine ⟨(h.blk b x hb).1.of_block (setRow_other w _ _ _ ?_), (h.blk b x hb).2⟩
    rintro rfl
    exact h.apart s (by rw [hs]; simp) (List.mem_map.2 ⟨(_, x), hb, rfl⟩)

/-- A named block's cells are turned. -/
theorem Rel.setBlk (h : Rel N D E st tmps w lam) {b : Nat} {cs cs' : List Value} (hb : (b, Blk.rw cs) ∈ st.heap) {c' : Array Value} (hc : cs' <+: c'.toList) :
    Rel N D E { st with heap := hset b (.rw cs') st.heap } tmps (w.setRow b c') lam := by
  obtain ⟨⟨c, ty, hg, hp⟩, hD, hE⟩ := h.blk b _ hb
  refine ⟨h.tmp, h.known, fun s' x hx => ?_, h.linj, fun k x hk => ?_, by rw [hset_keys]; exact h.nd, fun s' hs' => by rw [hset_keys]; exact h.apart s' hs'⟩
  · refine ⟨(h.loc s' x hx).1, (h.loc s' x hx).2.of_block (setRow_other w _ _ _ ?_)⟩
    intro e
    exact h.apart s' (by intro h0; rw [h0] at hx; cases hx) (List.mem_map.2 ⟨(b, _), hb, e.symm⟩)
  · rcases hset_mem h.nd hk with ⟨rfl, rfl⟩ | ⟨hne, hk'⟩
    · exact ⟨⟨c', ty, setRow_heap w _ c c' ty _ hg, hc⟩, fun _ => hD rfl, hE⟩
    · exact ⟨(h.blk k x hk').1.of_block (setRow_other w _ _ _ hne), (h.blk k x hk').2⟩
end

/-- What an operation of the evaluator stands for at the machine. -/
def Did (P : Program) (o : Oper) (N : Nat) (D E : Nat → Prop) (tmps : Array Value) (w : World) (tv : TV) (st' : St) : Prop :=
  ∃ v w' lam', ((execOp (evalT tmps) o).run P w = .ok (.value v) w' ∨ ((execOp (evalT tmps) o).run P w = .ok .skip w' ∧ v = undef)) ∧
    TRel lam' tv v ∧ (∀ s off, tv = .loc s off → st'.locs s ≠ none) ∧ Rel N D E st' tmps w' lam' ∧ Upd N D w w'

section
variable {P : Program} {N : Nat} {D E : Nat → Prop} {st : St} {tmps : Array Value} {w : World} {lam : Nat → Nat} {o : Oper}

/-- An operation that leaves the world and the state alone. -/
theorem did_same (h : Rel N D E st tmps w lam) {tv : TV} {v : Value} (hr : (execOp (evalT tmps) o).run P w = .ok (.value v) w) (ht : TRel lam tv v)
    (hk : ∀ s off, tv = .loc s off → st.locs s ≠ none) : Did P o N D E tmps w tv st :=
  ⟨v, w, lam, .inl hr, ht, hk, h, Upd.refl _ _ _⟩

theorem did_val (h : Rel N D E st tmps w lam) {v : Value} (hr : (execOp (evalT tmps) o).run P w = .ok (.value v) w) : Did P o N D E tmps w (.val v) st :=
  did_same h hr rfl (fun s off e => by cases e)

theorem pairF_some {x : Option TV} {tv : TV} {st' : St} (e : pairF x st = some (tv, st')) : x = some tv ∧ st = st' := by
  unfold pairF at e; split at e
  · cases e; exact ⟨rfl, rfl⟩
  · cases e
theorem pairV_some {x : Option Value} {tv : TV} {st' : St} (e : pairV x st = some (tv, st')) : ∃ v, x = some v ∧ tv = .val v ∧ st = st' := by
  unfold pairV at e; split at e
  · cases e; exact ⟨_, rfl, rfl, rfl⟩
  · cases e
theorem valF_some {x : TV} {v : Value} (e : valF x = some v) : x = .val v := by
  unfold valF at e; split at e
  · cases e; rfl
  · cases e

theorem loadC_some {l : Option (Bool × Nat)} {cs : Option (List Value)} {off : Nat} {v : Value} (e : loadC l cs off = some v) :
    ∃ a n c, l = some (a, n) ∧ cs = some c ∧ partF a n c off = some v := by
  unfold loadC at e
  split at e
  · exact ⟨_, _, _, rfl, rfl, e⟩
  · cases e

theorem storeC_some {l : Option (Bool × Nat)} {cs : Option (List Value)} {off : Nat} {v : Value} {r : List Value} (e : storeC l cs off v = some r) :
    ∃ a n c, l = some (a, n) ∧ cs = some c ∧ (vcells v).length = n ∧ off + n ≤ c.length ∧ oneCells (vcells v) = true ∧ r = splice c off (vcells v) := by
  unfold storeC at e
  split at e
  · split at e
    · rename_i hh; cases e; exact ⟨_, _, _, rfl, rfl, hh.1, hh.2.1, hh.2.2, rfl⟩
    · cases e
  · cases e

theorem load_run (h : Rel N D E st tmps w lam) {t : TypeId} {x : Operand} {v : Value} (e : loadF P t (st.get x) st = some v) :
    (Instr.loadAt t (evalT tmps x)).run P w = .ok v w := by
  have hx := h.get x
  unfold loadF at e
  split at e
  · rename_i s off hs
    rw [hs] at hx
    obtain ⟨a, n, cs, hl, hc, e⟩ := loadC_some e
    obtain ⟨_, c, ty, hg, hp⟩ := h.loc s cs hc
    rw [show evalT tmps x = _ from hx]
    simpa [Instr.loadAt, Instr.sureAddr] using run_loadVar_part hg hp hl e
  · rename_i b off hs
    rw [hs] at hx
    obtain ⟨a, n, cs, hl, hc, e⟩ := loadC_some e
    cases hk : look b st.heap with
    | none => rw [hk] at hc; cases hc
    | some bl =>
      rw [hk] at hc
      have hm := h.blk b _ (look_mem hk)
      rw [show evalT tmps x = _ from hx]
      cases bl with
      | rw vs =>
        cases hc
        obtain ⟨⟨c, ty, hg, hp⟩, _⟩ := hm
        simpa [Instr.loadAt, Instr.sureAddr] using run_loadVar_part hg hp hl e
      | ro vs =>
        cases hc
        obtain ⟨⟨c, ty, fr, hg, hp⟩, _⟩ := hm
        simpa [Instr.loadAt, Instr.sureAddr] using run_loadVar_part hg hp hl e
  · cases e

theorem store_run (h : Rel N D E st tmps w lam) {t : TypeId} {x y : Operand} {st' : St} (e : storeF P t (st.get x) (st.get y) st = some st') :
    ∃ w', (Instr.storeAt t (evalT tmps x) (evalT tmps y)).run P w = .ok () w' ∧ Rel N D E st' tmps w' lam ∧ Upd N D w w' := by
  have hx := h.get x
  have hy := h.get y
  unfold storeF at e
  split at e
  · rename_i s off v hs hv
    rw [hs] at hx
    rw [hv] at hy
    unfold St.setLoc at e
    split at e
    · rename_i r hr
      cases e
      obtain ⟨a, n, cs, hl, hc, h1, h2, h3, rfl⟩ := storeC_some hr
      obtain ⟨hN, c, ty, hg, hp⟩ := h.loc s cs hc
      obtain ⟨c', hr, hp'⟩ := run_storeVar_part (P := P) (v := v) hg hp hl h1 h2 h3
      refine ⟨w.setRow (lam s) c', ?_, h.setLoc hc hp', upd_setRow w _ _ (.inr hN) hg⟩
      rw [show evalT tmps x = _ from hx, show evalT tmps y = _ from hy]
      simpa [Instr.storeAt, Instr.sureAddr] using hr
    · cases e
  · rename_i b off v hs hv
    rw [hs] at hx
    rw [hv] at hy
    unfold St.setBlk at e
    split at e
    · rename_i r hr
      cases e
      obtain ⟨a, n, cs, hl, hc, h1, h2, h3, rfl⟩ := storeC_some hr
      cases hk : look b st.heap with
      | none => rw [hk] at hc; cases hc
      | some bl =>
        rw [hk] at hc
        cases bl with
        | ro vs => cases hc
        | rw vs =>
          cases hc
          have hm := look_mem hk
          obtain ⟨⟨c, ty, hg, hp⟩, hD, _⟩ := h.blk b _ hm
          obtain ⟨c', hr, hp'⟩ := run_storeVar_part (P := P) (v := v) hg hp hl h1 h2 h3
          refine ⟨w.setRow b c', ?_, h.setBlk hm hp', upd_setRow w _ _ (hD rfl) hg⟩
          rw [show evalT tmps x = _ from hx, show evalT tmps y = _ from hy]
          simpa [Instr.storeAt, Instr.sureAddr] using hr
    · cases e
  · cases e

theorem newVar_run (t : TypeId) (v : Value) : (newVar t v).run P w = .ok ⟨w.heap.size, 0, none⟩ (w.alloc (.cells v.cells t)) := by
  simp [newVar, newRow]

theorem addrF_run {x : TV} {v : Value} {n : Nat} {tv : TV} (hv : TRel lam x v) (e : addrF x n = some tv) :
    ∃ b off, v = .pointer (some ⟨b, off, none⟩) ∧ TRel lam tv (.pointer (some ⟨b, off + n, none⟩)) ∧ (∀ s o', tv = .loc s o' → ∃ o2, x = .loc s o2) := by
  unfold addrF at e
  split at e
  · rename_i s off
    cases e
    exact ⟨lam s, off, hv, rfl, fun s' o' e' => by cases e'; exact ⟨_, rfl⟩⟩
  · rename_i b off
    cases e
    exact ⟨b, off, hv, rfl, fun s' o' e' => by cases e'⟩
  · cases e

theorem fldOf_spec {t : TypeId} {f off n : Nat} {a : Bool} (h : fldOf P t f = some (off, a, n)) :
    ∃ fs g, P.underlying t = some (.struct fs) ∧ fs[f]? = some g ∧ g.offset = off ∧ lay P g.type = some (a, n) := by
  unfold fldOf at h
  split at h
  · rename_i fs hu
    split at h
    · rename_i g hg
      split at h
      · rename_i a' n' hl
        cases h
        exact ⟨fs, g, hu, hg, rfl, hl⟩
      · cases h
    · cases h
  · cases h

theorem arrOf_spec {t : TypeId} {len n : Nat} {a : Bool} (h : arrOf P t = some (len, a, n)) : ∃ e, P.underlying t = some (.array len e) ∧ lay P e = some (a, n) := by
  unfold arrOf at h
  split at h
  · rename_i l e hu
    split at h
    · rename_i a' n' hl
      cases h
      exact ⟨e, hu, hl⟩
    · cases h
  · cases h

theorem slcOf_spec {t : TypeId} {n : Nat} {a : Bool} (h : slcOf P t = some (a, n)) : ∃ e, P.underlying t = some (.slice e) ∧ lay P e = some (a, n) := by
  unfold slcOf at h
  split at h
  · rename_i e hu; exact ⟨e, hu, h⟩
  · cases h

theorem part_run {t : TypeId} {a : Bool} {n : Nat} {cs : Array Value} {off : Nat} {v : Value} (hl : lay P t = some (a, n)) (e : partF a n cs.toList off = some v) :
    (part t cs off).run P w = .ok v w := by
  obtain ⟨h1, h2, _, _⟩ := lay_spec (w := w) hl
  cases a with
  | true =>
    simp only [partF] at e
    split at e
    · cases e
      simp only [part, Sem.run_bind, h1, Result.andThen_ok, if_true, h2, Sem.run_pure]
      congr 2
      apply Array.ext'
      simp [List.extract_eq_take_drop]
    · cases e
  | false =>
    simp only [partF] at e
    have e' : cs[off]? = some v := by simpa using e
    simp only [part, Sem.run_bind, h1, Result.andThen_ok, Bool.false_eq_true, if_false, e', Sem.run_pure]

theorem lay_info {t : TypeId} {a : Bool} {n : Nat} (h : lay P t = some (a, n)) : ∃ i, P.info? t = some i ∧ P.cellsOf t = n := by
  unfold lay at h
  cases hu : P.underlying t with
  | none => simp [hu] at h
  | some d =>
    cases hi : P.info? t with
    | none => simp [hu, hi] at h
    | some i =>
      simp [hu, hi] at h
      exact ⟨i, rfl, by simp [Program.cellsOf, hi, h.2]⟩

theorem eqD_run : ∀ (m d : Nat) (t : TypeId) (x y : Value) (r : Bool), eqD P m t x y = some r → (Op.equalIn (d + m) t x y).run P w = .ok r w
  | 0, d, t, x, y, r, h => by simp [eqD] at h
  | m + 1, d, t, x, y, r, h => by
    unfold eqD at h
    split at h
    · rename_i a b hu
      cases h
      exact run_equalIn_bool w (d + m) t a b hu
    · rename_i kd k a k' b hu
      split at h
      · rename_i hk
        subst hk
        cases h
        show (Op.equalIn ((d + m) + 1) t (.int k a) (.int k b)).run P w = _
        simp [Op.equalIn, run_underlying hu]
      · cases h
    · rename_i a b hu
      cases h
      show (Op.equalIn ((d + m) + 1) t (.string a) (.string b)).run P w = _
      simp [Op.equalIn, run_underlying hu]
    · rename_i fs xs ys hu
      split at h
      · cases h
      · rename_i hs
        have hs' : P.stoodInHeld t = false := by simpa using hs
        have hfs : P.fieldsOf t = fs := by simp [Program.fieldsOf, hu]
        show (Op.equalIn ((d + m) + 1) t (.agg xs) (.agg ys)).run P w = _
        rw [run_equalIn_struct w (d + m) t xs ys (by rw [hfs]; exact hu) hs', hfs]
        generalize fs.toList = l at h
        induction l generalizing r with
        | nil => simp only [List.foldr_nil, Option.some.injEq] at h; subst h; simp [Op.eqFields]
        | cons f l ih =>
          simp only [List.foldr_cons] at h
          split at h
          · cases h
          · rename_i hn
            split at h
            · rename_i a n hl
              split at h
              · rename_i u v hx hy
                split at h
                · rename_i p q hp hq
                  cases h
                  have hne : f.name ≠ "_" := by simpa using hn
                  rw [Op.eqFields, if_pos hne]
                  simp only [Sem.run_bind, part_run (w := w) hl hx, part_run (w := w) hl hy, Result.andThen_ok, eqD_run m d f.type u v p hp]
                  cases p with
                  | true => simpa using ih q hq
                  | false => simp
                · cases h
              · cases h
            · cases h
    · rename_i n e xs ys hu
      split at h
      · rename_i a k hl
        obtain ⟨i, hi, hc⟩ := lay_info hl
        show (Op.equalIn ((d + m) + 1) t (.agg xs) (.agg ys)).run P w = _
        rw [run_equalIn_array w (d + m) xs ys hu hi, hc]
        generalize List.range n = l at h
        induction l generalizing r with
        | nil => simp only [List.foldr_nil, Option.some.injEq] at h; subst h; simp [Op.eqItems]
        | cons f l ih =>
          simp only [List.foldr_cons] at h
          split at h
          · rename_i u v hx hy
            split at h
            · rename_i p q hp hq
              cases h
              rw [Op.eqItems]
              simp only [Sem.run_bind, part_run (w := w) hl hx, part_run (w := w) hl hy, Result.andThen_ok, eqD_run m d e u v p hp]
              cases p with
              | true => simpa using ih q hq
              | false => simp
            · cases h
          · cases h
      · cases h
    · cases h

theorem eqAgg_run {t : TypeId} {xs ys : Array Value} {r : Bool} (h : eqAgg P t xs.toList ys.toList = some r) : P.eqGuardType P.depth t = false ∧ (Op.equal t (.agg xs) (.agg ys)).run P w = .ok r w := by
  unfold eqAgg at h
  split at h
  · cases h
  · rename_i hg
    exact ⟨by simpa using hg, eqD_run 12 9988 t _ _ r (by simpa using h)⟩

theorem equal_run_succ {t : TypeId} {x y : Value} {r : Bool} (h : ∀ d, (Op.equalIn (d + 1) t x y).run P w = .ok r w) : (Op.equal t x y).run P w = .ok r w := by
  unfold Op.equal
  exact h 9999

theorem equal_bool_run {t : TypeId} {a b : Bool} (hu : P.underlying t = some .bool) : (Op.equal t (.bool a) (.bool b)).run P w = .ok (a == b) w :=
  equal_run_succ fun d => by simp [Op.equalIn, run_underlying hu]

theorem eql_bool_run {t : TypeId} {a b : Bool} (hu : P.underlying t = some .bool) : (binOp .eql t (.bool a) (.bool b)).run P w = .ok (.bool (a == b)) w := by
  simp only [binOp, Sem.run_bind, equal_bool_run hu, Result.andThen_ok, Sem.run_pure]

theorem neq_bool_run {t : TypeId} {a b : Bool} (hu : P.underlying t = some .bool) : (binOp .neq t (.bool a) (.bool b)).run P w = .ok (.bool (!(a == b))) w := by
  simp only [binOp, Sem.run_bind, equal_bool_run hu, Result.andThen_ok, Sem.run_pure]

theorem bin_run {op : BinOp} {t : TypeId} {ox oy : Operand} {x y v : Value} (e : binF P op t x y = some v) :
    (do eqGuard op t ox oy x y; binOp op t x y : Sem Value).run P w = .ok v w := by
  unfold binF at e
  split at e
  · rename_i k a k' b
    have hg : eqGuard op t ox oy (.int k a) (.int k' b) = pure () := by unfold eqGuard; split <;> rfl
    rw [hg]
    cases op <;> dsimp only at e
    case shl | shr =>
      unfold shiftF at e
      split at e
      · cases e
      · rename_i hb
        cases e
        simp [binOp, Op.shift, hb]
    all_goals
      split at e
      · rename_i hk
        subst hk
        unfold intF at e
        try unfold bitsF at e
        simp only [Option.map_some] at e
        first
          | (cases e; simp [binOp, Op.intArith, Op.intBits, Op.intCmp]; done)
          | (split at e
             · cases e
             · rename_i hb
               cases e
               simp [binOp, Op.intDiv, hb])
          | (cases e; rfl)
      · cases e
  · rename_i a b
    split at e
    · rename_i hu0
      have hu : P.underlying t = some .bool := by
        unfold isBoolTy at hu0
        split at hu0
        · assumption
        · cases hu0
      have hg : eqGuard op t ox oy (.bool a) (.bool b) = pure () := by unfold eqGuard; split <;> rfl
      rw [hg]
      unfold cmpF at e
      cases op <;> first | (cases e; done) | skip
      · cases e; simpa only [pure_bind] using eql_bool_run hu
      · cases e; simpa only [pure_bind] using neq_bool_run hu
    · cases e
  · rename_i xs ys
    obtain ⟨r, hr, hc⟩ := Option.bind_eq_some_iff.1 e
    obtain ⟨hg, hq⟩ := eqAgg_run (w := w) hr
    have hgd : ∀ op : BinOp, (eqGuard op t ox oy (.agg xs) (.agg ys)).run P w = .ok () w := by
      intro op
      unfold eqGuard
      cases op <;> simp [hg]
    unfold cmpF at hc
    cases op <;> first | (cases hc; done) | skip
    · cases hc; simp only [Sem.run_bind, hgd, Result.andThen_ok, binOp, hq, Sem.run_pure]
    · cases hc; simp only [Sem.run_bind, hgd, Result.andThen_ok, binOp, hq, Sem.run_pure]
  · cases e

theorem un_run {op : UnOp} {x v : Value} (e : unF op x = some v) : (Op.unary op x).run P w = .ok v w := by
  unfold unF at e
  split at e <;> first | (cases e; simp [Op.unary, Op.intArith]; done) | cases e

theorem conv_run {src dst : TypeId} {x v : Value} (e : convF P src dst x = some v) : (convert src dst x).run P w = .ok v w := by
  unfold convF convC at e
  split at e
  · rename_i k kk n hs hd
    cases e
    have hd' : P.underlying dst = some (.int k) := by
      unfold intOf at hd
      split at hd
      · rename_i k' hu; cases hd; exact hu
      · cases hd
    obtain ⟨d, hs'⟩ := Option.isSome_iff_exists.1 hs
    simp [convert, run_underlying hs', run_underlying hd', Conv.intToInt]
  · cases e
end

end Go.Z
