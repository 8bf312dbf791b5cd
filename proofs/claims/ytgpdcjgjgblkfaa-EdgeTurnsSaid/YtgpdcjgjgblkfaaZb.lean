/-
  How the evaluator's states stand to the machine's, and that each plain operation of the evaluator is the machine's own.
-/
import Derived.Test.YtgpdcjgjgblkfaaZa
set_option linter.unusedVariables false
set_option linter.unusedSimpArgs false
namespace Go.Z

theorem Has.of_block {w w' : World} {b : Nat} {x : Blk} (h : Has w b x) (e : w'.heap[b]? = w.heap[b]?) : Has w' b x := by
  cases x <;> simpa only [Has, e] using h

theorem Has.lt {w : World} {b : Nat} {x : Blk} (h : Has w b x) : b < w.heap.size := by
  cases x with
  | rw vs => obtain ⟨c, ty, h, _⟩ := h; exact (Array.getElem?_eq_some_iff.1 h).1
  | ro vs => obtain ⟨c, ty, fr, h, _⟩ := h; exact (Array.getElem?_eq_some_iff.1 h).1

theorem Upd.refl (N : Nat) (D : Nat → Prop) (w : World) : Upd N D w w := ⟨rfl, rfl, rfl, Nat.le_refl _, fun _ _ _ => rfl, fun _ _ h => h⟩
theorem Upd.trans {N : Nat} {D : Nat → Prop} {a b c : World} (h : Upd N D a b) (k : Upd N D b c) : Upd N D a c :=
  ⟨k.os.trans h.os, k.tape.trans h.tape, k.output.trans h.output, Nat.le_trans h.size k.size, fun i hi hd => (k.block i hi hd).trans (h.block i hi hd), fun i ds hd => k.defr i ds (h.defr i ds hd)⟩

def evalT (tmps : Array Value) : Operand → Value
  | .tmp t => tmps.getD t undef
  | .const v => v
  | .global g => .pointer (some ⟨g, 0, none⟩)
  | .func f => .func (.func f) #[] #[]

theorem look_mem {b : Nat} {x : Blk} : ∀ {l : List (Nat × Blk)}, look b l = some x → (b, x) ∈ l
  | [], h => by simp [look] at h
  | (c, y) :: r, h => by
    unfold look at h
    split at h
    · rename_i e; subst e; cases h; exact List.mem_cons_self
    · exact List.mem_cons_of_mem _ (look_mem h)

theorem hset_keys (b : Nat) (x : Blk) : ∀ l : List (Nat × Blk), (hset b x l).map (·.1) = l.map (·.1)
  | [] => rfl
  | (c, y) :: r => by
    unfold hset
    split
    · simp
    · simp [hset_keys b x r]

theorem hset_mem {b : Nat} {x : Blk} {c : Nat} {y : Blk} : ∀ {l : List (Nat × Blk)}, (l.map (·.1)).Nodup → (c, y) ∈ hset b x l → (c = b ∧ y = x) ∨ (c ≠ b ∧ (c, y) ∈ l)
  | [], _, h => by simp [hset] at h
  | (d, z) :: r, hn, h => by
    simp only [List.map_cons, List.nodup_cons] at hn
    unfold hset at h
    split at h
    · rename_i e
      subst e
      rcases List.mem_cons.1 h with h1 | h1
      · cases h1; exact .inl ⟨rfl, rfl⟩
      · refine .inr ⟨?_, List.mem_cons_of_mem _ h1⟩
        intro e; subst e
        exact hn.1 (List.mem_map.2 ⟨(_, y), h1, rfl⟩)
    · rename_i e
      rcases List.mem_cons.1 h with h | h
      · cases h; exact .inr ⟨fun e' => e e'.symm, List.mem_cons_self⟩
      · rcases hset_mem hn.2 h with ⟨h1, h2⟩ | ⟨h1, h2⟩
        · exact .inl ⟨h1, h2⟩
        · exact .inr ⟨h1, List.mem_cons_of_mem _ h2⟩

section
variable {N : Nat} {D E : Nat → Prop} {st : St} {tmps : Array Value} {w : World} {lam : Nat → Nat}

theorem Rel.get (h : Rel N D E st tmps w lam) (x : Operand) : TRel lam (st.get x) (evalT tmps x) := by
  cases x with
  | tmp t => exact h.tmp t
  | const v => rfl
  | global g => rfl
  | func f => rfl

theorem Rel.val (h : Rel N D E st tmps w lam) {x : Operand} {v : Value} (e : st.get x = .val v) : evalT tmps x = v := by
  have := h.get x; rw [e] at this; exact this

theorem Rel.knownG (h : Rel N D E st tmps w lam) {x : Operand} {s off : Nat} (e : st.get x = .loc s off) : st.locs s ≠ none := by
  cases x with
  | tmp t => exact h.known t s off e
  | const v => simp [St.get] at e
  | global g => simp [St.get] at e
  | func f => simp [St.get] at e

def putT (tmps : Array Value) (dst : Option Nat) (v : Value) : Array Value :=
  match dst with
  | some d => tmps.setIfInBounds d v
  | none => tmps

theorem Rel.put (h : Rel N D E st tmps w lam) {dst : Option Nat} {tv : TV} {v : Value} (hd : ∀ d, dst = some d → d < tmps.size) (hv : TRel lam tv v)
    (hk : ∀ s off, tv = .loc s off → st.locs s ≠ none) :
    Rel N D E (st.put dst tv) (putT tmps dst v) w lam := by
  cases dst with
  | none => exact h
  | some d =>
    refine ⟨fun t => ?_, fun t s off e => ?_, h.loc, h.linj, h.blk, h.nd, h.apart⟩
    · show TRel lam (upd st.tmps d tv t) _
      by_cases e : t = d
      · subst e
        rw [upd_same]
        have := hd t rfl
        simpa [putT, this] using hv
      · rw [upd_other _ _ e]
        have := h.tmp t
        simpa [putT, Array.getElem?_setIfInBounds_ne (Ne.symm e)] using this
    · have e' : upd st.tmps d tv t = .loc s off := e
      by_cases et : t = d
      · subst et; rw [upd_same] at e'; exact hk s off e'
      · rw [upd_other _ _ et] at e'; exact h.known t s off e'

theorem Rel.upd_world (h : Rel N D E st tmps w lam) {w' : World} (e : ∀ b, b < w.heap.size → w'.heap[b]? = w.heap[b]?) : Rel N D E st tmps w' lam :=
  ⟨h.tmp, h.known, fun s cs hs => ⟨(h.loc s cs hs).1, (h.loc s cs hs).2.of_block (e _ (h.loc s cs hs).2.lt)⟩, h.linj,
    fun b x hb => ⟨(h.blk b x hb).1.of_block (e _ (h.blk b x hb).1.lt), (h.blk b x hb).2⟩, h.nd, h.apart⟩
end

/-! ### Rows -/
theorem splice_length : ∀ (vs cs : List Value) (off : Nat), (splice cs off vs).length = cs.length
  | [], _, _ => rfl
  | v :: vs, cs, off => by rw [splice, splice_length vs]; simp

theorem splice_eq : ∀ (vs cs : List Value) (off : Nat), off + vs.length ≤ cs.length → splice cs off vs = cs.take off ++ vs ++ cs.drop (off + vs.length)
  | [], cs, off, _ => by simp [splice]
  | v :: vs, cs, off, h => by
    have hl : off < cs.length := by simp at h; omega
    rw [splice, splice_eq vs _ _ (by simp at h ⊢; omega)]
    have h1 : (cs.set off v).take (off + 1) = cs.take off ++ [v] := by
      rw [List.take_add_one, List.take_set_of_le (Nat.le_refl _)]; simp [hl]
    have h2 : (cs.set off v).drop (off + 1 + vs.length) = cs.drop (off + (vs.length + 1)) := by
      rw [List.drop_set_of_lt (by omega)]; congr 1; omega
    rw [h1, h2]
    simp

theorem add_addr (b off n : Nat) : (⟨b, off, none⟩ : Addr).add n = ⟨b, off + n, none⟩ := by
  unfold Addr.add; split <;> simp_all

section
variable {P : Program} {w : World}

theorem lay_spec {t : TypeId} {a : Bool} {n : Nat} (h : lay P t = some (a, n)) :
    (isAgg t).run P w = .ok a w ∧ (sizeOf t).run P w = .ok n w ∧ (underlying t).run P w = .ok ((P.underlying t).getD default) w ∧ isAggD ((P.underlying t).getD default) = a := by
  unfold lay at h
  cases hu : P.underlying t with
  | none => simp [hu] at h
  | some d =>
    cases hi : P.info? t with
    | none => simp [hu, hi] at h
    | some i =>
      simp only [hu, hi, Option.some.injEq, Prod.mk.injEq] at h
      obtain ⟨rfl, rfl⟩ := h
      refine ⟨?_, ?_, ?_, by simp⟩
      · simp only [isAgg, Sem.run_bind, run_underlying hu w, Result.andThen_ok]
        cases d <;> rfl
      · simp [sizeOf, typeInfo, hi]
      · simpa using run_underlying hu w

theorem run_loadVar_part {t : TypeId} {b off : Nat} {c : Array Value} {ty : TypeId} {fr : Nat × Nat} {vs : List Value} {a : Bool} {n : Nat} {v : Value}
    (hg : w.heap[b]? = some (.cells c ty fr)) (hp : vs <+: c.toList) (hl : lay P t = some (a, n)) (hv : partF a n vs off = some v) :
    (loadVar t ⟨b, off, none⟩).run P w = .ok v w := by
  obtain ⟨h1, h2, _, _⟩ := lay_spec (w := w) hl
  obtain ⟨rest, hr⟩ := hp
  have hcell : ∀ j v, vs[j]? = some v → w.cell? ⟨b, j, none⟩ = some v := by
    intro j v hj
    have : c.toList[j]? = some v := by rw [← hr, List.getElem?_append_left (List.getElem?_eq_some_iff.1 hj).1]; exact hj
    simpa [World.cell?, hg] using this
  cases a with
  | true =>
    simp only [partF] at hv
    split at hv
    · rename_i hle
      cases hv
      have hlen : ((vs.drop off).take n).length = n := by simp; omega
      have hc := run_loadCells_list (P := P) w ⟨b, off, none⟩ ((vs.drop off).take n) (fun j v hj => by
        rw [add_addr]
        apply hcell
        rw [List.getElem?_take] at hj
        split at hj
        · simpa using hj
        · cases hj)
      rw [hlen] at hc
      simp only [loadVar, Sem.run_bind, h1, Result.andThen_ok, if_true, h2, hc, Sem.run_pure]
    · cases hv
  | false =>
    simp only [partF] at hv
    simp only [loadVar, Sem.run_bind, h1, Result.andThen_ok, Bool.false_eq_true, if_false, run_load, hcell _ _ hv]

theorem run_storeVar_part {t : TypeId} {b off : Nat} {c : Array Value} {ty : TypeId} {vs : List Value} {a : Bool} {n : Nat} {v : Value}
    (hg : w.heap[b]? = some (.cells c ty (0, 0))) (hp : vs <+: c.toList) (hl : lay P t = some (a, n)) (hn : (vcells v).length = n) (hle : off + n ≤ vs.length) (h1 : oneCells (vcells v) = true) :
    ∃ c', (storeVar t ⟨b, off, none⟩ v).run P w = .ok () (w.setRow b c') ∧ splice vs off (vcells v) <+: c'.toList := by
  obtain ⟨_, h2, _, _⟩ := lay_spec (w := w) hl
  obtain ⟨rest, hr⟩ := hp
  have hsz : vs.length ≤ c.size := by have := congrArg List.length hr; simp at this; omega
  have hone : ∀ x ∈ vcells v, x.oneCell' = true := by simpa [oneCells] using h1
  have hst := run_storeCells_at P b off ty (vcells v) 0 c w hg (by simp; omega) hone
  refine ⟨(c.toList.take (off + 0) ++ vcells v ++ c.toList.drop (off + 0 + (vcells v).length)).toArray, ?_, ?_⟩
  · have hs : v.cells.size = n := by simpa [vcells] using hn
    simp only [storeVar, Sem.run_bind, h2, Result.andThen_ok, hs, ne_eq, not_true_eq_false, if_false]
    exact hst
  · rw [splice_eq _ _ _ (by omega)]
    simp only [Nat.add_zero]
    rw [← hr, List.take_append_of_le_length (by omega), List.drop_append_of_le_length (by omega)]
    exact ⟨rest, by simp⟩
end

end Go.Z
