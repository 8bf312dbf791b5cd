/-
  Operations that make blocks, and that write, are the machine's own.
-/
import Derived.Test.YtbkmhkeihbgcfaaYh
import Derived.Laws.Append
import Derived.Laws.AppendOwn
import Derived.Laws.MakeOwn
set_option linter.unusedVariables false
set_option linter.unusedSimpArgs false
namespace Go.Y
open RowKit

section
variable {P : Program} {N : Nat} {D : Nat → Prop} {T : Sl} {H : Hp} {n : Nat} {tmps : Array Value} {w : World} {lam : Lam}

/-- A block of an entry. -/
theorem HasE.lt {k : Nat} {e : Ent} (h : HasE lam n w k e) {i b o : Nat} (hi : i = 0 ∨ e.writes = false) (hl : lam k i = some (b, o)) : b < w.heap.size := by
  have lt : ∀ {o : Obj}, w.heap[b]? = some o → b < w.heap.size := fun h => (Array.getElem?_eq_some_iff.1 h).1
  cases e with
  | cel v =>
    rcases hi with rfl | hi
    · obtain ⟨_, _, b', c, ty, h1, h2, _⟩ := h
      rw [h1] at hl; cases hl; exact lt h2
    · cases hi
  | vec cap sz l =>
    rcases hi with rfl | hi
    · obtain ⟨_, _, _, _, h⟩ := h
      rcases h with ⟨h1, _⟩ | ⟨b', c, ty, h1, h2, _⟩
      · rw [h1] at hl; cases hl
      · rw [h1] at hl; cases hl; exact lt h2
    · cases hi
  | ro f =>
    obtain ⟨_, h⟩ := h i
    rcases h with ⟨h1, _⟩ | ⟨b', o', c, ty, fr, h1, h2, _⟩
    · rw [h1] at hl; cases hl
    · rw [h1] at hl; cases hl; exact lt h2
  | mp m =>
    rcases hi with rfl | hi
    · obtain ⟨_, b', o', es, clock, h1, h2, _⟩ := h
      rw [h1] at hl; cases hl; exact lt h2
    · cases hi
  | lk s m =>
    rcases hi with rfl | hi
    · obtain ⟨_, b', o', h1, h2, _⟩ := h
      rw [h1] at hl; cases hl; exact lt h2
    · cases hi
  | it s sn q =>
    rcases hi with rfl | hi
    · obtain ⟨_, _, _, b', bm, om, last, h1, _, _, h2⟩ := h
      rw [h1] at hl; cases hl; exact lt h2
    · cases hi
  | lp r =>
    rcases hi with rfl | hi
    · obtain ⟨b', o', l, h1, h2, _⟩ := h
      rw [h1] at hl; cases hl; exact lt h2
    · cases hi

theorem TRel.mono {n' : Nat} {lam' : Lam} (h : TRel lam n T tmps) (ha : keeps n lam lam') (hn : n ≤ n') : TRel lam' n' T tmps := by
  intro t v hv
  obtain ⟨h1, h2⟩ := h t v hv
  exact ⟨by rw [h1, conc_agree ha h2], ok_mono hn ha h2⟩

theorem flat_agree {lam' : Lam} (ha : keeps n lam lam') {l : List AV} (h : okL lam n l) : l.flatMap (cellsA lam') = l.flatMap (cellsA lam) := by
  rw [okL_mem] at h
  induction l with
  | nil => rfl
  | cons v r ih =>
    rw [List.flatMap_cons, List.flatMap_cons, cells_agree ha (h v List.mem_cons_self), ih (fun u hu => h u (List.mem_cons_of_mem _ hu))]

/-- An entry in a world in which its block is as it was. -/
theorem HasE.move {k n' : Nat} {e : Ent} {lam' : Lam} {w' : World} (h : HasE lam n w k e) (hk : k < n ∧ lam.born k) (ha : keeps n lam lam') (hn : n ≤ n')
    (hw : ∀ i b o, (i = 0 ∨ e.writes = false) → lam k i = some (b, o) → w'.heap[b]? = w.heap[b]?) : HasE lam' n' w' k e := by
  have hl : ∀ i, lam' k i = lam k i := fun i => (ha k hk.1 hk.2).2 i
  cases e with
  | cel v =>
    obtain ⟨h1, h2, b, c, ty, h3, h4, h5⟩ := h
    exact ⟨ok_mono hn ha h1, h2, b, c, ty, by rw [hl, h3], by rw [hw 0 b 0 (.inl rfl) h3, h4], by rw [h5, cells_agree ha h1]⟩
  | vec cap sz l =>
    obtain ⟨h1, h2, h2', hlen, h3⟩ := h
    refine ⟨okL_mono hn ha h1, h2, h2', hlen, ?_⟩
    rcases h3 with ⟨h3, h4⟩ | ⟨b, c, ty, h3, h4, h5, h6⟩
    · exact .inl ⟨by rw [hl, h3], h4⟩
    · exact .inr ⟨b, c, ty, by rw [hl, h3], by rw [hw 0 b 0 (.inl rfl) h3, h4], h5, by rw [flat_agree ha h1]; exact h6⟩
  | ro f =>
    intro i
    obtain ⟨h1, h2⟩ := h i
    refine ⟨ok_mono hn ha h1, ?_⟩
    rcases h2 with ⟨h2, h3⟩ | ⟨b, o, c, ty, fr, h2, h3, h4, h5⟩
    · exact .inl ⟨by rw [hl, h2], h3⟩
    · exact .inr ⟨b, o, c, ty, fr, by rw [hl, h2], by rw [hw i b o (.inr rfl) h2, h3], h4, by rw [cells_agree ha h1]; exact h5⟩
  | mp m =>
    obtain ⟨h1, b, o, es, clock, h2, h3, h4, h5⟩ := h
    refine ⟨fun x y hxy => ⟨ok_mono hn ha (h1 x y hxy).1, ok_mono hn ha (h1 x y hxy).2⟩, b, o, es, clock, by rw [hl, h2], by rw [hw 0 b o (.inl rfl) h2, h3], h4, ?_⟩
    rw [h5]
    apply List.map_congr_left
    rintro ⟨x, y⟩ hxy
    simp only [conc_agree ha (h1 x y hxy).1, conc_agree ha (h1 x y hxy).2]
  | lk s m =>
    obtain ⟨h1, b, o, h2, h3, h4, h5⟩ := h
    refine ⟨fun x y hxy => ⟨ok_mono hn ha (h1 x y hxy).1, ok_mono hn ha (h1 x y hxy).2⟩, b, o, by rw [hl, h2], by rw [hw 0 b o (.inl rfl) h2, h3], h4, ?_⟩
    rw [h5]
    apply List.map_congr_left
    rintro ⟨x, y⟩ hxy
    simp only [conc_agree ha (h1 x y hxy).1, conc_agree ha (h1 x y hxy).2]
  | it s sn q =>
    obtain ⟨h1, h2, h3, b, bm, om, last, h4, h5, h6, h7⟩ := h
    exact ⟨⟨Nat.lt_of_lt_of_le h1.1 hn, (ha q h1.1 h1.2).1⟩, h2, h3, b, bm, om, last, by rw [hl, h4], by rw [(ha q h1.1 h1.2).2 0, h5], h6, by rw [hw 0 b 0 (.inl rfl) h4, h7]⟩
  | lp r =>
    obtain ⟨b, o, l, h1, h2, h3, h4, h5, h6, h7, h8, h9⟩ := h
    exact ⟨b, o, l, by rw [hl, h1], by rw [hw 0 b o (.inl rfl) h1, h2], h3, h4, h5, h6, h7.mono ha hn, h8, h9⟩

theorem Upd.refl (N : Nat) (D : Nat → Prop) (w : World) : Upd N D w w := ⟨rfl, rfl, rfl, Nat.le_refl _, fun _ _ _ => rfl, fun _ _ h => h⟩
theorem Upd.trans {N : Nat} {D : Nat → Prop} {a b c : World} (h : Upd N D a b) (k : Upd N D b c) : Upd N D a c :=
  ⟨k.os.trans h.os, k.tape.trans h.tape, k.output.trans h.output, Nat.le_trans h.size k.size, fun i hi hd => (k.block i hi hd).trans (h.block i hi hd), fun i ds hd => k.defr i ds (h.defr i ds hd)⟩

theorem upd_alloc (N : Nat) (D : Nat → Prop) (w : World) (hN : N ≤ w.heap.size) (o : Obj) : Upd N D w (w.alloc o) :=
  ⟨rfl, rfl, rfl, by simp, fun b hb _ => Below.heap_alloc w o b (by omega), fun b ds hd => (Below.heap_alloc w o b (Array.getElem?_eq_some_iff.1 hd).1).trans hd⟩
theorem upd_drew (N : Nat) (D : Nat → Prop) (w : World) : Upd N D w w.drew := ⟨rfl, rfl, rfl, Nat.le_refl _, fun _ _ _ => rfl, fun _ _ h => h⟩
theorem upd_setRow {N : Nat} {D : Nat → Prop} (w : World) (b : Nat) (c : Array Value) (h : D b ∨ N ≤ b) {c0 : Array Value} {ty : TypeId} {fr : Nat × Nat} (hg : w.heap[b]? = some (.cells c0 ty fr)) : Upd N D w (w.setRow b c) :=
  ⟨rfl, rfl, rfl, by simp, fun k hk hd => setRow_other w b k c (by rintro rfl; rcases h with h | h; exact hd h; omega),
    fun k ds hd => (setRow_other w b k c (by rintro rfl; rw [hg] at hd; cases hd)).trans hd⟩

def setLam (lam : Lam) (c : Nat) (x : Option (Nat × Nat)) : Lam := ⟨fun k i => if k = c ∧ i = 0 then x else lam k i, fun k => k = c ∨ lam.born k⟩
theorem setLam_same (lam : Lam) (n : Nat) (x : Option (Nat × Nat)) : setLam lam n x n 0 = x := by simp [setLam]
theorem setLam_born (lam : Lam) (n : Nat) (x : Option (Nat × Nat)) : (setLam lam n x).born n := .inl rfl
theorem setLam_ne (lam : Lam) (n : Nat) (x : Option (Nat × Nat)) {k i : Nat} (h : k ≠ n) : setLam lam n x k i = lam k i := by
  show (if k = n ∧ i = 0 then x else lam k i) = _
  rw [if_neg (by simp [h])]
theorem setLam_keeps (lam : Lam) {n c : Nat} (x : Option (Nat × Nat)) (hb : c < n → ¬ lam.born c) : keeps n lam (setLam lam c x) :=
  fun k hk h => ⟨.inr h, fun i => setLam_ne _ _ _ (by rintro rfl; exact hb hk h)⟩
theorem setLam_back (lam : Lam) (c : Nat) (x : Option (Nat × Nat)) : ∀ k, (setLam lam c x).born k → k = c ∨ lam.born k := fun _ h => h
theorem setLam_agree (lam : Lam) (n : Nat) (x : Option (Nat × Nat)) : agree n lam (setLam lam n x) :=
  ⟨setLam_keeps lam x (fun h => absurd h (Nat.lt_irrefl n)), fun k hk h => by rcases h with h | h; omega; exact h⟩

theorem HSit.drew (h : HSit N D lam H n w) : HSit N D lam H n w.drew :=
  ⟨fun k x hk => (h.has k x hk).move (h.low k x hk) (keeps.refl _ _) (Nat.le_refl _) (fun _ _ _ _ _ => rfl), h.low, h.wr, h.apart, h.nd⟩

/-- A new block, under a number that nothing bears. -/
theorem HSit.alloc (h : HSit N D lam H n w) (hN : N ≤ w.heap.size) {c n' : Nat} (hc : c < n') (hnn : n ≤ n') (hb : c < n → ¬ lam.born c) {o : Obj} {e : Ent} (hw : e.writes = true) (he : HasE (setLam lam c (some (w.heap.size, 0))) n' (w.alloc o) c e) :
    HSit N D (setLam lam c (some (w.heap.size, 0))) ((c, e) :: H) n' (w.alloc o) := by
  have hne : ∀ k x, (k, x) ∈ H → k ≠ c := by
    rintro k x hk rfl
    exact hb (h.low k x hk).1 (h.low k x hk).2
  have hold : ∀ k x, (k, x) ∈ H → ∀ i, setLam lam c (some (w.heap.size, 0)) k i = lam k i := fun k x hk i => setLam_ne _ _ _ (hne k x hk)
  refine ⟨fun k x hk => ?_, fun k x hk => ?_, fun k x hk hwr b o' hl => ?_, fun k x hk hwr k' x' hk' i b o1 o2 hi hl hl' => ?_, ?_⟩
  · rcases List.mem_cons.1 hk with hk | hk
    · cases hk; exact he
    · refine (h.has k x hk).move (h.low k x hk) (setLam_keeps _ _ hb) hnn (fun i b o' hi hl => Below.heap_alloc w _ b ((h.has k x hk).lt hi hl))
  · rcases List.mem_cons.1 hk with hk | hk
    · cases hk; exact ⟨hc, setLam_born _ _ _⟩
    · exact ⟨Nat.lt_of_lt_of_le (h.low k x hk).1 hnn, .inr (h.low k x hk).2⟩
  · rcases List.mem_cons.1 hk with hk | hk
    · cases hk; rw [setLam_same] at hl; cases hl; exact .inr hN
    · rw [hold k x hk] at hl; exact h.wr k x hk hwr b o' hl
  · rcases List.mem_cons.1 hk with hk | hk <;> rcases List.mem_cons.1 hk' with hk' | hk'
    · cases hk; cases hk'
      refine ⟨rfl, ?_⟩
      rcases hi with hi | hi
      · exact hi
      · rw [hwr] at hi; cases hi
    · cases hk
      rw [setLam_same] at hl; cases hl
      rw [hold k' x' hk'] at hl'
      have := (h.has k' x' hk').lt hi hl'
      omega
    · cases hk'
      rcases hi with rfl | hi
      · rw [setLam_same] at hl'; cases hl'
        rw [hold k x hk] at hl
        have := (h.has k x hk).lt (.inl rfl) hl
        omega
      · rw [hw] at hi; cases hi
    · rw [hold k x hk] at hl
      rw [hold k' x' hk'] at hl'
      exact h.apart k x hk hwr k' x' hk' i b o1 o2 hi hl hl'
  · simp only [List.map_cons, List.nodup_cons]
    refine ⟨fun hm => ?_, h.nd⟩
    obtain ⟨⟨k, x⟩, hk, he⟩ := List.mem_map.1 hm
    exact hne k x hk he

/-- A block's entry is turned. -/
theorem HSit.set (h : HSit N D lam H n w) {k : Nat} {e e' : Ent} (hk : hget k H = some e) (hwr : e.writes = true) (hwr' : e'.writes = true) {w' : World} {b o : Nat} (hl : lam k 0 = some (b, o))
    (hother : ∀ b', b' ≠ b → w'.heap[b']? = w.heap[b']?) (he : HasE lam n w' k e') : HSit N D lam (hset k e' H) n w' := by
  have hm := hget_mem hk
  have mem : ∀ c x, (c, x) ∈ hset k e' H → (c = k ∧ x = e') ∨ (c ≠ k ∧ (c, x) ∈ H) := fun c x hc => hset_mem h.nd hc
  have old : ∀ c x, (c, x) ∈ hset k e' H → ∃ x0, (c, x0) ∈ H ∧ (x.writes = x0.writes) := by
    intro c x hc
    rcases mem c x hc with ⟨rfl, rfl⟩ | ⟨_, hc⟩
    · exact ⟨e, hm, by rw [hwr, hwr']⟩
    · exact ⟨x, hc, rfl⟩
  refine ⟨fun c x hc => ?_, fun c x hc => ?_, fun c x hc hw b' o' hl' => ?_, fun c x hc hw c' x' hc' i b' o1 o2 hi h1 h2 => ?_, by rw [hset_keys]; exact h.nd⟩
  · rcases mem c x hc with ⟨rfl, rfl⟩ | ⟨hne, hc⟩
    · exact he
    · refine (h.has c x hc).move (h.low c x hc) (keeps.refl _ _) (Nat.le_refl _) (fun i b' o' hi hl' => hother b' ?_)
      rintro rfl
      exact hne (h.apart k e hm hwr c x hc i _ _ _ hi hl hl').1
  · obtain ⟨x0, hx0, _⟩ := old c x hc; exact h.low c x0 hx0
  · obtain ⟨x0, hx0, e0⟩ := old c x hc; exact h.wr c x0 hx0 (by rw [← e0]; exact hw) b' o' hl'
  · obtain ⟨x0, hx0, e0⟩ := old c x hc
    obtain ⟨x1, hx1, e1⟩ := old c' x' hc'
    exact h.apart c x0 hx0 (by rw [← e0]; exact hw) c' x1 hx1 i b' o1 o2 (by rw [← e1]; exact hi) h1 h2

/-! ### New blocks -/
/-- What an operation that makes a block comes to. -/
def MadeA (P : Program) (N : Nat) (D : Nat → Prop) (lam : Lam) (H : Hp) (n c n' : Nat) (w : World) (s : Sem Value) (v : AV) (e : Ent) : Prop :=
  ∃ w' lam', s.run P w = .ok (v.conc lam') w' ∧ v.ok lam' n' ∧ HSit N D lam' ((c, e) :: H) n' w' ∧ Upd N D w w' ∧ keeps n lam lam' ∧ (∀ k, lam'.born k → k = c ∨ lam.born k) ∧ e.writes = true

section
variable {c n' : Nat} (hc : c < n') (hnn : n ≤ n') (hb : c < n → ¬ lam.born c)
include hc hnn hb
theorem made_cel (hH : HSit N D lam H n w) (hN : N ≤ w.heap.size) {t : TypeId} {z : AV} (hz : z.ok lam n) (ht : z.isTup = false) :
    MadeA P N D lam H n c n' w (do pure (.pointer (some (← newVar t (z.conc lam))))) (.ptr c 0 []) (.cel z) := by
  have hag := setLam_keeps lam (some (w.heap.size, 0)) hb
  refine ⟨w.alloc (.cells (z.conc lam).cells t), setLam lam c (some (w.heap.size, 0)), ?_, ?_, hH.alloc hN hc hnn hb rfl ⟨ok_mono hnn hag hz, ht, w.heap.size, _, t, setLam_same _ _ _, heap_alloc_new w _, ?_⟩, upd_alloc N D w hN _, hag, setLam_back _ _ _, rfl⟩
  · simp [newVar, newRow, AV.conc, setLam_same, ptrV, offP]
  · simp [AV.ok, setLam_same, setLam_born, hc]
  · rw [cells_agree hag hz]; rfl

theorem made_vec (hH : HSit N D lam H n w) (hN : N ≤ w.heap.size) {t : TypeId} {cap len sz : Nat} {l : List AV} {cs : Array Value} (hl : okL lam n l) (hR : okR sz l) (ht : ∀ v, v ∈ l → v.isTup = false)
    (hlen : l.length ≤ cap) (hle : len ≤ cap) (hcs : cs.size = cap * sz) (hp : l.flatMap (cellsA lam) <+: cs.toList) {s : Sem Value} {w0 : World} (hU : Upd N D w0 w) (hrun : s.run P w0 = .ok (.slice (some ⟨w.heap.size, 0, none⟩) len cap) (w.alloc (.cells cs t))) :
    MadeA P N D lam H n c n' w0 s (.slc c 0 [] sz 0 0 len cap) (.vec cap sz l) := by
  have hag := setLam_keeps lam (some (w.heap.size, 0)) hb
  refine ⟨w.alloc (.cells cs t), setLam lam c (some (w.heap.size, 0)), ?_, ?_, hH.alloc hN hc hnn hb rfl ⟨okL_mono hnn hag hl, hR, ht, hlen, .inr ⟨w.heap.size, cs, t, setLam_same _ _ _, heap_alloc_new w _, hcs, by rw [flat_agree hag hl]; exact hp⟩⟩, hU.trans (upd_alloc N D w hN _), hag, setLam_back _ _ _, rfl⟩
  · rw [hrun]; simp [AV.conc, setLam_same, slcV, offP]
  · simp [AV.ok, setLam_same, setLam_born, hle, hc]
end

theorem flat_rep (lam : Lam) (z : AV) : ∀ k, (List.replicate k z).flatMap (cellsA lam) = (List.replicate k (cellsA lam z)).flatten
  | 0 => rfl
  | k + 1 => by rw [List.replicate_succ, List.flatMap_cons, flat_rep lam z k, List.replicate_succ, List.flatten_cons]

theorem range_rep (cs : Array Value) (k : Nat) (h0 : k * cs.size ≠ 0) : ((Array.range (k * cs.size)).map fun i => cs[i % cs.size]!) = ((List.replicate k cs.toList).flatten).toArray := by
  apply Array.ext'
  simp only [Array.toList_map, Array.toList_range]
  have hpos : 0 < cs.size := by
    rcases Nat.eq_zero_or_pos cs.size with h | h
    · rw [h] at h0; simp at h0
    · exact h
  clear h0
  induction k with
  | zero => simp
  | succ k ih =>
    rw [Nat.add_one_mul, Nat.add_comm, List.range_add, List.map_append, List.replicate_succ, List.flatten_cons, List.map_map]
    congr 1
    · apply List.ext_getElem
      · simp
      · intro i h1 h2
        simp only [List.length_map, List.length_range] at h1
        simp [Nat.mod_eq_of_lt h1, h1]
    · rw [← ih]
      apply List.map_congr_left
      intro i _
      simp

end

end Go.Y
