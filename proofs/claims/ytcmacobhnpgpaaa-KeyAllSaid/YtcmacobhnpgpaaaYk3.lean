/-
  Maps that are gone through: the machine's own; and all these operations together.
-/
import Derived.Test.YtcmacobhnpgpaaaYk2
set_option linter.unusedVariables false
set_option linter.unusedSimpArgs false
namespace Go.Y
open RowKit

section
variable {P : Program} {N : Nat} {D : Nat → Prop} {H : Hp} {n : Nat} {w : World} {lam : Lam}

theorem alloc_new (w : World) (o : Obj) : (w.alloc o).heap[w.heap.size]? = some o := by
  show (w.heap.push o)[w.heap.size]? = _
  simp
theorem range_run (hH : HSit N D lam H n w) (hN : N ≤ w.heap.size) {t : TypeId} {k : Nat} {m : List (AV × AV)} (ht : (mapKT P t).isSome = true) (hm : mapE (hget k H) = some m) :
    ∃ s w' lam', (Instr.range t ((AV.map k).conc lam)).run P w = .ok ((AV.ptr n 0 []).conc lam') w' ∧ (AV.ptr n 0 []).ok lam' (n + 1) ∧ HSit N D lam' ((n, .it s [] k) :: hset k (.lk s m) H) (n + 1) w' ∧ Upd N D w w' ∧ agree n lam lam' ∧ KeyS H n ((n, .it s [] k) :: hset k (.lk s m) H) := by
  obtain ⟨q, hq⟩ := Option.isSome_iff_exists.1 ht
  obtain ⟨kt, et, hu, hS, _⟩ := mapKT_spec hq
  obtain ⟨g1, ⟨e0, hk0, hw0⟩, b, o, es, clock, g2, g3, g4, g5⟩ := mapE_has hH hm
  have hlow := hH.low k e0 (hget_mem hk0)
  have h1 : HSit N D lam (hset k (.lk ⟨es, clock⟩ m) H) n w := hH.set hk0 hw0 rfl g2 (fun _ _ => rfl) ⟨g1, b, o, g2, g3, g4, g5⟩
  have hne : k ≠ n := by omega
  refine ⟨⟨es, clock⟩, w.alloc (.mapIter (some b) clock #[] clock), setLam lam n (some (w.heap.size, 0)), ?_, ?_, ?_, upd_alloc N D w hN _, setLam_agree _ _ _, (KeyS.set hH.nd hk0 rfl).cons rfl⟩
  · simp only [AV.conc, g2, mapV, setLam_same, ptrV, offP, Nat.add_zero, Instr.range, Sem.run_bind, run_underlying hu, Result.andThen_ok, getMap_run g3]
    rfl
  · simp only [AV.ok]; exact ⟨Nat.lt_succ_self n, setLam_born _ _ _, by rw [setLam_same]; simp⟩
  · refine h1.alloc hN (Nat.lt_succ_self n) (Nat.le_succ n) (fun h => absurd h (Nat.lt_irrefl n)) rfl ⟨⟨by omega, .inr hlow.2⟩, List.nodup_nil, (fun i hi => by cases hi), w.heap.size, b, o, clock, setLam_same _ _ _, by rw [setLam_ne _ _ _ hne, g2], fun _ => rfl, ?_⟩
    exact alloc_new w _
theorem getIter_run {r : Nat} {m : Option Nat} {s : Nat} {sn : Array Nat} {c : Nat} (hb : w.heap[r]? = some (.mapIter m s sn c)) : (getObj r).run P w = .ok (.mapIter m s sn c) w := by
  simp [getObj, Sem.run, hb]
/-- What an iterator that goes through a map stands for. -/
theorem it_has (hH : HSit N D lam H n w) {it k : Nat} {s : MpS} {seen : List Nat} {m : List (AV × AV)} (hit : hget it H = some (.it s seen k)) (hlk : hget k H = some (.lk s m)) :
    seen.Nodup ∧ (∀ i, i ∈ seen → i < s.es.size) ∧ (∀ x y, (x, y) ∈ m → x.ok lam n ∧ y.ok lam n) ∧ MapOk s.es s.clock ∧ s.es.toList.map (fun e => (e.key, e.val)) = m.map (fun q => (q.1.conc lam, q.2.conc lam)) ∧
      ∃ b bm om last, lam it 0 = some (b, 0) ∧ lam k 0 = some (bm, om) ∧ (seen ≠ [] → last = s.clock) ∧ w.heap[b]? = some (.mapIter (some bm) s.clock (seen.map fun i => (s.es[i]?.map (·.born)).getD 0).toArray last) ∧ w.heap[bm]? = some (.map s.es s.clock) := by
  obtain ⟨h1, h2, h3, b, bm, om, last, h4, h5, h6, h7⟩ := hH.has _ _ (hget_mem hit)
  obtain ⟨g1, b', o', g2, g3, g4, g5⟩ := hH.has _ _ (hget_mem hlk)
  rw [h5] at g2
  cases g2
  exact ⟨h2, h3, g1, g4, g5, b, bm, om, last, h4, h5, h6, h7, g3⟩
theorem born_inj {es : Array MapEntry} {clock : Nat} (h : MapOk es clock) {i j : Nat} {a b : MapEntry} (hi : es[i]? = some a) (hj : es[j]? = some b) (he : a.born = b.born) : i = j := by
  have hi' : (es.toList.map (·.born))[i]? = some a.born := by rw [List.getElem?_map, Array.getElem?_toList, hi]; rfl
  have hj' : (es.toList.map (·.born))[j]? = some a.born := by rw [List.getElem?_map, Array.getElem?_toList, hj, he]; rfl
  obtain ⟨li, _⟩ := List.getElem?_eq_some_iff.1 hi'
  obtain ⟨lj, _⟩ := List.getElem?_eq_some_iff.1 hj'
  exact (List.getElem?_inj li h.1).1 (by rw [hi', hj'])
def bornL (es : Array MapEntry) (seen : List Nat) : Array Nat := (seen.map fun i => (es[i]?.map (·.born)).getD 0).toArray
theorem bornL_mem {es : Array MapEntry} {clock : Nat} (h : MapOk es clock) {seen : List Nat} (hs : ∀ i, i ∈ seen → i < es.size) {j : Nat} {e : MapEntry} (hj : es[j]? = some e) : (bornL es seen).contains e.born = true ↔ j ∈ seen := by
  simp only [bornL, Array.contains_eq_mem, List.mem_toArray, List.mem_map, decide_eq_true_eq]
  constructor
  · rintro ⟨i, hi, he⟩
    have hlt := hs i hi
    have : es[i]? = some es[i] := Array.getElem?_eq_getElem hlt
    rw [this] at he
    simp only [Option.map_some, Option.getD_some] at he
    exact (born_inj h this hj he) ▸ hi
  · intro hi
    exact ⟨j, hi, by rw [hj]; rfl⟩
theorem entry_at {m : List (AV × AV)} {es : Array MapEntry} (h : es.toList.map (fun e => (e.key, e.val)) = m.map (fun q => (q.1.conc lam, q.2.conc lam))) {i : Nat} {e : MapEntry} (hi : es[i]? = some e) : ∃ q, m[i]? = some q ∧ e.key = q.1.conc lam ∧ e.val = q.2.conc lam := by
  have h1 : (m.map (fun q => (q.1.conc lam, q.2.conc lam)))[i]? = some (e.key, e.val) := by
    rw [← h, List.getElem?_map, Array.getElem?_toList, hi]; rfl
  rw [List.getElem?_map, Option.map_eq_some_iff] at h1
  obtain ⟨q, hq, he⟩ := h1
  simp only [Prod.mk.injEq] at he
  exact ⟨q, hq, he.1.symm, he.2.symm⟩
theorem entry_of {m : List (AV × AV)} {es : Array MapEntry} (h : es.toList.map (fun e => (e.key, e.val)) = m.map (fun q => (q.1.conc lam, q.2.conc lam))) {i : Nat} {q : AV × AV} (hi : m[i]? = some q) : ∃ e, es[i]? = some e ∧ e.key = q.1.conc lam ∧ e.val = q.2.conc lam := by
  have h1 : (es.toList.map (fun e => (e.key, e.val)))[i]? = some (q.1.conc lam, q.2.conc lam) := by
    rw [h, List.getElem?_map, hi]; rfl
  rw [List.getElem?_map, Option.map_eq_some_iff] at h1
  obtain ⟨e, he, h2⟩ := h1
  simp only [Prod.mk.injEq] at h2
  exact ⟨e, by rw [← Array.getElem?_toList]; exact he, h2.1, h2.2⟩
theorem next_run (hH : HSit N D lam H n w) {it k : Nat} {s : MpS} {seen : List Nat} {m : List (AV × AV)} {ty : TypeId} (hit : hget it H = some (.it s seen k)) (hlk : hget k H = some (.lk s m)) :
    ∃ (v : AV) (H' : Hp) (w' : World), (Instr.next ((AV.ptr it 0 []).conc lam) false ty).run P w = .ok (v.conc lam) w' ∧ v.ok lam n ∧ HSit N D lam H' n w' ∧ Upd N D w w' ∧ KeyS H n H' ∧
      ((∃ i q, m[i]? = some q ∧ i ∉ seen ∧ v = .tup [.bool true, q.1, q.2] ∧ H' = hset it (.it s (seen ++ [i]) k) H) ∨ ((∀ i, i < m.length → i ∈ seen) ∧ v = .tup [.bool false] ∧ H' = H)) := by
  obtain ⟨h1, h2, h3, h4, h5, b, bm, om, last, h6, h7, h8, h9, h10⟩ := it_has hH hit hlk
  have hbl : (seen.map fun i => (s.es[i]?.map (·.born)).getD 0).toArray = bornL s.es seen := rfl
  rw [hbl] at h9
  have hlen : m.length = s.es.size := by
    have := congrArg List.length h5
    simp only [List.length_map, Array.length_toList] at this
    exact this.symm
  obtain ⟨left, hleft⟩ : ∃ left, left = s.es.filter fun e => !(bornL s.es seen).contains e.born := ⟨_, rfl⟩
  have hold : left.filter (fun e => decide (e.born < s.clock)) = left := by
    rw [Array.filter_eq_self]
    intro e he
    rw [hleft, Array.mem_filter] at he
    simpa using h4.2 e (by simpa using he.1)
  have hnew : left.filter (fun e => decide (e.born ≥ s.clock)) = #[] := by
    rw [Array.filter_eq_empty_iff]
    intro e he
    rw [hleft, Array.mem_filter] at he
    have := h4.2 e (by simpa using he.1)
    simp; omega
  have hcond : (!(bornL s.es seen).isEmpty && !s.es.isEmpty && s.es.all fun e => decide (e.born ≥ last)) = false := by
    by_cases hs : seen = []
    · subst hs; simp [bornL]
    · have hl := h8 hs
      by_cases he : s.es.isEmpty = true
      · simp [he]
      · have hpos : 0 < s.es.size := by
          rw [Array.isEmpty_iff_size_eq_zero] at he; omega
        have : ¬ (s.es.all fun e => decide (e.born ≥ last)) = true := by
          rw [Array.all_eq_true_iff_forall_mem]
          intro hall
          have := hall s.es[0] (Array.getElem_mem hpos)
          have h0 := h4.2 s.es[0] (by simp)
          simp at this
          omega
        rw [Bool.not_eq_true] at this
        simp [this]
  by_cases hemp : left.isEmpty = true
  · -- all were met
    have hl0 : left = #[] := by simpa using hemp
    refine ⟨.tup [.bool false], H, w, ?_, by simp [AV.ok, okL], hH, Upd.refl _ _ _, KeyS.refl _ _, .inr ⟨fun i hi => ?_, rfl, rfl⟩⟩
    · simp only [AV.conc, h6, ptrV, offP, Nat.add_zero, Instr.next, Sem.run_bind, getIter_run h9, Result.andThen_ok, getMap_run h10, hcond, Bool.false_eq_true, if_false, ← hleft, hold, hnew]
      rw [hl0]
      simp [choose, Sem.run, Question.forced, concL, AV.conc]
    · have hil : i < s.es.size := by omega
      have hg : s.es[i]? = some s.es[i] := Array.getElem?_eq_getElem hil
      apply Classical.byContradiction
      intro hn
      have : s.es[i] ∈ left := by
        rw [hleft, Array.mem_filter]
        refine ⟨Array.getElem_mem hil, ?_⟩
        have : ¬ (bornL s.es seen).contains s.es[i].born = true := fun hc => hn ((bornL_mem h4 h2 hg).1 hc)
        simpa using this
      rw [hl0] at this
      simp at this
  · have hne : left.isEmpty = false := by simpa using hemp
    have hpos : 0 < left.size := by
      rw [Array.isEmpty_eq_false_iff] at hne
      exact Array.size_pos_iff.2 hne
    have hch : ∃ idx w1, (choose (.mapNext left.size)).run P w = .ok idx w1 ∧ idx < left.size ∧ (w1 = w ∨ w1 = w.drew) := by
      rw [run_choose]
      split
      · exact ⟨0, w, rfl, hpos, .inl rfl⟩
      · exact ⟨_, w.drew, rfl, by simp only [Question.cut]; exact Nat.mod_lt _ hpos, .inr rfl⟩
    obtain ⟨idx, w1, hc1, hc2, hc3⟩ := hch
    have hw1 : w1.heap = w.heap := by rcases hc3 with rfl | rfl <;> rfl
    have hH1 : HSit N D lam H n w1 := by rcases hc3 with rfl | rfl; exact hH; exact hH.drew
    have hU1 : Upd N D w w1 := by rcases hc3 with rfl | rfl; exact Upd.refl _ _ _; exact upd_drew N D w
    obtain ⟨e, he⟩ : ∃ e, left[idx]? = some e := ⟨_, Array.getElem?_eq_getElem hc2⟩
    have hem : e ∈ left := Array.mem_of_getElem? he
    rw [hleft, Array.mem_filter] at hem
    obtain ⟨i, hi⟩ := Array.getElem?_of_mem hem.1
    have hns : i ∉ seen := fun hs => by
      have := (bornL_mem h4 h2 hi).2 hs
      rw [this] at hem; simp at hem
    obtain ⟨q, hq, hq1, hq2⟩ := entry_at h5 hi
    have hqok := h3 q.1 q.2 (List.mem_of_getElem? hq)
    have h9' : w1.heap[b]? = some (.mapIter (some bm) s.clock (bornL s.es seen) last) := by rw [hw1]; exact h9
    have hwr := hH.wr it _ (hget_mem hit) rfl b 0 h6
    have hlow := hH.low it _ (hget_mem hit)
    have hpush : (bornL s.es seen).push e.born = bornL s.es (seen ++ [i]) := by
      simp only [bornL, List.map_append, List.map_cons, List.map_nil, hi, Option.map_some, Option.getD_some]
      simp
    refine ⟨.tup [.bool true, q.1, q.2], _, w1.putObjY b (.mapIter (some bm) s.clock (bornL s.es (seen ++ [i])) s.clock), ?_, by simp only [AV.ok, okL]; exact ⟨trivial, hqok.1, hqok.2, trivial⟩, ?_, hU1.trans (upd_putObj h9' (fun ds => by simp) hwr), KeyS.set hH.nd hit rfl, .inl ⟨i, q, hq, hns, rfl, rfl⟩⟩
    · simp only [AV.conc, h6, ptrV, offP, Nat.add_zero, Instr.next, Sem.run_bind, getIter_run h9, Result.andThen_ok, getMap_run h10, hcond, Bool.false_eq_true, if_false, ← hleft, hold, hnew, hne]
      simp only [Array.append_empty, Array.empty_append, Array.size_map, hc1, Result.andThen_ok, Array.getElem?_map, he, Option.map_some, Sem.run_bind, hpush, setObj_run (P := P) (o := .mapIter (some bm) s.clock (bornL s.es (seen ++ [i])) s.clock) h9' (by simp), Sem.run_pure]
      simp [concL, AV.conc, hq1, hq2]
    · have hlowk := hH.has it _ (hget_mem hit)
      refine hH1.set hit rfl rfl h6 (fun b' hb' => putObj_other hb') ⟨hlowk.1, ?_, ?_, b, bm, om, s.clock, h6, h7, fun _ => rfl, putObj_same h9'⟩
      · rw [List.nodup_append]
        refine ⟨h1, by simp, fun a ha c hc => ?_⟩
        simp only [List.mem_singleton] at hc
        rintro rfl
        exact hns (hc ▸ ha)
      · intro j hj
        rcases List.mem_append.1 hj with hj | hj
        · exact h2 j hj
        · simp only [List.mem_singleton] at hj
          subst hj
          exact (Array.getElem?_eq_some_iff.1 hi).1
theorem entry_run (hH : HSit N D lam H n w) {it k : Nat} {s : MpS} {seen : List Nat} {m : List (AV × AV)} {q : AV × AV} (hit : hget it H = some (.it s seen k)) (hlk : hget k H = some (.lk s m)) (hq : lastO seen m = some q) :
    (Instr.entry ((AV.ptr it 0 []).conc lam)).run P w = .ok ((AV.tup [q.1, q.2]).conc lam) w ∧ (AV.tup [q.1, q.2]).ok lam n := by
  obtain ⟨h1, h2, h3, h4, h5, b, bm, om, last, h6, h7, h8, h9, h10⟩ := it_has hH hit hlk
  unfold lastO at hq
  split at hq
  case h_2 => cases hq
  rename_i i hi
  obtain ⟨e, he, hk, hv⟩ := entry_of h5 hq
  have hqok := h3 q.1 q.2 (List.mem_of_getElem? hq)
  have hne : seen ≠ [] := by rintro rfl; simp at hi
  have hlast := h8 hne
  subst hlast
  have hback : (seen.map fun i => (s.es[i]?.map (·.born)).getD 0).toArray.back? = some e.born := by
    rw [List.back?_toArray, List.getLast?_map, hi]
    simp [he]
  have hfind : s.es.find? (fun x => x.born == e.born) = some e := by
    rw [Array.find?_eq_some_iff_getElem]
    refine ⟨by simp, i, (Array.getElem?_eq_some_iff.1 he).1, (Array.getElem?_eq_some_iff.1 he).2, fun j hj => ?_⟩
    have hjl : j < s.es.size := by have := (Array.getElem?_eq_some_iff.1 he).1; omega
    have := born_inj h4 (Array.getElem?_eq_getElem hjl) he
    simp only [Bool.not_eq_true', beq_eq_false_iff_ne, ne_eq]
    intro hb
    have := this hb
    omega
  refine ⟨?_, by simp only [AV.ok, okL]; exact ⟨hqok.1, hqok.2, trivial⟩⟩
  simp only [AV.conc, h6, ptrV, offP, Nat.add_zero, Instr.entry, Sem.run_bind, getIter_run h9, Result.andThen_ok, hback, getMap_run h10]
  simp [hfind, concL, AV.conc, hk, hv]
end

end Go.Y
