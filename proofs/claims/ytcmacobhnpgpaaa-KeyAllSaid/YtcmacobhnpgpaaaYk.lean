/-
  append, and what the operations of a region come to, all together.
-/
import Derived.Test.YtcmacobhnpgpaaaYj
set_option linter.unusedVariables false
set_option linter.unusedSimpArgs false
namespace Go.Y
open RowKit

section
variable {P : Program} {N : Nat} {D : Nat → Prop} {T : Sl} {H : Hp} {n : Nat} {tmps : Array Value} {w : World} {lam : Lam}

theorem HSit.sub {H' : Hp} (h : HSit N D lam H n w) (hs : H'.Sublist H) : HSit N D lam H' n w :=
  ⟨fun k x hk => h.has k x (hs.subset hk), fun k x hk => h.low k x (hs.subset hk), fun k x hk => h.wr k x (hs.subset hk), fun k x hk hw k' x' hk' => h.apart k x (hs.subset hk) hw k' x' (hs.subset hk'), h.nd.sublist (hs.map _)⟩

/-- An entry under a new number. -/
theorem HSit.cons (h : HSit N D lam H n w) {w' : World} {x : Option (Nat × Nat)} {e : Ent} (hw : e.writes = true) (hx : ∀ b o, x = some (b, o) → (D b ∨ N ≤ b) ∧ ∀ k y, (k, y) ∈ H → ∀ i o', (i = 0 ∨ y.writes = false) → lam k i ≠ some (b, o'))
    (hother : ∀ b', (∀ o, x ≠ some (b', o)) → b' < w.heap.size → w'.heap[b']? = w.heap[b']?) (he : HasE (setLam lam n x) (n + 1) w' n e) :
    HSit N D (setLam lam n x) ((n, e) :: H) (n + 1) w' := by
  have hold : ∀ k y, (k, y) ∈ H → ∀ i, setLam lam n x k i = lam k i := fun k y hk i => setLam_ne _ _ _ (by have := (h.low k y hk).1; omega)
  refine ⟨fun k y hk => ?_, fun k y hk => ?_, fun k y hk hwr b o' hl => ?_, fun k y hk hwr k' y' hk' i b o1 o2 hi hl hl' => ?_, ?_⟩
  · rcases List.mem_cons.1 hk with hk | hk
    · cases hk; exact he
    · refine (h.has k y hk).move (h.low k y hk) (setLam_agree _ _ _).keeps (by omega) (fun i b o' hi hl => hother b (fun o ex => (hx b o ex).2 k y hk i o' hi hl) ((h.has k y hk).lt hi hl))
  · rcases List.mem_cons.1 hk with hk | hk
    · cases hk; exact ⟨by omega, setLam_born _ _ _⟩
    · exact ⟨by have := (h.low k y hk).1; omega, .inr (h.low k y hk).2⟩
  · rcases List.mem_cons.1 hk with hk | hk
    · cases hk; rw [setLam_same] at hl; exact (hx b o' hl).1
    · rw [hold k y hk] at hl; exact h.wr k y hk hwr b o' hl
  · rcases List.mem_cons.1 hk with hk | hk <;> rcases List.mem_cons.1 hk' with hk' | hk'
    · cases hk; cases hk'
      refine ⟨rfl, ?_⟩
      rcases hi with hi | hi
      · exact hi
      · rw [hwr] at hi; cases hi
    · cases hk
      rw [setLam_same] at hl
      rw [hold k' y' hk'] at hl'
      exact absurd hl' ((hx b o1 hl).2 k' y' hk' i o2 hi)
    · cases hk'
      rcases hi with rfl | hi
      · rw [setLam_same] at hl'
        rw [hold k y hk] at hl
        exact absurd hl ((hx b o2 hl').2 k y hk 0 o1 (.inl rfl))
      · rw [hw] at hi; cases hi
    · rw [hold k y hk] at hl
      rw [hold k' y' hk'] at hl'
      exact h.apart k y hk hwr k' y' hk' i b o1 o2 hi hl hl'
  · simp only [List.map_cons, List.nodup_cons]
    refine ⟨fun hm => ?_, h.nd⟩
    obtain ⟨⟨k, y⟩, hk, he⟩ := List.mem_map.1 hm
    simp only at he
    subst he
    have := (h.low _ y hk).1
    omega

theorem slice_lay {t : TypeId} {sz : Nat} {z : AV} {a : Bool} (hs : slcOf P t = some (a, sz)) (hz : zeroE P t = some z) (hf : fitZ sz (some z) = true) :
    ∃ e i, P.underlying t = some (.slice e) ∧ P.info? e = some i ∧ i.zero = some (z.conc lam) ∧ i.size = sz ∧ (z.conc lam).cells.size = sz ∧ bytesE P t = some i.bytes := by
  obtain ⟨e, hu, hl⟩ := slcOf_spec hs
  rw [(elemT_spec hu).1] at hz
  obtain ⟨hzr, hzok⟩ := zeroA_spec (w := (default : World)) lam 0 hz
  obtain ⟨i, z', hi, hz'⟩ := zero_info hz
  have hzc : z' = z.conc lam := by
    have : (zeroValue e).run P (default : World) = .ok z' default := by simp [zeroValue, typeInfo, hi, hz']
    rw [hzr] at this; cases this; rfl
  subst hzc
  have hsz : i.size = sz := by
    unfold lay at hl
    rw [hi] at hl
    split at hl
    · rename_i d i2 _ h2; cases h2; cases hl; rfl
    · cases hl
  refine ⟨e, i, hu, hi, hz', hsz, ?_, by rw [(elemT_spec hu).2.2, hi]; rfl⟩
  have := cells_length lam z
  rw [(fitZ_spec hf).1] at this
  simpa [cellsA] using this

theorem grownCap_ge (w : World) (need old : Nat) (e : TypeId) : need ≤ grownCap w need old e := by
  unfold grownCap
  simp only [Question.cut]
  omega

/-- **append.** -/
theorem append_run (hH : HSit N D lam H n w) (hN : N ≤ w.heap.size) {t u ty : TypeId} {x y : AV} {ko : Option Nat} {sz : Nat} {l m : List AV} (hx : x.ok lam n) (hy : y.ok lam n)
    (h : appendA P t u x y H = some (ko, sz, l, m)) (hroom : roomOk P t (l.length + m.length)) :
    ∃ c w' lam', l.length + m.length ≤ c ∧ (Builtin.append_ #[t, u] ty #[x.conc lam, y.conc lam]).run P w = .ok ((AV.slc n 0 [] sz 0 0 (l.length + m.length) c).conc lam') w' ∧
      (AV.slc n 0 [] sz 0 0 (l.length + m.length) c).ok lam' (n + 1) ∧ HSit N D lam' ((n, .vec c sz (l ++ m)) :: dropO ko H) (n + 1) w' ∧ Upd N D w w' ∧ agree n lam lam' := by
  unfold appendA at h
  split at h
  case h_2 => cases h
  rename_i a sz' z hs hz
  split at h
  case isFalse => cases h
  rename_i hf
  obtain ⟨hf, hnu⟩ := hf
  split at h
  case h_2 => cases h
  rename_i ko' l' m' hown hmore
  cases h
  obtain ⟨e, i, ht, hi, hz0, hsz, hzs, hby⟩ := slice_lay (lam := lam) hs hz hf
  obtain ⟨hmok, hmT, hmR, hlen, hnews, hlenw⟩ := more_run (P := P) hH hy hmore
  have hu := notInt_spec hnu
  unfold roomOk at hroom
  rw [hby] at hroom
  obtain ⟨hb, h63⟩ := hroom
  have hmore2 := more_run (P := P) (w := w.drew) hH.drew hy hmore
  -- what there is
  have key : ∃ base cap, x.conc lam = .slice base l.length cap ∧ okL lam n l ∧ okT l ∧ okR sz l ∧ l.length ≤ cap ∧ (∀ w', w'.heap = w.heap → (Builtin.firstCells sz l.length (.slice base l.length cap)).run P w' = .ok (l.flatMap (cellsA lam)).toArray w') ∧
      ((base = none ∧ cap = 0) ∨ ∃ k b c ty0, ko = some k ∧ (∃ e, hget k H = some e ∧ e.writes = true) ∧ base = some ⟨b, 0, none⟩ ∧ lam k 0 = some (b, 0) ∧ w.heap[b]? = some (.cells c ty0 (0, 0)) ∧ c.size = cap * sz ∧ l.flatMap (cellsA lam) <+: c.toList) := by
    unfold ownOf at hown
    split at hown
    · cases hown
      refine ⟨none, 0, by simp [AV.conc], by simp [okL], by simp [okT], by simp [okR], Nat.le_refl _, fun w' _ => ?_, .inl ⟨rfl, rfl⟩⟩
      simp only [List.length_nil, List.flatMap_nil]
      exact run_firstCells_none (P := P) w' _ _ _ _
    · split at hown
      · rename_i k0 n' l0 hrow
        split at hown
        · rename_i hnn
          cases hown
          subst hnn
          unfold ownRow at hrow
          split at hrow
          · rename_i kk len cap cap0
            split at hrow
            · rename_i cap' n2 l2 hk
              split at hrow
              · rename_i hh
                cases hrow
                obtain ⟨rfl, rfl, hle⟩ := hh
                have hhas := hH.has _ _ (hget_mem hk)
                obtain ⟨k1, k2, k2', hlen2, k3⟩ := hhas
                have hl : (l2.take len).length = len := by simp; omega
                rw [hl]
                rcases k3 with ⟨k3, hcap⟩ | ⟨b, c, ty0, k3, k4, k5, k6⟩
                · have h0 : len = 0 := by omega
                  refine ⟨none, cap, by simp [AV.conc, k3, slcV], okL_take k1 _, fun v hv => k2' v (List.mem_of_mem_take hv), okR_take k2 _, by omega, fun w' _ => ?_, .inl ⟨rfl, hcap⟩⟩
                  rw [h0]
                  simp only [List.take_zero, List.flatMap_nil]
                  exact run_firstCells_none (P := P) w' _ _ _ _
                · have hpre : (l2.take len).flatMap (cellsA lam) <+: c.toList := by
                    refine List.IsPrefix.trans ?_ k6
                    conv => rhs; rw [← List.take_append_drop len l2, List.flatMap_append]
                    exact List.prefix_append _ _
                  refine ⟨some ⟨b, 0, none⟩, cap, by simp [AV.conc, k3, slcV, offP], okL_take k1 _, fun v hv => k2' v (List.mem_of_mem_take hv), okR_take k2 _, by omega, fun w' hw' => ?_, .inr ⟨_, b, c, ty0, rfl, ⟨_, hk, rfl⟩, rfl, k3, k4, k5, hpre⟩⟩
                  refine run_firstCells_some (P := P) w' sz len _ _ _ _ (by rw [cellsL_length, sizeL_rep (okR_take k2 _), hl]) (fun j v hj => ?_)
                  rw [add_addr]
                  obtain ⟨rest, hr⟩ := hpre
                  have : c.toList[0 + j]? = some v := by
                    rw [← hr, Nat.zero_add, List.getElem?_append_left (List.getElem?_eq_some_iff.1 hj).1]; exact hj
                  simpa [World.cell?, hw', k4] using this
              · cases hrow
            · cases hrow
          · cases hrow
        · cases hown
      · cases hown
  obtain ⟨base, cap, hconc, hlok, hlT, hlR, hlcap, holds, hbase⟩ := key
  have hsubl : (dropO ko H).Sublist H := by
    unfold dropO
    split
    · exact hdel_sub _ _
    · exact List.Sublist.refl _
  have hH2 := hH.sub hsubl
  have happT : ∀ v, v ∈ l ++ m → v.isTup = false := okT_app.2 ⟨hlT, hmT⟩
  have happR : okR sz (l ++ m) := okR_app.2 ⟨hlR, hmR⟩
  have happL : okL lam n (l ++ m) := okL_app.2 ⟨hlok, hmok⟩
  by_cases hfit : l.length + m.length ≤ cap
  · -- there is room
    rcases hbase with ⟨hb0, hc0⟩ | ⟨k, b, c, ty0, hko, ⟨e0, hke, hwe⟩, hb0, hlam, hheap, hcs, hpre⟩
    · subst hb0
      have hl0 : l = [] := List.length_eq_zero_iff.1 (by omega)
      have hm0 : m = [] := List.length_eq_zero_iff.1 (by omega)
      subst hl0; subst hm0
      have hrun := append_room (P := P) (ty := ty) ht hu hi (base := none) (sLen := 0) (sCap := cap) (hlenw w) (by rw [hsz]; exact hnews) hfit rfl
      refine ⟨0, w, setLam lam n none, Nat.le_refl _, ?_, ?_, hH2.cons rfl (fun b o e => by cases e) (fun _ _ _ => rfl) ⟨by simp [okL], by simp [okR], by simp, Nat.le_refl _, .inl ⟨setLam_same _ _ _, rfl⟩⟩, Upd.refl _ _ _, setLam_agree _ _ _⟩
      · simp only [List.length_nil] at hconc
        rw [hconc, hrun, hc0]; simp [AV.conc, setLam_same, slcV]
      · simp [AV.ok, setLam_born]
    · subst hb0
      obtain ⟨rest, hrest⟩ := hpre
      have hll : (l.flatMap (cellsA lam)).length = l.length * sz := by rw [cellsL_length, sizeL_rep hlR]
      have hml : (m.flatMap (cellsA lam)).length = m.length * sz := by rw [cellsL_length, sizeL_rep hmR]
      have hcl := congrArg List.length hrest
      simp only [List.length_append, hll, Array.length_toList] at hcl
      have hle : (l.length + m.length) * sz ≤ cap * sz := Nat.mul_le_mul_right _ hfit
      rw [Nat.add_mul] at hle
      have hone := cellsL_one lam hmok hmT
      have hst := run_storeCells_at P b (l.length * sz) ty0 (m.flatMap (cellsA lam)) 0 c w hheap (by rw [hml]; omega) hone
      obtain ⟨c', hc'⟩ : ∃ c', c' = (c.toList.take (l.length * sz) ++ m.flatMap (cellsA lam) ++ c.toList.drop (l.length * sz + (m.flatMap (cellsA lam)).length)).toArray := ⟨_, rfl⟩
      simp only [Nat.add_zero] at hst
      rw [← hc'] at hst
      have hc1 : c'.toList = l.flatMap (cellsA lam) ++ m.flatMap (cellsA lam) ++ rest.drop (m.length * sz) := by
        rw [hc', hml]
        simp only [List.toList_toArray]
        rw [← hrest]
        have e1 : (l.flatMap (cellsA lam) ++ rest).take (l.length * sz) = l.flatMap (cellsA lam) := List.take_left' hll
        have e2 : (l.flatMap (cellsA lam) ++ rest).drop (l.length * sz + m.length * sz) = rest.drop (m.length * sz) := by
          rw [List.drop_append, hll]
          rw [List.drop_eq_nil_of_le (by rw [hll]; omega)]
          simp
        rw [e1, e2]
      have hrun := append_room (P := P) (ty := ty) ht hu hi (base := some ⟨b, 0, none⟩) (sLen := l.length) (sCap := cap) (w' := w.setRow b c') (hlenw w) (by rw [hsz]; exact hnews) hfit (by
        dsimp only
        rw [add_addr, hsz, Nat.zero_add]
        exact hst)
      have hag := setLam_agree lam n (some (b, 0))
      refine ⟨cap, w.setRow b c', setLam lam n (some (b, 0)), hfit, ?_, ?_, hH2.cons rfl ?_ ?_ ⟨okL_mono (by omega) hag.keeps happL, happR, happT, by simpa using hfit, .inr ⟨b, c', ty0, setLam_same _ _ _, setRow_heap w b c _ ty0 _ hheap, ?_, ?_⟩⟩, upd_setRow w b _ (hH.wr k e0 (hget_mem hke) hwe b 0 hlam) hheap, hag⟩
      · rw [hconc, hrun]; simp [AV.conc, setLam_same, slcV, offP]
      · simp [AV.ok, setLam_same, setLam_born, hfit]
      · intro b' o' e'
        cases e'
        refine ⟨hH.wr k e0 (hget_mem hke) hwe b 0 hlam, fun k' y hky i o2 hio hl2 => ?_⟩
        have hky' : (k', y) ∈ H := hsubl.subset hky
        have := (hH.apart k e0 (hget_mem hke) hwe k' y hky' i b 0 o2 hio hlam hl2).1
        subst this
        rw [hko] at hky
        exact hdel_ne hH.nd k' y hky rfl
      · intro b' hb' _
        exact setRow_other w b b' _ (fun e' => hb' 0 (by rw [e']))
      · rw [← hcs]
        have := congrArg List.length hc1
        simp only [Array.length_toList, List.length_append, hll, hml, List.length_drop] at this
        omega
      · rw [flat_agree hag happL, hc1, List.flatMap_append]
        exact List.prefix_append _ _
  · -- it grows
    have hg : cap < l.length + m.length := by omega
    have hrun := append_grow (P := P) (ty := ty) ht hu hi hz0 (base := base) (sLen := l.length) (sCap := cap) hlenw (by rw [hsz]; exact hmore2.2.2.2.2.1) (by rw [hsz]; exact holds w.drew rfl) hg h63 hb
    obtain ⟨c, hc⟩ : ∃ c, c = grownCap w (l.length + m.length) cap e := ⟨_, rfl⟩
    have hge : l.length + m.length ≤ c := by rw [hc]; exact grownCap_ge w _ _ _
    rw [← hc] at hrun
    have hsize : ((l.flatMap (cellsA lam)).toArray ++ (m.flatMap (cellsA lam)).toArray ++ Builtin.zeroCells (z.conc lam).cells (c - (l.length + m.length))).size = c * sz := by
      simp only [Array.size_append, List.size_toArray, cellsL_length, sizeL_rep hlR, sizeL_rep hmR, size_zeroCells, hzs, ← Nat.add_mul]
      congr 1; omega
    have hm := made_vec (Nat.lt_succ_self n) (Nat.le_succ n) (fun h => absurd h (Nat.lt_irrefl n)) (P := P) (s := Builtin.append_ #[t, u] ty #[x.conc lam, y.conc lam]) (t := e) (len := l.length + m.length) (cap := c) (l := l ++ m) hH2.drew hN happL happR happT (by simpa using hge) hge hsize
      (by simp only [Array.toList_append, List.flatMap_append]; exact List.prefix_append _ _) (upd_drew N D w) (by rw [hconc]; exact hrun)
    obtain ⟨w', lam', g1, g2, g3, g4, g5, g6, _⟩ := hm
    exact ⟨c, w', lam', hge, g1, g2, g3, g4, g5, fun k hk hb => by rcases g6 k hb with h | h; omega; exact h⟩

end

end Go.Y
