/-
  append, and what the operations of a region come to, all together.
-/
import Derived.Test.YtbkmhkeihbgcfaaYj
set_option linter.unusedVariables false
set_option linter.unusedSimpArgs false
namespace Go.Y
open RowKit

section
variable {P : Program} {N : Nat} {D : Nat → Prop} {T : Sl} {H : Hp} {n : Nat} {tmps : Array Value} {w : World} {lam : Lam}

theorem HSit.sub {H' : Hp} (h : HSit N D lam H n w) (hs : H'.Sublist H) : HSit N D lam H' n w :=
  ⟨fun k x hk => h.has k x (hs.subset hk), fun k x hk => h.low k x (hs.subset hk), fun k x hk => h.wr k x (hs.subset hk), fun k x hk hw k' x' hk' => h.apart k x (hs.subset hk) hw k' x' (hs.subset hk'), h.nd.sublist (hs.map _)⟩

/-- An entry under a new number. -/
theorem HSit.cons (h : HSit N D lam H n w) {w' : World} {x : Option (Nat × Nat)} {e : Ent} (hw : e.writes = true) (hx : ∀ b o, x = some (b, o) → (D b ∨ N ≤ b) ∧ ∀ k y, (k, y) ∈ H → ∀ i o', (i = 0 ∨ y.writes = false) → lam k i ≠ some (b, o'))
    (hother : ∀ b', (∀ o, x ≠ some (b', o)) → b' < w.heap.size → w'.heap[b']? = w.heap[b']?) (he : HasE (setLam lam n x) (n + 1) w' n e) :
    HSit N D (setLam lam n x) ((n, e) :: H) (n + 1) w' := by
  have hold : ∀ k y, (k, y) ∈ H → ∀ i, setLam lam n x k i = lam k i := fun k y hk i => setLam_ne _ _ _ (by have := (h.low k y hk).1; omega)
  refine ⟨fun k y hk => ?_, fun k y hk => ?_, fun k y hk hwr b o' hl => ?_, fun k y hk hwr k' y' hk' i b o1 o2 hi hl hl' => ?_, ?_⟩
  · rcases List.mem_cons.1 hk with hk | hk
    · cases hk; exact he
    · refine (h.has k y hk).move (h.low k y hk) (setLam_agree _ _ _).keeps (by omega) (fun i b o' hi hl => hother b (fun o ex => (hx b o ex).2 k y hk i o' hi hl) ((h.has k y hk).lt hi hl))
  · rcases List.mem_cons.1 hk with hk | hk
    · cases hk; exact ⟨by omega, setLam_born _ _ _⟩
    · exact ⟨by have := (h.low k y hk).1; omega, .inr (h.low k y hk).2⟩
  · rcases List.mem_cons.1 hk with hk | hk
    · cases hk; rw [setLam_same] at hl; exact (hx b o' hl).1
    · rw [hold k y hk] at hl; exact h.wr k y hk hwr b o' hl
  · rcases List.mem_cons.1 hk with hk | hk <;> rcases List.mem_cons.1 hk' with hk' | hk'
    · cases hk; cases hk'
      refine ⟨rfl, ?_⟩
      rcases hi with hi | hi
      · exact hi
      · rw [hwr] at hi; cases hi
    · cases hk
      rw [setLam_same] at hl
      rw [hold k' y' hk'] at hl'
      exact absurd hl' ((hx b o1 hl).2 k' y' hk' i o2 hi)
    · cases hk'
      rcases hi with rfl | hi
      · rw [setLam_same] at hl'
        rw [hold k y hk] at hl
        exact absurd hl ((hx b o2 hl').2 k y hk 0 o1 (.inl rfl))
      · rw [hw] at hi; cases hi
    · rw [hold k y hk] at hl
      rw [hold k' y' hk'] at hl'
      exact h.apart k y hk hwr k' y' hk' i b o1 o2 hi hl hl'
  · simp only [List.map_cons, List.nodup_cons]
    refine ⟨fun hm => ?_, h.nd⟩
    obtain ⟨⟨k, y⟩, hk, he⟩ := List.mem_map.1 hm
    simp only at he
    subst he
    have := (h.low _ y hk).1
    omega

theorem slice_lay {t : TypeId} {sz : Nat} {z : AV} {a : Bool} (hs : slcOf P t = some (a, sz)) (hz : zeroE P t = some z) (hf : fitZ sz (some z) = true) :
    ∃ e i, P.underlying t = some (.slice e) ∧ P.info? e = some i ∧ i.zero = some (z.conc lam) ∧ i.size = sz ∧ (z.conc lam).cells.size = sz ∧ bytesE P t = some i.bytes := by
  obtain ⟨e, hu, hl⟩ := slcOf_spec hs
  rw [(elemT_spec hu).1] at hz
  obtain ⟨hzr, hzok⟩ := zeroA_spec (w := (default : World)) lam 0 hz
  obtain ⟨i, z', hi, hz'⟩ := zero_info hz
  have hzc : z' = z.conc lam := by
    have : (zeroValue e).run P (default : World) = .ok z' default := by simp [zeroValue, typeInfo, hi, hz']
    rw [hzr] at this; cases this; rfl
  subst hzc
  have hsz : i.size = sz := by
    unfold lay at hl
    rw [hi] at hl
    split at hl
    · rename_i d i2 _ h2; cases h2; cases hl; rfl
    · cases hl
  refine ⟨e, i, hu, hi, hz', hsz, ?_, by rw [(elemT_spec hu).2.2, hi]; rfl⟩
  have := cells_length lam z
  rw [(fitZ_spec hf).1] at this
  simpa [cellsA] using this

theorem grownCap_ge (w : World) (need old : Nat) (e : TypeId) : need ≤ grownCap w need old e := by
  unfold grownCap
  simp only [Question.cut]
  omega

/-- **append.** -/
theorem append_run (hH : HSit N D lam H n w) (hN : N ≤ w.heap.size) {t u ty : TypeId} {x y : AV} {ko : Option Nat} {sz : Nat} {l m : List AV} (hx : x.ok lam n) (hy : y.ok lam n)
    (h : appendA P t u x y H = some (ko, sz, l, m)) (hroom : roomOk P t (l.length + m.length)) :
    ∃ c w' lam', l.length + m.length ≤ c ∧ (Builtin.append_ #[t, u] ty #[x.conc lam, y.conc lam]).run P w = .ok ((AV.slc n 0 [] sz 0 0 (l.length + m.length) c).conc lam') w' ∧
      (AV.slc n 0 [] sz 0 0 (l.length + m.length) c).ok lam' (n + 1) ∧ HSit N D lam' ((n, .vec c sz (l ++ m)) :: dropO ko H) (n + 1) w' ∧ Upd N D w w' ∧ agree n lam lam' := by
  unfold appendA at h
  split at h
  case h_2 => cases h
  rename_i a sz' z hs hz
  split at h
  case isFalse => cases h
  rename_i hf
  obtain ⟨hf, hnu⟩ := hf
  split at h
  case h_2 => cases h
  rename_i ko' l' m' hown hmore
  cases h
  obtain ⟨e, i, ht, hi, hz0, hsz, hzs, hby⟩ := slice_lay (lam := lam) hs hz hf
  obtain ⟨hmok, hmT, hmR, hlen, hnews, hlenw⟩ := more_run (P := P) hH hy hmore
  have hu := notInt_spec hnu
  unfold roomOk at hroom
  rw [hby] at hroom
  obtain ⟨hb, h63⟩ := hroom
  have hmore2 := more_run (P := P) (w := w.drew) hH.drew hy hmore
  -- what there is
  have key : ∃ base cap, x.conc lam = .slice base l.length cap ∧ okL lam n l ∧ okT l ∧ okR sz l ∧ l.length ≤ cap ∧ (∀ w', w'.heap = w.heap → (Builtin.firstCells sz l.length (.slice base l.length cap)).run P w' = .ok (l.flatMap (cellsA lam)).toArray w') ∧
      ((base = none ∧ cap = 0) ∨ ∃ k b c ty0, ko = some k ∧ (∃ e, hget k H = some e ∧ e.writes = true) ∧ base = some ⟨b, 0, none⟩ ∧ lam k 0 = some (b, 0) ∧ w.heap[b]? = some (.cells c ty0 (0, 0)) ∧ c.size = cap * sz ∧ l.flatMap (cellsA lam) <+: c.toList) := by
    unfold ownOf at hown
    split at hown
    · cases hown
      refine ⟨none, 0, by simp [AV.conc], by simp [okL], by simp [okT], by simp [okR], Nat.le_refl _, fun w' _ => ?_, .inl ⟨rfl, rfl⟩⟩
      simp only [List.length_nil, List.flatMap_nil]
      exact run_firstCells_none (P := P) w' _ _ _ _
    · split at hown
      · rename_i k0 n' l0 hrow
        split at hown
        · rename_i hnn
          cases hown
          subst hnn
          unfold ownRow at hrow
          split at hrow
          · rename_i kk len cap cap0
            split at hrow
            · rename_i cap' n2 l2 hk
              split at hrow
              · rename_i hh
                cases hrow
                obtain ⟨rfl, rfl, hle⟩ := hh
                have hhas := hH.has _ _ (hget_mem hk)
                obtain ⟨k1, k2, k2', hlen2, k3⟩ := hhas
                have hl : (l2.take len).length = len := by simp; omega
                rw [hl]
                rcases k3 with ⟨k3, hcap⟩ | ⟨b, c, ty0, k3, k4, k5, k6⟩
                · have h0 : len = 0 := by omega
                  refine ⟨none, cap, by simp [AV.conc, k3, slcV], okL_take k1 _, fun v hv => k2' v (List.mem_of_mem_take hv), okR_take k2 _, by omega, fun w' _ => ?_, .inl ⟨rfl, hcap⟩⟩
                  rw [h0]
                  simp only [List.take_zero, List.flatMap_nil]
                  exact run_firstCells_none (P := P) w' _ _ _ _
                · have hpre : (l2.take len).flatMap (cellsA lam) <+: c.toList := by
                    refine List.IsPrefix.trans ?_ k6
                    conv => rhs; rw [← List.take_append_drop len l2, List.flatMap_append]
                    exact List.prefix_append _ _
                  refine ⟨some ⟨b, 0, none⟩, cap, by simp [AV.conc, k3, slcV, offP], okL_take k1 _, fun v hv => k2' v (List.mem_of_mem_take hv), okR_take k2 _, by omega, fun w' hw' => ?_, .inr ⟨_, b, c, ty0, rfl, ⟨_, hk, rfl⟩, rfl, k3, k4, k5, hpre⟩⟩
                  refine run_firstCells_some (P := P) w' sz len _ _ _ _ (by rw [cellsL_length, sizeL_rep (okR_take k2 _), hl]) (fun j v hj => ?_)
                  rw [add_addr]
                  obtain ⟨rest, hr⟩ := hpre
                  have : c.toList[0 + j]? = some v := by
                    rw [← hr, Nat.zero_add, List.getElem?_append_left (List.getElem?_eq_some_iff.1 hj).1]; exact hj
                  simpa [World.cell?, hw', k4] using this
              · cases hrow
            · cases hrow
          · cases hrow
        · cases hown
      · cases hown
  obtain ⟨base, cap, hconc, hlok, hlT, hlR, hlcap, holds, hbase⟩ := key
  have hsubl : (dropO ko H).Sublist H := by
    unfold dropO
    split
    · exact hdel_sub _ _
    · exact List.Sublist.refl _
  have hH2 := hH.sub hsubl
  have happT : ∀ v, v ∈ l ++ m → v.isTup = false := okT_app.2 ⟨hlT, hmT⟩
  have happR : okR sz (l ++ m) := okR_app.2 ⟨hlR, hmR⟩
  have happL : okL lam n (l ++ m) := okL_app.2 ⟨hlok, hmok⟩
  by_cases hfit : l.length + m.length ≤ cap
  · -- there is room
    rcases hbase with ⟨hb0, hc0⟩ | ⟨k, b, c, ty0, hko, ⟨e0, hke, hwe⟩, hb0, hlam, hheap, hcs, hpre⟩
    · subst hb0
      have hl0 : l = [] := List.length_eq_zero_iff.1 (by omega)
      have hm0 : m = [] := List.length_eq_zero_iff.1 (by omega)
      subst hl0; subst hm0
      have hrun := append_room (P := P) (ty := ty) ht hu hi (base := none) (sLen := 0) (sCap := cap) (hlenw w) (by rw [hsz]; exact hnews) hfit rfl
      refine ⟨0, w, setLam lam n none, Nat.le_refl _, ?_, ?_, hH2.cons rfl (fun b o e => by cases e) (fun _ _ _ => rfl) ⟨by simp [okL], by simp [okR], by simp, Nat.le_refl _, .inl ⟨setLam_same _ _ _, rfl⟩⟩, Upd.refl _ _ _, setLam_agree _ _ _⟩
      · simp only [List.length_nil] at hconc
        rw [hconc, hrun, hc0]; simp [AV.conc, setLam_same, slcV]
      · simp [AV.ok, setLam_born]
    · subst hb0
      obtain ⟨rest, hrest⟩ := hpre
      have hll : (l.flatMap (cellsA lam)).length = l.length * sz := by rw [cellsL_length, sizeL_rep hlR]
      have hml : (m.flatMap (cellsA lam)).length = m.length * sz := by rw [cellsL_length, sizeL_rep hmR]
      have hcl := congrArg List.length hrest
      simp only [List.length_append, hll, Array.length_toList] at hcl
      have hle : (l.length + m.length) * sz ≤ cap * sz := Nat.mul_le_mul_right _ hfit
      rw [Nat.add_mul] at hle
      have hone := cellsL_one lam hmok hmT
      have hst := run_storeCells_at P b (l.length * sz) ty0 (m.flatMap (cellsA lam)) 0 c w hheap (by rw [hml]; omega) hone
      obtain ⟨c', hc'⟩ : ∃ c', c' = (c.toList.take (l.length * sz) ++ m.flatMap (cellsA lam) ++ c.toList.drop (l.length * sz + (m.flatMap (cellsA lam)).length)).toArray := ⟨_, rfl⟩
      simp only [Nat.add_zero] at hst
      rw [← hc'] at hst
      have hc1 : c'.toList = l.flatMap (cellsA lam) ++ m.flatMap (cellsA lam) ++ rest.drop (m.length * sz) := by
        rw [hc', hml]
        simp only [List.toList_toArray]
        rw [← hrest]
        have e1 : (l.flatMap (cellsA lam) ++ rest).take (l.length * sz) = l.flatMap (cellsA lam) := List.take_left' hll
        have e2 : (l.flatMap (cellsA lam) ++ rest).drop (l.length * sz + m.length * sz) = rest.drop (m.length * sz) := by
          rw [List.drop_append, hll]
          rw [List.drop_eq_nil_of_le (by rw [hll]; omega)]
          simp
        rw [e1, e2]
      have hrun := append_room (P := P) (ty := ty) ht hu hi (base := some ⟨b, 0, none⟩) (sLen := l.length) (sCap := cap) (w' := w.setRow b c') (hlenw w) (by rw [hsz]; exact hnews) hfit (by
        dsimp only
        rw [add_addr, hsz, Nat.zero_add]
        exact hst)
      have hag := setLam_agree lam n (some (b, 0))
      refine ⟨cap, w.setRow b c', setLam lam n (some (b, 0)), hfit, ?_, ?_, hH2.cons rfl ?_ ?_ ⟨okL_mono (by omega) hag.keeps happL, happR, happT, by simpa using hfit, .inr ⟨b, c', ty0, setLam_same _ _ _, setRow_heap w b c _ ty0 _ hheap, ?_, ?_⟩⟩, upd_setRow w b _ (hH.wr k e0 (hget_mem hke) hwe b 0 hlam) hheap, hag⟩
      · rw [hconc, hrun]; simp [AV.conc, setLam_same, slcV, offP]
      · simp [AV.ok, setLam_same, setLam_born, hfit]
      · intro b' o' e'
        cases e'
        refine ⟨hH.wr k e0 (hget_mem hke) hwe b 0 hlam, fun k' y hky i o2 hio hl2 => ?_⟩
        have hky' : (k', y) ∈ H := hsubl.subset hky
        have := (hH.apart k e0 (hget_mem hke) hwe k' y hky' i b 0 o2 hio hlam hl2).1
        subst this
        rw [hko] at hky
        exact hdel_ne hH.nd k' y hky rfl
      · intro b' hb' _
        exact setRow_other w b b' _ (fun e' => hb' 0 (by rw [e']))
      · rw [← hcs]
        have := congrArg List.length hc1
        simp only [Array.length_toList, List.length_append, hll, hml, List.length_drop] at this
        omega
      · rw [flat_agree hag happL, hc1, List.flatMap_append]
        exact List.prefix_append _ _
  · -- it grows
    have hg : cap < l.length + m.length := by omega
    have hrun := append_grow (P := P) (ty := ty) ht hu hi hz0 (base := base) (sLen := l.length) (sCap := cap) hlenw (by rw [hsz]; exact hmore2.2.2.2.2.1) (by rw [hsz]; exact holds w.drew rfl) hg h63 hb
    obtain ⟨c, hc⟩ : ∃ c, c = grownCap w (l.length + m.length) cap e := ⟨_, rfl⟩
    have hge : l.length + m.length ≤ c := by rw [hc]; exact grownCap_ge w _ _ _
    rw [← hc] at hrun
    have hsize : ((l.flatMap (cellsA lam)).toArray ++ (m.flatMap (cellsA lam)).toArray ++ Builtin.zeroCells (z.conc lam).cells (c - (l.length + m.length))).size = c * sz := by
      simp only [Array.size_append, List.size_toArray, cellsL_length, sizeL_rep hlR, sizeL_rep hmR, size_zeroCells, hzs, ← Nat.add_mul]
      congr 1; omega
    have hm := made_vec (Nat.lt_succ_self n) (Nat.le_succ n) (fun h => absurd h (Nat.lt_irrefl n)) (P := P) (s := Builtin.append_ #[t, u] ty #[x.conc lam, y.conc lam]) (t := e) (len := l.length + m.length) (cap := c) (l := l ++ m) hH2.drew hN happL happR happT (by simpa using hge) hge hsize
      (by simp only [Array.toList_append, List.flatMap_append]; exact List.prefix_append _ _) (upd_drew N D w) (by rw [hconc]; exact hrun)
    obtain ⟨w', lam', g1, g2, g3, g4, g5, g6, _⟩ := hm
    exact ⟨c, w', lam', hge, g1, g2, g3, g4, g5, fun k hk hb => by rcases g6 k hb with h | h; omega; exact h⟩

end

end Go.Y

/-
  append where there is too little room; maps that are turned and gone through; rows that are copied: the machine's own.
-/
set_option linter.unusedVariables false
set_option linter.unusedSimpArgs false
namespace Go.Y
open RowKit

section
variable {N : Nat} {D : Nat → Prop} {lam : Lam}
theorem KeyS.refl (H : Hp) (n : Nat) : KeyS H n H := fun k x h => .inl ⟨x, h, fun _ => rfl⟩
theorem KeyS.trans {A B C : Hp} {n : Nat} (h : KeyS A n B) (h' : KeyS B n C) : KeyS A n C := by
  intro k x hx
  rcases h' k x hx with ⟨y, hy, e⟩ | h'
  · rcases h k y hy with ⟨z, hz, e2⟩ | h2
    · exact .inl ⟨z, hz, fun hw => by have := e hw; subst this; exact e2 hw⟩
    · refine .inr ⟨h2.1, ?_⟩
      cases hw : x.writes with
      | true => rfl
      | false => have := e hw; subst this; rw [hw] at h2; cases h2.2
  · exact .inr h'
theorem KeyS.mono {A B : Hp} {m n : Nat} (h : KeyS A n B) (hm : m ≤ n) : KeyS A m B := fun k x hx => (h k x hx).imp id fun h => ⟨Nat.le_trans hm h.1, h.2⟩
theorem KeyS.sub {A B : Hp} {n : Nat} (h : B.Sublist A) : KeyS A n B := fun k x hx => .inl ⟨x, h.subset hx, fun _ => rfl⟩
theorem KeyS.cons {A B : Hp} {n k : Nat} {e : Ent} (h : KeyS A n B) (hw : e.writes = true) (hk : n ≤ k := by first | exact Nat.le_refl _ | omega) : KeyS A n ((k, e) :: B) := by
  intro j x hx
  rcases List.mem_cons.1 hx with hx | hx
  · cases hx; exact .inr ⟨hk, hw⟩
  · exact h j x hx
theorem dropO_sub (k : Option Nat) (H : Hp) : (dropO k H).Sublist H := by
  unfold dropO
  split
  · exact hdel_sub _ _
  · exact List.Sublist.refl _
theorem KeyS.set {H : Hp} {n k : Nat} {e e' : Ent} (hn : (H.map (·.1)).Nodup) (hg : hget k H = some e) (hw : e'.writes = true) : KeyS H n (hset k e' H) := by
  intro j x hx
  rcases hset_mem hn hx with ⟨rfl, rfl⟩ | ⟨_, hx⟩
  · exact .inl ⟨e, hget_mem hg, fun h => by rw [hw] at h; cases h⟩
  · exact .inl ⟨x, hx, fun _ => rfl⟩
end

def _root_.Go.World.putObjY (w : World) (r : Nat) (o : Obj) : World := { w with heap := w.heap.setIfInBounds r o }
section
theorem putObj_other {w : World} {r b : Nat} {o : Obj} (h : b ≠ r) : (w.putObjY r o).heap[b]? = w.heap[b]? := by
  simp only [World.putObjY]
  rw [Array.getElem?_setIfInBounds_ne (Ne.symm h)]
theorem putObj_same {w : World} {r : Nat} {o o' : Obj} (h : w.heap[r]? = some o') : (w.putObjY r o).heap[r]? = some o := by
  have := (Array.getElem?_eq_some_iff.1 h).1
  simp [World.putObjY, Array.getElem?_setIfInBounds, this]
variable {P : Program} {N : Nat} {D : Nat → Prop} {H : Hp} {n : Nat} {w : World} {lam : Lam}

theorem upd_putObj {r : Nat} {o o' : Obj} (h : w.heap[r]? = some o') (hd : ∀ ds, o' ≠ .deferred ds) (hb : D r ∨ N ≤ r) : Upd N D w (w.putObjY r o) := by
  refine ⟨rfl, rfl, rfl, ?_, fun b h1 h2 => putObj_other ?_, fun b ds hb2 => ?_⟩
  · show w.heap.size ≤ (w.heap.setIfInBounds r o).size
    simp
  · rintro rfl
    rcases hb with hb | hb
    · exact h2 hb
    · omega
  · by_cases e : b = r
    · subst e; rw [h] at hb2; cases hb2; exact absurd rfl (hd ds)
    · rw [putObj_other e]; exact hb2
theorem setObj_run {r : Nat} {o o' : Obj} (h : w.heap[r]? = some o') (hc : ∀ c e f, o' ≠ .cells c e f) : (setObj r o).run P w = .ok () (w.putObjY r o) := by
  cases o' <;> first | exact absurd rfl (hc _ _ _) | simp [setObj, Sem.run, h, World.putObjY]

/-! ### append -/
theorem append_growZ {t u ty e : TypeId} {k : IntKind} {i : TypeInfo} {z : Value} (ht : P.underlying t = some (.slice e)) (hu : P.underlying u = some (.int k)) (hi : P.info? e = some i) (hz : i.zero = some z)
    {base : Option Addr} {sLen sCap c : Nat} {olds : Array Value}
    (ho : (Builtin.firstCells i.size sLen (.slice base sLen sCap)).run P w.drew = .ok olds w.drew) (hroom : sCap < sLen + c) (h63 : sLen + c ≤ 9223372036854775807) (hb : (sLen + c) * i.bytes ≤ 140737488355328) :
    (Builtin.append_ #[t, u] ty #[.slice base sLen sCap, .int .i64 (c : Int)]).run P w = .ok (.slice (some ⟨w.heap.size, 0, none⟩) (sLen + c) (grownCap w (sLen + c) sCap e))
      (w.drew.alloc (.cells (olds ++ (if c * i.size = 0 then #[] else Builtin.zeroCells z.cells c) ++ Builtin.zeroCells z.cells (grownCap w (sLen + c) sCap e - (sLen + c))) e)) := by
  have hfit := growslice_fits hroom hb
  have hnr : ¬ (sLen + c ≤ sCap) := by omega
  have h63' : ¬ (9223372036854775807 < ((sLen : Int) + (c : Int))) := by omega
  have h48' : ¬ (281474976710656 < Builtin.nextslicecap (sLen + c) sCap * i.bytes) := by omega
  have hcb : c * i.bytes ≤ (sLen + c) * i.bytes := Nat.mul_le_mul_right _ (by omega)
  have hw : IntKind.wrap .i64 (c : Int) = c := by simp [IntKind.wrap, IntKind.signed, IntKind.bits]; omega
  have hc0 : ¬ ((c : Int) < 0) := by omega
  have hc1 : ¬ (281474976710656 < (c : Int) * (i.bytes : Int)) := by
    have : ((c * i.bytes : Nat) : Int) ≤ 140737488355328 := by omega
    push_cast at this; omega
  by_cases h0 : c * i.size = 0
  · simp [Builtin.append_, run_underlying ht, run_underlying hu, sizeOf, typeInfo, hi, zeroValue, hz, asInt, asIntOf, hw, hc0, hc1, hnr, h63', h48', Question.forced, ho, newRow, grownCap, h0]
  · simp [Builtin.append_, run_underlying ht, run_underlying hu, sizeOf, typeInfo, hi, zeroValue, hz, asInt, asIntOf, hw, hc0, hc1, hnr, h63', h48', Question.forced, ho, newRow, grownCap, h0]
theorem capX_conc (lam : Lam) {k i : Nat} {p : List PE} {sz a s len cap : Nat} : ∃ base, (AV.slc k i p sz a s len cap).conc lam = .slice base len cap := by
  simp only [AV.conc]
  cases lam k i with
  | none => exact ⟨_, rfl⟩
  | some q => exact ⟨_, rfl⟩
theorem elemsC_len {e : Option AV} {s len sz : Nat} {l : List AV} (h : elemsC e s len sz = some l) : l.length = len := by
  unfold elemsC at h
  split at h
  · split at h
    · split at h
      · rename_i hh; cases h; rw [List.length_take, List.length_drop]; omega
      · cases h
    · cases h
  · cases h
theorem elemsN_more {sz : Nat} {x : AV} {l : List AV} (h : elemsN sz x H = some l) : moreOf sz x H = some l ∧ ∃ base, x.conc lam = .slice base l.length (capX x) ∨ (x.conc lam = .slice base l.length (capX x)) := by
  unfold elemsN at h
  split at h
  · rename_i k i p m a s len cap
    split at h
    · rename_i hm
      subst hm
      refine ⟨by simp only [moreOf, if_true]; exact h, ?_⟩
      obtain ⟨base, hb⟩ := capX_conc lam (k := k) (i := i) (p := p) (sz := m) (a := a) (s := s) (len := len) (cap := cap)
      have hl : l.length = len := elemsC_len (e := elemsT (hget k H) i p) h
      exact ⟨base, .inl (by rw [hb, hl]; rfl)⟩
    · cases h
  · cases h; exact ⟨rfl, none, .inl rfl⟩
  · cases h
theorem isInt_spec {t : TypeId} (h : isInt P t = true) : ∃ k, P.underlying t = some (.int k) := by
  unfold isInt at h
  split at h
  · rename_i k hu; exact ⟨k, hu⟩
  · cases h
/-- **append**, there being too little room: what there was stays. -/
theorem append_keep (hH : HSit N D lam H n w) (hN : N ≤ w.heap.size) {t u ty : TypeId} {x y : AV} {cp sz : Nat} {l m : List AV} (hx : x.ok lam n) (hy : y.ok lam n)
    (h : growA P t u x y H = some (cp, sz, l, m)) (hroom : roomOk P t (l.length + m.length)) (hg : cp < l.length + m.length) :
    ∃ c w' lam', l.length + m.length ≤ c ∧ (Builtin.append_ #[t, u] ty #[x.conc lam, y.conc lam]).run P w = .ok ((AV.slc n 0 [] sz 0 0 (l.length + m.length) c).conc lam') w' ∧
      (AV.slc n 0 [] sz 0 0 (l.length + m.length) c).ok lam' (n + 1) ∧ HSit N D lam' ((n, .vec c sz (l ++ m)) :: H) (n + 1) w' ∧ Upd N D w w' ∧ agree n lam lam' := by
  unfold growA at h
  split at h
  case h_2 => cases h
  rename_i a sz' z hs hz
  split at h
  case isFalse => cases h
  rename_i hf
  split at h
  case h_2 => cases h
  rename_i l' m' hold hmore
  cases h
  obtain ⟨e, i, ht, hi, hz0, hsz, hzs, hby⟩ := slice_lay (lam := lam) hs hz hf
  obtain ⟨hold2, base, hb⟩ := elemsN_more (lam := lam) hold
  replace hb : x.conc lam = .slice base l.length (capX x) := hb.elim id id
  obtain ⟨hlok, hlT, hlR, _, _, _⟩ := more_run (P := P) hH hx hold2
  have holds := (more_run (P := P) (w := w.drew) hH.drew hx hold2).2.2.2.2.1
  unfold roomOk at hroom
  rw [hby] at hroom
  obtain ⟨hbb, h63⟩ := hroom
  rw [hb] at holds
  have hzT : z.ok lam n ∧ z.size = sz ∧ z.isTup = false := ⟨(zeroA_spec (P := P) (w := w) lam n (by rw [← (elemT_spec ht).1]; exact hz)).2, (fitZ_spec hf).1, (fitZ_spec hf).2⟩
  have key : okL lam n m ∧ okT m ∧ okR sz m ∧ ∃ news : Array Value, news.toList = m.flatMap (cellsA lam) ∧ (Builtin.append_ #[t, u] ty #[x.conc lam, y.conc lam]).run P w = .ok (.slice (some ⟨w.heap.size, 0, none⟩) (l.length + m.length) (grownCap w (l.length + m.length) (capX x) e))
      (w.drew.alloc (.cells ((l.flatMap (cellsA lam)).toArray ++ news ++ Builtin.zeroCells (z.conc lam).cells (grownCap w (l.length + m.length) (capX x) e - (l.length + m.length))) e)) := by
    split at hmore
    · rename_i hni
      obtain ⟨hmok, hmT, hmR, _, _, hlenw⟩ := more_run (P := P) hH hy hmore
      have hmore2 := more_run (P := P) (w := w.drew) hH.drew hy hmore
      refine ⟨hmok, hmT, hmR, (m.flatMap (cellsA lam)).toArray, by simp, ?_⟩
      rw [hb]
      exact append_grow (P := P) (ty := ty) ht (notInt_spec hni) hi hz0 hlenw (by rw [hsz]; exact hmore2.2.2.2.2.1) (by rw [hsz]; exact holds) hg h63 hbb
    · split at hmore
      · rename_i hint
        obtain ⟨k, hu⟩ := isInt_spec hint
        unfold zeroN at hmore
        split at hmore
        · rename_i c
          split at hmore
          · rename_i hc
            cases hmore
            obtain ⟨cn, rfl⟩ := Int.eq_ofNat_of_zero_le hc.1
            simp only [Int.toNat_natCast, List.length_replicate] at *
            refine ⟨okL_mem.2 fun v hv => by rw [List.eq_of_mem_replicate hv]; exact hzT.1, okT_rep hzT.2.2 _, okR_mem.2 fun v hv => by rw [List.eq_of_mem_replicate hv]; exact hzT.2.1, if cn * i.size = 0 then #[] else Builtin.zeroCells (z.conc lam).cells cn, ?_, ?_⟩
            · rw [hsz]
              split
              · rename_i h0
                have : ((List.replicate cn z).flatMap (cellsA lam)).length = 0 := by
                  rw [cellsL_length, sizeL_rep (sz := sz) (okR_mem.2 fun v hv => by rw [List.eq_of_mem_replicate hv]; exact hzT.2.1), List.length_replicate]; exact h0
                rw [List.length_eq_zero_iff.1 this]
              · rename_i h0
                have hzc : (z.conc lam).cells.size = sz := hzs
                rcases zero_cells (lam := lam) (z := z) (len := cn) (sz := sz) hzT.2.1 with h1 | h1
                · rw [← h1, ← hzc]; rfl
                · exact absurd h1 h0
            · rw [hb]
              exact append_growZ (P := P) (ty := ty) ht hu hi hz0 (by rw [hsz]; exact holds) hg h63 hbb
          · cases hmore
        · cases hmore
      · cases hmore
  obtain ⟨hmok, hmT, hmR, news, hnews, hrun⟩ := key
  obtain ⟨c, hc⟩ : ∃ c, c = grownCap w (l.length + m.length) (capX x) e := ⟨_, rfl⟩
  have hge : l.length + m.length ≤ c := by rw [hc]; exact grownCap_ge w _ _ _
  rw [← hc] at hrun
  have happT : ∀ v, v ∈ l ++ m → v.isTup = false := okT_app.2 ⟨hlT, hmT⟩
  have happR : okR sz (l ++ m) := okR_app.2 ⟨hlR, hmR⟩
  have happL : okL lam n (l ++ m) := okL_app.2 ⟨hlok, hmok⟩
  have hns : news.size = m.length * sz := by
    rw [← Array.length_toList, hnews, cellsL_length, sizeL_rep hmR]
  have hsize : ((l.flatMap (cellsA lam)).toArray ++ news ++ Builtin.zeroCells (z.conc lam).cells (c - (l.length + m.length))).size = c * sz := by
    simp only [Array.size_append, List.size_toArray, cellsL_length, sizeL_rep hlR, hns, size_zeroCells, hzs, ← Nat.add_mul]
    congr 1; omega
  have hm := made_vec (Nat.lt_succ_self n) (Nat.le_succ n) (fun h => absurd h (Nat.lt_irrefl n)) (P := P) (s := Builtin.append_ #[t, u] ty #[x.conc lam, y.conc lam]) (t := e) (len := l.length + m.length) (cap := c) (l := l ++ m) hH.drew hN happL happR happT (by simpa using hge) hge hsize
    (by simp only [Array.toList_append, hnews, List.flatMap_append]; exact List.prefix_append _ _) (upd_drew N D w) hrun
  obtain ⟨w', lam', g1, g2, g3, g4, g5, g6, _⟩ := hm
  exact ⟨c, w', lam', hge, g1, g2, g3, g4, g5, fun k hk hb => by rcases g6 k hb with h | h; omega; exact h⟩
end

end Go.Y

/-
  Maps that are turned and gone through; rows that are copied: the machine's own.
-/
set_option linter.unusedVariables false
set_option linter.unusedSimpArgs false
namespace Go.Y
open RowKit

section
variable {P : Program} {N : Nat} {D : Nat → Prop} {H : Hp} {n : Nat} {w : World} {lam : Lam}

/-! ### m[x] = y -/
theorem modify_set {α β : Type} (g : α → β) (f : α → α) (v : β) (hv : ∀ a, g (f a) = v) : ∀ (l : List α) (i : Nat), (l.modify i f).map g = (l.map g).set i v
  | [], i => by simp
  | a :: l, 0 => by simp [hv]
  | a :: l, i + 1 => by simp [modify_set g f v hv l i]
theorem modify_same {α β : Type} (g : α → β) (f : α → α) (hv : ∀ a, g (f a) = g a) : ∀ (l : List α) (i : Nat), (l.modify i f).map g = l.map g
  | [], i => by simp
  | a :: l, 0 => by simp [hv]
  | a :: l, i + 1 => by simp [modify_same g f hv l i]
theorem same_ints : ∀ (l : List Int), (((l.map (Value.int .i64)).zip (l.map (Value.int .i64))).all fun q => Instr.sameBits 9999 q.1 q.2) = true
  | [] => rfl
  | a :: l => by
    simp only [List.map_cons, List.zip_cons_cons, List.all_cons, same_ints l, Bool.and_true]
    simp [Instr.sameBits]
theorem same_key (q : Bool × Nat) (l : List Int) : Instr.sameBits 10000 (keyV q l) (keyV q l) = true := by
  obtain ⟨b, m⟩ := q
  cases b with
  | false => simp [keyV, Instr.sameBits]
  | true =>
    show Instr.sameBits (9999 + 1) (.agg _) (.agg _) = true
    simp only [Instr.sameBits, beq_self_eq_true, Bool.true_and, List.toList_toArray]
    exact same_ints l
theorem stays_run (q : Bool × Nat) (l : List Int) : (Instr.keyThatStays (keyV q l) (keyV q l)).run P w = .ok (keyV q l) w := by
  unfold Instr.keyThatStays
  rw [same_key]; rfl
theorem bornP {es : Array MapEntry} {clock : Nat} (h : MapOk es clock) : (es.toList.map (·.born)).Nodup ∧ ∀ b, b ∈ es.toList.map (·.born) → b < clock := by
  refine ⟨h.1, fun b hb => ?_⟩
  obtain ⟨e, he, rfl⟩ := List.mem_map.1 hb
  exact h.2 e he
theorem bornQ {es : Array MapEntry} {clock : Nat} (h : (es.toList.map (·.born)).Nodup) (h2 : ∀ b, b ∈ es.toList.map (·.born) → b < clock) : MapOk es clock :=
  ⟨h, fun e he => h2 _ (List.mem_map_of_mem he)⟩
theorem putC_some {kt : Option (Bool × Nat)} {m : Option (List (AV × AV))} {l : Option (List Int)} {x y : AV} {e : Ent} (h : putC kt m l x y = some e) : ∃ m' l', m = some m' ∧ l = some l' ∧ keyzB kt m' = true ∧ e = .mp (setI m' x y (findI kt l' m' 0)) := by
  unfold putC at h
  split at h
  · rename_i m' l'
    split at h
    · rename_i hk; cases h; exact ⟨m', l', rfl, rfl, hk, rfl⟩
    · cases h
  · cases h
theorem upd_run (hH : HSit N D lam H n w) {t : TypeId} {m x y : AV} {H' : Hp} (hx : x.ok lam n) (hy : y.ok lam n) (h : updA P t m x y H = some H') :
    ∃ w', (Instr.mapUpdate t (m.conc lam) (x.conc lam) (y.conc lam)).run P w = .ok () w' ∧ HSit N D lam H' n w' ∧ Upd N D w w' ∧ KeyS H n H' := by
  unfold updA at h
  split at h
  case h_2 => cases h
  rename_i k
  split at h
  case h_2 => cases h
  rename_i e he
  cases h
  obtain ⟨mm, l, hm, hl, hkb, rfl⟩ := putC_some he
  cases hq : mapKT P t with
  | none => rw [hq] at hl; simp [keyO] at hl
  | some q =>
    obtain ⟨kt, et, hu, hS, _⟩ := mapKT_spec hq
    rw [hq] at hl hkb
    obtain ⟨c1, c2, c3⟩ := keyO_spec lam hl
    obtain ⟨g1, ⟨e0, hk0, hw0⟩, b, o, es, clock, g2, g3, g4, g5⟩ := mapE_has hH hm
    have hf := findKey_run (w := w) (P := P) lam hS c2 c3 hkb g5
    rw [← c1] at hf
    have hc := checkKey_run (w := w) (em := false) hS c2 c3
    rw [← c1] at hc
    have hwr := hH.wr k e0 (hget_mem hk0) hw0 b o g2
    have fin : ∀ (es' : Array MapEntry) (clock' : Nat) (mm' : List (AV × AV)), MapOk es' clock' → es'.toList.map (fun e => (e.key, e.val)) = mm'.map (fun q => (q.1.conc lam, q.2.conc lam)) → (∀ a b, (a, b) ∈ mm' → a.ok lam n ∧ b.ok lam n) →
        HSit N D lam (hset k (.mp mm') H) n (w.putObjY b (.map es' clock')) ∧ Upd N D w (w.putObjY b (.map es' clock')) ∧ KeyS H n (hset k (.mp mm') H) := by
      intro es' clock' mm' h1 h2 h3
      refine ⟨hH.set hk0 hw0 rfl g2 (fun b' hb' => putObj_other hb') ⟨h3, b, o, es', clock', g2, putObj_same g3, h1, h2⟩, upd_putObj g3 (fun ds => by simp) hwr, KeyS.set hH.nd hk0 rfl⟩
    cases hfi : findI (some q) l mm 0 with
    | none =>
      rw [hfi] at hf
      obtain ⟨b1, b2⟩ := bornP g4
      obtain ⟨f1, f2, f3⟩ := fin (es.push { key := x.conc lam, val := y.conc lam, born := clock }) (clock + 1) (mm ++ [(x, y)]) (bornQ (by
          simp only [Array.toList_push, List.map_append, List.map_cons, List.map_nil]
          rw [List.nodup_append]
          refine ⟨b1, by simp, fun a ha c hc => ?_⟩
          simp only [List.mem_singleton] at hc
          have := b2 a ha
          omega) (fun a ha => by
          simp only [Array.toList_push, List.map_append, List.map_cons, List.map_nil, List.mem_append, List.mem_singleton] at ha
          rcases ha with ha | ha
          · have := b2 a ha; omega
          · omega)) (by simp [g5]) (fun a c hac => by
          rcases List.mem_append.1 hac with hac | hac
          · exact g1 a c hac
          · simp only [List.mem_singleton, Prod.mk.injEq] at hac
            obtain ⟨rfl, rfl⟩ := hac
            exact ⟨hx, hy⟩)
      refine ⟨_, ?_, f1, f2, f3⟩
      simp only [AV.conc, g2, mapV, Instr.mapUpdate, Sem.run_bind, run_underlying hu, Result.andThen_ok, getMap_run g3, hc, hf, Option.map_none]
      exact setObj_run g3 (by simp)
    | some p =>
      obtain ⟨j, v⟩ := p
      rw [hfi] at hf
      obtain ⟨k', _, hmj, hkk⟩ := findI_mem hfi
      rw [Nat.sub_zero] at hmj
      have hj : es.toList[j]?.map (fun e => (e.key, e.val)) = some (k'.conc lam, v.conc lam) := by
        rw [← List.getElem?_map, g5, List.getElem?_map, hmj]; rfl
      obtain ⟨en, hen, henv⟩ := Option.map_eq_some_iff.1 hj
      simp only [Prod.mk.injEq] at henv
      have hka : k'.conc lam = x.conc lam := by rw [(keyO_spec lam hkk).1, c1]
      have hold : ((es[j]?).map (·.key)).getD (x.conc lam) = x.conc lam := by
        rw [← Array.getElem?_toList, hen]; simp [henv.1, hka]
      obtain ⟨b1, b2⟩ := bornP g4
      have hmb : ∀ (f : MapEntry → MapEntry), (∀ a, (f a).born = a.born) → ((es.modify j f).toList.map (·.born)) = es.toList.map (·.born) := fun f hf => by
        rw [Array.toList_modify]; exact modify_same (·.born) f hf _ _
      obtain ⟨f1, f2, f3⟩ := fin (es.modify j fun e => { e with key := x.conc lam, val := y.conc lam }) clock (mm.set j (x, y)) (bornQ (by
          rw [hmb (fun e => { e with key := x.conc lam, val := y.conc lam }) (fun _ => rfl)]; exact b1) (fun a ha => by rw [hmb (fun e => { e with key := x.conc lam, val := y.conc lam }) (fun _ => rfl)] at ha; exact b2 a ha)) (by
          rw [Array.toList_modify, modify_set (fun e : MapEntry => (e.key, e.val)) _ (x.conc lam, y.conc lam) (fun _ => rfl), g5, List.map_set]) (fun a c hac => by
          rcases List.mem_or_eq_of_mem_set hac with hac | hac
          · exact g1 a c hac
          · simp only [Prod.mk.injEq] at hac
            obtain ⟨rfl, rfl⟩ := hac
            exact ⟨hx, hy⟩)
      refine ⟨_, ?_, f1, f2, f3⟩
      have hst : (Instr.keyThatStays (x.conc lam) (x.conc lam)).run P w = .ok (x.conc lam) w := by rw [c1]; exact stays_run q l
      simp only [AV.conc, g2, mapV, Instr.mapUpdate, Sem.run_bind, run_underlying hu, Result.andThen_ok, getMap_run g3, hc, hf, Option.map_some, hold, hst]
      exact setObj_run g3 (by simp)
theorem clear_run (hH : HSit N D lam H n w) {t ty : TypeId} {m : AV} {H' : Hp} (h : clearA P t m H = some H') :
    ∃ w', (Builtin.clear_ #[t] ty #[m.conc lam]).run P w = .ok (.tuple #[]) w' ∧ HSit N D lam H' n w' ∧ Upd N D w w' ∧ KeyS H n H' := by
  unfold clearA at h
  split at h
  case h_2 => cases h
  rename_i k
  split at h
  case h_2 => cases h
  rename_i mm d hm hu
  cases h
  obtain ⟨g1, ⟨e0, hk0, hw0⟩, b, o, es, clock, g2, g3, g4, g5⟩ := mapE_has hH hm
  have hwr := hH.wr k e0 (hget_mem hk0) hw0 b o g2
  refine ⟨w.putObjY b (.map #[] clock), ?_, hH.set hk0 hw0 rfl g2 (fun b' hb' => putObj_other hb') ⟨fun _ _ h => (by cases h), b, o, #[], clock, g2, putObj_same g3, ⟨by simp, by simp⟩, rfl⟩, upd_putObj g3 (fun ds => by simp) hwr, KeyS.set hH.nd hk0 rfl⟩
  simp only [AV.conc, g2, mapV, Builtin.clear_]
  simp [run_underlying hu]
  cases d <;> simp [getMap_run g3, setObj_run (o := .map #[] clock) g3 (by simp)]

/-! ### copy -/
theorem elemsF_run (hH : HSit N D lam H n w) {sz c : Nat} {x : AV} {l : List AV} (hx : x.ok lam n) (h : elemsF sz x c H = some l) :
    okL lam n l ∧ okT l ∧ okR sz l ∧ l.length = c ∧ (Builtin.firstCells sz c (x.conc lam)).run P w = .ok (l.flatMap (cellsA lam)).toArray w ∧ (Builtin.lenOf (x.conc lam)).run P w = .ok (lenX x) w := by
  unfold elemsF at h
  split at h
  · rename_i k i p m a s len cap
    split at h
    · rename_i hm
      obtain ⟨rfl, hc⟩ := hm
      have hx2 : (AV.slc k i p m a s c cap).ok lam n := by
        simp only [AV.ok] at hx ⊢
        exact ⟨hx.1, hx.2.1, by omega, hx.2.2.2.1, hx.2.2.2.2⟩
      have h2 : moreOf m (.slc k i p m a s c cap) H = some l := by
        unfold moreOf elemsA
        simp only [if_true]
        exact h
      obtain ⟨g1, g2, g3, g4, g5, _⟩ := more_run (P := P) hH hx2 h2
      have hl : l.length = c := elemsC_len h
      rw [hl] at g5
      refine ⟨g1, g2, g3, hl, ?_, ?_⟩
      · rw [← g5]
        simp only [AV.conc]
        cases lam k i <;> rfl
      · simp only [AV.conc, lenX]
        cases lam k i <;> simp [slcV, Builtin.lenOf]
    · cases h
  · split at h
    · rename_i hc
      subst hc
      cases h
      refine ⟨by simp [okL], by simp [okT], by simp [okR], rfl, ?_, by simp [AV.conc, Builtin.lenOf, lenX]⟩
      simp only [AV.conc, List.flatMap_nil]
      exact run_firstCells_none (P := P) w _ _ _ _
    · cases h
  · cases h
theorem hset_self {k : Nat} {e : Ent} : ∀ {H : Hp}, hget k H = some e → hset k e H = H
  | [], h => by simp [hget] at h
  | (c, x) :: r, h => by
    unfold hget at h
    unfold hset
    split at h
    · rename_i hk; cases h; rw [if_pos hk]
    · rename_i hk; rw [if_neg hk, hset_self h]
theorem copy_run (hH : HSit N D lam H n w) {t u ty e : TypeId} {x y v : AV} {sz : Nat} {a : Bool} {H' : Hp} (ht : P.underlying t = some (.slice e)) (hs : lay P e = some (a, sz)) (hx : x.ok lam n) (hy : y.ok lam n) (h : copyA sz x y H = some (v, H')) :
    ∃ w', (Builtin.copy_ #[t, u] ty #[x.conc lam, y.conc lam]).run P w = .ok (v.conc lam) w' ∧ v.ok lam n ∧ HSit N D lam H' n w' ∧ Upd N D w w' ∧ KeyS H n H' := by
  obtain ⟨i, hi, hc⟩ := lay_info hs
  unfold copyA at h
  split at h
  case h_2 => cases h
  rename_i k m a' s len cap
  split at h
  case isFalse => cases h
  rename_i hm
  subst hm
  split at h
  case h_2 => cases h
  rename_i l hl
  split at h
  case h_2 => cases h
  rename_i en hen
  cases h
  obtain ⟨g1, g2, g3, g4, g5, g6⟩ := elemsF_run (P := P) hH hy hl
  obtain ⟨cn, hcn⟩ : ∃ cn, cn = min (lenX y) len := ⟨_, rfl⟩
  rw [← hcn] at g4 g5 hl ⊢
  have hv : (AV.int .i64 ((cn : Nat) : Int)).ok lam n := by simp [AV.ok]
  unfold copyC at hen
  split at hen
  case h_2 => cases hen
  rename_i cap2 m2 r hk
  split at hen
  case isFalse => cases hen
  rename_i hcond
  obtain ⟨rfl, hsr, hsl⟩ := hcond
  cases hen
  obtain ⟨k1, k2, k2', k3, k4⟩ := hH.has _ _ (hget_mem hk)
  have hxok := hx
  simp only [AV.ok] at hxok
  have hrun0 : ∀ base, (AV.slc k 0 [] m2 a' s len cap).conc lam = .slice base len cap → ∀ w', (match base with
      | some ad => (storeCells ad (l.flatMap (cellsA lam))).run P w = .ok () w'
      | none => w' = w) → (Builtin.copy_ #[t, u] ty #[(AV.slc k 0 [] m2 a' s len cap).conc lam, y.conc lam]).run P w = .ok (.int .i64 (cn : Int)) w' := by
    intro base hb w' hst
    have hmin : Nat.min (lenX y) len = cn := hcn.symm
    rw [hb]
    cases base with
    | none =>
      replace hst : w' = w := hst
      rw [hst]
      simp only [Builtin.copy_]
      simp [run_underlying ht, g6, run_sizeOf w hi, hc, hmin, g5, goInt]
    | some ad =>
      simp only [Builtin.copy_]
      simp [run_underlying ht, g6, run_sizeOf w hi, hc, hmin, g5, hst, goInt]
  rcases k4 with ⟨k4, hcap0⟩ | ⟨b, c, ty0, k4, k5, k6, k7⟩
  · have hcap : cap = 0 := by
      apply Classical.byContradiction
      intro h0
      exact (hxok.2.2.2.1 h0).2 k4
    have hlen : len = 0 := by omega
    have hcn0 : cn = 0 := by omega
    have hl0 : l = [] := List.length_eq_zero_iff.1 (by omega)
    subst hl0
    have hrow : List.take s r ++ [] ++ List.drop (s + ([] : List AV).length) r = r := by simp
    rw [hrow, hset_self hk]
    refine ⟨w, ?_, hv, hH, Upd.refl _ _ _, KeyS.refl _ _⟩
    refine hrun0 none ?_ w rfl
    simp [AV.conc, k4, slcV]
  · have has : a' = s ∨ cn = 0 := by
      by_cases h0 : cap = 0
      · exact .inr (by omega)
      · exact .inl (hxok.2.2.2.1 h0).1
    have hrs : (r.take s).length = s := by rw [List.length_take]; omega
    have hR : okR m2 r := k2
    have hpre : ((r.take s).flatMap (cellsA lam)).length = s * m2 := by rw [cellsL_length, sizeL_rep (okR_take hR _), hrs]
    have hlc : (l.flatMap (cellsA lam)).length = cn * m2 := by rw [cellsL_length, sizeL_rep g3, g4]
    obtain ⟨rest, hrest⟩ := k7
    have hcl := congrArg List.length hrest
    simp only [List.length_append, Array.length_toList, cellsL_length, sizeL_rep hR] at hcl
    have hle : (s + cn) * m2 ≤ cap2 * m2 := Nat.mul_le_mul_right _ (by omega)
    rw [Nat.add_mul] at hle
    have hbase : (AV.slc k 0 [] m2 a' s len cap).conc lam = .slice (some ⟨b, a' * m2, none⟩) len cap := by simp [AV.conc, k4, slcV, offP]
    have hst : ∃ c' : Array Value, (storeCells ⟨b, a' * m2, none⟩ (l.flatMap (cellsA lam))).run P w = .ok () (w.setRow b c') ∧ c'.toList = c.toList.take (s * m2) ++ l.flatMap (cellsA lam) ++ c.toList.drop (s * m2 + cn * m2) := by
      rcases has with rfl | h0
      · have := run_storeCells_at P b (a' * m2) ty0 (l.flatMap (cellsA lam)) 0 c w k5 (by rw [hlc]; omega) (cellsL_one lam g1 g2)
        simp only [Nat.add_zero, hlc] at this
        exact ⟨_, this, by simp⟩
      · have hl0 : l = [] := List.length_eq_zero_iff.1 (by omega)
        subst hl0
        refine ⟨c, ?_, by simp [h0]⟩
        simp only [List.flatMap_nil, storeCells]
        rw [setRow_self w b c ty0 (0, 0) k5]; rfl
    obtain ⟨c', hst, hc'⟩ := hst
    have hdrop : c.toList.drop (s * m2 + cn * m2) = (r.drop (s + cn)).flatMap (cellsA lam) ++ rest.drop ((s + cn - r.length) * m2) := by
      rw [← Nat.add_mul]
      by_cases hsc : s + cn ≤ r.length
      · have e1 : ((r.take (s + cn)).flatMap (cellsA lam)).length = (s + cn) * m2 := by rw [cellsL_length, sizeL_rep (okR_take hR _), List.length_take, Nat.min_eq_left hsc]
        have e2 : c.toList = (r.take (s + cn)).flatMap (cellsA lam) ++ ((r.drop (s + cn)).flatMap (cellsA lam) ++ rest) := by
          rw [← List.append_assoc, ← List.flatMap_append, List.take_append_drop, hrest]
        rw [e2, List.drop_left' e1, show s + cn - r.length = 0 by omega, Nat.zero_mul, List.drop_zero]
      · have e1 : r.drop (s + cn) = [] := List.drop_of_length_le (by omega)
        rw [e1, List.flatMap_nil, List.nil_append, ← hrest, List.drop_append, cellsL_length, sizeL_rep hR, List.drop_of_length_le (by rw [cellsL_length, sizeL_rep hR]; exact Nat.mul_le_mul_right _ (by omega)), List.nil_append, Nat.sub_mul]
    have htake : c.toList.take (s * m2) = (r.take s).flatMap (cellsA lam) := by
      have e2 : c.toList = (r.take s).flatMap (cellsA lam) ++ ((r.drop s).flatMap (cellsA lam) ++ rest) := by
        rw [← List.append_assoc, ← List.flatMap_append, List.take_append_drop, hrest]
      rw [e2, List.take_left' hpre]
    have hsz : c'.size = c.size := by
      have := congrArg List.length hc'
      rw [Array.length_toList, List.length_append, List.length_append, List.length_take, List.length_drop, hlc, Array.length_toList] at this
      omega
    refine ⟨w.setRow b c', hrun0 _ hbase _ hst, hv, hH.set hk rfl rfl k4 (fun b' hb' => setRow_other w b b' _ hb') ⟨?_, ?_, ?_, ?_, .inr ⟨b, c', ty0, k4, setRow_heap w b c _ ty0 _ k5, by rw [hsz, k6], ?_⟩⟩, upd_setRow w b _ (hH.wr k _ (hget_mem hk) rfl b 0 k4) k5, KeyS.set hH.nd hk rfl⟩
    · exact okL_app.2 ⟨okL_app.2 ⟨okL_take k1 _, g1⟩, okL_drop k1 _⟩
    · exact okR_app.2 ⟨okR_app.2 ⟨okR_take hR _, g3⟩, okR_drop hR _⟩
    · exact okT_app.2 ⟨okT_app.2 ⟨okT_take k2' _, g2⟩, okT_drop k2' _⟩
    · simp only [List.length_append, hrs, List.length_drop, g4]; omega
    · rw [hc', htake, hdrop, g4, List.flatMap_append, List.flatMap_append, ← List.append_assoc]
      exact List.prefix_append _ _
end

end Go.Y

/-
  Maps that are gone through: the machine's own; and all these operations together.
-/
set_option linter.unusedVariables false
set_option linter.unusedSimpArgs false
namespace Go.Y
open RowKit

section
variable {P : Program} {N : Nat} {D : Nat → Prop} {H : Hp} {n : Nat} {w : World} {lam : Lam}

theorem alloc_new (w : World) (o : Obj) : (w.alloc o).heap[w.heap.size]? = some o := by
  show (w.heap.push o)[w.heap.size]? = _
  simp
theorem range_run (hH : HSit N D lam H n w) (hN : N ≤ w.heap.size) {t : TypeId} {k : Nat} {m : List (AV × AV)} (ht : (mapKT P t).isSome = true) (hm : mapE (hget k H) = some m) :
    ∃ s w' lam', (Instr.range t ((AV.map k).conc lam)).run P w = .ok ((AV.ptr n 0 []).conc lam') w' ∧ (AV.ptr n 0 []).ok lam' (n + 1) ∧ HSit N D lam' ((n, .it s [] k) :: hset k (.lk s m) H) (n + 1) w' ∧ Upd N D w w' ∧ agree n lam lam' ∧ KeyS H n ((n, .it s [] k) :: hset k (.lk s m) H) := by
  obtain ⟨q, hq⟩ := Option.isSome_iff_exists.1 ht
  obtain ⟨kt, et, hu, hS, _⟩ := mapKT_spec hq
  obtain ⟨g1, ⟨e0, hk0, hw0⟩, b, o, es, clock, g2, g3, g4, g5⟩ := mapE_has hH hm
  have hlow := hH.low k e0 (hget_mem hk0)
  have h1 : HSit N D lam (hset k (.lk ⟨es, clock⟩ m) H) n w := hH.set hk0 hw0 rfl g2 (fun _ _ => rfl) ⟨g1, b, o, g2, g3, g4, g5⟩
  have hne : k ≠ n := by omega
  refine ⟨⟨es, clock⟩, w.alloc (.mapIter (some b) clock #[] clock), setLam lam n (some (w.heap.size, 0)), ?_, ?_, ?_, upd_alloc N D w hN _, setLam_agree _ _ _, (KeyS.set hH.nd hk0 rfl).cons rfl⟩
  · simp only [AV.conc, g2, mapV, setLam_same, ptrV, offP, Nat.add_zero, Instr.range, Sem.run_bind, run_underlying hu, Result.andThen_ok, getMap_run g3]
    rfl
  · simp only [AV.ok]; exact ⟨Nat.lt_succ_self n, setLam_born _ _ _, by rw [setLam_same]; simp⟩
  · refine h1.alloc hN (Nat.lt_succ_self n) (Nat.le_succ n) (fun h => absurd h (Nat.lt_irrefl n)) rfl ⟨⟨by omega, .inr hlow.2⟩, List.nodup_nil, (fun i hi => by cases hi), w.heap.size, b, o, clock, setLam_same _ _ _, by rw [setLam_ne _ _ _ hne, g2], fun _ => rfl, ?_⟩
    exact alloc_new w _
theorem getIter_run {r : Nat} {m : Option Nat} {s : Nat} {sn : Array Nat} {c : Nat} (hb : w.heap[r]? = some (.mapIter m s sn c)) : (getObj r).run P w = .ok (.mapIter m s sn c) w := by
  simp [getObj, Sem.run, hb]
/-- What an iterator that goes through a map stands for. -/
theorem it_has (hH : HSit N D lam H n w) {it k : Nat} {s : MpS} {seen : List Nat} {m : List (AV × AV)} (hit : hget it H = some (.it s seen k)) (hlk : hget k H = some (.lk s m)) :
    seen.Nodup ∧ (∀ i, i ∈ seen → i < s.es.size) ∧ (∀ x y, (x, y) ∈ m → x.ok lam n ∧ y.ok lam n) ∧ MapOk s.es s.clock ∧ s.es.toList.map (fun e => (e.key, e.val)) = m.map (fun q => (q.1.conc lam, q.2.conc lam)) ∧
      ∃ b bm om last, lam it 0 = some (b, 0) ∧ lam k 0 = some (bm, om) ∧ (seen ≠ [] → last = s.clock) ∧ w.heap[b]? = some (.mapIter (some bm) s.clock (seen.map fun i => (s.es[i]?.map (·.born)).getD 0).toArray last) ∧ w.heap[bm]? = some (.map s.es s.clock) := by
  obtain ⟨h1, h2, h3, b, bm, om, last, h4, h5, h6, h7⟩ := hH.has _ _ (hget_mem hit)
  obtain ⟨g1, b', o', g2, g3, g4, g5⟩ := hH.has _ _ (hget_mem hlk)
  rw [h5] at g2
  cases g2
  exact ⟨h2, h3, g1, g4, g5, b, bm, om, last, h4, h5, h6, h7, g3⟩
theorem born_inj {es : Array MapEntry} {clock : Nat} (h : MapOk es clock) {i j : Nat} {a b : MapEntry} (hi : es[i]? = some a) (hj : es[j]? = some b) (he : a.born = b.born) : i = j := by
  have hi' : (es.toList.map (·.born))[i]? = some a.born := by rw [List.getElem?_map, Array.getElem?_toList, hi]; rfl
  have hj' : (es.toList.map (·.born))[j]? = some a.born := by rw [List.getElem?_map, Array.getElem?_toList, hj, he]; rfl
  obtain ⟨li, _⟩ := List.getElem?_eq_some_iff.1 hi'
  obtain ⟨lj, _⟩ := List.getElem?_eq_some_iff.1 hj'
  exact (List.getElem?_inj li h.1).1 (by rw [hi', hj'])
def bornL (es : Array MapEntry) (seen : List Nat) : Array Nat := (seen.map fun i => (es[i]?.map (·.born)).getD 0).toArray
theorem bornL_mem {es : Array MapEntry} {clock : Nat} (h : MapOk es clock) {seen : List Nat} (hs : ∀ i, i ∈ seen → i < es.size) {j : Nat} {e : MapEntry} (hj : es[j]? = some e) : (bornL es seen).contains e.born = true ↔ j ∈ seen := by
  simp only [bornL, Array.contains_eq_mem, List.mem_toArray, List.mem_map, decide_eq_true_eq]
  constructor
  · rintro ⟨i, hi, he⟩
    have hlt := hs i hi
    have : es[i]? = some es[i] := Array.getElem?_eq_getElem hlt
    rw [this] at he
    simp only [Option.map_some, Option.getD_some] at he
    exact (born_inj h this hj he) ▸ hi
  · intro hi
    exact ⟨j, hi, by rw [hj]; rfl⟩
theorem entry_at {m : List (AV × AV)} {es : Array MapEntry} (h : es.toList.map (fun e => (e.key, e.val)) = m.map (fun q => (q.1.conc lam, q.2.conc lam))) {i : Nat} {e : MapEntry} (hi : es[i]? = some e) : ∃ q, m[i]? = some q ∧ e.key = q.1.conc lam ∧ e.val = q.2.conc lam := by
  have h1 : (m.map (fun q => (q.1.conc lam, q.2.conc lam)))[i]? = some (e.key, e.val) := by
    rw [← h, List.getElem?_map, Array.getElem?_toList, hi]; rfl
  rw [List.getElem?_map, Option.map_eq_some_iff] at h1
  obtain ⟨q, hq, he⟩ := h1
  simp only [Prod.mk.injEq] at he
  exact ⟨q, hq, he.1.symm, he.2.symm⟩
theorem entry_of {m : List (AV × AV)} {es : Array MapEntry} (h : es.toList.map (fun e => (e.key, e.val)) = m.map (fun q => (q.1.conc lam, q.2.conc lam))) {i : Nat} {q : AV × AV} (hi : m[i]? = some q) : ∃ e, es[i]? = some e ∧ e.key = q.1.conc lam ∧ e.val = q.2.conc lam := by
  have h1 : (es.toList.map (fun e => (e.key, e.val)))[i]? = some (q.1.conc lam, q.2.conc lam) := by
    rw [h, List.getElem?_map, hi]; rfl
  rw [List.getElem?_map, Option.map_eq_some_iff] at h1
  obtain ⟨e, he, h2⟩ := h1
  simp only [Prod.mk.injEq] at h2
  exact ⟨e, by rw [← Array.getElem?_toList]; exact he, h2.1, h2.2⟩
theorem next_run (hH : HSit N D lam H n w) {it k : Nat} {s : MpS} {seen : List Nat} {m : List (AV × AV)} {ty : TypeId} (hit : hget it H = some (.it s seen k)) (hlk : hget k H = some (.lk s m)) :
    ∃ (v : AV) (H' : Hp) (w' : World), (Instr.next ((AV.ptr it 0 []).conc lam) false ty).run P w = .ok (v.conc lam) w' ∧ v.ok lam n ∧ HSit N D lam H' n w' ∧ Upd N D w w' ∧ KeyS H n H' ∧
      ((∃ i q, m[i]? = some q ∧ i ∉ seen ∧ v = .tup [.bool true, q.1, q.2] ∧ H' = hset it (.it s (seen ++ [i]) k) H) ∨ ((∀ i, i < m.length → i ∈ seen) ∧ v = .tup [.bool false] ∧ H' = H)) := by
  obtain ⟨h1, h2, h3, h4, h5, b, bm, om, last, h6, h7, h8, h9, h10⟩ := it_has hH hit hlk
  have hbl : (seen.map fun i => (s.es[i]?.map (·.born)).getD 0).toArray = bornL s.es seen := rfl
  rw [hbl] at h9
  have hlen : m.length = s.es.size := by
    have := congrArg List.length h5
    simp only [List.length_map, Array.length_toList] at this
    exact this.symm
  obtain ⟨left, hleft⟩ : ∃ left, left = s.es.filter fun e => !(bornL s.es seen).contains e.born := ⟨_, rfl⟩
  have hold : left.filter (fun e => decide (e.born < s.clock)) = left := by
    rw [Array.filter_eq_self]
    intro e he
    rw [hleft, Array.mem_filter] at he
    simpa using h4.2 e (by simpa using he.1)
  have hnew : left.filter (fun e => decide (e.born ≥ s.clock)) = #[] := by
    rw [Array.filter_eq_empty_iff]
    intro e he
    rw [hleft, Array.mem_filter] at he
    have := h4.2 e (by simpa using he.1)
    simp; omega
  have hcond : (!(bornL s.es seen).isEmpty && !s.es.isEmpty && s.es.all fun e => decide (e.born ≥ last)) = false := by
    by_cases hs : seen = []
    · subst hs; simp [bornL]
    · have hl := h8 hs
      by_cases he : s.es.isEmpty = true
      · simp [he]
      · have hpos : 0 < s.es.size := by
          rw [Array.isEmpty_iff_size_eq_zero] at he; omega
        have : ¬ (s.es.all fun e => decide (e.born ≥ last)) = true := by
          rw [Array.all_eq_true_iff_forall_mem]
          intro hall
          have := hall s.es[0] (Array.getElem_mem hpos)
          have h0 := h4.2 s.es[0] (by simp)
          simp at this
          omega
        rw [Bool.not_eq_true] at this
        simp [this]
  by_cases hemp : left.isEmpty = true
  · -- all were met
    have hl0 : left = #[] := by simpa using hemp
    refine ⟨.tup [.bool false], H, w, ?_, by simp [AV.ok, okL], hH, Upd.refl _ _ _, KeyS.refl _ _, .inr ⟨fun i hi => ?_, rfl, rfl⟩⟩
    · simp only [AV.conc, h6, ptrV, offP, Nat.add_zero, Instr.next, Sem.run_bind, getIter_run h9, Result.andThen_ok, getMap_run h10, hcond, Bool.false_eq_true, if_false, ← hleft, hold, hnew]
      rw [hl0]
      simp [choose, Sem.run, Question.forced, concL, AV.conc]
    · have hil : i < s.es.size := by omega
      have hg : s.es[i]? = some s.es[i] := Array.getElem?_eq_getElem hil
      apply Classical.byContradiction
      intro hn
      have : s.es[i] ∈ left := by
        rw [hleft, Array.mem_filter]
        refine ⟨Array.getElem_mem hil, ?_⟩
        have : ¬ (bornL s.es seen).contains s.es[i].born = true := fun hc => hn ((bornL_mem h4 h2 hg).1 hc)
        simpa using this
      rw [hl0] at this
      simp at this
  · have hne : left.isEmpty = false := by simpa using hemp
    have hpos : 0 < left.size := by
      rw [Array.isEmpty_eq_false_iff] at hne
      exact Array.size_pos_iff.2 hne
    have hch : ∃ idx w1, (choose (.mapNext left.size)).run P w = .ok idx w1 ∧ idx < left.size ∧ (w1 = w ∨ w1 = w.drew) := by
      rw [run_choose]
      split
      · exact ⟨0, w, rfl, hpos, .inl rfl⟩
      · exact ⟨_, w.drew, rfl, by simp only [Question.cut]; exact Nat.mod_lt _ hpos, .inr rfl⟩
    obtain ⟨idx, w1, hc1, hc2, hc3⟩ := hch
    have hw1 : w1.heap = w.heap := by rcases hc3 with rfl | rfl <;> rfl
    have hH1 : HSit N D lam H n w1 := by rcases hc3 with rfl | rfl; exact hH; exact hH.drew
    have hU1 : Upd N D w w1 := by rcases hc3 with rfl | rfl; exact Upd.refl _ _ _; exact upd_drew N D w
    obtain ⟨e, he⟩ : ∃ e, left[idx]? = some e := ⟨_, Array.getElem?_eq_getElem hc2⟩
    have hem : e ∈ left := Array.mem_of_getElem? he
    rw [hleft, Array.mem_filter] at hem
    obtain ⟨i, hi⟩ := Array.getElem?_of_mem hem.1
    have hns : i ∉ seen := fun hs => by
      have := (bornL_mem h4 h2 hi).2 hs
      rw [this] at hem; simp at hem
    obtain ⟨q, hq, hq1, hq2⟩ := entry_at h5 hi
    have hqok := h3 q.1 q.2 (List.mem_of_getElem? hq)
    have h9' : w1.heap[b]? = some (.mapIter (some bm) s.clock (bornL s.es seen) last) := by rw [hw1]; exact h9
    have hwr := hH.wr it _ (hget_mem hit) rfl b 0 h6
    have hlow := hH.low it _ (hget_mem hit)
    have hpush : (bornL s.es seen).push e.born = bornL s.es (seen ++ [i]) := by
      simp only [bornL, List.map_append, List.map_cons, List.map_nil, hi, Option.map_some, Option.getD_some]
      simp
    refine ⟨.tup [.bool true, q.1, q.2], _, w1.putObjY b (.mapIter (some bm) s.clock (bornL s.es (seen ++ [i])) s.clock), ?_, by simp only [AV.ok, okL]; exact ⟨trivial, hqok.1, hqok.2, trivial⟩, ?_, hU1.trans (upd_putObj h9' (fun ds => by simp) hwr), KeyS.set hH.nd hit rfl, .inl ⟨i, q, hq, hns, rfl, rfl⟩⟩
    · simp only [AV.conc, h6, ptrV, offP, Nat.add_zero, Instr.next, Sem.run_bind, getIter_run h9, Result.andThen_ok, getMap_run h10, hcond, Bool.false_eq_true, if_false, ← hleft, hold, hnew, hne]
      simp only [Array.append_empty, Array.empty_append, Array.size_map, hc1, Result.andThen_ok, Array.getElem?_map, he, Option.map_some, Sem.run_bind, hpush, setObj_run (P := P) (o := .mapIter (some bm) s.clock (bornL s.es (seen ++ [i])) s.clock) h9' (by simp), Sem.run_pure]
      simp [concL, AV.conc, hq1, hq2]
    · have hlowk := hH.has it _ (hget_mem hit)
      refine hH1.set hit rfl rfl h6 (fun b' hb' => putObj_other hb') ⟨hlowk.1, ?_, ?_, b, bm, om, s.clock, h6, h7, fun _ => rfl, putObj_same h9'⟩
      · rw [List.nodup_append]
        refine ⟨h1, by simp, fun a ha c hc => ?_⟩
        simp only [List.mem_singleton] at hc
        rintro rfl
        exact hns (hc ▸ ha)
      · intro j hj
        rcases List.mem_append.1 hj with hj | hj
        · exact h2 j hj
        · simp only [List.mem_singleton] at hj
          subst hj
          exact (Array.getElem?_eq_some_iff.1 hi).1
theorem entry_run (hH : HSit N D lam H n w) {it k : Nat} {s : MpS} {seen : List Nat} {m : List (AV × AV)} {q : AV × AV} (hit : hget it H = some (.it s seen k)) (hlk : hget k H = some (.lk s m)) (hq : lastO seen m = some q) :
    (Instr.entry ((AV.ptr it 0 []).conc lam)).run P w = .ok ((AV.tup [q.1, q.2]).conc lam) w ∧ (AV.tup [q.1, q.2]).ok lam n := by
  obtain ⟨h1, h2, h3, h4, h5, b, bm, om, last, h6, h7, h8, h9, h10⟩ := it_has hH hit hlk
  unfold lastO at hq
  split at hq
  case h_2 => cases hq
  rename_i i hi
  obtain ⟨e, he, hk, hv⟩ := entry_of h5 hq
  have hqok := h3 q.1 q.2 (List.mem_of_getElem? hq)
  have hne : seen ≠ [] := by rintro rfl; simp at hi
  have hlast := h8 hne
  subst hlast
  have hback : (seen.map fun i => (s.es[i]?.map (·.born)).getD 0).toArray.back? = some e.born := by
    rw [List.back?_toArray, List.getLast?_map, hi]
    simp [he]
  have hfind : s.es.find? (fun x => x.born == e.born) = some e := by
    rw [Array.find?_eq_some_iff_getElem]
    refine ⟨by simp, i, (Array.getElem?_eq_some_iff.1 he).1, (Array.getElem?_eq_some_iff.1 he).2, fun j hj => ?_⟩
    have hjl : j < s.es.size := by have := (Array.getElem?_eq_some_iff.1 he).1; omega
    have := born_inj h4 (Array.getElem?_eq_getElem hjl) he
    simp only [Bool.not_eq_true', beq_eq_false_iff_ne, ne_eq]
    intro hb
    have := this hb
    omega
  refine ⟨?_, by simp only [AV.ok, okL]; exact ⟨hqok.1, hqok.2, trivial⟩⟩
  simp only [AV.conc, h6, ptrV, offP, Nat.add_zero, Instr.entry, Sem.run_bind, getIter_run h9, Result.andThen_ok, hback, getMap_run h10]
  simp [hfind, concL, AV.conc, hk, hv]
end

end Go.Y
