/-
  append where there is too little room; maps that are turned and gone through; rows that are copied: the machine's own.
-/
import Derived.Test.YtcmacobhnpgpaaaYk
set_option linter.unusedVariables false
set_option linter.unusedSimpArgs false
namespace Go.Y
open RowKit

section
variable {N : Nat} {D : Nat → Prop} {lam : Lam}
theorem KeyS.refl (H : Hp) (n : Nat) : KeyS H n H := fun k x h => .inl ⟨x, h, fun _ => rfl⟩
theorem KeyS.trans {A B C : Hp} {n : Nat} (h : KeyS A n B) (h' : KeyS B n C) : KeyS A n C := by
  intro k x hx
  rcases h' k x hx with ⟨y, hy, e⟩ | h'
  · rcases h k y hy with ⟨z, hz, e2⟩ | h2
    · exact .inl ⟨z, hz, fun hw => by have := e hw; subst this; exact e2 hw⟩
    · refine .inr ⟨h2.1, ?_⟩
      cases hw : x.writes with
      | true => rfl
      | false => have := e hw; subst this; rw [hw] at h2; cases h2.2
  · exact .inr h'
theorem KeyS.mono {A B : Hp} {m n : Nat} (h : KeyS A n B) (hm : m ≤ n) : KeyS A m B := fun k x hx => (h k x hx).imp id fun h => ⟨Nat.le_trans hm h.1, h.2⟩
theorem KeyS.sub {A B : Hp} {n : Nat} (h : B.Sublist A) : KeyS A n B := fun k x hx => .inl ⟨x, h.subset hx, fun _ => rfl⟩
theorem KeyS.cons {A B : Hp} {n k : Nat} {e : Ent} (h : KeyS A n B) (hw : e.writes = true) (hk : n ≤ k := by first | exact Nat.le_refl _ | omega) : KeyS A n ((k, e) :: B) := by
  intro j x hx
  rcases List.mem_cons.1 hx with hx | hx
  · cases hx; exact .inr ⟨hk, hw⟩
  · exact h j x hx
theorem dropO_sub (k : Option Nat) (H : Hp) : (dropO k H).Sublist H := by
  unfold dropO
  split
  · exact hdel_sub _ _
  · exact List.Sublist.refl _
theorem KeyS.set {H : Hp} {n k : Nat} {e e' : Ent} (hn : (H.map (·.1)).Nodup) (hg : hget k H = some e) (hw : e'.writes = true) : KeyS H n (hset k e' H) := by
  intro j x hx
  rcases hset_mem hn hx with ⟨rfl, rfl⟩ | ⟨_, hx⟩
  · exact .inl ⟨e, hget_mem hg, fun h => by rw [hw] at h; cases h⟩
  · exact .inl ⟨x, hx, fun _ => rfl⟩
end

def _root_.Go.World.putObjY (w : World) (r : Nat) (o : Obj) : World := { w with heap := w.heap.setIfInBounds r o }
section
theorem putObj_other {w : World} {r b : Nat} {o : Obj} (h : b ≠ r) : (w.putObjY r o).heap[b]? = w.heap[b]? := by
  simp only [World.putObjY]
  rw [Array.getElem?_setIfInBounds_ne (Ne.symm h)]
theorem putObj_same {w : World} {r : Nat} {o o' : Obj} (h : w.heap[r]? = some o') : (w.putObjY r o).heap[r]? = some o := by
  have := (Array.getElem?_eq_some_iff.1 h).1
  simp [World.putObjY, Array.getElem?_setIfInBounds, this]
variable {P : Program} {N : Nat} {D : Nat → Prop} {H : Hp} {n : Nat} {w : World} {lam : Lam}

theorem upd_putObj {r : Nat} {o o' : Obj} (h : w.heap[r]? = some o') (hd : ∀ ds, o' ≠ .deferred ds) (hb : D r ∨ N ≤ r) : Upd N D w (w.putObjY r o) := by
  refine ⟨rfl, rfl, rfl, ?_, fun b h1 h2 => putObj_other ?_, fun b ds hb2 => ?_⟩
  · show w.heap.size ≤ (w.heap.setIfInBounds r o).size
    simp
  · rintro rfl
    rcases hb with hb | hb
    · exact h2 hb
    · omega
  · by_cases e : b = r
    · subst e; rw [h] at hb2; cases hb2; exact absurd rfl (hd ds)
    · rw [putObj_other e]; exact hb2
theorem setObj_run {r : Nat} {o o' : Obj} (h : w.heap[r]? = some o') (hc : ∀ c e f, o' ≠ .cells c e f) : (setObj r o).run P w = .ok () (w.putObjY r o) := by
  cases o' <;> first | exact absurd rfl (hc _ _ _) | simp [setObj, Sem.run, h, World.putObjY]

/-! ### append -/
theorem append_growZ {t u ty e : TypeId} {k : IntKind} {i : TypeInfo} {z : Value} (ht : P.underlying t = some (.slice e)) (hu : P.underlying u = some (.int k)) (hi : P.info? e = some i) (hz : i.zero = some z)
    {base : Option Addr} {sLen sCap c : Nat} {olds : Array Value}
    (ho : (Builtin.firstCells i.size sLen (.slice base sLen sCap)).run P w.drew = .ok olds w.drew) (hroom : sCap < sLen + c) (h63 : sLen + c ≤ 9223372036854775807) (hb : (sLen + c) * i.bytes ≤ 140737488355328) :
    (Builtin.append_ #[t, u] ty #[.slice base sLen sCap, .int .i64 (c : Int)]).run P w = .ok (.slice (some ⟨w.heap.size, 0, none⟩) (sLen + c) (grownCap w (sLen + c) sCap e))
      (w.drew.alloc (.cells (olds ++ (if c * i.size = 0 then #[] else Builtin.zeroCells z.cells c) ++ Builtin.zeroCells z.cells (grownCap w (sLen + c) sCap e - (sLen + c))) e)) := by
  have hfit := growslice_fits hroom hb
  have hnr : ¬ (sLen + c ≤ sCap) := by omega
  have h63' : ¬ (9223372036854775807 < ((sLen : Int) + (c : Int))) := by omega
  have h48' : ¬ (281474976710656 < Builtin.nextslicecap (sLen + c) sCap * i.bytes) := by omega
  have hcb : c * i.bytes ≤ (sLen + c) * i.bytes := Nat.mul_le_mul_right _ (by omega)
  have hw : IntKind.wrap .i64 (c : Int) = c := by simp [IntKind.wrap, IntKind.signed, IntKind.bits]; omega
  have hc0 : ¬ ((c : Int) < 0) := by omega
  have hc1 : ¬ (281474976710656 < (c : Int) * (i.bytes : Int)) := by
    have : ((c * i.bytes : Nat) : Int) ≤ 140737488355328 := by omega
    push_cast at this; omega
  by_cases h0 : c * i.size = 0
  · simp [Builtin.append_, run_underlying ht, run_underlying hu, sizeOf, typeInfo, hi, zeroValue, hz, asInt, asIntOf, hw, hc0, hc1, hnr, h63', h48', Question.forced, ho, newRow, grownCap, h0]
  · simp [Builtin.append_, run_underlying ht, run_underlying hu, sizeOf, typeInfo, hi, zeroValue, hz, asInt, asIntOf, hw, hc0, hc1, hnr, h63', h48', Question.forced, ho, newRow, grownCap, h0]
theorem capX_conc (lam : Lam) {k i : Nat} {p : List PE} {sz a s len cap : Nat} : ∃ base, (AV.slc k i p sz a s len cap).conc lam = .slice base len cap := by
  simp only [AV.conc]
  cases lam k i with
  | none => exact ⟨_, rfl⟩
  | some q => exact ⟨_, rfl⟩
theorem elemsC_len {e : Option AV} {s len sz : Nat} {l : List AV} (h : elemsC e s len sz = some l) : l.length = len := by
  unfold elemsC at h
  split at h
  · split at h
    · split at h
      · rename_i hh; cases h; rw [List.length_take, List.length_drop]; omega
      · cases h
    · cases h
  · cases h
theorem elemsN_more {sz : Nat} {x : AV} {l : List AV} (h : elemsN sz x H = some l) : moreOf sz x H = some l ∧ ∃ base, x.conc lam = .slice base l.length (capX x) ∨ (x.conc lam = .slice base l.length (capX x)) := by
  unfold elemsN at h
  split at h
  · rename_i k i p m a s len cap
    split at h
    · rename_i hm
      subst hm
      refine ⟨by simp only [moreOf, if_true]; exact h, ?_⟩
      obtain ⟨base, hb⟩ := capX_conc lam (k := k) (i := i) (p := p) (sz := m) (a := a) (s := s) (len := len) (cap := cap)
      have hl : l.length = len := elemsC_len (e := elemsT (hget k H) i p) h
      exact ⟨base, .inl (by rw [hb, hl]; rfl)⟩
    · cases h
  · cases h; exact ⟨rfl, none, .inl rfl⟩
  · cases h
theorem isInt_spec {t : TypeId} (h : isInt P t = true) : ∃ k, P.underlying t = some (.int k) := by
  unfold isInt at h
  split at h
  · rename_i k hu; exact ⟨k, hu⟩
  · cases h
/-- **append**, there being too little room: what there was stays. -/
theorem append_keep (hH : HSit N D lam H n w) (hN : N ≤ w.heap.size) {t u ty : TypeId} {x y : AV} {cp sz : Nat} {l m : List AV} (hx : x.ok lam n) (hy : y.ok lam n)
    (h : growA P t u x y H = some (cp, sz, l, m)) (hroom : roomOk P t (l.length + m.length)) (hg : cp < l.length + m.length) :
    ∃ c w' lam', l.length + m.length ≤ c ∧ (Builtin.append_ #[t, u] ty #[x.conc lam, y.conc lam]).run P w = .ok ((AV.slc n 0 [] sz 0 0 (l.length + m.length) c).conc lam') w' ∧
      (AV.slc n 0 [] sz 0 0 (l.length + m.length) c).ok lam' (n + 1) ∧ HSit N D lam' ((n, .vec c sz (l ++ m)) :: H) (n + 1) w' ∧ Upd N D w w' ∧ agree n lam lam' := by
  unfold growA at h
  split at h
  case h_2 => cases h
  rename_i a sz' z hs hz
  split at h
  case isFalse => cases h
  rename_i hf
  split at h
  case h_2 => cases h
  rename_i l' m' hold hmore
  cases h
  obtain ⟨e, i, ht, hi, hz0, hsz, hzs, hby⟩ := slice_lay (lam := lam) hs hz hf
  obtain ⟨hold2, base, hb⟩ := elemsN_more (lam := lam) hold
  replace hb : x.conc lam = .slice base l.length (capX x) := hb.elim id id
  obtain ⟨hlok, hlT, hlR, _, _, _⟩ := more_run (P := P) hH hx hold2
  have holds := (more_run (P := P) (w := w.drew) hH.drew hx hold2).2.2.2.2.1
  unfold roomOk at hroom
  rw [hby] at hroom
  obtain ⟨hbb, h63⟩ := hroom
  rw [hb] at holds
  have hzT : z.ok lam n ∧ z.size = sz ∧ z.isTup = false := ⟨(zeroA_spec (P := P) (w := w) lam n (by rw [← (elemT_spec ht).1]; exact hz)).2, (fitZ_spec hf).1, (fitZ_spec hf).2⟩
  have key : okL lam n m ∧ okT m ∧ okR sz m ∧ ∃ news : Array Value, news.toList = m.flatMap (cellsA lam) ∧ (Builtin.append_ #[t, u] ty #[x.conc lam, y.conc lam]).run P w = .ok (.slice (some ⟨w.heap.size, 0, none⟩) (l.length + m.length) (grownCap w (l.length + m.length) (capX x) e))
      (w.drew.alloc (.cells ((l.flatMap (cellsA lam)).toArray ++ news ++ Builtin.zeroCells (z.conc lam).cells (grownCap w (l.length + m.length) (capX x) e - (l.length + m.length))) e)) := by
    split at hmore
    · rename_i hni
      obtain ⟨hmok, hmT, hmR, _, _, hlenw⟩ := more_run (P := P) hH hy hmore
      have hmore2 := more_run (P := P) (w := w.drew) hH.drew hy hmore
      refine ⟨hmok, hmT, hmR, (m.flatMap (cellsA lam)).toArray, by simp, ?_⟩
      rw [hb]
      exact append_grow (P := P) (ty := ty) ht (notInt_spec hni) hi hz0 hlenw (by rw [hsz]; exact hmore2.2.2.2.2.1) (by rw [hsz]; exact holds) hg h63 hbb
    · split at hmore
      · rename_i hint
        obtain ⟨k, hu⟩ := isInt_spec hint
        unfold zeroN at hmore
        split at hmore
        · rename_i c
          split at hmore
          · rename_i hc
            cases hmore
            obtain ⟨cn, rfl⟩ := Int.eq_ofNat_of_zero_le hc.1
            simp only [Int.toNat_natCast, List.length_replicate] at *
            refine ⟨okL_mem.2 fun v hv => by rw [List.eq_of_mem_replicate hv]; exact hzT.1, okT_rep hzT.2.2 _, okR_mem.2 fun v hv => by rw [List.eq_of_mem_replicate hv]; exact hzT.2.1, if cn * i.size = 0 then #[] else Builtin.zeroCells (z.conc lam).cells cn, ?_, ?_⟩
            · rw [hsz]
              split
              · rename_i h0
                have : ((List.replicate cn z).flatMap (cellsA lam)).length = 0 := by
                  rw [cellsL_length, sizeL_rep (sz := sz) (okR_mem.2 fun v hv => by rw [List.eq_of_mem_replicate hv]; exact hzT.2.1), List.length_replicate]; exact h0
                rw [List.length_eq_zero_iff.1 this]
              · rename_i h0
                have hzc : (z.conc lam).cells.size = sz := hzs
                rcases zero_cells (lam := lam) (z := z) (len := cn) (sz := sz) hzT.2.1 with h1 | h1
                · rw [← h1, ← hzc]; rfl
                · exact absurd h1 h0
            · rw [hb]
              exact append_growZ (P := P) (ty := ty) ht hu hi hz0 (by rw [hsz]; exact holds) hg h63 hbb
          · cases hmore
        · cases hmore
      · cases hmore
  obtain ⟨hmok, hmT, hmR, news, hnews, hrun⟩ := key
  obtain ⟨c, hc⟩ : ∃ c, c = grownCap w (l.length + m.length) (capX x) e := ⟨_, rfl⟩
  have hge : l.length + m.length ≤ c := by rw [hc]; exact grownCap_ge w _ _ _
  rw [← hc] at hrun
  have happT : ∀ v, v ∈ l ++ m → v.isTup = false := okT_app.2 ⟨hlT, hmT⟩
  have happR : okR sz (l ++ m) := okR_app.2 ⟨hlR, hmR⟩
  have happL : okL lam n (l ++ m) := okL_app.2 ⟨hlok, hmok⟩
  have hns : news.size = m.length * sz := by
    rw [← Array.length_toList, hnews, cellsL_length, sizeL_rep hmR]
  have hsize : ((l.flatMap (cellsA lam)).toArray ++ news ++ Builtin.zeroCells (z.conc lam).cells (c - (l.length + m.length))).size = c * sz := by
    simp only [Array.size_append, List.size_toArray, cellsL_length, sizeL_rep hlR, hns, size_zeroCells, hzs, ← Nat.add_mul]
    congr 1; omega
  have hm := made_vec (Nat.lt_succ_self n) (Nat.le_succ n) (fun h => absurd h (Nat.lt_irrefl n)) (P := P) (s := Builtin.append_ #[t, u] ty #[x.conc lam, y.conc lam]) (t := e) (len := l.length + m.length) (cap := c) (l := l ++ m) hH.drew hN happL happR happT (by simpa using hge) hge hsize
    (by simp only [Array.toList_append, hnews, List.flatMap_append]; exact List.prefix_append _ _) (upd_drew N D w) hrun
  obtain ⟨w', lam', g1, g2, g3, g4, g5, g6, _⟩ := hm
  exact ⟨c, w', lam', hge, g1, g2, g3, g4, g5, fun k hk hb => by rcases g6 k hb with h | h; omega; exact h⟩
end

end Go.Y
