/-
  Contracts that only read: over rows that nobody writes; used over whatever bears these rows.
-/
import Derived.Test.YtbkmhkeihbgcfaaMj
import Derived.Test.YtbkmhkeihbgcfaaLb
set_option linter.unusedVariables false
set_option linter.unusedSimpArgs false
namespace Go.Y

/-- A block's row. -/
def viewE : Option Ent → Option (Nat × List AV)
  | some (.vec _ sz l) => some (sz, l)
  | some (.ro f) => match f 0 with
    | .rows sz l => some (sz, l)
    | _ => none
  | some (.cel (.rows sz l)) => some (sz, l)
  | _ => none
theorem viewE_vec (cap sz : Nat) (l : List AV) : viewE (some (.vec cap sz l)) = some (sz, l) := rfl
theorem viewE_ro (sz : Nat) (l : List AV) : viewE (some (.ro fun _ => .rows sz l)) = some (sz, l) := rfl

/-- Blocks whose rows begin with these. -/
def viewsL (H : Hp) : List Nat → List (Nat × List AV) → Prop
  | [], [] => True
  | k :: ks, (sz, l) :: r => (∃ l', viewE (hget k H) = some (sz, l') ∧ l <+: l' ∧ flatBL l' = true) ∧ viewsL H ks r
  | _, _ => False
theorem viewsL_len {H : Hp} : ∀ {ks : List Nat} {r : List (Nat × List AV)}, viewsL H ks r → ks.length = r.length
  | [], [], _ => rfl
  | k :: ks, (sz, l) :: r, h => by simp [viewsL_len h.2]
  | [], _ :: _, h => h.elim
  | _ :: _, [], h => h.elim
theorem viewsL_get {H : Hp} : ∀ {ks : List Nat} {r : List (Nat × List AV)}, viewsL H ks r → ∀ (i : Nat) sz l, r[i]? = some (sz, l) → ∃ k l', ks[i]? = some k ∧ viewE (hget k H) = some (sz, l') ∧ l <+: l' ∧ flatBL l' = true
  | [], [], _, i, sz, l, h => by simp at h
  | k :: ks, (sz', l') :: r, h, i, sz, l, hi => by
    cases i with
    | zero => simp at hi; obtain ⟨rfl, rfl⟩ := hi; obtain ⟨⟨l2, h1, h2, h3⟩, _⟩ := h; exact ⟨k, l2, rfl, h1, h2, h3⟩
    | succ i => simpa using viewsL_get h.2 i sz l (by simpa using hi)
  | [], _ :: _, h, _, _, _, _ => h.elim
  | _ :: _, [], h, _, _, _, _ => h.elim
theorem flatBL_app : ∀ {l m : List AV}, flatBL (l ++ m) = true → flatBL l = true
  | [], _, _ => rfl
  | v :: r, m, h => by
    simp only [List.cons_append, flatBL, Bool.and_eq_true] at h ⊢
    exact ⟨h.1, flatBL_app h.2⟩
theorem pre_take {α : Type} (f : α → AV) (l : List α) (m : Nat) : (l.take m).map f <+: l.map f := by rw [List.map_take]; exact List.take_prefix _ _

theorem idx_get' : ∀ {ks : List Nat} {n i k : Nat}, ks[i]? = some k → idx ks n i = k
  | [], n, i, k, h => by simp at h
  | j :: r, n, 0, k, h => by simp at h; simp [idx, h]
  | j :: r, n, i + 1, k, h => by simp only [idx]; exact idx_get' (by simpa using h)

/-- What a view tells of the world. -/
theorem view_has {N : Nat} {D : Nat → Prop} {lam : Lam} {H : Hp} {n : Nat} {w : World} (hH : HSit N D lam H n w) {j sz : Nat} {l : List AV} (h : viewE (hget j H) = some (sz, l)) (hfl : flatBL l = true) :
    (AV.rows sz l).ok lam n ∧ ((lam j 0 = none ∧ (AV.rows sz l).size = 0) ∨ ∃ b o c ty fr, lam j 0 = some (b, o) ∧ w.heap[b]? = some (.cells c ty fr) ∧ o ≤ c.size ∧ cellsA lam (.rows sz l) <+: c.toList.drop o) := by
  unfold viewE at h
  split at h
  · rename_i cap sz' l' hg
    cases h
    obtain ⟨h1, h2, h3, h4, h5⟩ := hH.has j _ (hget_mem hg)
    refine ⟨by simp only [AV.ok]; exact ⟨h1, h2, h3⟩, ?_⟩
    rcases h5 with ⟨h5, h6⟩ | ⟨b, c', ty, h5, h6, h7, h8⟩
    · left
      have : l = [] := List.length_eq_zero_iff.1 (by omega)
      subst this
      exact ⟨h5, rfl⟩
    · right
      exact ⟨b, 0, c', ty, (0, 0), h5, h6, Nat.zero_le _, by rw [List.drop_zero, cells_rows]; exact h8⟩
  · rename_i f hg
    have h0 := hH.has j _ (hget_mem hg) 0
    split at h
    · rename_i sz' l' hf
      cases h
      rw [hf] at h0
      exact h0
    · cases h
  · rename_i sz' l' hg
    cases h
    obtain ⟨h1, h2, b, c, ty, h3, h4, h5⟩ := hH.has j _ (hget_mem hg)
    exact ⟨h1, .inr ⟨b, 0, c, ty, (0, 0), h3, h4, Nat.zero_le _, by rw [List.drop_zero, h5]; exact List.prefix_refl _⟩⟩
  · cases h

mutual
/-- Only the first of each family is named. -/
def zeroB : AV → Bool
  | .agg l | .rows _ l | .tup l => zeroBL l
  | .ptr _ i _ => i == 0
  | .slc _ i _ _ _ _ _ _ => i == 0
  | .fn _ a b => zeroBL a && zeroBL b
  | _ => true
def zeroBL : List AV → Bool
  | [] => true
  | v :: r => zeroB v && zeroBL r
end
/-- What the first of each family is. -/
def pull0 (τ : Nat → Nat) (n : Nat) (lam : Lam) : Lam := ⟨fun k _ => lam (τ k) 0, fun k => τ k < n ∧ lam.born (τ k)⟩
section
variable {τ : Nat → Nat} {m n : Nat} {lam : Lam}
mutual
theorem zero_conc : ∀ {v : AV}, zeroB v = true → (v.ren τ).conc lam = v.conc (pull0 τ n lam)
  | .agg l, h => by simp only [AV.ren, AV.conc, zero_concL (l := l) (by simpa [zeroB] using h)]
  | .rows sz l, h => by simp only [AV.ren, AV.conc, zero_concL (l := l) (by simpa [zeroB] using h)]
  | .tup l, h => by simp only [AV.ren, AV.conc, zero_concL (l := l) (by simpa [zeroB] using h)]
  | .ptr k i p, h => by have : i = 0 := by simpa [zeroB] using h
                        subst this; rfl
  | .slc k i p _ a s len cap, h => by have : i = 0 := by simpa [zeroB] using h
                                      subst this; rfl
  | .map k, h => rfl
  | .yld k, h => rfl
  | .fn f a b, h => by
    have : zeroBL a = true ∧ zeroBL b = true := by simpa [zeroB] using h
    simp only [AV.ren, AV.conc, zero_concL (l := a) this.1, zero_concL (l := b) this.2]
  | .int .., _ => rfl
  | .bool _, _ => rfl
  | .str _, _ => rfl
  | .nilp, _ => rfl
  | .nils, _ => rfl
  | .nilm, _ => rfl
  | .nilf, _ => rfl
theorem zero_concL : ∀ {l : List AV}, zeroBL l = true → concL lam (renL τ l) = concL (pull0 τ n lam) l
  | [], _ => rfl
  | v :: r, h => by
    have : zeroB v = true ∧ zeroBL r = true := by simpa [zeroBL] using h
    simp only [renL, concL, zero_conc (v := v) this.1, zero_concL (l := r) this.2]
end
mutual
theorem zero_ok (hτ : ∀ k, τ k < n → k < m) : ∀ {v : AV}, zeroB v = true → (v.ren τ).ok lam n → v.ok (pull0 τ n lam) m
  | .agg l, h, hv => by simp only [AV.ren, AV.ok] at hv ⊢; exact ⟨zero_okL hτ (by simpa [zeroB] using h) hv.1, okT_ren.1 hv.2⟩
  | .rows sz l, h, hv => by simp only [AV.ren, AV.ok] at hv ⊢; exact ⟨zero_okL hτ (by simpa [zeroB] using h) hv.1, okR_ren.1 hv.2.1, okT_ren.1 hv.2.2⟩
  | .tup l, h, hv => by simp only [AV.ren, AV.ok] at hv ⊢; exact zero_okL hτ (by simpa [zeroB] using h) hv
  | .ptr k i p, h, hv => by
    have : i = 0 := by simpa [zeroB] using h
    subst this
    simp only [AV.ren, AV.ok] at hv ⊢; exact ⟨hτ k hv.1, ⟨hv.1, hv.2.1⟩, hv.2.2⟩
  | .slc k i p _ a s len cap, h, hv => by
    have : i = 0 := by simpa [zeroB] using h
    subst this
    simp only [AV.ren, AV.ok] at hv ⊢; exact ⟨hτ k hv.1, ⟨hv.1, hv.2.1⟩, hv.2.2⟩
  | .map k, h, hv => by simp only [AV.ren, AV.ok] at hv ⊢; exact ⟨hτ k hv.1, ⟨hv.1, hv.2.1⟩, hv.2.2⟩
  | .yld k, h, hv => by simp only [AV.ren, AV.ok] at hv ⊢; exact ⟨hτ k hv.1, ⟨hv.1, hv.2.1⟩, hv.2.2⟩
  | .fn f a b, h, hv => by
    have h' : zeroBL a = true ∧ zeroBL b = true := by simpa [zeroB] using h
    simp only [AV.ren, AV.ok] at hv ⊢; exact ⟨zero_okL hτ h'.1 hv.1, zero_okL hτ h'.2 hv.2.1, hv.2.2⟩
  | .int .., _, _ => by simp only [AV.ok]
  | .bool _, _, _ => by simp only [AV.ok]
  | .str _, _, _ => by simp only [AV.ok]
  | .nilp, _, _ => by simp only [AV.ok]
  | .nils, _, _ => by simp only [AV.ok]
  | .nilm, _, _ => by simp only [AV.ok]
  | .nilf, _, _ => by simp only [AV.ok]
theorem zero_okL (hτ : ∀ k, τ k < n → k < m) : ∀ {l : List AV}, zeroBL l = true → okL lam n (renL τ l) → okL (pull0 τ n lam) m l
  | [], _, _ => by simp only [okL]
  | v :: r, h, hv => by
    have h' : zeroB v = true ∧ zeroBL r = true := by simpa [zeroBL] using h
    simp only [renL, okL] at hv ⊢; exact ⟨zero_ok hτ h'.1 hv.1, zero_okL hτ h'.2 hv.2⟩
end
end

theorem cells_flat {lam lam' : Lam} {v : AV} (h : flatB v = true) : cellsA lam' v = cellsA lam v := by
  unfold cellsA; rw [flat_conc h]

/-- **A contract that only reads, used.** -/
theorem callA_read {P : Program} {f : FuncId} {args0 args : List AV} {r : List (Nat × List AV)} {R : AV → Prop} {H : Hp} {n : Nat} {Q : AV → Hp → Nat → Prop}
    (c : callA P f args0 (rosH 0 r) r.length fun v _ _ => flatB v = true ∧ R v) (hz : zeroBL args0 = true) (ks : List Nat) (hv : viewsL H ks r) (ha : args = renL (idx ks n) args0) (hq : ∀ v, R v → Q v H n) : callA P f args H n Q := by
  subst ha
  have hlen := viewsL_len hv
  refine ⟨c.1, fun N D w lam hH hN hok cs => ?_⟩
  have hlow : ∀ (k j : Nat), ks[k]? = some j → viewE (hget j H) ≠ none → j < n ∧ lam.born j := by
    intro k j hk hne
    cases hg : hget j H with
    | none => rw [hg] at hne; exact absurd rfl hne
    | some e => exact hH.low j e (hget_mem hg)
  have hsit : HSit w.heap.size (fun _ => False) (pull0 (idx ks n) n lam) (rosH 0 r) r.length w := by
    refine ⟨fun k e hk => ?_, fun k e hk => ?_, fun k e hk hw => ?_, fun k e hk hw => ?_, (rosH_keys r 0).2⟩
    · obtain ⟨i, sz, l, hi, hr, rfl⟩ := rosH_get r 0 k e hk
      rw [Nat.zero_add] at hi; subst hi
      obtain ⟨j, l', hj, hvw, ⟨l2, rfl⟩, hfl⟩ := viewsL_get hv _ _ _ hr
      have hidx := idx_get' (n := n) hj
      have hpos : ∀ q, (pull0 (idx ks n) n lam) k q = lam j 0 := fun q => by show lam (idx ks n k) 0 = _; rw [hidx]
      have hF : flatB (.rows sz l) = true := by simpa [flatB] using flatBL_app hfl
      obtain ⟨h1, h2⟩ := view_has hH hvw hfl
      have h1' : (AV.rows sz l).ok lam n := by
        simp only [AV.ok] at h1 ⊢
        exact ⟨(okL_app.1 h1.1).1, (okR_app.1 h1.2.1).1, fun v hv => h1.2.2 v (List.mem_append_left _ hv)⟩
      intro q
      refine ⟨flat_ok hF h1', ?_⟩
      rw [hpos, cells_flat (lam := lam) hF]
      rcases h2 with ⟨h2, h3⟩ | ⟨b, o, c, ty, fr, h2, h3, h4, h5⟩
      · exact .inl ⟨h2, by simp only [AV.size, sizeL_app] at h3 ⊢; omega⟩
      · refine .inr ⟨b, o, c, ty, fr, h2, h3, h4, List.IsPrefix.trans ?_ h5⟩
        rw [cells_rows, cells_rows, List.flatMap_append]
        exact List.prefix_append _ _
    · obtain ⟨i, sz, l, hi, hr, rfl⟩ := rosH_get r 0 k e hk
      rw [Nat.zero_add] at hi; subst hi
      obtain ⟨j, l', hj, hvw, _, hfl⟩ := viewsL_get hv _ _ _ hr
      have hidx := idx_get' (n := n) hj
      have := hlow k j hj (by rw [hvw]; exact fun h => by cases h)
      refine ⟨(List.getElem?_eq_some_iff.1 hr).1, ?_⟩
      show idx ks n k < n ∧ lam.born (idx ks n k)
      rw [hidx]; exact this
    · obtain ⟨i, sz, l, hi, hr, rfl⟩ := rosH_get r 0 k e hk
      cases hw
    · obtain ⟨i, sz, l, hi, hr, rfl⟩ := rosH_get r 0 k e hk
      cases hw
  have hok0 := zero_okL (τ := idx ks n) (m := r.length) (fun k hk => by have := idx_lt hk; omega) hz hok
  have hr := c.2 w.heap.size (fun _ => False) w (pull0 (idx ks n) n lam) hsit (Nat.le_refl _) hok0
  rw [← zero_concL hz] at hr
  obtain ⟨v', w', fr, ⟨v1, H1, n1, lam1, hc, ⟨hfv, hR⟩, hn1, hvok, hH1, hU, hag, hky⟩, hst⟩ := hr cs
  refine ⟨v', w', fr, ⟨v1, H, n, lam, by rw [hc]; exact flat_conc hfv, hq _ hR, Nat.le_refl _, flat_ok hfv hvok, ?_, ?_, agree.refl _ _, KeyS.refl _ _⟩, hst⟩
  · refine ⟨fun k x hk => ?_, hH.low, hH.wr, hH.apart, hH.nd⟩
    refine (hH.has k x hk).move (hH.low k x hk) (keeps.refl _ _) (Nat.le_refl _) (fun i b o hi hl => ?_)
    exact hU.block b ((hH.has k x hk).lt hi hl) (fun h => h)
  · exact ⟨hU.os, hU.tape, hU.output, hU.size, fun b hb hd => hU.block b (by omega) (fun h => h), hU.defr⟩

theorem callA_read1 {P : Program} {f : FuncId} {args0 args : List AV} {sz k : Nat} {rows rows' : List AV} {v : AV} {H : Hp} {n : Nat} {Q : AV → Hp → Nat → Prop}
    (c : callA P f args0 [(0, .ro fun _ => .rows sz rows)] 1 fun v' _ _ => v' = v) (hv : viewE (hget k H) = some (sz, rows')) (hp : rows <+: rows') (hf : flatBL rows' = true) (hz : zeroBL args0 = true) (ha : args = renL (idx [k] n) args0) (hfv : flatB v = true) (hq : Q v H n) : callA P f args H n Q :=
  callA_read (r := [(sz, rows)]) (R := fun v' => v' = v) (callA_mono c (fun v' _ _ e => by subst e; exact ⟨hfv, rfl⟩)) hz [k] ⟨⟨rows', hv, hp, hf⟩, trivial⟩ ha (fun v' e => e ▸ hq)
theorem callA_read2 {P : Program} {f : FuncId} {args0 args : List AV} {sz k sz2 k2 : Nat} {rows rows' rows2 rows2' : List AV} {v : AV} {H : Hp} {n : Nat} {Q : AV → Hp → Nat → Prop}
    (c : callA P f args0 [(0, .ro fun _ => .rows sz rows), (1, .ro fun _ => .rows sz2 rows2)] 2 fun v' _ _ => v' = v) (hv : viewE (hget k H) = some (sz, rows')) (hp : rows <+: rows') (hf : flatBL rows' = true) (hv2 : viewE (hget k2 H) = some (sz2, rows2')) (hp2 : rows2 <+: rows2') (hf2 : flatBL rows2' = true) (hz : zeroBL args0 = true) (ha : args = renL (idx [k, k2] n) args0) (hfv : flatB v = true) (hq : Q v H n) : callA P f args H n Q :=
  callA_read (r := [(sz, rows), (sz2, rows2)]) (R := fun v' => v' = v) (callA_mono c (fun v' _ _ e => by subst e; exact ⟨hfv, rfl⟩)) hz [k, k2] ⟨⟨rows', hv, hp, hf⟩, ⟨rows2', hv2, hp2, hf2⟩, trivial⟩ ha (fun v' e => e ▸ hq)
theorem pre_eq {l : List AV} {m : List AV} (h : l = m) : l <+: m := h ▸ List.prefix_rfl

/-- A late look needs no fork. -/
theorem chkW_want {cx : Cx} {all : List Oper} {base : Nat} {out : List Nat} {d : Option Nat} {op : Op} {b w : Bool} {T : Sl} {H : Hp} (h : ChkW cx all base out d op (some true) T H) : ChkW cx all base out d op (wantO (some (.bool b)) w) T H := by
  unfold wantO
  show ChkW cx all base out d op (some (b == w)) T H
  cases hb : (b == w)
  · exact trivial
  · exact h
theorem chkW_wantA {cx : Cx} {all : List Oper} {base : Nat} {out : List Nat} {d : Option Nat} {op : Op} {b w : Bool} {T : Sl} {H : Hp} {r : Prop} (h : ChkW cx all base out d op (some true) T H) (hr : r) : ChkW cx all base out d op (wantO (some (.bool b)) w) T H ∧ r := ⟨chkW_want h, hr⟩

end Go.Y
