/-
  Contracts used and ended: the conditions on numbers, as they are reckoned.
-/
import Derived.Test.YtbkmhkeihbgcfaaMf
set_option linter.unusedVariables false
set_option linter.unusedSimpArgs false
namespace Go.Y

/-! ### Values without blocks -/
mutual
theorem ren_flat (τ : Nat → Nat) : ∀ {v : AV}, flatB v = true → v.ren τ = v
  | .agg l, h => by simp only [flatB] at h; simp only [AV.ren, renL_flat τ h]
  | .rows sz l, h => by simp only [flatB] at h; simp only [AV.ren, renL_flat τ h]
  | .tup l, h => by simp only [flatB] at h; simp only [AV.ren, renL_flat τ h]
  | .fn f a b, h => by simp only [flatB, Bool.and_eq_true] at h; simp only [AV.ren, renL_flat τ h.1, renL_flat τ h.2]
  | .int .., _ => by simp only [AV.ren]
  | .bool _, _ => by simp only [AV.ren]
  | .str _, _ => by simp only [AV.ren]
  | .nilp, _ => by simp only [AV.ren]
  | .nils, _ => by simp only [AV.ren]
  | .nilm, _ => by simp only [AV.ren]
  | .nilf, _ => by simp only [AV.ren]
  | .ptr .., h => by simp [flatB] at h
  | .slc .., h => by simp [flatB] at h
  | .map _, h => by simp [flatB] at h
  | .yld _, h => by simp [flatB] at h
theorem renL_flat (τ : Nat → Nat) : ∀ {l : List AV}, flatBL l = true → renL τ l = l
  | [], _ => by simp only [renL]
  | v :: r, h => by simp only [flatBL, Bool.and_eq_true] at h; simp only [renL, ren_flat τ h.1, renL_flat τ h.2]
end
theorem flatBL_map {α : Type} {f : α → AV} (h : ∀ a, flatB (f a) = true) : ∀ l : List α, flatBL (l.map f) = true
  | [] => rfl
  | a :: r => by simp [flatBL, h a, flatBL_map h r]
theorem renL_maps {α : Type} {f : α → AV} (h : ∀ a, flatB (f a) = true) (τ : Nat → Nat) (l : List α) : renL τ (l.map f) = l.map f := renL_flat τ (flatBL_map h l)
theorem renL_ints (τ : Nat → Nat) (k : IntKind) (l : List Int) : renL τ (l.map (AV.int k)) = l.map (AV.int k) := renL_maps (fun _ => rfl) τ l
theorem renL_bools (τ : Nat → Nat) (l : List Bool) : renL τ (l.map AV.bool) = l.map AV.bool := renL_maps (fun _ => rfl) τ l

/-! ### Parts, reckoned -/
def subT (τ : Nat → Nat) : Sl → Sl → Prop
  | [], _ => True
  | (t, v) :: r, T => getT T t = some (v.ren τ) ∧ subT τ r T
def subH (τ : Nat → Nat) : Hp → Hp → Prop
  | [], _ => True
  | (k, e) :: r, H => hget (τ k) H = some (e.ren τ) ∧ subH τ r H
def okW (n0 : Nat) (τ : Nat → Nat) : Hp → Prop
  | [] => True
  | (k, e) :: r => (e.writes = true ∨ (k < n0 ∧ e.ren τ = e)) ∧ okW n0 τ r
theorem subT_get {τ : Nat → Nat} {T : Sl} : ∀ {T0 : Sl}, subT τ T0 T → ∀ t v, getT T0 t = some v → getT T t = some (v.ren τ)
  | [], _, t, v, h => by cases h
  | (s, u) :: r, hs, t, v, h => by
    simp only [getT] at h
    split at h
    · rename_i e; subst e; cases h; exact hs.1
    · exact subT_get hs.2 t v h
theorem subH_mem {τ : Nat → Nat} {H : Hp} : ∀ {H0 : Hp}, subH τ H0 H → ∀ k e, (k, e) ∈ H0 → (τ k, e.ren τ) ∈ H
  | [], _, k, e, h => by cases h
  | (c, x) :: r, hs, k, e, h => by
    rcases List.mem_cons.1 h with h | h
    · cases h; exact hget_mem hs.1
    · exact subH_mem hs.2 k e h
theorem okW_mem {n0 : Nat} {τ : Nat → Nat} : ∀ {H0 : Hp}, okW n0 τ H0 → ∀ k e, (k, e) ∈ H0 → e.writes = true ∨ (k < n0 ∧ e.ren τ = e)
  | [], _, k, e, h => by cases h
  | (c, x) :: r, hs, k, e, h => by
    rcases List.mem_cons.1 h with h | h
    · cases h; exact hs.1
    · exact okW_mem hs.2 k e h
def keysB (H : Hp) : List Nat := H.map (·.1)
theorem keysB_nil : keysB [] = [] := rfl
theorem keysB_cons (k : Nat) (e : Ent) (r : Hp) : keysB ((k, e) :: r) = k :: keysB r := rfl
def ndB : List Nat → Bool
  | [] => true
  | x :: r => !memb x r && ndB r
theorem ndB_nodup : ∀ {l : List Nat}, ndB l = true → l.Nodup
  | [], _ => List.nodup_nil
  | x :: r, h => by
    simp only [ndB, Bool.and_eq_true] at h
    exact List.nodup_cons.2 ⟨memb_false h.1, ndB_nodup h.2⟩
def lowB (n0 : Nat) (l : List Nat) (n : Nat) : Bool := decide (n0 ≤ l.length) && decide (n0 ≤ n) && (List.range n0).all fun k => idx l n k == k
theorem reid_of {n0 : Nat} {l : List Nat} {st st0 : St} (hlen : st0.n = l.length) (hnd : l.Nodup) (hlow : lowB n0 l st.n = true) (hT : subT (idx l st.n) st0.T st.T) (hH : subH (idx l st.n) st0.H st.H)
    (hk : (keysB st0.H).Nodup) (hw : okW n0 (idx l st.n) st0.H) : Reid n0 l st st0 := by
  simp only [lowB, Bool.and_eq_true, decide_eq_true_eq, List.all_eq_true, List.mem_range, beq_iff_eq] at hlow
  exact ⟨hlen, hnd, ⟨hlow.1.1, hlow.2⟩, subT_get hT, subH_mem hH, hk, okW_mem hw, hlow.1.2⟩

/-- A contract that ends under other numbers. -/
def ReidP (m : Nat) (Q : AV → Hp → Nat → Prop) (v : AV) (H' : Hp) (n' : Nat) : Prop := ∃ l v0 H0, Reid m l ⟨[], H', n'⟩ ⟨[], H0, l.length⟩ ∧ v = v0.ren (idx l n') ∧ Q v0 H0 l.length
theorem reidP_of {m : Nat} {Q : AV → Hp → Nat → Prop} {v : AV} {H' : Hp} {n' : Nat} (l : List Nat) (v0 : AV) (H0 : Hp) (hnd : ndB l = true) (hlow : lowB m l n' = true) (hk : ndB (keysB H0) = true)
    (hv : v = v0.ren (idx l n')) (hH : subH (idx l n') H0 H') (hw : okW m (idx l n') H0) (hq : Q v0 H0 l.length) : ReidP m Q v H' n' := ⟨l, v0, H0, reid_of rfl (ndB_nodup hnd) hlow trivial hH (ndB_nodup hk) hw, hv, hq⟩
theorem callA_reid {P : Program} {f : FuncId} {args : List AV} {H : Hp} {m : Nat} {Q : AV → Hp → Nat → Prop} (h : callA P f args H m (ReidP m Q)) : callA P f args H m Q := by
  refine ⟨h.1, fun N D w lam hH hN hok => (h.2 N D w lam hH hN hok).mono fun v' w' ha => ?_⟩
  obtain ⟨v, H', n', lam', hv, ⟨l, v0, H0, hr, rfl, hq⟩, hn, hvok, hH', hU, hag, hky⟩ := ha
  have hI := idx_idx (n := n') hr.nd
  have hv0 := pull_ok (lam := lam') hI hvok
  have hlow : ∀ k, k < m → idx l n' k = k := hr.low.2
  refine ⟨v0, H0, l.length, pull (idx l n') n' lam', by rw [hv, (pull_lift hI).conc hv0], hq, hr.low.1, hv0,
    pull_hsit hI hH' (fun j x hj => ?_) hr.keys (fun k e hk hw b o hl => hH'.wr _ _ (hr.part k e hk) (by rw [writes_ren]; exact hw) b o hl), hU, ⟨fun k hk hb => ?_, fun k hk hb => ?_⟩, fun j x hj => ?_⟩
  · obtain ⟨k, e, hk, rfl, rfl⟩ := renH_mem.1 hj
    exact hr.part k e hk
  · have e := hlow k hk
    have := hag.keeps k hk hb
    refine ⟨?_, fun i => ?_⟩
    · show idx l n' k < n' ∧ lam'.born (idx l n' k)
      rw [e]; exact ⟨Nat.lt_of_lt_of_le hk hn, this.1⟩
    · show lam' (idx l n' k) i = _
      rw [e]; exact this.2 i
  · have e := hlow k hk
    have h2 : lam'.born (idx l n' k) := hb.2
    rw [e] at h2
    exact hag.back k hk h2
  · have hp := hr.part j x hj
    by_cases hlt : j < m
    · have e : idx l n' j = j := hlow j hlt
      simp only [e] at hp
      rcases hky j _ hp with ⟨y, hy, he⟩ | ⟨hg, _⟩
      · refine .inl ⟨y, hy, fun hx => ?_⟩
        rcases hr.wr j x hj with hw | ⟨_, hxe⟩
        · rw [hw] at hx; cases hx
        · simp only at hxe
          rw [← hxe]
          exact he (by rw [writes_ren]; exact hx)
      · omega
    · rcases hr.wr j x hj with hw | ⟨hl2, _⟩
      · exact .inr ⟨by omega, hw⟩
      · omega

/-- **A contract, used** at other numbers, beside other blocks. -/
theorem callA_use {P : Program} {f : FuncId} {args0 args : List AV} {H0 H : Hp} {m n : Nat} {Q0 Q : AV → Hp → Nat → Prop} (c : callA P f args0 H0 m Q0) (l : List Nat) (hm : l.length = m) (hnd : l.Nodup) (hlt : l.all (fun j => decide (j < n)) = true)
    (hk : (keysB H0).Nodup) (ha : args = renL (idx l n) args0) (hs : subH (idx l n) H0 H)
    (hQ : ∀ v H1 m1, m ≤ m1 → Q0 v H1 m1 → Q (v.ren (idx l n)) (renH (idx l n) H1 ++ hideH (keysB (renH (idx l n) H0)) H) (n + (m1 - m))) : callA P f args H n Q := by
  subst hm ha
  refine ⟨c.1, fun N D w lam h hN hok => ?_⟩
  have hp : Part l n H H0 (hideH (keysB (renH (idx l n) H0)) H) := by
    refine ⟨hnd, fun j hj => by simpa using List.all_eq_true.1 hlt j hj, fun j x hj => ?_, hk, fun j x hj => (hideH_mem.1 hj).1, h.nd.sublist ((hideH_sub _ H).map _), fun j x x' hj hx' => ?_⟩
    · obtain ⟨k, e, hk, rfl, rfl⟩ := renH_mem.1 hj
      exact subH_mem hs k e hk
    · exact (hideH_mem.1 hx').2 (List.mem_map.2 ⟨_, hj, rfl⟩)
  have hok0 := pull_okL (lam := lam) (idx_idx hp.nd) hok
  have := c.2 w.heap.size (rowsOf (idx l n) H0 lam) w (pull (idx l n) n lam) (hp.hsit h) (Nat.le_refl _) hok0
  rw [← (pull_lift (lam := lam) (idx_idx hp.nd)).concL hok0] at this
  exact this.mono fun v' w' hA => after_at hp h hN hA hQ

theorem renL_set (τ : Nat → Nat) (l : List AV) (i : Nat) (v : AV) : renL τ (l.set i v) = (renL τ l).set i (v.ren τ) := by rw [renL_map, renL_map, List.map_set]
theorem renL_app (τ : Nat → Nat) (l m : List AV) : renL τ (l ++ m) = renL τ l ++ renL τ m := by rw [renL_map, renL_map, renL_map, List.map_append]
theorem map_set_last {α : Type} (f : α → AV) (l : List α) (a b : AV) : (l.map f ++ [a]).set l.length b = l.map f ++ [b] := by
  rw [List.set_append_right _ _ (by simp)]; simp
end Go.Y
