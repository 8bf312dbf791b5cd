/-
  Numbers of blocks turned: what holds of a state under other numbers.
-/
import Derived.Test.YtbkmhkeihbgcfaaYy
set_option linter.unusedVariables false
set_option linter.unusedSimpArgs false
namespace Go.Y

mutual
/-- A value under other numbers. -/
def AV.ren (τ : Nat → Nat) : AV → AV
  | .int k n => .int k n
  | .bool b => .bool b
  | .str s => .str s
  | .agg l => .agg (renL τ l)
  | .rows sz l => .rows sz (renL τ l)
  | .tup l => .tup (renL τ l)
  | .ptr k i p => .ptr (τ k) i p
  | .nilp => .nilp
  | .slc k i p n a s len cap => .slc (τ k) i p n a s len cap
  | .nils => .nils
  | .map k => .map (τ k)
  | .nilm => .nilm
  | .fn f a b => .fn f (renL τ a) (renL τ b)
  | .yld k => .yld (τ k)
  | .nilf => .nilf
def renL (τ : Nat → Nat) : List AV → List AV
  | [] => []
  | v :: r => v.ren τ :: renL τ r
end
def renT (τ : Nat → Nat) : Sl → Sl
  | [] => []
  | (t, v) :: r => (t, v.ren τ) :: renT τ r
def renM (τ : Nat → Nat) : List (AV × AV) → List (AV × AV)
  | [] => []
  | (x, y) :: r => (x.ren τ, y.ren τ) :: renM τ r
def Ent.ren (τ : Nat → Nat) : Ent → Ent
  | .cel v => .cel (v.ren τ)
  | .vec cap n l => .vec cap n (renL τ l)
  | .ro f => .ro fun i => (f i).ren τ
  | .mp m => .mp (renM τ m)
  | .lk s m => .lk s (renM τ m)
  | .it s seen m => .it s seen (τ m)
  | .lp r => .lp ⟨r.fn, r.nt, renT τ r.T, r.ps, r.assign, r.body, r.st⟩
def renH (τ : Nat → Nat) : Hp → Hp
  | [] => []
  | (k, e) :: r => (τ k, e.ren τ) :: renH τ r

theorem renL_map (τ : Nat → Nat) : ∀ l : List AV, renL τ l = l.map (AV.ren τ)
  | [] => rfl
  | v :: r => by simp [renL, renL_map τ r]
theorem renH_map (τ : Nat → Nat) : ∀ H : Hp, renH τ H = H.map fun q => (τ q.1, q.2.ren τ)
  | [] => rfl
  | (k, e) :: r => by simp [renH, renH_map τ r]
theorem renM_map (τ : Nat → Nat) : ∀ m : List (AV × AV), renM τ m = m.map fun q => (q.1.ren τ, q.2.ren τ)
  | [] => rfl
  | (k, e) :: r => by simp [renM, renM_map τ r]
theorem renH_mem {τ : Nat → Nat} {H : Hp} {j : Nat} {x : Ent} : (j, x) ∈ renH τ H ↔ ∃ k e, (k, e) ∈ H ∧ τ k = j ∧ e.ren τ = x := by
  rw [renH_map, List.mem_map]
  constructor
  · rintro ⟨⟨k, e⟩, h, he⟩; cases he; exact ⟨k, e, h, rfl, rfl⟩
  · rintro ⟨k, e, h, rfl, rfl⟩; exact ⟨(k, e), h, rfl⟩
theorem renH_keys (τ : Nat → Nat) (H : Hp) : (renH τ H).map (·.1) = (H.map (·.1)).map τ := by
  rw [renH_map]; simp
theorem getT_ren (τ : Nat → Nat) : ∀ (T : Sl) (t : Nat), getT (renT τ T) t = (getT T t).map (AV.ren τ)
  | [], t => rfl
  | (s, v) :: r, t => by
    simp only [renT, getT, getT_ren τ r t]
    split <;> rfl
theorem writes_ren (τ : Nat → Nat) (e : Ent) : (e.ren τ).writes = e.writes := by cases e <;> rfl

/-- Two ways to lay blocks: what is born of the first lies, under its other number, where it lies. -/
structure Lift (τ : Nat → Nat) (m n : Nat) (lam0 lam : Lam) : Prop where
  lt : ∀ k, k < m → lam0.born k → τ k < n
  born : ∀ k, k < m → lam0.born k → lam.born (τ k)
  pos : ∀ k, k < m → lam0.born k → ∀ i, lam (τ k) i = lam0 k i
  inj : ∀ k k', k < m → k' < m → lam0.born k → lam0.born k' → τ k = τ k' → k = k'

section
variable {τ : Nat → Nat} {m n : Nat} {lam0 lam : Lam}

mutual
theorem Lift.conc (h : Lift τ m n lam0 lam) : ∀ {v : AV}, v.ok lam0 m → (v.ren τ).conc lam = v.conc lam0
  | .agg l, hv => by simp only [AV.ok] at hv; simp only [AV.ren, AV.conc, Lift.concL h hv.1]
  | .rows sz l, hv => by simp only [AV.ok] at hv; simp only [AV.ren, AV.conc, Lift.concL h hv.1]
  | .tup l, hv => by simp only [AV.ok] at hv; simp only [AV.ren, AV.conc, Lift.concL h hv]
  | .ptr k i p, hv => by simp only [AV.ok] at hv; simp only [AV.ren, AV.conc, h.pos k hv.1 hv.2.1 i]
  | .slc k i p n a s len cap, hv => by simp only [AV.ok] at hv; simp only [AV.ren, AV.conc, h.pos k hv.1 hv.2.1 i]
  | .map k, hv => by simp only [AV.ok] at hv; simp only [AV.ren, AV.conc, h.pos k hv.1 hv.2.1 0]
  | .yld k, hv => by simp only [AV.ok] at hv; simp only [AV.ren, AV.conc, h.pos k hv.1 hv.2.1 0]
  | .fn f a b, hv => by simp only [AV.ok] at hv; simp only [AV.ren, AV.conc, Lift.concL h hv.1, Lift.concL h hv.2.1]
  | .int .., _ => by simp only [AV.ren, AV.conc]
  | .bool _, _ => by simp only [AV.ren, AV.conc]
  | .str _, _ => by simp only [AV.ren, AV.conc]
  | .nilp, _ => by simp only [AV.ren, AV.conc]
  | .nils, _ => by simp only [AV.ren, AV.conc]
  | .nilm, _ => by simp only [AV.ren, AV.conc]
  | .nilf, _ => by simp only [AV.ren, AV.conc]
theorem Lift.concL (h : Lift τ m n lam0 lam) : ∀ {l : List AV}, okL lam0 m l → Y.concL lam (renL τ l) = Y.concL lam0 l
  | [], _ => by simp only [renL, Y.concL]
  | v :: r, hv => by simp only [okL] at hv; simp only [renL, Y.concL, Lift.conc h hv.1, Lift.concL h hv.2]
end

mutual
theorem ren_size (τ : Nat → Nat) : ∀ v : AV, (v.ren τ).size = v.size
  | .agg l => by simp only [AV.ren, AV.size, renL_size τ l]
  | .rows sz l => by simp only [AV.ren, AV.size, renL_size τ l]
  | .tup l => by simp only [AV.ren, AV.size]
  | .ptr k i p => by simp only [AV.ren, AV.size]
  | .slc k i p n a s len cap => by simp only [AV.ren, AV.size]
  | .map k => by simp only [AV.ren, AV.size]
  | .yld k => by simp only [AV.ren, AV.size]
  | .fn f a b => by simp only [AV.ren, AV.size]
  | .int .. => by simp only [AV.ren, AV.size]
  | .bool _ => by simp only [AV.ren, AV.size]
  | .str _ => by simp only [AV.ren, AV.size]
  | .nilp => by simp only [AV.ren, AV.size]
  | .nils => by simp only [AV.ren, AV.size]
  | .nilm => by simp only [AV.ren, AV.size]
  | .nilf => by simp only [AV.ren, AV.size]
theorem renL_size (τ : Nat → Nat) : ∀ l : List AV, sizeL (renL τ l) = sizeL l
  | [] => by simp only [renL, sizeL]
  | v :: r => by simp only [renL, sizeL, ren_size τ v, renL_size τ r]
end
theorem ren_isTup (τ : Nat → Nat) (v : AV) : (v.ren τ).isTup = v.isTup := by cases v <;> simp [AV.ren, AV.isTup]
theorem ren_isAgg (τ : Nat → Nat) (v : AV) : (v.ren τ).isAgg = v.isAgg := by cases v <;> simp [AV.ren, AV.isAgg]
theorem okR_ren {sz : Nat} {l : List AV} : okR sz (renL τ l) ↔ okR sz l := by
  rw [okR_mem, okR_mem, renL_map]; simp [ren_size]
theorem okT_ren {l : List AV} : okT (renL τ l) ↔ okT l := by
  unfold okT; rw [renL_map]; simp [ren_isTup]

mutual
theorem Lift.ok (h : Lift τ m n lam0 lam) : ∀ {v : AV}, v.ok lam0 m → (v.ren τ).ok lam n
  | .agg l, hv => by simp only [AV.ok] at hv; simp only [AV.ren, AV.ok]; exact ⟨Lift.okL h hv.1, okT_ren.2 hv.2⟩
  | .rows sz l, hv => by simp only [AV.ok] at hv; simp only [AV.ren, AV.ok]; exact ⟨Lift.okL h hv.1, okR_ren.2 hv.2.1, okT_ren.2 hv.2.2⟩
  | .tup l, hv => by simp only [AV.ok] at hv; simp only [AV.ren, AV.ok]; exact Lift.okL h hv
  | .ptr k i p, hv => by simp only [AV.ok] at hv; simp only [AV.ren, AV.ok, h.pos k hv.1 hv.2.1 i]; exact ⟨h.lt k hv.1 hv.2.1, h.born k hv.1 hv.2.1, hv.2.2⟩
  | .slc k i p _ a s len cap, hv => by simp only [AV.ok] at hv; simp only [AV.ren, AV.ok, h.pos k hv.1 hv.2.1 i]; exact ⟨h.lt k hv.1 hv.2.1, h.born k hv.1 hv.2.1, hv.2.2⟩
  | .map k, hv => by simp only [AV.ok] at hv; simp only [AV.ren, AV.ok, h.pos k hv.1 hv.2.1 0]; exact ⟨h.lt k hv.1 hv.2.1, h.born k hv.1 hv.2.1, hv.2.2⟩
  | .yld k, hv => by simp only [AV.ok] at hv; simp only [AV.ren, AV.ok, h.pos k hv.1 hv.2.1 0]; exact ⟨h.lt k hv.1 hv.2.1, h.born k hv.1 hv.2.1, hv.2.2⟩
  | .fn f a b, hv => by simp only [AV.ok] at hv; simp only [AV.ren, AV.ok]; exact ⟨Lift.okL h hv.1, Lift.okL h hv.2.1, hv.2.2⟩
  | .int .., _ => by simp only [AV.ren, AV.ok]
  | .bool _, _ => by simp only [AV.ren, AV.ok]
  | .str _, _ => by simp only [AV.ren, AV.ok]
  | .nilp, _ => by simp only [AV.ren, AV.ok]
  | .nils, _ => by simp only [AV.ren, AV.ok]
  | .nilm, _ => by simp only [AV.ren, AV.ok]
  | .nilf, _ => by simp only [AV.ren, AV.ok]
theorem Lift.okL (h : Lift τ m n lam0 lam) : ∀ {l : List AV}, okL lam0 m l → Y.okL lam n (renL τ l)
  | [], _ => by simp only [renL, Y.okL]
  | v :: r, hv => by simp only [Y.okL] at hv; simp only [renL, Y.okL]; exact ⟨Lift.ok h hv.1, Lift.okL h hv.2⟩
end

theorem Lift.cells (h : Lift τ m n lam0 lam) {v : AV} (hv : v.ok lam0 m) : cellsA lam (v.ren τ) = cellsA lam0 v := by
  unfold cellsA; rw [h.conc hv]
theorem Lift.flat (h : Lift τ m n lam0 lam) {l : List AV} (hl : Y.okL lam0 m l) : (renL τ l).flatMap (cellsA lam) = l.flatMap (cellsA lam0) := by
  rw [okL_mem] at hl
  induction l with
  | nil => rfl
  | cons v r ih =>
    simp only [renL]
    rw [List.flatMap_cons, List.flatMap_cons, h.cells (hl v List.mem_cons_self), ih (fun u hu => hl u (List.mem_cons_of_mem _ hu))]
theorem Lift.trel (h : Lift τ m n lam0 lam) {T : Sl} {tmps : Array Value} (hT : TRel lam0 m T tmps) : TRel lam n (renT τ T) tmps := by
  intro t v hv
  rw [getT_ren] at hv
  obtain ⟨u, hu, rfl⟩ := Option.map_eq_some_iff.1 hv
  obtain ⟨h1, h2⟩ := hT t u hu
  exact ⟨by rw [h1, h.conc h2], h.ok h2⟩

theorem Lift.hasE (h : Lift τ m n lam0 lam) {w : World} {k : Nat} {e : Ent} (hk : k < m ∧ lam0.born k) (he : HasE lam0 m w k e) : HasE lam n w (τ k) (e.ren τ) := by
  have hp := h.pos k hk.1 hk.2
  cases e with
  | cel v =>
    obtain ⟨h1, h2, b, c, ty, h3, h4, h5⟩ := he
    exact ⟨h.ok h1, by rw [ren_isTup, h2], b, c, ty, by rw [hp, h3], h4, by rw [h5, h.cells h1]⟩
  | vec cap sz l =>
    obtain ⟨h1, h2, h2', hlen, h3⟩ := he
    refine ⟨h.okL h1, okR_ren.2 h2, ?_, by rw [renL_map, List.length_map]; exact hlen, ?_⟩
    · rw [renL_map]
      intro v hv
      obtain ⟨u, hu, rfl⟩ := List.mem_map.1 hv
      rw [ren_isTup]; exact h2' u hu
    · rcases h3 with ⟨h3, h4⟩ | ⟨b, c, ty, h3, h4, h5, h6⟩
      · exact .inl ⟨by rw [hp, h3], h4⟩
      · exact .inr ⟨b, c, ty, by rw [hp, h3], h4, h5, by rw [h.flat h1]; exact h6⟩
  | ro f =>
    intro i
    obtain ⟨h1, h2⟩ := he i
    refine ⟨h.ok h1, ?_⟩
    rcases h2 with ⟨h2, h3⟩ | ⟨b, o, c, ty, fr, h2, h3, h4, h5⟩
    · exact .inl ⟨by rw [hp, h2], by rw [ren_size, h3]⟩
    · exact .inr ⟨b, o, c, ty, fr, by rw [hp, h2], h3, h4, by rw [h.cells h1]; exact h5⟩
  | mp q =>
    obtain ⟨h1, b, o, es, clock, h2, h3, h4, h5⟩ := he
    refine ⟨fun x y hxy => ?_, b, o, es, clock, by rw [hp, h2], h3, h4, ?_⟩
    · rw [renM_map] at hxy
      obtain ⟨⟨x0, y0⟩, hm, e⟩ := List.mem_map.1 hxy
      cases e
      exact ⟨h.ok (h1 x0 y0 hm).1, h.ok (h1 x0 y0 hm).2⟩
    · rw [h5, renM_map, List.map_map]
      apply List.map_congr_left
      rintro ⟨x, y⟩ hxy
      simp only [Function.comp, h.conc (h1 x y hxy).1, h.conc (h1 x y hxy).2]
  | lk s q =>
    obtain ⟨h1, b, o, h2, h3, h4, h5⟩ := he
    refine ⟨fun x y hxy => ?_, b, o, by rw [hp, h2], h3, h4, ?_⟩
    · rw [renM_map] at hxy
      obtain ⟨⟨x0, y0⟩, hm, e⟩ := List.mem_map.1 hxy
      cases e
      exact ⟨h.ok (h1 x0 y0 hm).1, h.ok (h1 x0 y0 hm).2⟩
    · rw [h5, renM_map, List.map_map]
      apply List.map_congr_left
      rintro ⟨x, y⟩ hxy
      simp only [Function.comp, h.conc (h1 x y hxy).1, h.conc (h1 x y hxy).2]
  | it s sn q =>
    obtain ⟨h1, h2, h3, b, bm, om, last, h4, h5, h6, h7⟩ := he
    exact ⟨⟨h.lt q h1.1 h1.2, h.born q h1.1 h1.2⟩, h2, h3, b, bm, om, last, by rw [hp, h4], by rw [h.pos q h1.1 h1.2, h5], h6, h7⟩
  | lp r =>
    obtain ⟨b, o, l, h1, h2, h3, h4, h5, h6, h7, h8, h9⟩ := he
    exact ⟨b, o, l, by rw [hp, h1], h2, h3, h4, h5, h6, h.trel h7, h8, h9⟩

theorem ren_writes {e : Ent} (h : (e.ren τ).writes = true) : e.writes = true := by rw [writes_ren] at h; exact h

theorem Lift.hsit (h : Lift τ m n lam0 lam) {N : Nat} {D : Nat → Prop} {w : World} {H : Hp} (hH : HSit N D lam0 H m w) : HSit N D lam (renH τ H) n w := by
  refine ⟨fun j x hx => ?_, fun j x hx => ?_, fun j x hx hw b o hl => ?_, fun j x hx hw j' x' hx' i b o o' hi hl hl' => ?_, ?_⟩
  · obtain ⟨k, e, hm, rfl, rfl⟩ := renH_mem.1 hx
    exact h.hasE (hH.low k e hm) (hH.has k e hm)
  · obtain ⟨k, e, hm, rfl, rfl⟩ := renH_mem.1 hx
    obtain ⟨h1, h2⟩ := hH.low k e hm
    exact ⟨h.lt k h1 h2, h.born k h1 h2⟩
  · obtain ⟨k, e, hm, rfl, rfl⟩ := renH_mem.1 hx
    obtain ⟨h1, h2⟩ := hH.low k e hm
    rw [h.pos k h1 h2] at hl
    exact hH.wr k e hm (ren_writes hw) b o hl
  · obtain ⟨k, e, hm, rfl, rfl⟩ := renH_mem.1 hx
    obtain ⟨k', e', hm', rfl, rfl⟩ := renH_mem.1 hx'
    obtain ⟨h1, h2⟩ := hH.low k e hm
    obtain ⟨h1', h2'⟩ := hH.low k' e' hm'
    rw [h.pos k h1 h2] at hl
    rw [h.pos k' h1' h2'] at hl'
    rw [writes_ren] at hi
    obtain ⟨rfl, rfl⟩ := hH.apart k e hm (ren_writes hw) k' e' hm' i b o o' hi hl hl'
    exact ⟨rfl, rfl⟩
  · rw [renH_keys]
    refine List.Pairwise.map τ (R := fun k k' => (k ≠ k' ∧ k ∈ H.map (·.1) ∧ k' ∈ H.map (·.1))) ?_ ?_
    · rintro k k' ⟨hne, hk, hk'⟩ he
      obtain ⟨⟨k, e⟩, hm, rfl⟩ := List.mem_map.1 hk
      obtain ⟨⟨k', e'⟩, hm', rfl⟩ := List.mem_map.1 hk'
      obtain ⟨h1, h2⟩ := hH.low k e hm
      obtain ⟨h1', h2'⟩ := hH.low k' e' hm'
      exact hne (h.inj k k' h1 h1' h2 h2' he)
    · have hnd := hH.nd
      unfold List.Nodup at hnd
      rw [List.pairwise_iff_forall_sublist] at hnd ⊢
      intro a b hs
      exact ⟨hnd hs, hs.subset (by simp), hs.subset (by simp)⟩
end

/-- The way back: the blocks of m numbers, as they lie under their other numbers below n. -/
def pull (τ : Nat → Nat) (n : Nat) (lam : Lam) : Lam := ⟨fun k i => lam (τ k) i, fun k => τ k < n ∧ lam.born (τ k)⟩

section
variable {τ : Nat → Nat} {m n : Nat} {lam : Lam}
/-- Which numbers there are: those below m are below n, others are beyond. -/
def Idx (τ : Nat → Nat) (m n : Nat) : Prop := (∀ k, τ k < n → k < m) ∧ ∀ k k', k < m → k' < m → τ k = τ k' → k = k'

theorem pull_lift (hτ : Idx τ m n) : Lift τ m n (pull τ n lam) lam :=
  ⟨fun k _ hb => hb.1, fun k _ hb => hb.2, fun k _ hb i => rfl, fun k k' hk hk' _ _ e => hτ.2 k k' hk hk' e⟩

mutual
theorem pull_ok (hτ : Idx τ m n) : ∀ {v : AV}, (v.ren τ).ok lam n → v.ok (pull τ n lam) m
  | .agg l, hv => by simp only [AV.ren, AV.ok] at hv ⊢; exact ⟨pull_okL hτ hv.1, okT_ren.1 hv.2⟩
  | .rows sz l, hv => by simp only [AV.ren, AV.ok] at hv ⊢; exact ⟨pull_okL hτ hv.1, okR_ren.1 hv.2.1, okT_ren.1 hv.2.2⟩
  | .tup l, hv => by simp only [AV.ren, AV.ok] at hv ⊢; exact pull_okL hτ hv
  | .ptr k i p, hv => by simp only [AV.ren, AV.ok] at hv ⊢; exact ⟨hτ.1 k hv.1, ⟨hv.1, hv.2.1⟩, hv.2.2⟩
  | .slc k i p _ a s len cap, hv => by simp only [AV.ren, AV.ok] at hv ⊢; exact ⟨hτ.1 k hv.1, ⟨hv.1, hv.2.1⟩, hv.2.2⟩
  | .map k, hv => by simp only [AV.ren, AV.ok] at hv ⊢; exact ⟨hτ.1 k hv.1, ⟨hv.1, hv.2.1⟩, hv.2.2⟩
  | .yld k, hv => by simp only [AV.ren, AV.ok] at hv ⊢; exact ⟨hτ.1 k hv.1, ⟨hv.1, hv.2.1⟩, hv.2.2⟩
  | .fn f a b, hv => by simp only [AV.ren, AV.ok] at hv ⊢; exact ⟨pull_okL hτ hv.1, pull_okL hτ hv.2.1, hv.2.2⟩
  | .int .., _ => by simp only [AV.ok]
  | .bool _, _ => by simp only [AV.ok]
  | .str _, _ => by simp only [AV.ok]
  | .nilp, _ => by simp only [AV.ok]
  | .nils, _ => by simp only [AV.ok]
  | .nilm, _ => by simp only [AV.ok]
  | .nilf, _ => by simp only [AV.ok]
theorem pull_okL (hτ : Idx τ m n) : ∀ {l : List AV}, okL lam n (renL τ l) → okL (pull τ n lam) m l
  | [], _ => by simp only [okL]
  | v :: r, hv => by simp only [renL, okL] at hv ⊢; exact ⟨pull_ok hτ hv.1, pull_okL hτ hv.2⟩
end

theorem pull_trel (hτ : Idx τ m n) {T : Sl} {tmps : Array Value} (hT : TRel lam n (renT τ T) tmps) : TRel (pull τ n lam) m T tmps := by
  intro t v hv
  have := hT t (v.ren τ) (by rw [getT_ren, hv]; rfl)
  have hok := pull_ok hτ this.2
  exact ⟨by rw [this.1, (pull_lift hτ).conc hok], hok⟩

theorem pull_hasE (hτ : Idx τ m n) {w : World} {k : Nat} {e : Ent} (he : HasE lam n w (τ k) (e.ren τ)) : HasE (pull τ n lam) m w k e := by
  have L := pull_lift (lam := lam) hτ
  cases e with
  | cel v =>
    obtain ⟨h1, h2, b, c, ty, h3, h4, h5⟩ := he
    have hok := pull_ok hτ h1
    exact ⟨hok, by rw [ren_isTup] at h2; exact h2, b, c, ty, h3, h4, by rw [h5, L.cells hok]⟩
  | vec cap sz l =>
    obtain ⟨h1, h2, h2', hlen, h3⟩ := he
    have hok := pull_okL hτ h1
    refine ⟨hok, okR_ren.1 h2, fun v hv => ?_, by rw [renL_map, List.length_map] at hlen; exact hlen, ?_⟩
    · have := h2' (v.ren τ) (by rw [renL_map]; exact List.mem_map_of_mem hv)
      rw [ren_isTup] at this; exact this
    · rcases h3 with ⟨h3, h4⟩ | ⟨b, c, ty, h3, h4, h5, h6⟩
      · exact .inl ⟨h3, h4⟩
      · exact .inr ⟨b, c, ty, h3, h4, h5, by rw [← L.flat hok]; exact h6⟩
  | ro f =>
    intro i
    obtain ⟨h1, h2⟩ := he i
    have hok := pull_ok hτ h1
    refine ⟨hok, ?_⟩
    rcases h2 with ⟨h2, h3⟩ | ⟨b, o, c, ty, fr, h2, h3, h4, h5⟩
    · exact .inl ⟨h2, by rw [ren_size] at h3; exact h3⟩
    · exact .inr ⟨b, o, c, ty, fr, h2, h3, h4, by rw [← L.cells hok]; exact h5⟩
  | mp q =>
    obtain ⟨h1, b, o, es, clock, h2, h3, h4, h5⟩ := he
    have hok : ∀ x y, (x, y) ∈ q → x.ok (pull τ n lam) m ∧ y.ok (pull τ n lam) m := fun x y hxy => by
      have := h1 (x.ren τ) (y.ren τ) (by rw [renM_map]; exact List.mem_map.2 ⟨(x, y), hxy, rfl⟩)
      exact ⟨pull_ok hτ this.1, pull_ok hτ this.2⟩
    refine ⟨hok, b, o, es, clock, h2, h3, h4, ?_⟩
    rw [h5, renM_map, List.map_map]
    apply List.map_congr_left
    rintro ⟨x, y⟩ hxy
    simp only [Function.comp, L.conc (hok x y hxy).1, L.conc (hok x y hxy).2]
  | lk s q =>
    obtain ⟨h1, b, o, h2, h3, h4, h5⟩ := he
    have hok : ∀ x y, (x, y) ∈ q → x.ok (pull τ n lam) m ∧ y.ok (pull τ n lam) m := fun x y hxy => by
      have := h1 (x.ren τ) (y.ren τ) (by rw [renM_map]; exact List.mem_map.2 ⟨(x, y), hxy, rfl⟩)
      exact ⟨pull_ok hτ this.1, pull_ok hτ this.2⟩
    refine ⟨hok, b, o, h2, h3, h4, ?_⟩
    rw [h5, renM_map, List.map_map]
    apply List.map_congr_left
    rintro ⟨x, y⟩ hxy
    simp only [Function.comp, L.conc (hok x y hxy).1, L.conc (hok x y hxy).2]
  | it s sn q =>
    obtain ⟨h1, h2, h3, b, bm, om, last, h4, h5, h6, h7⟩ := he
    exact ⟨⟨hτ.1 q h1.1, ⟨h1.1, h1.2⟩⟩, h2, h3, b, bm, om, last, h4, h5, h6, h7⟩
  | lp r =>
    obtain ⟨b, o, l, h1, h2, h3, h4, h5, h6, h7, h8, h9⟩ := he
    exact ⟨b, o, l, h1, h2, h3, h4, h5, h6, pull_trel hτ h7, h8, h9⟩

theorem pull_hsit (hτ : Idx τ m n) {N : Nat} {D : Nat → Prop} {w : World} {H H0 : Hp} (hH : HSit N D lam H n w) (hs : ∀ j x, (j, x) ∈ renH τ H0 → (j, x) ∈ H) (hnd : (H0.map (·.1)).Nodup)
    {N' : Nat} {D' : Nat → Prop} (hD : ∀ k e, (k, e) ∈ H0 → e.writes = true → ∀ b o, lam (τ k) 0 = some (b, o) → D' b ∨ N' ≤ b) : HSit N' D' (pull τ n lam) H0 m w := by
  have mem : ∀ k e, (k, e) ∈ H0 → (τ k, e.ren τ) ∈ H := fun k e h => hs _ _ (renH_mem.2 ⟨k, e, h, rfl, rfl⟩)
  have low : ∀ k e, (k, e) ∈ H0 → k < m := fun k e h => hτ.1 k (hH.low _ _ (mem k e h)).1
  refine ⟨fun k e hk => pull_hasE hτ (hH.has _ _ (mem k e hk)), fun k e hk => ⟨low k e hk, hH.low _ _ (mem k e hk)⟩, fun k e hk hw b o hl => hD k e hk hw b o hl,
    fun k e hk hw k' e' hk' i b o o' hi hl hl' => ?_, hnd⟩
  obtain ⟨h1, h2⟩ := hH.apart _ _ (mem k e hk) (by rw [writes_ren]; exact hw) _ _ (mem k' e' hk') i b o o' (by rw [writes_ren]; exact hi) hl hl'
  exact ⟨hτ.2 k' k (low _ _ hk') (low _ _ hk) h1, h2⟩
end

/-- The numbers of a list, and those beyond. -/
def idx : List Nat → Nat → Nat → Nat
  | [], n, k => n + k
  | j :: r, n, 0 => j
  | j :: r, n, k + 1 => idx r n k
theorem idx_lt : ∀ {l : List Nat} {n k : Nat}, idx l n k < n → k < l.length
  | [], n, k, h => by simp [idx] at h; omega
  | j :: r, n, 0, _ => by simp
  | j :: r, n, k + 1, h => by simp only [idx] at h; have := idx_lt h; simp; omega
theorem idx_get : ∀ {l : List Nat} {n k : Nat}, k < l.length → idx l n k ∈ l
  | [], n, k, h => by simp at h
  | j :: r, n, 0, _ => by simp [idx]
  | j :: r, n, k + 1, h => by simp only [idx]; exact List.mem_cons_of_mem _ (idx_get (by simpa using h))
theorem idx_inj : ∀ {l : List Nat} {n : Nat}, l.Nodup → ∀ k k', k < l.length → k' < l.length → idx l n k = idx l n k' → k = k'
  | [], n, _, k, k', h, _, _ => by simp at h
  | j :: r, n, hn, 0, 0, _, _, _ => rfl
  | j :: r, n, hn, 0, k + 1, _, h, e => by
    exfalso
    simp only [idx] at e
    have := idx_get (n := n) (show k < r.length by simpa using h)
    rw [← e] at this
    exact (List.nodup_cons.1 hn).1 this
  | j :: r, n, hn, k + 1, 0, h, _, e => by
    exfalso
    simp only [idx] at e
    have := idx_get (n := n) (show k < r.length by simpa using h)
    rw [e] at this
    exact (List.nodup_cons.1 hn).1 this
  | j :: r, n, hn, k + 1, k' + 1, h, h', e => by
    simp only [idx] at e
    have := idx_inj (List.nodup_cons.1 hn).2 k k' (by simpa using h) (by simpa using h') e
    omega
theorem idx_ge : ∀ {l : List Nat} {n k : Nat}, l.length ≤ k → idx l n k = n + (k - l.length)
  | [], n, k, h => by simp [idx]
  | j :: r, n, 0, h => by simp at h
  | j :: r, n, k + 1, h => by simp only [idx, List.length_cons]; rw [idx_ge (by simpa using h)]; congr 1; omega
theorem idx_idx {l : List Nat} {n : Nat} (hn : l.Nodup) : Idx (idx l n) l.length n := ⟨fun k h => idx_lt h, fun k k' h h' e => idx_inj hn k k' h h' e⟩

end Go.Y
