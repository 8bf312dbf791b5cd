/-
  Contracts at other numbers, beside other blocks; and a walk that goes on under other numbers.
-/
import Derived.Test.YtbkmhkeihbgcfaaMa
set_option linter.unusedVariables false
set_option linter.unusedSimpArgs false
namespace Go.Y

/-- What lies behind a call, under the numbers of the caller. -/
def push (l : List Nat) (n : Nat) (lam lam1 : Lam) : Lam :=
  ⟨fun j i => if j < n then lam j i else lam1 (l.length + (j - n)) i, fun j => if j < n then lam.born j else lam1.born (l.length + (j - n))⟩

section
variable {l : List Nat} {n m1 : Nat} {lam lam1 : Lam}
theorem push_low {j : Nat} (h : j < n) (i : Nat) : push l n lam lam1 j i = lam j i := by
  show (if j < n then _ else _) = _
  rw [if_pos h]
theorem push_born {j : Nat} (h : j < n) : (push l n lam lam1).born j ↔ lam.born j := by
  show (if j < n then _ else _) ↔ _
  rw [if_pos h]
theorem push_high (k : Nat) (h : l.length ≤ k) (i : Nat) : push l n lam lam1 (n + (k - l.length)) i = lam1 k i := by
  show (if n + (k - l.length) < n then _ else _) = _
  rw [if_neg (by omega)]
  congr 1; omega
theorem push_hborn (k : Nat) (h : l.length ≤ k) : (push l n lam lam1).born (n + (k - l.length)) ↔ lam1.born k := by
  show (if n + (k - l.length) < n then _ else _) ↔ _
  rw [if_neg (by omega)]
  have : l.length + (n + (k - l.length) - n) = k := by omega
  rw [this]
theorem push_keeps : agree n lam (push l n lam lam1) := ⟨fun k hk hb => ⟨(push_born hk).2 hb, fun i => push_low hk i⟩, fun k hk hb => (push_born hk).1 hb⟩

theorem push_lift (hnd : l.Nodup) (hag : agree l.length (pull (idx l n) n lam) lam1) (hm : l.length ≤ m1) : Lift (idx l n) m1 (n + (m1 - l.length)) lam1 (push l n lam lam1) := by
  have low : ∀ k, k < l.length → lam1.born k → idx l n k < n ∧ lam.born (idx l n k) ∧ ∀ i, lam1 k i = lam (idx l n k) i := by
    intro k hk hb
    have h0 := hag.back k hk hb
    exact ⟨h0.1, h0.2, fun i => (hag.keeps k hk h0).2 i⟩
  refine ⟨fun k hk hb => ?_, fun k hk hb => ?_, fun k hk hb i => ?_, fun k k' hk hk' hb hb' e => ?_⟩
  · by_cases h : k < l.length
    · have := (low k h hb).1; omega
    · rw [idx_ge (by omega)]; omega
  · by_cases h : k < l.length
    · obtain ⟨h1, h2, _⟩ := low k h hb
      exact (push_born h1).2 h2
    · rw [idx_ge (by omega)]
      exact (push_hborn k (by omega)).2 hb
  · by_cases h : k < l.length
    · obtain ⟨h1, h2, h3⟩ := low k h hb
      rw [push_low h1, h3]
    · rw [idx_ge (by omega)]
      exact push_high k (by omega) i
  · by_cases h : k < l.length <;> by_cases h' : k' < l.length
    · exact idx_inj hnd k k' h h' e
    · have := (low k h hb).1
      rw [e, idx_ge (by omega)] at this
      omega
    · have := (low k' h' hb').1
      rw [← e, idx_ge (by omega)] at this
      omega
    · rw [idx_ge (by omega), idx_ge (by omega)] at e
      omega
end

/-- A heap, seen as a part under other numbers, and the rest. -/
structure Part (l : List Nat) (n : Nat) (H H0 F : Hp) : Prop where
  nd : l.Nodup
  lt : ∀ j, j ∈ l → j < n
  part : ∀ j x, (j, x) ∈ renH (idx l n) H0 → (j, x) ∈ H
  keys : (H0.map (·.1)).Nodup
  rest : ∀ j x, (j, x) ∈ F → (j, x) ∈ H
  rkeys : (F.map (·.1)).Nodup
  apart : ∀ j x x', (j, x) ∈ renH (idx l n) H0 → (j, x') ∉ F

def rowsOf (τ : Nat → Nat) (H0 : Hp) (lam : Lam) (b : Nat) : Prop := ∃ k e o, (k, e) ∈ renH τ H0 ∧ e.writes = true ∧ lam k 0 = some (b, o)

section
variable {l : List Nat} {n : Nat} {lam : Lam} {H H0 F : Hp} {N : Nat} {D : Nat → Prop} {w w' : World} {Q Q0 : AV → Hp → Nat → Prop} {v' : Value}

theorem Part.hsit (hp : Part l n H H0 F) (h : HSit N D lam H n w) : HSit w.heap.size (rowsOf (idx l n) H0 lam) (pull (idx l n) n lam) H0 l.length w :=
  pull_hsit (idx_idx hp.nd) h hp.part hp.keys (fun k e hk hw b o hl => .inl ⟨_, _, o, renH_mem.2 ⟨k, e, hk, rfl, rfl⟩, by rw [writes_ren]; exact hw, hl⟩)

theorem after_at (hp : Part l n H H0 F) (h : HSit N D lam H n w) (hN : N ≤ w.heap.size)
    (ha : After w.heap.size (rowsOf (idx l n) H0 lam) l.length (pull (idx l n) n lam) H0 w Q0 v' w')
    (hQ : ∀ v H1 m1, l.length ≤ m1 → Q0 v H1 m1 → Q (v.ren (idx l n)) (renH (idx l n) H1 ++ F) (n + (m1 - l.length))) : After N D n lam H w Q v' w' := by
  obtain ⟨v, H1, m1, lam1, hv, hq, hm, hvok, hH1, hU, hag, hky⟩ := ha
  have L := push_lift (lam := lam) (lam1 := lam1) hp.nd hag hm
  have hky2 : KeyS (renH (idx l n) H0) n (renH (idx l n) H1) := by
    intro j x hj
    obtain ⟨k, e, hk, rfl, rfl⟩ := renH_mem.1 hj
    rcases hky k e hk with ⟨y, hy, he⟩ | ⟨hg, hw⟩
    · exact .inl ⟨_, renH_mem.2 ⟨k, y, hy, rfl, rfl⟩, fun hw => by rw [writes_ren] at hw; rw [he hw]⟩
    · refine .inr ⟨?_, by rw [writes_ren]; exact hw⟩
      rw [idx_ge hg]; omega
  have hH2 := L.hsit hH1
  obtain ⟨hH3, hU3⟩ := h.frame hN hp.part hp.rest hp.apart hp.rkeys hH2 hU push_keeps.keeps (by omega) hky2
  refine ⟨v.ren (idx l n), renH (idx l n) H1 ++ F, n + (m1 - l.length), push l n lam lam1, by rw [hv, L.conc hvok], hQ v H1 m1 hm hq, by omega, L.ok hvok, hH3, hU3, push_keeps, ?_⟩
  intro j x hj
  rcases List.mem_append.1 hj with hj | hj
  · rcases hky2 j x hj with ⟨y, hy, he⟩ | hh
    · exact .inl ⟨y, hp.part j y hy, he⟩
    · exact .inr hh
  · exact .inl ⟨x, hp.rest j x hj, fun _ => rfl⟩
end

theorem Ends.mono {P : Program} {f : FuncId} {args : Array Value} {w : World} {R R' : Value → World → Prop} (h : Ends P f args w R) (hr : ∀ v w', R v w' → R' v w') : Ends P f args w R' := fun cs => by
  obtain ⟨v, w', fr, h1, h2⟩ := h cs
  exact ⟨v, w', fr, hr v w' h1, h2⟩
theorem Rets.mono {P : Program} {fr : Frame} {w : World} {R R' : Value → World → Prop} (h : Rets P fr w R) (hr : ∀ v w', R v w' → R' v w') : Rets P fr w R' := fun c cs => by
  obtain ⟨v, w', h1, h2⟩ := h c cs
  exact ⟨v, w', hr v w' h1, h2⟩

/-- **A contract at other numbers, beside other blocks.** -/
theorem callA_at {P : Program} {f : FuncId} {args0 args : List AV} {H0 H F : Hp} {m n : Nat} {Q0 Q : AV → Hp → Nat → Prop} (l : List Nat) (c : callA P f args0 H0 m Q0) (hm : l.length = m) (hp : Part l n H H0 F) (ha : args = renL (idx l n) args0)
    (hQ : ∀ v H1 m1, m ≤ m1 → Q0 v H1 m1 → Q (v.ren (idx l n)) (renH (idx l n) H1 ++ F) (n + (m1 - m))) : callA P f args H n Q := by
  subst hm ha
  refine ⟨c.1, fun N D w lam h hN hok => ?_⟩
  have hok0 := pull_okL (lam := lam) (idx_idx hp.nd) hok
  have := c.2 w.heap.size (rowsOf (idx l n) H0 lam) w (pull (idx l n) n lam) (hp.hsit h) (Nat.le_refl _) hok0
  rw [← (pull_lift (lam := lam) (idx_idx hp.nd)).concL hok0] at this
  exact this.mono fun v' w' hA => after_at hp h hN hA hQ

theorem hget_ren {τ : Nat → Nat} {k : Nat} {e : Ent} {H H0 : Hp} (hs : ∀ j x, (j, x) ∈ renH τ H0 → (j, x) ∈ H) (hnd : (H.map (·.1)).Nodup) (h : hget k H0 = some e) : hget (τ k) H = some (e.ren τ) := by
  have := hs _ _ (renH_mem.2 ⟨k, e, hget_mem h, rfl, rfl⟩)
  revert hnd this
  generalize τ k = j
  generalize e.ren τ = x
  intro hnd hm
  clear hs h
  induction H with
  | nil => cases hm
  | cons q r ih =>
    obtain ⟨c, y⟩ := q
    simp only [hget]
    rcases List.mem_cons.1 hm with hm | hm
    · cases hm; rw [if_pos rfl]
    · simp only [List.map_cons, List.nodup_cons] at hnd
      have hne : j ≠ c := by
        intro e
        rw [e] at hm
        exact hnd.1 (List.mem_map.2 ⟨(c, x), hm, rfl⟩)
      rw [if_neg hne, ih hnd.2 hm]

/-- A round's contract at other numbers. -/
theorem roundA_at {P : Program} {L : Nat} {args0 args : List AV} {H0 H F : Hp} {m n : Nat} {Q0 Q : AV → Hp → Nat → Prop} (l : List Nat) (c : roundA P L args0 H0 m Q0) (hm : l.length = m) (hp : Part l n H H0 F) (hnd : (H.map (·.1)).Nodup) (ha : args = renL (idx l n) args0)
    (hQ : ∀ v H1 m1, m ≤ m1 → Q0 v H1 m1 → Q (v.ren (idx l n)) (renH (idx l n) H1 ++ F) (n + (m1 - m))) : roundA P (idx l n L) args H n Q := by
  subst hm ha
  obtain ⟨r, hr, hlen, c⟩ := c
  have hg := hget_ren hp.part hnd hr
  refine ⟨_, hg, by rw [renL_map, List.length_map]; exact hlen, fun N D w lam b o l' h hN hok hl hw => ?_⟩
  have hok0 := pull_okL (lam := lam) (idx_idx hp.nd) hok
  have := c w.heap.size (rowsOf (idx l n) H0 lam) w (pull (idx l n) n lam) b o l' (hp.hsit h) (Nat.le_refl _) hok0 hl hw
  rw [← (pull_lift (lam := lam) (idx_idx hp.nd)).concL hok0] at this
  exact this.mono fun v' w' hA => after_at hp h hN hA hQ

/-- One state is another one under other numbers (less may be known of it). -/
structure Reid (n0 : Nat) (l : List Nat) (st st0 : St) : Prop where
  len : st0.n = l.length
  nd : l.Nodup
  low : n0 ≤ l.length ∧ ∀ k, k < n0 → idx l st.n k = k
  tmp : ∀ t v, getT st0.T t = some v → getT st.T t = some (v.ren (idx l st.n))
  part : ∀ k e, (k, e) ∈ st0.H → (idx l st.n k, e.ren (idx l st.n)) ∈ st.H
  keys : (st0.H.map (·.1)).Nodup
  wr : ∀ k e, (k, e) ∈ st0.H → e.writes = true ∨ (k < n0 ∧ e.ren (idx l st.n) = e)
  lown : n0 ≤ st.n

theorem awp_reid {P : Program} {fx : Fx} {c : Code} {st st0 : St} {K : Ex → St → Prop} {l : List Nat} (hr : Reid fx.n0 l st st0) (h : awp P fx c st0 K) : awp P fx c st K := by
  intro N D b k cs tmps rs w lam hs hn hb
  obtain ⟨T, H, n⟩ := st
  obtain ⟨T0, H0, m⟩ := st0
  have hlen : m = l.length := hr.len
  subst hlen
  have hI := idx_idx (n := n) hr.nd
  have hlow : ∀ k, k < fx.n0 → idx l n k = k := hr.low.2
  have hsit : Sit N D fx.nt ⟨T0, H0, l.length⟩ tmps rs w (pull (idx l n) n lam) := by
    refine ⟨pull_trel hI (hs.tmp.less (fun t v hv => ?_)), pull_hsit hI hs.heap (fun j x hj => ?_) hr.keys (fun k e hk hw b o hl => ?_), hs.size, hs.nt, hs.marks, hs.once⟩
    · rw [getT_ren] at hv
      obtain ⟨u, hu, rfl⟩ := Option.map_eq_some_iff.1 hv
      exact hr.tmp t u hu
    · obtain ⟨k, e, hk, rfl, rfl⟩ := renH_mem.1 hj
      exact hr.part k e hk
    · exact hs.heap.wr _ _ (hr.part k e hk) (by rw [writes_ren]; exact hw) b o hl
  have hst : Stands fx b (pull (idx l n) n lam) := by
    refine ⟨hb.1, ?_⟩
    have := hb.2
    cases hrd : fx.rd with
    | none => rw [hrd] at this; exact this
    | some L =>
      rw [hrd] at this
      obtain ⟨h1, h2, bl, o, h3, h4⟩ := this
      have e : idx l n L = L := hlow L h1
      refine ⟨h1, ?_, bl, o, ?_, h4⟩
      · show idx l n L < n ∧ lam.born (idx l n L)
        rw [e]; exact ⟨Nat.lt_of_lt_of_le h1 hn, h2⟩
      · show lam (idx l n L) 0 = _
        rw [e]; exact h3
  obtain ⟨e, st', tmps', rs', w', lam', hK, hS, hn', hU, hag, hky, hA⟩ := h N D b k cs tmps rs w _ hsit hr.low.1 hst
  refine ⟨e, st', tmps', rs', w', lam', hK, hS, hn', hU, ⟨fun k hk hbk => ?_, fun k hk hbk => ?_⟩, fun j x hj => ?_, hA⟩
  · have e : idx l n k = k := hlow k hk
    have := hag.keeps k hk (by show idx l n k < n ∧ lam.born (idx l n k); rw [e]; exact ⟨Nat.lt_of_lt_of_le hk hn, hbk⟩)
    refine ⟨this.1, fun i => ?_⟩
    rw [this.2 i]
    show lam (idx l n k) i = _
    rw [e]
  · have e : idx l n k = k := hlow k hk
    have := hag.back k hk hbk
    have h2 : lam.born (idx l n k) := this.2
    rw [e] at h2; exact h2
  · rcases hky j x hj with ⟨y, hy, he⟩ | hh
    · rcases hr.wr j y hy with hw | ⟨hlt, hey⟩
      · by_cases hlt : j < fx.n0
        · refine .inl ⟨y.ren (idx l n), ?_, fun hx => ?_⟩
          · have := hr.part j y hy
            have e : idx l n j = j := hlow j hlt
            simp only [e] at this
            exact this
          · rw [he hx] at hx; rw [hw] at hx; cases hx
        · refine .inr ⟨by omega, ?_⟩
          cases hx : x.writes with
          | true => rfl
          | false => rw [he hx, hw] at hx; cases hx
      · have := hr.part j y hy
        have e : idx l n j = j := hlow j hlt
        simp only [e, hey] at this
        exact .inl ⟨y, this, he⟩
    · exact .inr hh

section
variable {cx : Cx} {fx : Fx} {st : St} {k : Kd}
/-- A loop goes on under other numbers. -/
theorem loopS_reid {c : Code} {st0 : St} (l : List Nat) (hr : Reid fx.n0 l st st0) (h : LoopS cx fx c st0 k) : LoopS cx fx c st k := fun hpu hok => awp_reid hr (h hpu hok)
theorem evLoop_reid {c : Code} {st0 : St} {K : Ex → St → Prop} (l : List Nat) (hr : Reid fx.n0 l st st0) (h : evLoop cx fx c st0 K) : evLoop cx fx c st K := fun hpu hok => awp_reid hr (h hpu hok)

/-- **A loop with an invariant, round by round under the same numbers.** -/
theorem loop_reid {c : Code} (J : Nat → St → Prop) (step : ∀ m st', J m st' → Ev cx fx c st' (.inv (fun st2 => ∃ m2 l st3, m2 < m ∧ Reid fx.n0 l st2 st3 ∧ J m2 st3) k)) {m : Nat} {l : List Nat} {st0 : St} (hr : Reid fx.n0 l st st0) (h : J m st0) : LoopS cx fx c st k := by
  intro hpu hok
  refine awp_reid hr ?_
  clear hr
  induction m using Nat.strongRecOn generalizing st0 with
  | ind m ih =>
    refine awp_round (awp_mono (ev_sound hpu c st0 _ hok (step m st0 h)) (fun e st' hk => ?_))
    cases e with
    | nrm =>
      obtain ⟨m2, l2, st3, hm, hr, hJ⟩ := hk
      exact awp_reid hr (ih m2 hm hJ)
    | exi id => exact hk
    | ret => exact hk
end

end Go.Y
