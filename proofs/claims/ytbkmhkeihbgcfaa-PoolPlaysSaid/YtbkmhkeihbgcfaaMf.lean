/-
  A nil slice as a slice of an own, empty row.
-/
import Derived.Test.YtbkmhkeihbgcfaaMe
set_option linter.unusedVariables false
set_option linter.unusedSimpArgs false
namespace Go.Y

theorem q_val {Q : AV → Hp → Nat → Prop} {H : Hp} {n : Nat} {u v : AV} (h : Q u H n) (e : u = v) : Q v H n := e ▸ h
theorem q_all {Q : AV → Hp → Nat → Prop} {H H' : Hp} {n n' : Nat} {u v : AV} (h : Q u H n) (e : u = v) (eH : H = H') (en : n = n') : Q v H' n' := by subst e eH en; exact h

section
variable {N : Nat} {D : Nat → Prop} {n : Nat} {w : World} {lam : Lam} {H : Hp}
theorem hsit_row (h : HSit N D lam H n w) (sz : Nat) : HSit N D (setLam lam n none) ((n, .vec 0 sz []) :: H) (n + 1) w :=
  h.cons (w' := w) (x := none) rfl (fun b o e => by cases e) (fun b' _ _ => rfl) (by
    exact ⟨by simp [okL], by simp [okR], (fun v hv => by cases hv), Nat.le_refl _, Or.inl ⟨setLam_same _ _ _, rfl⟩⟩)

theorem hsit_swap (h : HSit N D lam H n w) {k : Nat} {u u' : AV} (hk : hget k H = some (.cel u)) (hok : u'.ok lam n) (ht : u'.isTup = false) (hc : cellsA lam u' = cellsA lam u) : HSit N D lam (hset k (.cel u') H) n w := by
  obtain ⟨h1, h2, b, c, ty, h3, h4, h5⟩ := h.has k _ (hget_mem hk)
  exact h.set hk rfl rfl h3 (fun _ _ => rfl) ⟨hok, ht, b, c, ty, h3, h4, by rw [hc, h5]⟩

theorem cells_nils : cellsA lam .nils = [.slice none 0 0] := by rw [cells_leaf lam rfl]; rfl
theorem cells_empty {k sz : Nat} (hl : lam k 0 = none) : cellsA lam (.slc k 0 [] sz 0 0 0 0) = [.slice none 0 0] := by
  rw [cells_leaf lam rfl]; simp [AV.conc, slcV, hl]
theorem nil_swap {u u' : AV} {p : List PE} {k sz : Nat} (hu : u.ok lam n) (hk : k < n ∧ lam.born k) (hl : lam k 0 = none) (hg : getP u p = some .nils) (hp : putP u p (.slc k 0 [] sz 0 0 0 0) = some u') :
    u'.ok lam n ∧ u'.isTup = false ∧ cellsA lam u' = cellsA lam u := by
  obtain ⟨a, b, e1, e2, _⟩ := getP_spec lam p hu hg
  obtain ⟨a2, b2, c, f1, f2, f3, f4, f5, f6, f7, f8⟩ := putP_spec lam (x := .slc k 0 [] sz 0 0 0 0) (n := n) (by simp only [AV.ok]; exact ⟨hk.1, hk.2, Nat.le_refl _, fun h => absurd rfl h, fun h => absurd rfl h⟩) p hu hp
  refine ⟨f5, f8, ?_⟩
  rw [cells_nils] at e1
  rw [cells_empty hl] at f3
  have e3 : a = a2 := by
    have h1 := congrArg (List.take a.length) (e1.symm.trans f1)
    rw [List.append_assoc, List.append_assoc, List.take_left' rfl, List.take_left' (by rw [e2, f4])] at h1
    exact h1
  subst e3
  have f2' : c.length = 1 := f2
  have h1 := congrArg (List.drop a.length) (e1.symm.trans f1)
  rw [List.append_assoc, List.append_assoc, List.drop_left' rfl, List.drop_left' rfl] at h1
  obtain ⟨x, hx⟩ := List.length_eq_one_iff.1 f2'
  subst hx
  simp only [List.singleton_append, List.cons.injEq] at h1
  rw [f3, e1, h1.2]

theorem hsit_nil (h : HSit N D lam H n w) {k sz : Nat} {u u' : AV} {p : List PE} (hk : hget k H = some (.cel u)) (hg : getP u p = some .nils) (hp : putP u p (.slc n 0 [] sz 0 0 0 0) = some u') :
    HSit N D (setLam lam n none) ((n, .vec 0 sz []) :: hset k (.cel u') H) (n + 1) w := by
  have h0 := hsit_row h sz
  have hne : k ≠ n := by have := (h.low k _ (hget_mem hk)).1; omega
  have hk' : hget k ((n, Ent.vec 0 sz []) :: H) = some (.cel u) := by simp only [hget, if_neg hne]; exact hk
  obtain ⟨h1, _⟩ := h0.has k _ (hget_mem hk')
  obtain ⟨g1, g2, g3⟩ := nil_swap (lam := setLam lam n none) (n := n + 1) h1 ⟨by omega, setLam_born _ _ _⟩ (setLam_same _ _ _) hg hp
  have := hsit_swap h0 hk' g1 g2 g3
  simp only [hset, if_neg hne] at this
  exact this

/-- A nil slice in a cell becomes an empty row's. -/
def NilP (k sz : Nat) (p : List PE) (Q : AV → Hp → Nat → Prop) (v : AV) (H' : Hp) (n' : Nat) : Prop :=
  ∃ u u', hget k H' = some (.cel u) ∧ getP u p = some .nils ∧ putP u p (.slc n' 0 [] sz 0 0 0 0) = some u' ∧ Q v ((n', .vec 0 sz []) :: hset k (.cel u') H') (n' + 1)
theorem callA_nil {P : Program} {f : FuncId} {args : List AV} {Q : AV → Hp → Nat → Prop} (k sz : Nat) (p : List PE) (h : callA P f args H n (NilP k sz p Q)) : callA P f args H n Q := by
  refine ⟨h.1, fun N D w lam hH hN hok => (h.2 N D w lam hH hN hok).mono fun v' w' ha => ?_⟩
  obtain ⟨v, H', n', lam', hv, ⟨u, u', hk, hg, hp, hq⟩, hn, hvok, hH', hU, hag, hky⟩ := ha
  have hk2 := setLam_agree lam' n' none
  refine ⟨v, _, _, setLam lam' n' none, by rw [hv, conc_agree hk2.keeps hvok], hq, by omega, ok_mono (by omega) hk2.keeps hvok, hsit_nil hH' hk hg hp, hU, hag.trans (hk2.mono hn), ?_⟩
  exact KeyS.cons ((hky.trans (KeyS.set hH'.nd hk rfl))) rfl hn

theorem awp_nil {P : Program} {fx : Fx} {c : Code} {T : Sl} {K : Ex → St → Prop} (k sz : Nat) (p : List PE) {u u' : AV} (hk : hget k H = some (.cel u)) (hg : getP u p = some .nils) (hp : putP u p (.slc n 0 [] sz 0 0 0 0) = some u')
    (h : awp P fx c ⟨T, (n, .vec 0 sz []) :: hset k (.cel u') H, n + 1⟩ K) : awp P fx c ⟨T, H, n⟩ K := by
  intro N D b kk cs tmps rs w lam hs hn hb
  have ha := setLam_agree lam n none
  have hn' : fx.n0 ≤ n := hn
  obtain ⟨e, st', tmps', rs', w', lam', hK, hS, hn2, hU, hag, hky, hA⟩ := h N D b kk cs tmps rs w (setLam lam n none) ⟨hs.tmp.mono ha.keeps (Nat.le_succ n), hsit_nil hs.heap hk hg hp, hs.size, hs.nt, hs.marks, hs.once⟩ (by show fx.n0 ≤ n + 1; omega) (hb.agree (ha.mono hn'))
  refine ⟨e, st', tmps', rs', w', lam', hK, hS, hn2, hU, (ha.mono hn').trans hag, ?_, hA⟩
  exact (KeyS.cons (KeyS.set hs.heap.nd hk rfl) rfl hn').trans hky

theorem awp_nilT {P : Program} {fx : Fx} {c : Code} {T : Sl} {K : Ex → St → Prop} (s sz : Nat) (hg : getT T s = some .nils) (h : awp P fx c ⟨(s, .slc n 0 [] sz 0 0 0 0) :: T, (n, .vec 0 sz []) :: H, n + 1⟩ K) : awp P fx c ⟨T, H, n⟩ K := by
  intro N D b kk cs tmps rs w lam hs hn hb
  have ha := setLam_agree lam n none
  have hn' : fx.n0 ≤ n := hn
  have hT : TRel (setLam lam n none) (n + 1) ((s, .slc n 0 [] sz 0 0 0 0) :: T) tmps := by
    intro t v hv
    simp only [getT] at hv
    split at hv
    · rename_i e
      cases hv; subst e
      have := (hs.tmp t _ hg).1
      refine ⟨by rw [this]; simp [AV.conc, slcV, setLam_same], ?_⟩
      simp only [AV.ok]
      exact ⟨by omega, setLam_born _ _ _, Nat.le_refl _, fun h => absurd rfl h, fun h => absurd rfl h⟩
    · exact hs.tmp.mono ha.keeps (Nat.le_succ n) t v hv
  obtain ⟨e, st', tmps', rs', w', lam', hK, hS, hn2, hU, hag, hky, hA⟩ := h N D b kk cs tmps rs w (setLam lam n none) ⟨hT, hsit_row hs.heap sz, hs.size, hs.nt, hs.marks, hs.once⟩ (by show fx.n0 ≤ n + 1; omega) (hb.agree (ha.mono hn'))
  exact ⟨e, st', tmps', rs', w', lam', hK, hS, hn2, hU, (ha.mono hn').trans hag, (KeyS.cons (KeyS.refl _ _) rfl hn').trans hky, hA⟩
end

section
variable {cx : Cx} {fx : Fx} {k : Kd} {T : Sl} {H : Hp} {n : Nat}
theorem loopS_nil {c : Code} (j sz : Nat) (p : List PE) {u u' : AV} (hk : hget j H = some (.cel u)) (hg : getP u p = some .nils) (hp : putP u p (.slc n 0 [] sz 0 0 0 0) = some u')
    (h : LoopS cx fx c ⟨T, (n, .vec 0 sz []) :: hset j (.cel u') H, n + 1⟩ k) : LoopS cx fx c ⟨T, H, n⟩ k := fun hpu hok => awp_nil j sz p hk hg hp (h hpu hok)
theorem loopS_nilT {c : Code} (s sz : Nat) (hg : getT T s = some .nils) (h : LoopS cx fx c ⟨(s, .slc n 0 [] sz 0 0 0 0) :: T, (n, .vec 0 sz []) :: H, n + 1⟩ k) : LoopS cx fx c ⟨T, H, n⟩ k := fun hpu hok => awp_nilT s sz hg (h hpu hok)
theorem ranS_nil {f : Operand} {ps : Array Tmp} {as bd : Code} (j sz : Nat) (p : List PE) {u u' : AV} (hk : hget j H = some (.cel u)) (hg : getP u p = some .nils) (hp : putP u p (.slc n 0 [] sz 0 0 0 0) = some u')
    (h : RanS cx fx f ps as bd ⟨T, (n, .vec 0 sz []) :: hset j (.cel u') H, n + 1⟩ k) : RanS cx fx f ps as bd ⟨T, H, n⟩ k := fun hpu hok => awp_nil j sz p hk hg hp (h hpu hok)
end

end Go.Y
