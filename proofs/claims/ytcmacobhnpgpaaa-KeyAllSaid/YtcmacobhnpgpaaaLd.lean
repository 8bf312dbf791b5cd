/-
  A row may be forgotten from somewhere on.
-/
import Derived.Test.YtcmacobhnpgpaaaLc
set_option linter.unusedVariables false
set_option linter.unusedSimpArgs false
namespace Go.Y
section
variable {N : Nat} {D : Nat → Prop} {n : Nat} {w : World} {lam : Lam} {H : Hp}
theorem HSit.swapE (h : HSit N D lam H n w) {k : Nat} {e e' : Ent} (hk : hget k H = some e) (hwr : e.writes = true) (hwr' : e'.writes = true) (he : HasE lam n w k e') : HSit N D lam (hset k e' H) n w := by
  have hm := hget_mem hk
  have mem : ∀ c x, (c, x) ∈ hset k e' H → (c = k ∧ x = e') ∨ (c ≠ k ∧ (c, x) ∈ H) := fun c x hc => hset_mem h.nd hc
  have old : ∀ c x, (c, x) ∈ hset k e' H → ∃ x0, (c, x0) ∈ H ∧ (x.writes = x0.writes) := by
    intro c x hc
    rcases mem c x hc with ⟨rfl, rfl⟩ | ⟨_, hc⟩
    · exact ⟨e, hm, by rw [hwr, hwr']⟩
    · exact ⟨x, hc, rfl⟩
  refine ⟨fun c x hc => ?_, fun c x hc => ?_, fun c x hc hw b' o' hl' => ?_, fun c x hc hw c' x' hc' i b' o1 o2 hi h1 h2 => ?_, by rw [hset_keys]; exact h.nd⟩
  · rcases mem c x hc with ⟨rfl, rfl⟩ | ⟨hne, hc⟩
    · exact he
    · exact h.has c x hc
  · obtain ⟨x0, hx0, _⟩ := old c x hc; exact h.low c x0 hx0
  · obtain ⟨x0, hx0, e0⟩ := old c x hc; exact h.wr c x0 hx0 (by rw [← e0]; exact hw) b' o' hl'
  · obtain ⟨x0, hx0, e0⟩ := old c x hc
    obtain ⟨x1, hx1, e1⟩ := old c' x' hc'
    exact h.apart c x0 hx0 (by rw [← e0]; exact hw) c' x1 hx1 i b' o1 o2 (by rw [← e1]; exact hi) h1 h2
theorem hsit_trim (h : HSit N D lam H n w) {k cap sz : Nat} {l : List AV} (m : Nat) (hk : hget k H = some (.vec cap sz l)) : HSit N D lam (hset k (.vec cap sz (l.take m)) H) n w := by
  obtain ⟨h1, h2, h3, h4, h5⟩ := h.has k _ (hget_mem hk)
  refine h.swapE hk rfl rfl ⟨okL_take h1 m, okR_take h2 m, fun v hv => h3 v (List.mem_of_mem_take hv), by rw [List.length_take]; omega, ?_⟩
  rcases h5 with h5 | ⟨b, c, ty, g1, g2, g3, g4⟩
  · exact .inl h5
  · refine .inr ⟨b, c, ty, g1, g2, g3, List.IsPrefix.trans ?_ g4⟩
    refine ⟨(l.drop m).flatMap (cellsA lam), ?_⟩
    rw [← List.flatMap_append, List.take_append_drop]
end
def TrimP (k m : Nat) (Q : AV → Hp → Nat → Prop) (v : AV) (H' : Hp) (n' : Nat) : Prop := ∃ cap sz l, hget k H' = some (.vec cap sz l) ∧ Q v (hset k (.vec cap sz (l.take m)) H') n'
theorem callA_trim {P : Program} {f : FuncId} {args : List AV} {H : Hp} {n : Nat} {Q : AV → Hp → Nat → Prop} (k m : Nat) (h : callA P f args H n (TrimP k m Q)) : callA P f args H n Q := by
  refine ⟨h.1, fun N D w lam hH hN hok => (h.2 N D w lam hH hN hok).mono fun v' w' ha => ?_⟩
  obtain ⟨v, H', n', lam', hv, ⟨cap, sz, l, hk, hq⟩, hn, hvok, hH', hU, hag, hky⟩ := ha
  exact ⟨v, _, _, lam', hv, hq, hn, hvok, hsit_trim hH' m hk, hU, hag, hky.trans (KeyS.set hH'.nd hk rfl)⟩
end Go.Y
