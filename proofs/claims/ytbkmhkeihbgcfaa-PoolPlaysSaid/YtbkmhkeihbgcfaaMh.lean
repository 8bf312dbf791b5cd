/-
  A row goes on under a new number.
-/
import Derived.Test.YtbkmhkeihbgcfaaMg
set_option linter.unusedVariables false
set_option linter.unusedSimpArgs false
namespace Go.Y

section
variable {N : Nat} {D : Nat → Prop} {n : Nat} {w : World} {lam : Lam} {H : Hp}
theorem put_swap {u u' x y : AV} {p : List PE} (hu : u.ok lam n) (hy : y.ok lam n) (hc : cellsA lam y = cellsA lam x) (hg : getP u p = some x) (hp : putP u p y = some u') :
    u'.ok lam n ∧ u'.isTup = false ∧ cellsA lam u' = cellsA lam u := by
  obtain ⟨a, b, e1, e2, _⟩ := getP_spec lam p hu hg
  obtain ⟨a2, b2, c, f1, f2, f3, f4, f5, f6, f7, f8⟩ := putP_spec lam hy p hu hp
  refine ⟨f5, f8, ?_⟩
  have e3 : a = a2 := by
    have h1 := congrArg (List.take a.length) (e1.symm.trans f1)
    rw [List.append_assoc, List.append_assoc, List.take_left' rfl, List.take_left' (by rw [e2, f4])] at h1
    exact h1
  subst e3
  have hlen : c.length = (cellsA lam x).length := by rw [f2, ← hc, cells_length]
  have h1 := congrArg (List.drop a.length) (e1.symm.trans f1)
  rw [List.append_assoc, List.append_assoc, List.drop_left' rfl, List.drop_left' rfl] at h1
  have h2 := congrArg (List.drop c.length) h1
  rw [List.drop_left' rfl, List.drop_left' hlen.symm] at h2
  rw [f3, e1, hc, h2]

theorem hdel_sub' (k : Nat) : ∀ H : Hp, (hdel k H).Sublist H
  | [] => by simp [hdel]
  | (c, x) :: r => by
    unfold hdel
    split
    · exact List.sublist_cons_self _ _
    · exact (hdel_sub' k r).cons_cons _
theorem hdel_neq {k c : Nat} {x : Ent} : ∀ {H : Hp}, (H.map (·.1)).Nodup → (c, x) ∈ hdel k H → c ≠ k
  | [], _, h => by cases h
  | (d, y) :: r, hn, h => by
    simp only [List.map_cons, List.nodup_cons] at hn
    unfold hdel at h
    split at h
    · rename_i e
      subst e
      rintro rfl
      exact hn.1 (List.mem_map.2 ⟨_, h, rfl⟩)
    · rename_i e
      rcases List.mem_cons.1 h with h | h
      · cases h; exact fun e2 => e e2.symm
      · exact hdel_neq hn.2 h
theorem hget_hdel {k c : Nat} (hne : c ≠ k) : ∀ H : Hp, hget c (hdel k H) = hget c H
  | [] => rfl
  | (d, y) :: r => by
    unfold hdel
    split
    · rename_i e; subst e; simp only [hget, if_neg hne]
    · simp only [hget, hget_hdel hne r]

theorem hsit_fresh (h : HSit N D lam H n w) {kc kv cap sz len : Nat} {l : List AV} {u u' : AV} {p : List PE} (hne : kc ≠ kv) (hc : hget kc H = some (.cel u)) (hv : hget kv H = some (.vec cap sz l))
    (hg : getP u p = some (.slc kv 0 [] sz 0 0 len cap)) (hp : putP u p (.slc n 0 [] sz 0 0 len cap) = some u') :
    HSit N D (setLam lam n (lam kv 0)) ((n, .vec cap sz l) :: hset kc (.cel u') (hdel kv H)) (n + 1) w := by
  have hkv := h.low kv _ (hget_mem hv)
  have hkc := h.low kc _ (hget_mem hc)
  have ha := setLam_agree lam n (lam kv 0)
  have hEv := h.has kv _ (hget_mem hv)
  have h0 := (h.sub (hdel_sub' kv H)).cons (w' := w) (x := lam kv 0) (e := .vec cap sz l) rfl
    (fun b o e => ⟨h.wr kv _ (hget_mem hv) rfl b o e, fun k y hk i o' hi hl => hdel_neq h.nd hk (h.apart kv _ (hget_mem hv) rfl k y ((hdel_sub' kv H).subset hk) i b o o' hi e hl).1⟩) (fun _ _ _ => rfl) (by
      obtain ⟨h1, h2, h2', hlen, h3⟩ := hEv
      refine ⟨okL_mono (by omega) ha.keeps h1, h2, h2', hlen, ?_⟩
      rcases h3 with ⟨h3, h4⟩ | ⟨b, c, ty, h3, h4, h5, h6⟩
      · exact .inl ⟨by rw [setLam_same, h3], h4⟩
      · exact .inr ⟨b, c, ty, by rw [setLam_same, h3], h4, h5, by rw [flat_agree ha.keeps h1]; exact h6⟩)
  have hk' : hget kc ((n, Ent.vec cap sz l) :: hdel kv H) = some (.cel u) := by
    simp only [hget, if_neg (show kc ≠ n by omega), hget_hdel hne, hc]
  obtain ⟨hu, _⟩ := h0.has kc _ (hget_mem hk')
  have hx := (h.has kc _ (hget_mem hc)).1
  obtain ⟨a, b, e1, e2, hxok⟩ := getP_spec lam p hx hg
  simp only [AV.ok] at hxok
  have hpos : setLam lam n (lam kv 0) kv 0 = lam kv 0 := setLam_ne _ _ _ (by omega)
  have hpn : setLam lam n (lam kv 0) n 0 = lam kv 0 := setLam_same _ _ _
  have hcell : cellsA (setLam lam n (lam kv 0)) (.slc n 0 [] sz 0 0 len cap) = cellsA (setLam lam n (lam kv 0)) (.slc kv 0 [] sz 0 0 len cap) := by
    rw [cells_leaf _ rfl, cells_leaf _ rfl]
    simp only [AV.conc, hpos, hpn]
  have hyok : (AV.slc n 0 [] sz 0 0 len cap).ok (setLam lam n (lam kv 0)) (n + 1) := by
    simp only [AV.ok, hpn]
    exact ⟨by omega, setLam_born _ _ _, hxok.2.2.1, hxok.2.2.2⟩
  obtain ⟨g1, g2, g3⟩ := put_swap hu hyok hcell hg hp
  have := hsit_swap h0 hk' g1 g2 g3
  simp only [hset, if_neg (show kc ≠ n by omega)] at this
  exact this

/-- A row that a cell names goes on under a new number. -/
def FreshP (kc : Nat) (p : List PE) (Q : AV → Hp → Nat → Prop) (v : AV) (H' : Hp) (n' : Nat) : Prop :=
  ∃ kv sz len cap l u u', kc ≠ kv ∧ hget kc H' = some (.cel u) ∧ hget kv H' = some (.vec cap sz l) ∧ getP u p = some (.slc kv 0 [] sz 0 0 len cap) ∧ putP u p (.slc n' 0 [] sz 0 0 len cap) = some u' ∧
    Q v ((n', .vec cap sz l) :: hset kc (.cel u') (hdel kv H')) (n' + 1)
theorem callA_fresh {P : Program} {f : FuncId} {args : List AV} {Q : AV → Hp → Nat → Prop} (kc : Nat) (p : List PE) (h : callA P f args H n (FreshP kc p Q)) : callA P f args H n Q := by
  refine ⟨h.1, fun N D w lam hH hN hok => (h.2 N D w lam hH hN hok).mono fun v' w' ha => ?_⟩
  obtain ⟨v, H', n', lam', hv, ⟨kv, sz, len, cap, l, u, u', hne, hc, hvec, hg, hp, hq⟩, hn, hvok, hH', hU, hag, hky⟩ := ha
  have hk2 := setLam_agree lam' n' (lam' kv 0)
  refine ⟨v, _, _, setLam lam' n' (lam' kv 0), by rw [hv, conc_agree hk2.keeps hvok], hq, by omega, ok_mono (by omega) hk2.keeps hvok, hsit_fresh hH' hne hc hvec hg hp, hU, hag.trans (hk2.mono hn), ?_⟩
  have hnd : ((hdel kv H').map (·.1)).Nodup := hH'.nd.sublist ((hdel_sub' kv H').map _)
  exact KeyS.cons (((hky.trans (KeyS.sub (hdel_sub' kv H'))).trans (KeyS.set hnd (by rw [hget_hdel hne]; exact hc) rfl))) rfl hn
end

end Go.Y
