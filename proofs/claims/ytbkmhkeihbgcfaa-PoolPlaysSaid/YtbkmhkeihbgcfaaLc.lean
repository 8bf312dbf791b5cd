/-
  slices.overlaps, which has no body: two rows that may be written, of different numbers, lie apart.
-/
import Derived.Test.YtbkmhkeihbgcfaaMz
import Derived.Lib.Overlaps
set_option linter.unusedVariables false
set_option linter.unusedSimpArgs false
namespace Go.Y
def ovE (k1 k2 : Nat) : Option Ent → Option Ent → Option AV
  | some (.vec c1 z1 _), some (.vec c2 z2 _) => bol (if ¬ k1 = k2 ∧ 0 < z1 ∧ 0 < z2 ∧ 0 < c1 ∧ 0 < c2 then true else false) (some (.bool false))
  | _, _ => none
def ovS : List AV → Hp → Option AV
  | [.slc k1 0 [] _ _ _ _ _, .slc k2 0 [] _ _ _ _ _], H => ovE k1 k2 (hget k1 H) (hget k2 H)
  | _, _ => none
theorem ovS_slc (k1 m1 a1 s1 l1 c1 k2 m2 a2 s2 l2 c2 : Nat) (H : Hp) : ovS [.slc k1 0 [] m1 a1 s1 l1 c1, .slc k2 0 [] m2 a2 s2 l2 c2] H = ovE k1 k2 (hget k1 H) (hget k2 H) := rfl
theorem ovE_vec (k1 k2 c1 z1 c2 z2 : Nat) (l l' : List AV) : ovE k1 k2 (some (.vec c1 z1 l)) (some (.vec c2 z2 l')) = bol (if ¬ k1 = k2 ∧ 0 < z1 ∧ 0 < z2 ∧ 0 < c1 ∧ 0 < c2 then true else false) (some (.bool false)) := rfl
theorem ov_ext {P : Program} {f : FuncId} {fn : Func} {tS e tR : TypeId} {size : Nat} (hf : P.funcs[f]? = some fn) (hname : (fn.name == "runtime.NumGoroutine") = false) (hb : fn.body.isNone = true) (hn : Extern.findNext fn = none)
    (he : Extern.find fn = some (Extern.SlicesOverlaps.overlaps #[tS, tS] #[tR])) (ht : P.underlying tS = some (.slice e)) (hz : ∀ w, (Go.sizeOf e).run P w = .ok size w) :
    ∀ args H v, ovS args H = some v → PureA P f args v ∨ ExtA P f args H v := by
  intro args H v h
  refine .inr ?_
  intro N D w lam n hH hok
  unfold ovS at h
  split at h
  · rename_i k1 m1 a1 s1 l1 c1 k2 m2 a2 s2 l2 c2
    unfold ovE at h
    split at h
    · rename_i cap1 z1 r1 cap2 z2 r2 h1 h2
      by_cases hp : ¬ k1 = k2 ∧ 0 < z1 ∧ 0 < z2 ∧ 0 < cap1 ∧ 0 < cap2
      · rw [if_pos hp] at h
        simp only [bol] at h
        cases h
        obtain ⟨hne, hz1, hz2, hc1, hc2⟩ := hp
        have m1' := hget_mem h1
        have m2' := hget_mem h2
        obtain ⟨_, _, _, _, g1⟩ := hH.has _ _ m1'
        obtain ⟨_, _, _, _, g2⟩ := hH.has _ _ m2'
        rcases g1 with ⟨_, g1⟩ | ⟨b1, q1, ty1, e1, hp1, sz1, _⟩
        · omega
        rcases g2 with ⟨_, g2⟩ | ⟨b2, q2, ty2, e2, hp2, sz2, _⟩
        · omega
        have hbne : b1 ≠ b2 := by
          intro hb
          subst hb
          exact hne ((hH.apart _ _ m1' rfl _ _ m2' 0 b1 0 0 (.inl rfl) e1 e2).1).symm
        have hk2 : q2.size ≠ 0 := by
          rw [sz2]; exact Nat.mul_ne_zero (by omega) (by omega)
        refine ⟨?_, by simp [AV.ok]⟩
        rw [run_callFunc_extern hf hname hb hn he]
        simp only [concL, AV.conc, e1, e2, slcV]
        rw [Lib.run_overlaps_apart w tS tR e ht size hz _ _ l1 c1 l2 c2 hbne ty1 ty2 q1.size q2.size (by simp [World.shape?, hp1]) (by simp [World.shape?, hp2]) hk2 (by simp [World.frozen?, hp1]) (by simp [World.frozen?, hp1])]
        rfl
      · rw [if_neg hp] at h; simp [bol] at h
    · cases h
  · cases h

/-! ### A row that is answered goes on under a new number -/
theorem hsit_rowv {N : Nat} {D : Nat → Prop} {n : Nat} {w : World} {lam : Lam} {H : Hp} (h : HSit N D lam H n w) {kv cap sz : Nat} {l : List AV} (hv : hget kv H = some (.vec cap sz l)) :
    HSit N D (setLam lam n (lam kv 0)) ((n, .vec cap sz l) :: hdel kv H) (n + 1) w := by
  have hkv := h.low kv _ (hget_mem hv)
  have ha := setLam_agree lam n (lam kv 0)
  have hEv := h.has kv _ (hget_mem hv)
  refine (h.sub (hdel_sub' kv H)).cons (w' := w) (x := lam kv 0) (e := .vec cap sz l) rfl
    (fun b o e => ⟨h.wr kv _ (hget_mem hv) rfl b o e, fun k y hk i o' hi hl => hdel_neq h.nd hk (h.apart kv _ (hget_mem hv) rfl k y ((hdel_sub' kv H).subset hk) i b o o' hi e hl).1⟩) (fun _ _ _ => rfl) ?_
  obtain ⟨h1, h2, h2', hlen, h3⟩ := hEv
  refine ⟨okL_mono (by omega) ha.keeps h1, h2, h2', hlen, ?_⟩
  rcases h3 with ⟨h3, h4⟩ | ⟨b, c, ty, h3, h4, h5, h6⟩
  · exact .inl ⟨by rw [setLam_same, h3], h4⟩
  · exact .inr ⟨b, c, ty, by rw [setLam_same, h3], h4, h5, by rw [flat_agree ha.keeps h1]; exact h6⟩
def FreshV (Q : AV → Hp → Nat → Prop) (v : AV) (H' : Hp) (n' : Nat) : Prop :=
  ∃ kv sz len cap l, v = .slc kv 0 [] sz 0 0 len cap ∧ hget kv H' = some (.vec cap sz l) ∧ Q (.slc n' 0 [] sz 0 0 len cap) ((n', .vec cap sz l) :: hdel kv H') (n' + 1)
theorem callA_freshV {P : Program} {f : FuncId} {args : List AV} {H : Hp} {n : Nat} {Q : AV → Hp → Nat → Prop} (h : callA P f args H n (FreshV Q)) : callA P f args H n Q := by
  refine ⟨h.1, fun N D w lam hH hN hok => (h.2 N D w lam hH hN hok).mono fun v' w' ha => ?_⟩
  obtain ⟨v, H', n', lam', hv, ⟨kv, sz, len, cap, l, rfl, hvec, hq⟩, hn, hvok, hH', hU, hag, hky⟩ := ha
  have hk2 := setLam_agree lam' n' (lam' kv 0)
  refine ⟨_, _, _, setLam lam' n' (lam' kv 0), ?_, hq, by omega, ?_, hsit_rowv hH' hvec, hU, hag.trans (hk2.mono hn), ?_⟩
  · rw [hv]
    simp only [AV.conc, setLam_same]
  · simp only [AV.ok, setLam_same] at hvok ⊢
    exact ⟨by omega, setLam_born _ _ _, hvok.2.2.1, hvok.2.2.2⟩
  · exact KeyS.cons (hky.trans (KeyS.sub (hdel_sub' kv H'))) rfl hn

/-! ### Rows of structures that are copied onto each other -/
theorem elemsF_vec {k a s len cap cap' n c : Nat} {l : List AV} {H : Hp} (hg : hget k H = some (.vec cap' n l)) (hc : c ≤ len) (hs : s + c ≤ l.length) : elemsF n (.slc k 0 [] n a s len cap) c H = some ((l.drop s).take c) := by
  show (if n = n ∧ c ≤ len then elemsC (elemsT (hget k H) 0 []) s c n else none) = _
  rw [if_pos ⟨rfl, hc⟩, hg]
  show elemsE (some (.vec cap' n l)) 0 [] s c n = _
  rw [elemsE_vec, if_pos rfl, if_pos (.inl hs)]; rfl
theorem effK_cp {T : Type} {cx : Cx} {fx : Fx} {kt : Kt} {H : Hp} {n z : Nat} {e : T → AV} {k ks a s len c a2 s2 l2 c2 cap cap2 c0 : Nat} {X Y : List T} {RA SA : List AV} (hg : hget k H = some (.vec cap z RA)) (hgs : hget ks H = some (.vec cap2 z SA)) (hR : RA = X.map e) (hS : SA = Y.map e)
    (hc : (c0 ≤ l2 ∧ c0 ≤ len) ∧ (c0 = l2 ∨ c0 = len)) (h1 : s ≤ X.length ∧ s + len ≤ cap) (h2 : s2 + c0 ≤ Y.length)
    (hk : ∀ Z : List T, Imp (Z = X.take s ++ (Y.drop s2).take c0 ++ X.drop (s + c0)) (EffK cx fx kt (some (.int .i64 c0, hset k (.vec cap z (Z.map e)) H)) n)) :
    EffK cx fx kt (copyA z (.slc k 0 [] z a s len c) (.slc ks 0 [] z a2 s2 l2 c2) H) n := by
  have hm : min (lenX (.slc ks 0 [] z a2 s2 l2 c2)) len = c0 := by show min l2 len = c0; omega
  subst hR hS
  refine effK_copy (l := ((Y.drop s2).take c0).map e) (by rw [hm, elemsF_vec hgs hc.1.1 (by rw [List.length_map]; exact h2), ← List.map_drop, ← List.map_take]) hg (by rw [List.length_map]; exact h1) ?_
  have := hk _ rfl
  have hl : (((Y.drop s2).take c0).map e).length = c0 := by rw [List.length_map, List.length_take, List.length_drop]; omega
  rw [hm, hl, ← List.map_take, ← List.map_drop, ← List.map_append, ← List.map_append]
  exact this
theorem mv_zero (m a : Nat) : mv m 0 a = a := by unfold mv; split <;> rfl
/-- A row that grows by elements that are zero. -/
theorem appK_growZ {T : Type} {cx : Cx} {fx : Fx} {kt : Kt} {H : Hp} {n zs bb : Nat} {e : T → AV} {z0 : T} {b : Bool} {k a len cap m cap' : Nat} {X : List T} {RA : List AV} {c : Int} {t : TypeId} {s : Option (Bool × Nat)} {z' xv : Option AV} {z : AV}
    (hg : hget k H = some (.vec cap' zs RA)) (hR : RA = X.map e) (hz : z = e z0) (hzs : (z.size == zs && !z.isTup) = true) (hb : bytesE cx.P t = some bb) (hc : c = (m : Int) ∧ m ≤ 1000000000) (hl : len ≤ X.length) (hcap : cap < len + m) (hroom : (len + m) * bb ≤ 140737488355328 ∧ len + m ≤ 9223372036854775807)
    (hk : ∀ (Z : List T) (c2 : Nat), Imp (Z = X.take len ++ List.replicate m z0 ∧ len + m ≤ c2) (FinK cx fx kt (.slc n 0 [] zs 0 0 (len + m) c2) ((n, .vec c2 zs (Z.map e)) :: H) (n + 1))) :
    AppK cx fx kt t (appO s z' false xv (some (.int .i64 c)) H) (growO (some (b, zs)) (some z) false true (some (.slc k 0 [] zs a 0 len cap)) (some (.int .i64 c)) H) H n := by
  obtain ⟨rfl, hm⟩ := hc
  subst hR hz
  refine appK_grow ?_
  have h1 : elemsN zs (.slc k 0 [] zs a 0 len cap) H = some ((X.take len).map e) := by
    rw [elemsN_slc, if_pos rfl, hg, elemsE_vec, if_pos rfl, if_pos (.inl (by rw [List.length_map]; omega)), bol_true, List.drop_zero, ← List.map_take]
  have h2 : zeroN (e z0) (.int .i64 (m : Int)) = some ((List.replicate m z0).map e) := by
    rw [zeroN_int, if_pos ⟨by omega, by omega⟩, Int.toNat_natCast, List.map_replicate]
  rw [growO_zero, if_pos hzs, h1, h2, grO_some, appG_some]
  have hl1 : ((X.take len).map e).length = len := by rw [List.length_map, List.length_take]; omega
  have hl2 : ((List.replicate m z0).map e).length = m := by rw [List.length_map, List.length_replicate]
  refine appH_go ?_ ?_ ?_
  · rw [hl1, hl2, roomOk_eq, hb]; exact hroom
  · rw [hl1, hl2]; exact hcap
  · rw [hl1, hl2, ← List.map_append]
    exact fun c2 hc2 => hk _ c2 ⟨rfl, hc2⟩

/-! ### From chapter 3 -/
/-- What a slice of unknown begin is: nil, or not. -/
theorem callA_split {P : Program} {f : FuncId} {k sz : Nat} {H : Hp} {n : Nat} {Q : AV → Hp → Nat → Prop} (h0 : callA P f [.nils] H n Q) (h1 : callA P f [.slc k 0 [] sz 0 1 0 0] H n Q) (a : Nat) (h : a = 0) : callA P f [.slc k 0 [] sz a 0 0 0] H n Q := by
  subst h
  refine ⟨h0.1, fun N D w lam hH hN hok => ?_⟩
  simp only [okL, AV.ok] at hok
  cases hq : lam k 0 with
  | none =>
    have := h0.2 N D w lam hH hN (by simp [okL, AV.ok])
    have e : concL lam [AV.slc k 0 [] sz 0 0 0 0] = concL lam [AV.nils] := by simp [concL, AV.conc, slcV, hq]
    rw [e]; exact this
  | some q =>
    have := h1.2 N D w lam hH hN (by simp only [okL, AV.ok]; exact ⟨⟨hok.1.1, hok.1.2.1, Nat.le_refl _, fun h => absurd rfl h, fun _ => by rw [hq]; simp⟩, trivial⟩)
    have e : concL lam [AV.slc k 0 [] sz 0 0 0 0] = concL lam [AV.slc k 0 [] sz 0 1 0 0] := by simp [concL, AV.conc, slcV, hq]
    rw [e]; exact this
/-- A nil slice that is answered is a slice of an empty row. -/
theorem callA_nilV {P : Program} {f : FuncId} {args : List AV} (sz : Nat) {H : Hp} {n : Nat} {Q : AV → Hp → Nat → Prop} (h : callA P f args H n fun v H' n' => v = .nils ∧ Q (.slc (n' + 1) 0 [] sz 0 0 0 0) ((n' + 1, .vec 0 sz []) :: H') (n' + 2)) : callA P f args H n Q := by
  refine ⟨h.1, fun N D w lam hH hN hok => (h.2 N D w lam hH hN hok).mono fun v' w' ha => ?_⟩
  obtain ⟨v, H', n', lam', hv, ⟨rfl, hq⟩, hn, hvok, hH', hU, hag, hky⟩ := ha
  have hk1 := setLam_agree lam' n' none
  have hk2 := setLam_agree (setLam lam' n' none) (n' + 1) none
  have hs := (hsit_row (hsit_row hH' sz) sz).sub (H' := (n' + 1, .vec 0 sz []) :: H') (List.Sublist.cons_cons _ (List.sublist_cons_self _ _))
  refine ⟨.slc (n' + 1) 0 [] sz 0 0 0 0, _, _, _, ?_, hq, by omega, ?_, hs, hU, (hag.trans (hk1.mono hn)).trans (hk2.mono (by omega)), ?_⟩
  · rw [hv]; simp [AV.conc, slcV, setLam_same]
  · simp only [AV.ok]; exact ⟨by omega, setLam_born _ _ _, Nat.le_refl _, fun h => absurd rfl h, fun h => absurd rfl h⟩
  · exact KeyS.cons hky rfl (by omega)
/-- A row that a cell names goes on under a new number: also ahead of a loop. -/
theorem awp_fresh {P : Program} {fx : Fx} {c : Code} {T : Sl} {H : Hp} {n : Nat} {K : Ex → St → Prop} (kc : Nat) (p : List PE) {kv cap sz len : Nat} {l : List AV} {u u' : AV} (hne : kc ≠ kv) (hc : hget kc H = some (.cel u)) (hv : hget kv H = some (.vec cap sz l))
    (hg : getP u p = some (.slc kv 0 [] sz 0 0 len cap)) (hp : putP u p (.slc n 0 [] sz 0 0 len cap) = some u')
    (h : awp P fx c ⟨T, (n, .vec cap sz l) :: hset kc (.cel u') (hdel kv H), n + 1⟩ K) : awp P fx c ⟨T, H, n⟩ K := by
  intro N D b kk cs tmps rs w lam hs hn hb
  have ha := setLam_agree lam n (lam kv 0)
  have hn' : fx.n0 ≤ n := hn
  obtain ⟨e, st', tmps', rs', w', lam', hK, hS, hn2, hU, hag, hky, hA⟩ := h N D b kk cs tmps rs w (setLam lam n (lam kv 0)) ⟨hs.tmp.mono ha.keeps (Nat.le_succ n), hsit_fresh hs.heap hne hc hv hg hp, hs.size, hs.nt, hs.marks, hs.once⟩ (by show fx.n0 ≤ n + 1; omega) (hb.agree (ha.mono hn'))
  refine ⟨e, st', tmps', rs', w', lam', hK, hS, hn2, hU, (ha.mono hn').trans hag, ?_, hA⟩
  have hnd : ((hdel kv H).map (·.1)).Nodup := hs.heap.nd.sublist ((hdel_sub' kv H).map _)
  exact (KeyS.cons ((KeyS.sub (hdel_sub' kv H)).trans (KeyS.set hnd (by rw [hget_hdel hne]; exact hc) rfl)) rfl hn').trans hky
theorem loopS_fresh {cx : Cx} {fx : Fx} {k : Kd} {c : Code} {T : Sl} {H : Hp} {n : Nat} (kc : Nat) (p : List PE) {kv cap sz len : Nat} {l : List AV} {u u' : AV} (hne : kc ≠ kv) (hc : hget kc H = some (.cel u)) (hv : hget kv H = some (.vec cap sz l))
    (hg : getP u p = some (.slc kv 0 [] sz 0 0 len cap)) (hp : putP u p (.slc n 0 [] sz 0 0 len cap) = some u')
    (h : LoopS cx fx c ⟨T, (n, .vec cap sz l) :: hset kc (.cel u') (hdel kv H), n + 1⟩ k) : LoopS cx fx c ⟨T, H, n⟩ k := fun hpu hok => awp_fresh kc p hne hc hv hg hp (h hpu hok)
theorem lp_gen {R : Code → Code → Prop} {F : Code → Code → Prop} {A B : Code} (h : ∀ ag bd, R ag bd → F ag bd) (hr : R A B) : F A B := h _ _ hr

/-! ### Rows that are read only, or not -/
def rowE (b : Bool) (c sz : Nat) (l : List AV) : Ent := match b with | true => .vec c sz l | false => .ro fun _ => .rows sz l
theorem loadE_rowE (b : Bool) (c sz : Nat) (r : List AV) (l : Option (Bool × Nat)) (p : List PE) : loadE l (some (rowE b c sz r)) 0 p = chkL l (getP (.rows sz r) p) := by cases b <;> rfl
theorem elemsE_rowE (b : Bool) (c n m : Nat) (l : List AV) (s len : Nat) : elemsE (some (rowE b c n l)) 0 [] s len m = if n = m then bol (if s + len ≤ l.length ∨ len = 0 then true else false) (some ((l.drop s).take len)) else none := by
  cases b
  · show elemsC (some (.rows n l)) s len m = _
    simp only [elemsC]
    split
    · by_cases h : s + len ≤ l.length ∨ len = 0
      · rw [if_pos h, if_pos h]; rfl
      · rw [if_neg h, if_neg h]; rfl
    · rfl
  · exact elemsE_vec c n m l s len
theorem viewE_rowE (b : Bool) (c sz : Nat) (l : List AV) : viewE (some (rowE b c sz l)) = some (sz, l) := by cases b <;> rfl
theorem rowE_true (c sz : Nat) (l : List AV) : rowE true c sz l = .vec c sz l := rfl
theorem rowE_flat {T : Type} {e : T → AV} (hf : ∀ a, flatB (e a) = true) (b : Bool) (c sz : Nat) (l : List T) (τ : Nat → Nat) : (rowE b c sz (l.map e)).ren τ = rowE b c sz (l.map e) := by
  cases b <;> simp [rowE, Ent.ren, AV.ren, renL_maps hf]
end Go.Y

/-
  A row may be forgotten from somewhere on.
-/
set_option linter.unusedVariables false
set_option linter.unusedSimpArgs false
namespace Go.Y
section
variable {N : Nat} {D : Nat → Prop} {n : Nat} {w : World} {lam : Lam} {H : Hp}
theorem HSit.swapE (h : HSit N D lam H n w) {k : Nat} {e e' : Ent} (hk : hget k H = some e) (hwr : e.writes = true) (hwr' : e'.writes = true) (he : HasE lam n w k e') : HSit N D lam (hset k e' H) n w := by
  have hm := hget_mem hk
  have mem : ∀ c x, (c, x) ∈ hset k e' H → (c = k ∧ x = e') ∨ (c ≠ k ∧ (c, x) ∈ H) := fun c x hc => hset_mem h.nd hc
  have old : ∀ c x, (c, x) ∈ hset k e' H → ∃ x0, (c, x0) ∈ H ∧ (x.writes = x0.writes) := by
    intro c x hc
    rcases mem c x hc with ⟨rfl, rfl⟩ | ⟨_, hc⟩
    · exact ⟨e, hm, by rw [hwr, hwr']⟩
    · exact ⟨x, hc, rfl⟩
  refine ⟨fun c x hc => ?_, fun c x hc => ?_, fun c x hc hw b' o' hl' => ?_, fun c x hc hw c' x' hc' i b' o1 o2 hi h1 h2 => ?_, by rw [hset_keys]; exact h.nd⟩
  · rcases mem c x hc with ⟨rfl, rfl⟩ | ⟨hne, hc⟩
    · exact he
    · exact h.has c x hc
  · obtain ⟨x0, hx0, _⟩ := old c x hc; exact h.low c x0 hx0
  · obtain ⟨x0, hx0, e0⟩ := old c x hc; exact h.wr c x0 hx0 (by rw [← e0]; exact hw) b' o' hl'
  · obtain ⟨x0, hx0, e0⟩ := old c x hc
    obtain ⟨x1, hx1, e1⟩ := old c' x' hc'
    exact h.apart c x0 hx0 (by rw [← e0]; exact hw) c' x1 hx1 i b' o1 o2 (by rw [← e1]; exact hi) h1 h2
theorem hsit_trim (h : HSit N D lam H n w) {k cap sz : Nat} {l : List AV} (m : Nat) (hk : hget k H = some (.vec cap sz l)) : HSit N D lam (hset k (.vec cap sz (l.take m)) H) n w := by
  obtain ⟨h1, h2, h3, h4, h5⟩ := h.has k _ (hget_mem hk)
  refine h.swapE hk rfl rfl ⟨okL_take h1 m, okR_take h2 m, fun v hv => h3 v (List.mem_of_mem_take hv), by rw [List.length_take]; omega, ?_⟩
  rcases h5 with h5 | ⟨b, c, ty, g1, g2, g3, g4⟩
  · exact .inl h5
  · refine .inr ⟨b, c, ty, g1, g2, g3, List.IsPrefix.trans ?_ g4⟩
    refine ⟨(l.drop m).flatMap (cellsA lam), ?_⟩
    rw [← List.flatMap_append, List.take_append_drop]
end
def TrimP (k m : Nat) (Q : AV → Hp → Nat → Prop) (v : AV) (H' : Hp) (n' : Nat) : Prop := ∃ cap sz l, hget k H' = some (.vec cap sz l) ∧ Q v (hset k (.vec cap sz (l.take m)) H') n'
theorem callA_trim {P : Program} {f : FuncId} {args : List AV} {H : Hp} {n : Nat} {Q : AV → Hp → Nat → Prop} (k m : Nat) (h : callA P f args H n (TrimP k m Q)) : callA P f args H n Q := by
  refine ⟨h.1, fun N D w lam hH hN hok => (h.2 N D w lam hH hN hok).mono fun v' w' ha => ?_⟩
  obtain ⟨v, H', n', lam', hv, ⟨cap, sz, l, hk, hq⟩, hn, hvok, hH', hU, hag, hky⟩ := ha
  exact ⟨v, _, _, lam', hv, hq, hn, hvok, hsit_trim hH' m hk, hU, hag, hky.trans (KeyS.set hH'.nd hk rfl)⟩
end Go.Y
