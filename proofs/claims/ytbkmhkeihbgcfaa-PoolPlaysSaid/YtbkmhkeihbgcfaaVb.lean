/-
  Chapter 17, plain laws: the pool and the document's pool side by side.
-/
import Derived.Test.YtbkmhkeihbgcfaaPe
import Derived.Test.YtbkmhkeihbgcfaaVa
set_option linter.unusedVariables false
set_option linter.unusedSimpArgs false
set_option maxRecDepth 10000
namespace Go.Proofs.Ytbkmhkeihbgcfaa
open Go.Y
/-- A list that ends properly. -/
def chN (ns : List Node) : Int → List Int → Prop
  | h, [] => h = -1
  | h, j :: r => h = j ∧ takenP ns h = true ∧ chN ns (gN ns j.toNat) r
/-- Nodes that are free, from one on. -/
def chF (ns : List Node) : Int → List Int → Prop
  | h, [] => h = -1
  | h, j :: r => (h = j ∧ (0 ≤ j ∧ j < (ns.length : Int)) ∧ takenP ns j = false) ∧ chF ns (gN ns j.toNat) r
theorem taken_m1 (ns : List Node) : takenP ns (-1) = false := by unfold takenP; rw [if_neg (by omega)]
theorem chN_P {ns : List Node} : ∀ {js : List Int} {h : Int}, chN ns h js → chainP ns h js
  | [], h, hc => by rw [show h = -1 from hc]; exact taken_m1 ns
  | j :: r, h, hc => ⟨hc.1, hc.2.1, chN_P hc.2.2⟩
theorem chN_tk {ns : List Node} : ∀ {js : List Int} {h : Int}, chN ns h js → ∀ j, j ∈ js → takenP ns j = true
  | [], h, hc, j, hj => absurd hj List.not_mem_nil
  | i :: r, h, hc, j, hj => by
    rcases List.mem_cons.1 hj with e | hj
    · subst e; rw [← hc.1]; exact hc.2.1
    · exact chN_tk hc.2.2 j hj
theorem chF_un {ns : List Node} : ∀ {js : List Int} {h : Int}, chF ns h js → ∀ j, j ∈ js → (0 ≤ j ∧ j < (ns.length : Int)) ∧ takenP ns j = false
  | [], h, hc, j, hj => absurd hj List.not_mem_nil
  | i :: r, h, hc, j, hj => by
    rcases List.mem_cons.1 hj with e | hj
    · subst e; exact hc.1.2
    · exact chF_un hc.2 j hj
theorem get_set_ne {ns : List Node} {i j : Nat} {v : Node} (h : i ≠ j) : (ns.set j v).getD i default = ns.getD i default := by
  rw [List.getD_eq_getElem?_getD, List.getElem?_set_ne (Ne.symm h), ← List.getD_eq_getElem?_getD]
theorem get_set_eq {ns : List Node} {j : Nat} {v : Node} (h : j < ns.length) : (ns.set j v).getD j default = v := by
  rw [List.getD_eq_getElem?_getD, List.getElem?_set_self h]; rfl
theorem taken_ne {ns : List Node} {j h : Int} {v : Node} (hj : 0 ≤ j) (hne : h ≠ j) : takenP (ns.set j.toNat v) h = takenP ns h := by
  unfold takenP
  rw [List.length_set]
  split
  · rename_i hh
    rw [get_set_ne (by omega)]
  · rfl
theorem taken_eq {ns : List Node} {j : Int} {v : Node} (hj : 0 ≤ j ∧ j < (ns.length : Int)) : takenP (ns.set j.toNat v) j = v.2.2 := by
  unfold takenP
  rw [List.length_set, if_pos hj, get_set_eq (by omega)]
theorem chN_set {ns : List Node} {j : Int} {v : Node} (h0 : 0 ≤ j) : ∀ {js : List Int} {h : Int}, j ∉ js → chN ns h js → chN (ns.set j.toNat v) h js
  | [], h, _, hc => hc
  | i :: r, h, hn, hc => by
    have hne : i ≠ j := fun e => hn (by rw [e]; exact List.mem_cons_self ..)
    obtain ⟨h1, h2, h3⟩ := hc
    subst h1
    have hb := taken_bd h2
    refine ⟨rfl, by rw [taken_ne h0 hne]; exact h2, ?_⟩
    unfold gN
    rw [get_set_ne (by omega)]
    exact chN_set h0 (fun hm => hn (List.mem_cons_of_mem _ hm)) h3
theorem chF_set {ns : List Node} {j : Int} {v : Node} (h0 : 0 ≤ j) : ∀ {js : List Int} {h : Int}, j ∉ js → chF ns h js → chF (ns.set j.toNat v) h js
  | [], h, _, hc => hc
  | i :: r, h, hn, hc => by
    have hne : i ≠ j := fun e => hn (by rw [e]; exact List.mem_cons_self ..)
    obtain ⟨⟨h1, h2, h3⟩, h4⟩ := hc
    refine ⟨⟨h1, by rw [List.length_set]; exact h2, by rw [taken_ne h0 hne]; exact h3⟩, ?_⟩
    unfold gN
    rw [get_set_ne (by omega)]
    exact chF_set h0 (fun hm => hn (List.mem_cons_of_mem _ hm)) h4
theorem get_app {ns : List Node} {v : Node} {i : Nat} (h : i < ns.length) : (ns ++ [v]).getD i default = ns.getD i default := by
  rw [List.getD_eq_getElem?_getD, List.getElem?_append_left h, ← List.getD_eq_getElem?_getD]
theorem get_new (ns : List Node) (v : Node) : (ns ++ [v]).getD ns.length default = v := by
  rw [List.getD_eq_getElem?_getD, List.getElem?_append_right (Nat.le_refl _), Nat.sub_self]; rfl
theorem taken_app {ns : List Node} {v : Node} {h : Int} (hh : h ≠ (ns.length : Int)) : takenP (ns ++ [v]) h = takenP ns h := by
  unfold takenP
  rw [List.length_append]
  by_cases hb : 0 ≤ h ∧ h < (ns.length : Int)
  · rw [if_pos hb, if_pos (by simp; omega), get_app (by omega)]
  · rw [if_neg hb, if_neg (by simp; omega)]
theorem taken_new {ns : List Node} {v : Node} : takenP (ns ++ [v]) (ns.length : Int) = v.2.2 := by
  unfold takenP
  rw [List.length_append, if_pos (by simp; omega), show ((ns.length : Int)).toNat = ns.length by omega, get_new]
theorem chN_app {ns : List Node} {v : Node} : ∀ {js : List Int} {h : Int}, chN ns h js → chN (ns ++ [v]) h js
  | [], h, hc => hc
  | j :: r, h, hc => by
    obtain ⟨h1, h2, h3⟩ := hc
    subst h1
    have hb := taken_bd h2
    refine ⟨rfl, by rw [taken_app (by omega)]; exact h2, ?_⟩
    unfold gN
    rw [get_app (by omega)]
    exact chN_app h3
/-- How many are taken. -/
def cntT (ns : List Node) : Nat := ns.countP fun v => v.2.2
theorem cnt_set {ns : List Node} {j : Nat} {v : Node} (h : j < ns.length) : cntT (ns.set j v) + (if (ns.getD j default).2.2 = true then 1 else 0) = cntT ns + (if v.2.2 = true then 1 else 0) := by
  unfold cntT
  induction ns generalizing j with
  | nil => simp at h
  | cons a l ih =>
    cases j with
    | zero =>
      show (v :: l).countP _ + (if a.2.2 = true then 1 else 0) = (a :: l).countP _ + _
      rw [List.countP_cons, List.countP_cons]; omega
    | succ j =>
      have := ih (j := j) (by simpa using h)
      show (a :: l.set j v).countP _ + (if (l.getD j default).2.2 = true then 1 else 0) = (a :: l).countP _ + _
      rw [List.countP_cons, List.countP_cons]; omega
theorem cnt_app (ns : List Node) (v : Node) : cntT (ns ++ [v]) = cntT ns + (if v.2.2 = true then 1 else 0) := by
  unfold cntT
  rw [List.countP_append, List.countP_cons, List.countP_nil]; omega
theorem cnt_le (ns : List Node) : cntT ns ≤ ns.length := List.countP_le_length
theorem taken_get {ns : List Node} {j : Int} (h : takenP ns j = true) : (ns.getD j.toNat default).2.2 = true := by
  have hb := taken_bd h
  unfold takenP at h
  rw [if_pos hb] at h; exact h
theorem untaken_get {ns : List Node} {j : Int} (hb : 0 ≤ j ∧ j < (ns.length : Int)) (h : takenP ns j = false) : (ns.getD j.toNat default).2.2 = false := by
  unfold takenP at h
  rw [if_pos hb] at h; exact h
theorem few_taken : ∀ {js : List Int} {ns : List Node}, js.Nodup → (∀ j, j ∈ js → takenP ns j = true) → js.length ≤ cntT ns
  | [], ns, _, _ => Nat.zero_le _
  | j :: r, ns, hn, ht => by
    rw [List.nodup_cons] at hn
    have h1 := ht j (List.mem_cons_self ..)
    have hb := taken_bd h1
    have h2 := cnt_set (ns := ns) (j := j.toNat) (v := (0, 0, false)) (by omega)
    rw [taken_get h1] at h2
    have h3 := few_taken (js := r) (ns := ns.set j.toNat (0, 0, false)) hn.2 (fun i hi => by
      rw [taken_ne hb.1 (show i ≠ j from fun e => hn.1 (by rw [← e]; exact hi))]
      exact ht i (List.mem_cons_of_mem _ hi))
    rw [List.length_cons]
    simp at h2
    omega
structure PoI (p : PoolS) (hd : List Int) (y : YS) (i : Nat) : Prop where
  hl : hd.length = 8
  ch : ∃ ch : Nat → List Int, ∀ k, (chN p.ns (hd.getD k (-1)) (ch k) ∧ (ch k).Nodup) ∧ ∀ k', k ≠ k' → ∀ j, j ∈ ch k → j ∉ ch k'
  fl : chF p.ns p.free y.F.reverse ∧ y.F.Nodup ∧ cntT p.ns + y.F.length = p.ns.length
  live : p.live = (cntT p.ns : Int)
  bd : p.ns.length ≤ i ∧ (p.ns.length : Int) ≤ p.room ∧ p.room ≤ 65536
  yq : y.room = p.room ∧ y.top = p.most ∧ y.T = p.ns.map (fun v => v.2.2) ∧ y.X.length = p.ns.length ∧ y.N.length = p.ns.length
  ag : ∀ j, takenP p.ns j = true → xG y.X j = gX p.ns j.toNat ∧ xG y.N j = gN p.ns j.toNat
theorem po_tk {p : PoolS} {hd : List Int} {y : YS} {i : Nat} (h : PoI p hd y i) (j : Int) : takY y.T j = takenP p.ns j := by
  have hT := h.yq.2.2.1
  unfold takY takenP
  rw [hT, List.length_map]
  split
  · rename_i hb
    rw [List.getD_eq_getElem?_getD, List.getElem?_map, List.getD_eq_getElem?_getD, List.getElem?_eq_getElem (by omega)]; rfl
  · rfl
theorem hd_get {hd : List Int} {K k : Nat} {v : Int} (hK : K < hd.length) : (hd.set K v).getD k (-1) = if K = k then v else hd.getD k (-1) := by
  rw [List.getD_eq_getElem?_getD]
  by_cases h : K = k
  · subst h; rw [if_pos rfl, List.getElem?_set_self hK]; rfl
  · rw [if_neg h, List.getElem?_set_ne h, ← List.getD_eq_getElem?_getD]
/-- A node that is let go. -/
theorem free_one {p : PoolS} {hd : List Int} {y : YS} {i K : Nat} {j : Int} (h : PoI p hd y i) (hK : K < 8) (hj : hd.getD K (-1) = j) (ht : takenP p.ns j = true) :
    PoI ⟨p.room, j, p.live - 1, p.most, p.ns.set j.toNat (0, p.free, false)⟩ (hd.set K (gN p.ns j.toNat)) ⟨y.room, y.top, y.F ++ [j], y.T.set j.toNat false, y.X, y.N⟩ i := by
  obtain ⟨ch, hch⟩ := h.ch
  have hb := taken_bd ht
  have hKl : K < hd.length := by rw [h.hl]; exact hK
  have hc := cnt_set (ns := p.ns) (j := j.toNat) (v := (0, p.free, false)) (by omega)
  rw [taken_get ht] at hc
  simp at hc
  have hnF : j ∉ y.F := fun hm => by
    have := (chF_un h.fl.1 j (List.mem_reverse.2 hm)).2
    rw [ht] at this; exact Bool.noConfusion this
  have hcK : ch K = j :: (ch K).tail ∧ chN p.ns (gN p.ns j.toNat) (ch K).tail := by
    have := (hch K).1.1
    rw [hj] at this
    cases hc2 : ch K with
    | nil => rw [hc2] at this; have : j = -1 := this; omega
    | cons a r => rw [hc2] at this; obtain ⟨e, _, h3⟩ := this; subst e; exact ⟨rfl, h3⟩
  have hnd := (hch K).1.2
  rw [hcK.1, List.nodup_cons] at hnd
  refine ⟨by rw [List.length_set]; exact h.hl, ⟨fun k => if K = k then (ch K).tail else ch k, fun k => ?_⟩, ⟨?_, ?_, ?_⟩, ?_, ?_, ?_, ?_⟩
  · dsimp only
    rw [hd_get hKl]
    by_cases hk : K = k
    · subst hk
      rw [if_pos rfl, if_pos rfl]
      refine ⟨⟨chN_set hb.1 hnd.1 hcK.2, hnd.2⟩, fun k' hk' i hi => ?_⟩
      rw [if_neg hk']
      exact (hch K).2 k' hk' i (by rw [hcK.1]; exact List.mem_cons_of_mem _ hi)
    · rw [if_neg hk, if_neg hk]
      have hjk : j ∉ ch k := (hch K).2 k hk j (by rw [hcK.1]; exact List.mem_cons_self ..)
      refine ⟨⟨chN_set hb.1 hjk (hch k).1.1, (hch k).1.2⟩, fun k' hk' i hi => ?_⟩
      by_cases hk2 : K = k'
      · subst hk2
        rw [if_pos rfl]
        intro hm
        exact (hch k).2 K hk' i hi (by rw [hcK.1]; exact List.mem_cons_of_mem _ hm)
      · rw [if_neg hk2]
        exact (hch k).2 k' hk' i hi
  · show chF _ j (y.F ++ [j]).reverse
    rw [List.reverse_append]
    refine ⟨⟨rfl, by rw [List.length_set]; exact hb, by rw [taken_eq hb]⟩, ?_⟩
    unfold gN
    rw [get_set_eq (by omega)]
    exact chF_set hb.1 (fun hm => hnF (List.mem_reverse.1 hm)) h.fl.1
  · show (y.F ++ [j]).Nodup
    rw [List.nodup_append]
    refine ⟨h.fl.2.1, by simp, fun a ha b hb2 e => ?_⟩
    rw [List.mem_singleton] at hb2
    subst hb2; subst e; exact hnF ha
  · show cntT _ + (y.F ++ [j]).length = (p.ns.set _ _).length
    rw [List.length_append, List.length_set]
    have := h.fl.2.2
    simp
    omega
  · show p.live - 1 = _
    have := h.live
    dsimp only
    omega
  · show (p.ns.set _ _).length ≤ i ∧ (((p.ns.set _ _).length : Nat) : Int) ≤ p.room ∧ _
    rw [List.length_set]; exact h.bd
  · obtain ⟨q1, q2, q3, q4, q5⟩ := h.yq
    refine ⟨q1, q2, ?_, ?_, ?_⟩
    · show y.T.set j.toNat false = (p.ns.set _ _).map _
      rw [List.map_set, q3]
    · show y.X.length = (p.ns.set _ _).length
      rw [List.length_set]; exact q4
    · show y.N.length = (p.ns.set _ _).length
      rw [List.length_set]; exact q5
  · intro i hi
    have hi : takenP (p.ns.set j.toNat (0, p.free, false)) i = true := hi
    have hne : i ≠ j := fun e => by
      subst e; rw [taken_eq hb] at hi; exact Bool.noConfusion hi
    rw [taken_ne hb.1 hne] at hi
    have := h.ag i hi
    have hbi := taken_bd hi
    show xG y.X i = gX (p.ns.set _ _) i.toNat ∧ xG y.N i = gN (p.ns.set _ _) i.toNat
    unfold gX gN at this ⊢
    rw [get_set_ne (by omega)]; exact this
theorem frP_cons (p : PoolS) (j : Int) (r : List Int) : frP p (j :: r) = frP ⟨p.room, j, p.live - 1, p.most, p.ns.set j.toNat (0, p.free, false)⟩ r := by
  unfold frP
  rw [show (freeF p.ns p.free (j :: r)) = freeF (p.ns.set j.toNat (0, p.free, false)) j r from rfl]
  rw [List.length_cons]
  congr 1
  show p.live - ((r.length + 1 : Nat) : Int) = p.live - 1 - (r.length : Int)
  omega
theorem frP_nil (p : PoolS) : frP p [] = p := by
  unfold frP freeF
  obtain ⟨r, f, l, m, n⟩ := p
  show PoolS.mk r f (l - ((0 : Nat) : Int)) m n = PoolS.mk r f l m n
  rw [show l - ((0 : Nat) : Int) = l by omega]
theorem frY_cons (y : YS) (j : Int) (r : List Int) : freeYS y (j :: r) = freeYS ⟨y.room, y.top, y.F ++ [j], y.T.set j.toNat false, y.X, y.N⟩ r := by
  unfold freeYS
  rw [List.append_assoc]; rfl
theorem frY_nil (y : YS) : freeYS y [] = y := by
  unfold freeYS freeT
  rw [List.append_nil]
theorem po_free : ∀ {js : List Int} {p : PoolS} {hd : List Int} {y : YS} {i K : Nat}, PoI p hd y i → K < 8 → chN p.ns (hd.getD K (-1)) js → js.Nodup → PoI (frP p js) (hd.set K (-1)) (freeYS y js) i
  | [], p, hd, y, i, K, h, hK, hc, _ => by
    rw [frP_nil, frY_nil]
    have e : hd.set K (-1) = hd := by
      apply List.ext_getElem?
      intro k
      by_cases hk : K = k
      · subst hk
        have hl : K < hd.length := by rw [h.hl]; exact hK
        have hc : hd.getD K (-1) = -1 := hc
        rw [List.getElem?_set_self hl, List.getElem?_eq_getElem hl]
        rw [List.getD_eq_getElem?_getD, List.getElem?_eq_getElem hl] at hc
        exact congrArg some hc.symm
      · rw [List.getElem?_set_ne hk]
    rw [e]; exact h
  | j :: r, p, hd, y, i, K, h, hK, hc, hn => by
    obtain ⟨h1, h2, h3⟩ := hc
    rw [List.nodup_cons] at hn
    rw [h1] at h2
    have hs := free_one h hK h1 h2
    have hb := taken_bd h2
    have hKl : K < hd.length := by rw [h.hl]; exact hK
    have := po_free hs hK (js := r) (by rw [hd_get hKl, if_pos rfl]; exact chN_set hb.1 hn.1 h3) hn.2
    rw [List.set_set] at this
    rw [frP_cons, frY_cons]; exact this
def setP (p : PoolS) (h x : Int) : PoolS := if takenP p.ns h = true then ⟨p.room, p.free, p.live, p.most, p.ns.set h.toNat (x, gN p.ns h.toNat, gT p.ns h.toNat)⟩ else p
theorem po_set {p : PoolS} {hd : List Int} {y : YS} {i : Nat} (h : PoI p hd y i) (a x : Int) : PoI (setP p a x) hd (setYS y a x) i := by
  unfold setP setYS
  rw [po_tk h]
  split
  · rename_i ht
    have hb := taken_bd ht
    have hg := taken_get ht
    have hgT : gT p.ns a.toNat = true := hg
    have hc := cnt_set (ns := p.ns) (j := a.toNat) (v := (x, gN p.ns a.toNat, gT p.ns a.toNat)) (by omega)
    rw [hg] at hc
    have hc : cntT (p.ns.set a.toNat (x, gN p.ns a.toNat, gT p.ns a.toNat)) = cntT p.ns := by
      have e : (if gT p.ns a.toNat = true then 1 else 0) = 1 := by rw [if_pos hgT]
      have hc : cntT (p.ns.set a.toNat (x, gN p.ns a.toNat, gT p.ns a.toNat)) + 1 = cntT p.ns + (if gT p.ns a.toNat = true then 1 else 0) := hc
      rw [e] at hc
      omega
    have htk : ∀ j, takenP (p.ns.set a.toNat (x, gN p.ns a.toNat, gT p.ns a.toNat)) j = takenP p.ns j := fun j => by
      by_cases e : j = a
      · subst e; rw [taken_eq hb, ht]; exact hgT
      · exact taken_ne hb.1 e
    have hgN : ∀ j : Nat, gN (p.ns.set a.toNat (x, gN p.ns a.toNat, gT p.ns a.toNat)) j = gN p.ns j := fun j => by
      by_cases e : j = a.toNat
      · subst e
        show ((p.ns.set _ _).getD _ default).2.1 = _
        rw [get_set_eq (by omega)]
      · unfold gN; rw [get_set_ne e]
    have hN : ∀ (js : List Int) (b : Int), chN p.ns b js → chN (p.ns.set a.toNat (x, gN p.ns a.toNat, gT p.ns a.toNat)) b js := fun js => by
      induction js with
      | nil => exact fun b hc => hc
      | cons j r ih => exact fun b hc => ⟨hc.1, by rw [htk]; exact hc.2.1, by rw [hgN]; exact ih _ hc.2.2⟩
    have hF : ∀ (js : List Int) (b : Int), chF p.ns b js → chF (p.ns.set a.toNat (x, gN p.ns a.toNat, gT p.ns a.toNat)) b js := fun js => by
      induction js with
      | nil => exact fun b hc => hc
      | cons j r ih => exact fun b hc => ⟨⟨hc.1.1, by rw [List.length_set]; exact hc.1.2.1, by rw [htk]; exact hc.1.2.2⟩, by rw [hgN]; exact ih _ hc.2⟩
    obtain ⟨ch, hch⟩ := h.ch
    obtain ⟨q1, q2, q3, q4, q5⟩ := h.yq
    refine ⟨h.hl, ⟨ch, fun k => ⟨⟨hN _ _ (hch k).1.1, (hch k).1.2⟩, (hch k).2⟩⟩, ⟨hF _ _ h.fl.1, h.fl.2.1, ?_⟩, ?_, ?_, ⟨q1, q2, ?_, ?_, ?_⟩, ?_⟩
    · show cntT (p.ns.set _ _) + _ = (p.ns.set _ _).length
      rw [hc, List.length_set]; exact h.fl.2.2
    · show p.live = (cntT (p.ns.set _ _) : Int)
      rw [hc]; exact h.live
    · show (p.ns.set _ _).length ≤ i ∧ (((p.ns.set _ _).length : Nat) : Int) ≤ p.room ∧ _
      rw [List.length_set]; exact h.bd
    · show y.T = (p.ns.set _ _).map _
      rw [List.map_set, q3]
      apply List.ext_getElem?
      intro k
      by_cases e : a.toNat = k
      · subst e
        rw [List.getElem?_set_self (by rw [List.length_map]; omega), List.getElem?_map, List.getElem?_eq_getElem (by omega)]
        rw [List.getD_eq_getElem?_getD, List.getElem?_eq_getElem (by omega)] at hg
        show some _ = some (gT p.ns a.toNat)
        rw [hgT]; exact congrArg some hg
      · rw [List.getElem?_set_ne e]
    · show (y.X.set _ _).length = (p.ns.set _ _).length
      rw [List.length_set, List.length_set]; exact q4
    · show y.N.length = (p.ns.set _ _).length
      rw [List.length_set]; exact q5
    · intro j hj
      have hj : takenP (p.ns.set _ _) j = true := hj
      rw [htk] at hj
      have hbj := taken_bd hj
      have := h.ag j hj
      show xG (y.X.set a.toNat x) j = gX (p.ns.set _ _) j.toNat ∧ xG y.N j = gN (p.ns.set _ _) j.toNat
      rw [hgN]
      refine ⟨?_, this.2⟩
      by_cases e : j = a
      · subst e
        unfold xG gX
        rw [get_set_eq (by omega), List.getD_eq_getElem?_getD, List.getElem?_set_self (by omega)]; rfl
      · have h1 := this.1
        unfold xG gX at h1 ⊢
        rw [get_set_ne (by omega), List.getD_eq_getElem?_getD, List.getElem?_set_ne (by omega), ← List.getD_eq_getElem?_getD]; exact h1
  · exact h
theorem po_mono {p : PoolS} {hd : List Int} {y : YS} {i j : Nat} (h : PoI p hd y i) (hij : i ≤ j) : PoI p hd y j :=
  ⟨h.hl, h.ch, h.fl, h.live, ⟨Nat.le_trans h.bd.1 hij, h.bd.2⟩, h.yq, h.ag⟩
theorem getD_setI {l : List Int} {i j : Nat} {v : Int} (h : i < l.length) : (l.set i v).getD j default = if i = j then v else l.getD j default := by
  rw [List.getD_eq_getElem?_getD]
  by_cases e : i = j
  · subst e; rw [if_pos rfl, List.getElem?_set_self h]; rfl
  · rw [if_neg e, List.getElem?_set_ne e, ← List.getD_eq_getElem?_getD]
theorem getD_appI {l : List Int} {j : Nat} {v : Int} : (l ++ [v]).getD j default = if j = l.length then v else if j < l.length then l.getD j default else default := by
  rw [List.getD_eq_getElem?_getD]
  by_cases e : j = l.length
  · subst e; rw [if_pos rfl, List.getElem?_append_right (Nat.le_refl _), Nat.sub_self]; rfl
  · rw [if_neg e]
    by_cases h : j < l.length
    · rw [if_pos h, List.getElem?_append_left h, ← List.getD_eq_getElem?_getD]
    · rw [if_neg h, List.getElem?_append_right (by omega), List.getElem?_eq_none (by simp; omega)]; rfl
/-- What is pushed to a list. -/
theorem po_push {p : PoolS} {hd : List Int} {y : YS} {i K : Nat} (h : PoI p hd y i) (hK : K < 8) (x : Int) :
    ∃ (j : Int) (b : Bool) (q : PoolS) (z : YS), pushP p (hd.getD K (-1)) x = (j, b, q) ∧ pushY y (hd.getD K (-1)) x = (j, b, z) ∧ PoI q (hd.set K j) z (i + 1) := by
  obtain ⟨ch, hch⟩ := h.ch
  obtain ⟨q1, q2, q3, q4, q5⟩ := h.yq
  have hKl : K < hd.length := by rw [h.hl]; exact hK
  have hlv := h.live
  have hF := h.fl.2.2
  have hTl : y.T.length = p.ns.length := by rw [q3, List.length_map]
  have hbd := h.bd
  have hcl := cnt_le p.ns
  have hh : hd.getD K (-1) = -1 ∨ takenP p.ns (hd.getD K (-1)) = true := by
    have := (hch K).1.1
    cases hc : ch K with
    | nil => rw [hc] at this; exact .inl this
    | cons a r => rw [hc] at this; exact .inr this.2.1
  have hset : hd.set K (hd.getD K (-1)) = hd := by
    apply List.ext_getElem?
    intro k
    by_cases hk : K = k
    · subst hk
      rw [List.getElem?_set_self hKl, List.getD_eq_getElem?_getD, List.getElem?_eq_getElem hKl]; rfl
    · rw [List.getElem?_set_ne hk]
  unfold pushP pushY
  by_cases hr : p.live = p.room
  · rw [if_pos (.inr hr), if_pos (.inr (by rw [q1, hTl]; omega))]
    exact ⟨_, _, _, _, rfl, rfl, by rw [hset]; exact po_mono h (Nat.le_succ i)⟩
  · have n1 : ¬ ((hd.getD K (-1) ≠ -1 ∧ takenP p.ns (hd.getD K (-1)) = false) ∨ p.live = p.room) := by
      rintro (⟨h1, h2⟩ | h1)
      · rcases hh with h3 | h3
        · exact h1 h3
        · rw [h3] at h2; exact Bool.noConfusion h2
      · exact hr h1
    have n2 : ¬ ((hd.getD K (-1) ≠ -1 ∧ takY y.T (hd.getD K (-1)) = false) ∨ y.room ≤ (y.T.length : Int) - (y.F.length : Int)) := by
      rw [po_tk h, q1, hTl]
      rintro (⟨h1, h2⟩ | h1)
      · rcases hh with h3 | h3
        · exact h1 h3
        · rw [h3] at h2; exact Bool.noConfusion h2
      · omega
    rw [if_neg n1, if_neg n2]
    rcases nil_or_last y.F with hF0 | ⟨G, j, hF0⟩
    · have hfr : p.free = -1 := by have := h.fl.1; rw [hF0] at this; exact this
      rw [if_pos hfr, if_pos hF0, hTl]
      have hF0l : y.F.length = 0 := by rw [hF0]; rfl
      refine ⟨_, _, _, _, rfl, rfl, ⟨by rw [List.length_set]; exact h.hl, ⟨fun k => if K = k then (p.ns.length : Int) :: ch K else ch k, fun k => ?_⟩, ⟨hfr, List.nodup_nil, ?_⟩, ?_, ?_, ⟨q1, ?_, ?_, ?_, ?_⟩, ?_⟩⟩
      · dsimp only
        have hlt : ∀ k' i', i' ∈ ch k' → i' < (p.ns.length : Int) := fun k' i' hi' => (taken_bd (chN_tk (hch k').1.1 i' hi')).2
        rw [hd_get hKl]
        by_cases hk : K = k
        · subst hk
          rw [if_pos rfl, if_pos rfl]
          refine ⟨⟨⟨rfl, by rw [taken_new], ?_⟩, List.nodup_cons.2 ⟨fun hm => ?_, (hch K).1.2⟩⟩, fun k' hk' i' hi' => ?_⟩
          · unfold gN
            rw [show ((p.ns.length : Int)).toNat = p.ns.length by omega, get_new]
            exact chN_app (hch K).1.1
          · have := hlt K _ hm; omega
          · rw [if_neg hk']
            rcases List.mem_cons.1 hi' with e | hi'
            · subst e; intro hm; have := hlt k' _ hm; omega
            · exact (hch K).2 k' hk' i' hi'
        · rw [if_neg hk, if_neg hk]
          refine ⟨⟨chN_app (hch k).1.1, (hch k).1.2⟩, fun k' hk' i' hi' => ?_⟩
          by_cases hk2 : K = k'
          · subst hk2
            rw [if_pos rfl]
            intro hm
            rcases List.mem_cons.1 hm with e | hm
            · subst e; have := hlt k _ hi'; omega
            · exact (hch k).2 K hk' i' hi' hm
          · rw [if_neg hk2]
            exact (hch k).2 k' hk' i' hi'
      · show cntT (p.ns ++ [_]) + 0 = (p.ns ++ [_]).length
        rw [cnt_app, List.length_append]; simp; omega
      · show p.live + 1 = (cntT (p.ns ++ [_]) : Int)
        rw [cnt_app]; simp; omega
      · show (p.ns ++ [_]).length ≤ i + 1 ∧ (((p.ns ++ [_]).length : Nat) : Int) ≤ p.room ∧ _
        rw [List.length_append]
        refine ⟨by simp; omega, ?_, hbd.2.2⟩
        simp; omega
      · show (if y.top < _ then _ else y.top) = (if p.most < p.live + 1 then p.live + 1 else p.most)
        rw [q2, show p.live + 1 = (p.ns.length : Int) + 1 by omega]
      · show y.T ++ [true] = (p.ns ++ [_]).map _
        rw [List.map_append, q3]; rfl
      · show (y.X ++ [x]).length = (p.ns ++ [_]).length
        rw [List.length_append, List.length_append, q4]; rfl
      · show (y.N ++ [_]).length = (p.ns ++ [_]).length
        rw [List.length_append, List.length_append, q5]; rfl
      · intro a ha
        have ha : takenP (p.ns ++ [_]) a = true := ha
        have hba := taken_bd ha
        rw [List.length_append] at hba
        simp at hba
        show (y.X ++ [x]).getD a.toNat default = ((p.ns ++ [_]).getD a.toNat default).1 ∧ (y.N ++ [hd.getD K (-1)]).getD a.toNat default = ((p.ns ++ [_]).getD a.toNat default).2.1
        by_cases e : a.toNat = p.ns.length
        · rw [e, get_new, getD_appI, getD_appI, if_pos q4.symm, if_pos q5.symm]
          exact ⟨rfl, rfl⟩
        · have hne : a ≠ (p.ns.length : Int) := by omega
          rw [taken_app hne] at ha
          have hb2 := taken_bd ha
          have := h.ag a ha
          have c1 : ¬ a.toNat = y.X.length := by omega
          have c2 : a.toNat < y.X.length := by omega
          have c3 : ¬ a.toNat = y.N.length := by omega
          have c4 : a.toNat < y.N.length := by omega
          rw [get_app (by omega), getD_appI, getD_appI, if_neg c1, if_pos c2, if_neg c3, if_pos c4]
          exact this
    · have hrev : y.F.reverse = j :: G.reverse := by rw [hF0]; simp
      have hfl := h.fl.1
      rw [hrev] at hfl
      obtain ⟨⟨f1, f2, f3⟩, f4⟩ := hfl
      have hnd := h.fl.2.1
      rw [hF0, List.nodup_append] at hnd
      have hjG : j ∉ G := fun hm => hnd.2.2 j hm j (by simp) rfl
      have hFl : y.F.length = G.length + 1 := by rw [hF0]; simp
      have hne : ¬ y.F = [] := by rw [hF0]; simp
      rw [if_neg (by omega), if_neg hne, show y.F.getLast?.getD 0 = j by rw [hF0]; simp, show y.F.dropLast = G by rw [hF0]; simp, f1, hTl]
      have hug := untaken_get f2 f3
      have hc := cnt_set (ns := p.ns) (j := j.toNat) (v := (x, hd.getD K (-1), true)) (by omega)
      rw [hug] at hc
      have hc : cntT (p.ns.set j.toNat (x, hd.getD K (-1), true)) + 0 = cntT p.ns + 1 := hc
      have hnj : ∀ k, j ∉ ch k := fun k hm => by
        have := chN_tk (hch k).1.1 j hm
        rw [f3] at this; exact Bool.noConfusion this
      refine ⟨_, _, _, _, rfl, rfl, ⟨by rw [List.length_set]; exact h.hl, ⟨fun k => if K = k then j :: ch K else ch k, fun k => ?_⟩, ⟨?_, hnd.1, ?_⟩, ?_, ?_, ⟨q1, ?_, ?_, ?_, ?_⟩, ?_⟩⟩
      · dsimp only
        rw [hd_get hKl]
        by_cases hk : K = k
        · subst hk
          rw [if_pos rfl, if_pos rfl]
          refine ⟨⟨⟨rfl, by rw [taken_eq f2], ?_⟩, List.nodup_cons.2 ⟨hnj K, (hch K).1.2⟩⟩, fun k' hk' i' hi' => ?_⟩
          · unfold gN
            rw [get_set_eq (by omega)]
            exact chN_set f2.1 (hnj K) (hch K).1.1
          · rw [if_neg hk']
            rcases List.mem_cons.1 hi' with e | hi'
            · subst e; exact hnj k'
            · exact (hch K).2 k' hk' i' hi'
        · rw [if_neg hk, if_neg hk]
          refine ⟨⟨chN_set f2.1 (hnj k) (hch k).1.1, (hch k).1.2⟩, fun k' hk' i' hi' => ?_⟩
          by_cases hk2 : K = k'
          · subst hk2
            rw [if_pos rfl]
            intro hm
            rcases List.mem_cons.1 hm with e | hm
            · subst e; exact hnj k hi'
            · exact (hch k).2 K hk' i' hi' hm
          · rw [if_neg hk2]
            exact (hch k).2 k' hk' i' hi'
      · show chF (p.ns.set _ _) _ G.reverse
        exact chF_set f2.1 (fun hm => hjG (List.mem_reverse.1 hm)) f4
      · show cntT (p.ns.set _ _) + G.length = (p.ns.set _ _).length
        rw [List.length_set]; omega
      · show p.live + 1 = (cntT (p.ns.set _ _) : Int)
        omega
      · show (p.ns.set _ _).length ≤ i + 1 ∧ (((p.ns.set _ _).length : Nat) : Int) ≤ p.room ∧ _
        rw [List.length_set]
        exact ⟨by omega, hbd.2⟩
      · show (if y.top < _ then _ else y.top) = (if p.most < p.live + 1 then p.live + 1 else p.most)
        rw [q2, show p.live + 1 = (p.ns.length : Int) - (G.length : Int) by omega]
      · show y.T.set j.toNat true = (p.ns.set _ _).map _
        rw [List.map_set, q3]
      · show (y.X.set _ _).length = (p.ns.set _ _).length
        rw [List.length_set, List.length_set]; exact q4
      · show (y.N.set _ _).length = (p.ns.set _ _).length
        rw [List.length_set, List.length_set]; exact q5
      · intro a ha
        have ha : takenP (p.ns.set _ _) a = true := ha
        have hba := taken_bd ha
        rw [List.length_set] at hba
        show (y.X.set j.toNat x).getD a.toNat default = ((p.ns.set _ _).getD a.toNat default).1 ∧ (y.N.set j.toNat (hd.getD K (-1))).getD a.toNat default = ((p.ns.set _ _).getD a.toNat default).2.1
        have hjX : j.toNat < y.X.length := by omega
        have hjN : j.toNat < y.N.length := by omega
        rw [getD_setI hjX, getD_setI hjN]
        by_cases e : a = j
        · subst e
          rw [get_set_eq (by omega), if_pos rfl, if_pos rfl]
          exact ⟨rfl, rfl⟩
        · rw [taken_ne f2.1 e] at ha
          have c1 : ¬ j.toNat = a.toNat := by omega
          rw [get_set_ne (by omega), if_neg c1, if_neg c1]
          exact h.ag a ha
/-- What there is to be gone through. -/
theorem po_chain {p : PoolS} {hd : List Int} {y : YS} {i : Nat} (h : PoI p hd y i) (k : Nat) : ∃ js, chN p.ns (hd.getD k (-1)) js ∧ js.Nodup ∧ js.length ≤ i ∧ chY y (hd.getD k (-1)) js ∧ js.length ≤ y.T.length ∧ js.map (tgV p.ns) = js.map (xV y) ∧ ∀ j, j ∈ js → 0 ≤ j ∧ j < (y.T.length : Int) := by
  obtain ⟨ch, hch⟩ := h.ch
  have hc := (hch k).1
  have hl := few_taken hc.2 (chN_tk hc.1)
  have hcl := cnt_le p.ns
  have hTl : y.T.length = p.ns.length := by rw [h.yq.2.2.1, List.length_map]
  have hY : ∀ (js : List Int) (a : Int), chN p.ns a js → chY y a js := fun js => by
    induction js with
    | nil =>
      intro a ha
      have ha : a = -1 := ha
      subst ha
      show takY y.T (-1) = false
      rw [po_tk h]; exact taken_m1 _
    | cons j r ih =>
      intro a ha
      obtain ⟨h1, h2, h3⟩ := ha
      refine ⟨h1, by rw [po_tk h]; exact h2, ?_⟩
      rw [h1] at h2
      rw [(h.ag j h2).2]
      exact ih _ h3
  refine ⟨ch k, hc.1, hc.2, by have := h.bd.1; omega, hY _ _ hc.1, by omega, ?_, fun j hj => ?_⟩
  · apply List.map_congr_left
    intro j hj
    show AV.int .i64 (gX p.ns j.toNat) = AV.int .i64 (xG y.X j)
    rw [(h.ag j (chN_tk hc.1 j hj)).1]
  · have := taken_bd (chN_tk hc.1 j hj)
    rw [hTl]; exact this
theorem po_new {room : Int} : PoI (newP room) [-1, -1, -1, -1, -1, -1, -1, -1] (newY room) 0 := by
  have hr : (0 : Int) ≤ (newP room).room ∧ (newP room).room ≤ 65536 := by
    show 0 ≤ (if 65536 < (if room < 0 then 0 else room) then 65536 else (if room < 0 then 0 else room)) ∧ (if 65536 < (if room < 0 then 0 else room) then 65536 else (if room < 0 then 0 else room)) ≤ 65536
    split <;> (try split) <;> omega
  refine ⟨rfl, ⟨fun _ => [], fun k => ⟨⟨?_, List.nodup_nil⟩, fun _ _ _ hj => by cases hj⟩⟩, ⟨rfl, List.nodup_nil, rfl⟩, rfl, ⟨Nat.le_refl _, hr⟩, ⟨rfl, rfl, rfl, rfl, rfl⟩, ?_⟩
  · show ([-1, -1, -1, -1, -1, -1, -1, -1] : List Int).getD k (-1) = -1
    rcases k with _ | _ | _ | _ | _ | _ | _ | _ | k <;> rfl
  · intro j hj
    have := taken_bd hj
    simp [newP] at this
    omega
end Go.Proofs.Ytbkmhkeihbgcfaa
