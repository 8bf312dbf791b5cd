/-
  Code: sequences, tests, blocks, loops; regions in the order of the text.
-/
import Derived.Test.YtbkmhkeihbgcfaaYl
set_option linter.unusedVariables false
set_option linter.unusedSimpArgs false
namespace Go.Y
open RowKit

theorem getD_cases (tmps : Array Value) (d : Nat) : tmps[d]? = none ∨ tmps[d]? = some (tmps.getD d undef) := by
  by_cases hlt : d < tmps.size
  · right; simp [hlt]
  · left; simp; omega

theorem wanted_run {lam : Lam} {n : Nat} {T : Sl} {tmps : Array Value} (h : TRel lam n T tmps) (ops : Array Oper) (o : Oper) {b : Bool} (e : wantA ops.toList T o.guard = some b) : Region.wanted o (yielded ops tmps) = b := by
  unfold wantA at e
  split at e
  · rename_i hg
    cases e
    simp [Region.wanted, hg]
  · rename_i j want hg
    have hy : ∀ v, guardT ops.toList T j = some v → yielded ops tmps j = (match v with | .bool b => some b | _ => none) ∨ (∀ b, v ≠ .bool b) ∧ (v ≠ .tup []) := by
      intro v hv
      unfold guardT at hv
      split at hv
      · rename_i d hd
        obtain ⟨h1, h2⟩ := h d v hv
        have hd' : (ops[j]?).bind (·.dst) = some d := by simpa using hd
        by_cases hb : ∃ b, v = .bool b
        · obtain ⟨b, rfl⟩ := hb
          left
          simp only [AV.conc] at h1
          rcases getD_cases tmps d with h0 | h0
          · have : tmps.getD d undef = undef := by simp [h0]
            rw [this] at h1; cases h1
          · unfold yielded
            rw [hd']
            simp only [Option.bind_some, h0, h1]
        · by_cases ht : v = .tup []
          · subst ht
            left
            simp only [AV.conc, concL] at h1
            rcases getD_cases tmps d with h0 | h0
            · unfold yielded; rw [hd']; simp only [Option.bind_some, h0]
            · unfold yielded; rw [hd']; simp only [Option.bind_some, h0, h1]
          · right
            exact ⟨fun b e => hb ⟨b, e⟩, ht⟩
      · cases hv
    split at e
    · rename_i bb hbb
      cases e
      rcases hy _ hbb with h1 | ⟨h1, _⟩
      · simp [Region.wanted, hg, h1]
      · exact absurd rfl (h1 bb)
    · rename_i hbb
      cases e
      rcases hy _ hbb with h1 | ⟨_, h1⟩
      · simp [Region.wanted, hg, h1]
      · exact absurd rfl h1
    · cases e

section
variable {P : Program} {fx : Fx}

theorem Stands.agree {fx : Fx} {b : Frame} {lam lam' : Lam} (h : Stands fx b lam) (ha : agree fx.n0 lam lam') : Stands fx b lam' := by
  refine ⟨h.1, ?_⟩
  have h2 := h.2
  cases hr : fx.rd with
  | none => rw [hr] at h2; exact h2
  | some L =>
    rw [hr] at h2
    obtain ⟨h3, hbn, bl, o, h4, h5⟩ := h2
    have hk := ha.keeps L h3 hbn
    exact ⟨h3, hk.1, bl, o, by rw [hk.2 0]; exact h4, h5⟩

theorem awp_mono {c : Code} {st : St} {K K' : Ex → St → Prop} (h : awp P fx c st K) (hk : ∀ e st', K e st' → K' e st') : awp P fx c st K' := by
  intro N D b k cs tmps rs w lam hs hn hb
  obtain ⟨e, st', tmps', rs', w', lam', hK, rest⟩ := h N D b k cs tmps rs w lam hs hn hb
  exact ⟨e, st', tmps', rs', w', lam', hk _ _ hK, rest⟩

theorem Arr.of_steps {m m1 : Machine} {b : Frame} {tmps : Array Value} {ds : List Deferred} {k : List Item} {cs : List Frame} {w : World} {e : Ex} (h : Steps P m m1)
    (h' : Arr P m1 b tmps ds k cs w e) : Arr P m b tmps ds k cs w e := by
  cases e with
  | nrm => exact h.trans h'
  | exi id => obtain ⟨k1, h1, h2⟩ := h'; exact ⟨k1, h1, h.trans h2⟩
  | ret => obtain ⟨k1, h2⟩ := h'; exact ⟨k1, h.trans h2⟩

/-- How a sequence goes on. -/
def thenK (next : St → Prop) (K : Ex → St → Prop) : Ex → St → Prop
  | .nrm, st => next st
  | e, st => K e st

theorem awp_seq {x y : Code} {st : St} {K : Ex → St → Prop} (h : awp P fx x st (thenK (fun st' => awp P fx y st' K) K)) : awp P fx (.seq x y) st K := by
  intro N D b k cs tmps rs w lam hs hn hb
  obtain ⟨e, st1, tmps1, rs1, w1, lam1, hK, hS, hn1, hU, hag, hky, hA⟩ := h N D b (.code y :: k) cs tmps rs w lam hs hn hb
  cases e with
  | nrm =>
    obtain ⟨e2, st2, tmps2, rs2, w2, lam2, hK2, hS2, hn2, hU2, hag2, hky2, hA2⟩ := hK N D b k cs tmps1 rs1 w1 lam1 hS hn1 (hb.agree hag)
    exact ⟨e2, st2, tmps2, rs2, w2, lam2, hK2, hS2, hn2, hU.trans hU2, hag.trans hag2, hky.trans hky2, .of_steps (.head st_seq hA) hA2⟩
  | exi id =>
    obtain ⟨k1, h1, h2⟩ := hA
    exact ⟨.exi id, st1, tmps1, rs1, w1, lam1, hK, hS, hn1, hU, hag, hky, k1, h1, .head st_seq h2⟩
  | ret =>
    obtain ⟨k1, h2⟩ := hA
    exact ⟨.ret, st1, tmps1, rs1, w1, lam1, hK, hS, hn1, hU, hag, hky, k1, .head st_seq h2⟩

theorem awp_scope {c : Code} {st : St} {K : Ex → St → Prop} (h : awp P fx c st K) : awp P fx (.scope c) st K := by
  intro N D b k cs tmps rs w lam hs hn hb
  obtain ⟨e, st1, tmps1, rs1, w1, lam1, hK, hS, hn1, hU, hag, hky, hA⟩ := h N D b (.inScope c :: k) cs tmps rs w lam hs hn hb
  refine ⟨e, st1, tmps1, rs1, w1, lam1, hK, hS, hn1, hU, hag, hky, ?_⟩
  cases e with
  | nrm => exact .head st_scope (Steps.trans hA (.one st_inScope))
  | exi id =>
    obtain ⟨k1, h1, h2⟩ := hA
    exact ⟨k1, by rw [h1]; rfl, .head st_scope h2⟩
  | ret =>
    obtain ⟨k1, h2⟩ := hA
    exact ⟨k1, .head st_scope h2⟩

def blockK (id : Nat) (K : Ex → St → Prop) : Ex → St → Prop
  | .exi i, st => if i = id then K .nrm st else K (.exi i) st
  | e, st => K e st

theorem awp_block {id : Nat} {c : Code} {st : St} {K : Ex → St → Prop} (h : awp P fx c st (blockK id K)) : awp P fx (.block id c) st K := by
  intro N D b k cs tmps rs w lam hs hn hb
  obtain ⟨e, st1, tmps1, rs1, w1, lam1, hK, hS, hn1, hU, hag, hky, hA⟩ := h N D b (.inBlock id :: k) cs tmps rs w lam hs hn hb
  cases e with
  | nrm => exact ⟨.nrm, st1, tmps1, rs1, w1, lam1, hK, hS, hn1, hU, hag, hky, .head st_block (Steps.trans hA (.one st_inBlock))⟩
  | exi i =>
    obtain ⟨k1, h1, h2⟩ := hA
    by_cases hid : i = id
    · subst hid
      simp only [blockK, if_true] at hK
      refine ⟨.nrm, st1, tmps1, rs1, w1, lam1, hK, hS, hn1, hU, hag, hky, .head st_block (h2.trans (.one (st_exit ?_)))⟩
      rw [h1]; simp [exitTo]
    · simp only [blockK, if_neg hid] at hK
      refine ⟨.exi i, st1, tmps1, rs1, w1, lam1, hK, hS, hn1, hU, hag, hky, k1, ?_, .head st_block h2⟩
      rw [h1]
      have : (id == i) = false := by simp; exact fun h => hid h.symm
      simp [exitTo, this]
  | ret =>
    obtain ⟨k1, h2⟩ := hA
    exact ⟨.ret, st1, tmps1, rs1, w1, lam1, hK, hS, hn1, hU, hag, hky, k1, .head st_block h2⟩

/-- A loop, one round ahead. -/
theorem awp_round {c : Code} {st : St} {K : Ex → St → Prop} (h : awp P fx c st (thenK (fun st' => awp P fx (.loop c) st' K) K)) : awp P fx (.loop c) st K := by
  intro N D b k cs tmps rs w lam hs hn hb
  obtain ⟨e, st1, tmps1, rs1, w1, lam1, hK, hS, hn1, hU, hag, hky, hA⟩ := h N D b (.inLoop c :: k) cs tmps rs w lam hs hn hb
  cases e with
  | nrm =>
    obtain ⟨e2, st2, tmps2, rs2, w2, lam2, hK2, hS2, hn2, hU2, hag2, hky2, hA2⟩ := hK N D b k cs tmps1 rs1 w1 lam1 hS hn1 (hb.agree hag)
    refine ⟨e2, st2, tmps2, rs2, w2, lam2, hK2, hS2, hn2, hU.trans hU2, hag.trans hag2, hky.trans hky2, ?_⟩
    have hA' : Steps P (lone (mk b tmps (rs.map mark) (.code (.loop c) :: k)) cs w) (lone (mk b tmps1 (rs1.map mark) (.inLoop c :: k)) cs w1) := .head st_loop hA
    have e1 : step P (lone (mk b tmps1 (rs1.map mark) (.inLoop c :: k)) cs w1) = step P (lone (mk b tmps1 (rs1.map mark) (.code (.loop c) :: k)) cs w1) := by rw [st_inLoop, st_loop]
    have skipOne : ∀ m, Steps P (lone (mk b tmps1 (rs1.map mark) (.code (.loop c) :: k)) cs w1) m → m = lone (mk b tmps1 (rs1.map mark) (.code (.loop c) :: k)) cs w1 ∨
        Steps P (lone (mk b tmps1 (rs1.map mark) (.inLoop c :: k)) cs w1) m := by
      rintro m ⟨n, hn⟩
      cases n with
      | zero => simp [runN] at hn; exact .inl hn.symm
      | succ n => right; refine ⟨n + 1, ?_⟩; simp only [runN] at hn ⊢; rw [e1]; exact hn
    have notyet : ∀ kk tm dd cs' w', lone (mk b tm dd kk) cs' w' = lone (mk b tmps1 (rs1.map mark) (.code (.loop c) :: k)) cs w1 → kk = .code (.loop c) :: k := by
      intro kk tm dd cs' w' he
      have h1 : (lone (mk b tm dd kk) cs' w').gs = (lone (mk b tmps1 (rs1.map mark) (.code (.loop c) :: k)) cs w1).gs := congrArg Machine.gs he
      simp only [lone, mk, Array.mk.injEq, List.cons.injEq, Goroutine.mk.injEq, Frame.mk.injEq] at h1
      exact h1.1.1.2.2.1
    cases e2 with
    | nrm =>
      rcases skipOne _ hA2 with h3 | h3
      · exact absurd (notyet _ _ _ _ _ h3) (by intro h4; have := congrArg List.length h4; simp at this)
      · exact hA'.trans h3
    | exi id =>
      obtain ⟨k1, h1, h2⟩ := hA2
      rcases skipOne _ h2 with h3 | h3
      · have := notyet _ _ _ _ _ h3; simp at this
      · exact ⟨k1, h1, hA'.trans h3⟩
    | ret =>
      obtain ⟨k1, h2⟩ := hA2
      rcases skipOne _ h2 with h3 | h3
      · have := notyet _ _ _ _ _ h3; simp at this
      · exact ⟨k1, hA'.trans h3⟩
  | exi id =>
    obtain ⟨k1, h1, h2⟩ := hA
    exact ⟨.exi id, st1, tmps1, rs1, w1, lam1, hK, hS, hn1, hU, hag, hky, k1, h1, .head st_loop h2⟩
  | ret =>
    obtain ⟨k1, h2⟩ := hA
    exact ⟨.ret, st1, tmps1, rs1, w1, lam1, hK, hS, hn1, hU, hag, hky, k1, .head st_loop h2⟩

theorem awp_skip {st : St} {K : Ex → St → Prop} (h : K .nrm st) : awp P fx .skip st K :=
  fun N D b k cs tmps rs w lam hs hn hb => ⟨.nrm, st, tmps, rs, w, lam, h, hs, hn, Upd.refl _ _ _, agree.refl _ _, KeyS.refl _ _, .one st_skip⟩
theorem awp_label {st : St} {l : Nat} {K : Ex → St → Prop} (h : K .nrm st) : awp P fx (.label l) st K :=
  fun N D b k cs tmps rs w lam hs hn hb => ⟨.nrm, st, tmps, rs, w, lam, h, hs, hn, Upd.refl _ _ _, agree.refl _ _, KeyS.refl _ _, .one st_label⟩
theorem awp_exit {st : St} {id : Nat} {K : Ex → St → Prop} (h : K (.exi id) st) : awp P fx (.exit id) st K :=
  fun N D b k cs tmps rs w lam hs hn hb => ⟨.exi id, st, tmps, rs, w, lam, h, hs, hn, Upd.refl _ _ _, agree.refl _ _, KeyS.refl _ _, k, rfl, .refl _ _⟩
theorem awp_ret {st : St} {K : Ex → St → Prop} (h : K .ret st) : awp P fx .ret st K :=
  fun N D b k cs tmps rs w lam hs hn hb => ⟨.ret, st, tmps, rs, w, lam, h, hs, hn, Upd.refl _ _ _, agree.refl _ _, KeyS.refl _ _, k, .refl _ _⟩
theorem awp_cond {st : St} {c : Operand} {x y : Code} {t : Bool} {K : Ex → St → Prop} (hc : getO st.T c = some (.bool t)) (h : awp P fx (if t = true then x else y) st K) : awp P fx (.cond c x y) st K := by
  intro N D b k cs tmps rs w lam hs hn hb
  have hv : evalT tmps c = .bool t := by have := (getO_spec hs.tmp hc).1; simpa [AV.conc] using this
  obtain ⟨e, st', tmps', rs', w', lam', hK, hS, hn', hU, hag, hky, hA⟩ := h N D b k cs tmps rs w lam hs hn hb
  refine ⟨e, st', tmps', rs', w', lam', hK, hS, hn', hU, hag, hky, .of_steps (.one (st_cond hv)) ?_⟩
  cases t <;> simpa using hA

/-! ### Less is known -/
theorem Sit.less {N : Nat} {D : Nat → Prop} {nt : Nat} {T T' : Sl} {H H' : Hp} {n : Nat} {tmps : Array Value} {rs : List Nat} {w : World} {lam : Lam} (h : Sit N D nt ⟨T, H, n⟩ tmps rs w lam)
    (hT : ∀ t v, getT T' t = some v → getT T t = some v) (hH : H'.Sublist H) : Sit N D nt ⟨T', H', n⟩ tmps rs w lam :=
  ⟨fun t v hv => h.tmp t v (hT t v hv), h.heap.sub hH, h.size, h.nt, h.marks, h.once⟩

theorem trim_get (l : Option (List Nat)) (T : Sl) : ∀ t v, getT (trimT l T) t = some v → getT T t = some v := by
  cases l with
  | none => exact fun t v h => h
  | some l => exact getT_keep l T

/-! ### A region in the order of the text -/
def awpO (P : Program) (fx : Fx) (all r : List Oper) (st : St) (K : Ex → St → Prop) : Prop :=
  ∀ (i : Nat) (N : Nat) (D : Nat → Prop) (b : Frame) (k : List Item) (cs : List Frame) (tmps : Array Value) (rs : List Nat) (w : World) (lam : Lam), all.drop i = r →
    Sit N D fx.nt st tmps rs w lam → fx.n0 ≤ st.n → Stands fx b lam →
    ∃ e st' tmps' rs' w' lam', K e st' ∧ Sit N D fx.nt st' tmps' rs' w' lam' ∧ fx.n0 ≤ st'.n ∧ Upd N D w w' ∧ agree fx.n0 lam lam' ∧ KeyS st.H fx.n0 st'.H ∧
      Arr P (lone (mk b tmps (rs.map mark) (.inRegion all.toArray (List.range' i r.length) :: k)) cs w) b tmps' (rs'.map mark) k cs w' e

theorem awpO_region {id : Nat} {all : List Oper} {st : St} {K : Ex → St → Prop} (h : awpO P fx all all st K) : awp P fx (.region id all.toArray false) st K := by
  intro N D b k cs tmps rs w lam hs hn hb
  obtain ⟨e, st', tmps', rs', w', lam', hK, hS, hn', hU, hag, hky, hA⟩ := h 0 N D b k cs tmps rs w lam (by simp) hs hn hb
  refine ⟨e, st', tmps', rs', w', lam', hK, hS, hn', hU, hag, hky, .of_steps (.one st_region) ?_⟩
  rw [List.range_eq_range']
  simpa using hA

theorem awpO_nil {all : List Oper} {T : Sl} {H : Hp} {n : Nat} {l : Option (List Nat)} {K : Ex → St → Prop} (h : K .nrm ⟨trimT l T, H, n⟩) : awpO P fx all [] ⟨T, H, n⟩ K := by
  intro i N D b k cs tmps rs w lam hi hs hn hb
  exact ⟨.nrm, ⟨trimT l T, H, n⟩, tmps, rs, w, lam, h, hs.less (trim_get l T) (List.Sublist.refl _), hn, Upd.refl _ _ _, agree.refl _ _, KeyS.refl _ _, .one st_region_end⟩

theorem awpO_skip {all r : List Oper} {o : Oper} {T : Sl} {H : Hp} {n : Nat} {K : Ex → St → Prop} (hd : dstOk fx.nt o = true) (hw : wantA all T o.guard = some false) (h : awpO P fx all r ⟨putT T o.dst (.tup []), H, n⟩ K) :
    awpO P fx all (o :: r) ⟨T, H, n⟩ K := by
  intro i N D b k cs tmps rs w lam hi hs hn hb
  have ho : all.toArray[i]? = some o := by
    have := congrArg (fun x => x[0]?) hi
    simpa using this
  have hi' : all.drop (i + 1) = r := by
    have := congrArg List.tail hi
    simpa using this
  have hw' := wanted_run hs.tmp all.toArray o (by simpa using hw)
  have hS := hs.next (dst := o.dst) (v := .tup []) (dst_lt hd) (by simp [AV.ok, okL]) hs.heap (Upd.refl _ _ _) (agree.refl _ _) (Nat.le_refl _)
  obtain ⟨e, st', tmps', rs', w', lam', hK, hS', hn', hU, hag, hky, hA⟩ := h (i + 1) N D b k cs _ rs w lam hi' hS hn hb
  refine ⟨e, st', tmps', rs', w', lam', hK, hS', hn', hU, hag, hky, .of_steps (.one ?_) hA⟩
  rw [List.length_cons, List.range'_succ]
  have := st_op_skip (P := P) (b := b) (ds := rs.map mark) (k := k) (cs := cs) (w := w) (rest := List.range' (i + 1) r.length) ho hw'
  rw [this]
  simp [AV.conc, concL, undef]

theorem awpO_do {cx : Cx} (hpu : PuOk cx) {all r : List Oper} {o : Oper} {st : St} {K : Ex → St → Prop} {R : AV → St → Prop} (hd : dstOk fx.nt o = true) (hw : wantA all st.T o.guard = some true) (he : evOp cx o.op st R)
    (h : ∀ v st', R v st' → awpO cx.P fx all r ⟨putT st'.T o.dst v, st'.H, st'.n⟩ K) : awpO cx.P fx all (o :: r) st K := by
  intro i N D b k cs tmps rs w lam hi hs hn hb
  have ho : all.toArray[i]? = some o := by
    have := congrArg (fun x => x[0]?) hi
    simpa using this
  have hi' : all.drop (i + 1) = r := by
    have := congrArg List.tail hi
    simpa using this
  have hw' := wanted_run hs.tmp all.toArray o (by simpa using hw)
  rw [List.length_cons, List.range'_succ]
  obtain ⟨v, st1, tmps1, w1, lam1, hR, hS, _, hn1, hU, hag, hky, hst⟩ := evOp_sound hpu he hs ho hw' hd b (List.range' (i + 1) r.length) k cs
  have hag0 := hag.mono hn
  obtain ⟨e, st', tmps', rs', w', lam', hK, hS', hn', hU', hag', hky', hA⟩ := h v st1 hR (i + 1) N D b k cs tmps1 rs w1 lam1 hi' hS (Nat.le_trans hn hn1) (hb.agree hag0)
  exact ⟨e, st', tmps', rs', w', lam', hK, hS', hn', hU.trans hU', hag0.trans hag', (hky.mono hn).trans hky', .of_steps hst hA⟩

end

end Go.Y
