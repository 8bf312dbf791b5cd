/-
  Regions whose order is open: the whole region.
-/
import Derived.Test.YtbkmhkeihbgcfaaYt
set_option linter.unusedVariables false
set_option linter.unusedSimpArgs false
namespace Go.Y
open RowKit

theorem ready_mem {ops : Array Oper} {lst : Array Bool} {i : Nat} (h : i ∈ Region.ready .any ops lst) (hsz : lst.size = ops.size) :
    i < ops.size ∧ Off lst i ∧ ∀ o, ops[i]? = some o → ∀ e, e ∈ o.after.toList → bindsE e = true → On lst e.on := by
  unfold Region.ready at h
  simp only [List.mem_filter, List.mem_range, Bool.and_eq_true] at h
  obtain ⟨hlt, h1, h2⟩ := h
  have hlt' : i < lst.size := by omega
  refine ⟨hlt, ?_, ?_⟩
  · unfold Off
    rw [Array.getElem?_eq_getElem hlt']
    simp [Array.getD, hlt'] at h1
    rw [h1]
  · intro o ho e he hb
    rw [ho] at h2
    simp only [Option.map_some, Option.getD_some, Array.all_eq_true'] at h2
    have h3 := h2 e (by simpa using he)
    unfold bindsE at hb
    rw [hb] at h3
    simp only [Bool.not_true, Bool.false_or] at h3
    unfold On
    cases hx : lst[e.on]? with
    | none => simp [Array.getD_eq_getD_getElem?, hx] at h3
    | some x => simp [Array.getD_eq_getD_getElem?, hx] at h3; rw [h3]

theorem ready_of {ops : Array Oper} {lst : Array Bool} {i : Nat} {o : Oper} (ho : ops[i]? = some o) (hoff : Off lst i) (h : ∀ e, e ∈ o.after.toList → bindsE e = true → On lst e.on) : i ∈ Region.ready .any ops lst := by
  unfold Region.ready
  simp only [List.mem_filter, List.mem_range, Bool.and_eq_true]
  refine ⟨(Array.getElem?_eq_some_iff.1 ho).1, ?_, ?_⟩
  · unfold Off at hoff
    simp [Array.getD_eq_getD_getElem?, hoff]
  · rw [ho]
    simp only [Option.map_some, Option.getD_some, Array.all_eq_true']
    intro e he
    cases hb : bindsE e with
    | false => unfold bindsE at hb; rw [hb]; rfl
    | true =>
      have := h e (by simpa using he) hb
      unfold On at this
      simp [Array.getD_eq_getD_getElem?, this]

def offs (pl : List Row) (lst : Array Bool) : Nat := pl.countP fun r => lst[r.i]? == some false

theorem countP_lt {α : Type} {p q : α → Bool} : ∀ (l : List α), (∀ x, x ∈ l → q x = true → p x = true) → (∃ x, x ∈ l ∧ p x = true ∧ q x = false) → l.countP q < l.countP p
  | [], _, ⟨x, hx, _⟩ => by cases hx
  | y :: l, h, ⟨x, hx, hp, hq⟩ => by
    have hle : l.countP q ≤ l.countP p := List.countP_mono_left (fun x hx => h x (List.mem_cons_of_mem _ hx))
    rw [List.countP_cons, List.countP_cons]
    rcases List.mem_cons.1 hx with rfl | hx
    · simp [hp, hq]; omega
    · have := countP_lt l (fun x hx => h x (List.mem_cons_of_mem _ hx)) ⟨x, hx, hp, hq⟩
      have h2 := h y List.mem_cons_self
      cases hqy : q y with
      | false => simp; omega
      | true => rw [h2 hqy]; simp; omega

theorem offs_set {pl : List Row} {lst : Array Bool} {r : Row} (hr : r ∈ pl) (hoff : Off lst r.i) : offs pl (lst.setIfInBounds r.i true) < offs pl lst := by
  refine countP_lt pl (fun x hx h => ?_) ⟨r, hr, ?_, ?_⟩
  · have : Off (lst.setIfInBounds r.i true) x.i := by simpa [Off] using h
    simpa [Off] using (off_set this).2
  · simpa [Off] using hoff
  · have := on_self hoff
    unfold On at this
    rw [this]; rfl

theorem hide_none {ops : List Oper} {base : Nat} {lst : Array Bool} {done : List Row} (h : ∀ r, r ∈ done → ¬ Off lst r.i) : pendD ops lst done = [] ∧ pendK ops base lst done = [] := by
  constructor
  · refine List.eq_nil_iff_forall_not_mem.2 fun t ht => ?_
    obtain ⟨p, hp, ho, _⟩ := pendD_mem.1 ht
    exact h p hp ho
  · refine List.eq_nil_iff_forall_not_mem.2 fun t ht => ?_
    obtain ⟨p, hp, ho, _⟩ := pendK_mem.1 ht
    exact h p hp ho

theorem hideT_nil : ∀ T : Sl, hideT [] T = T
  | [] => rfl
  | (c, x) :: r => by simp only [hideT, memb, Bool.false_eq_true, if_false, hideT_nil r]

section
variable {cx : Cx} {ops : Array Oper} {pl : List Row} {m base : Nat} {H0 : Hp} {K : St → Prop} {N : Nat} {D : Nat → Prop} {nt : Nat} {rs : List Nat}

theorem draw_go (hpu : PuOk cx) (hpl : planOk ops.toList pl m [] pl = true) (hcov : ∀ i, i < ops.size → ∃ r ∈ pl, r.i = i) (hok : ops.toList.all (dstOk nt) = true) (b : Frame) (k : List Item) (cs : List Frame) :
    ∀ (fuel t : Nat) (lst : Array Bool) (done todo : List Row) (st : St) (tmps : Array Value) (w : World) (lam : Lam), offs pl lst ≤ fuel →
    Inv cx ops.toList pl m base H0 K lst done todo st lam → (∀ r r', todo = r :: r' → r.eff = true) → Sit N D nt (view ops.toList base lst done st) tmps rs w lam →
    ∃ st' tmps' w' lam', K st' ∧ Sit N D nt st' tmps' rs w' lam' ∧ Upd N D w w' ∧ agree base lam lam' ∧ KeyS H0 base st'.H ∧ base ≤ st'.n ∧
      Steps cx.P (lone (mk b tmps (rs.map mark) (.inRegion ops (Region.linearise.go .any ops fuel t lst []) :: k)) cs w) (lone (mk b tmps' (rs.map mark) k) cs w') := by
  -- nothing is left
  have stop : ∀ (lst : Array Bool) (done todo : List Row) (st : St) (tmps : Array Value) (w : World) (lam : Lam), (∀ r, r ∈ pl → ¬ Off lst r.i) →
      Inv cx ops.toList pl m base H0 K lst done todo st lam → Sit N D nt (view ops.toList base lst done st) tmps rs w lam →
      ∃ st' tmps' w' lam', K st' ∧ Sit N D nt st' tmps' rs w' lam' ∧ Upd N D w w' ∧ agree base lam lam' ∧ KeyS H0 base st'.H ∧ base ≤ st'.n ∧
        Steps cx.P (lone (mk b tmps (rs.map mark) (.inRegion ops [] :: k)) cs w) (lone (mk b tmps' (rs.map mark) k) cs w') := by
    intro lst done todo st tmps w lam hno hI hS
    have htodo : todo = [] := by
      cases todo with
      | nil => rfl
      | cons r rest => exact absurd (hI.todoOff r List.mem_cons_self) (hno r (by rw [hI.split]; simp))
    subst htodo
    obtain ⟨h1, h2⟩ := hide_none (ops := ops.toList) (base := base) (lst := lst) (done := done) (fun r hr => hno r (by rw [hI.split]; simp [hr]))
    unfold view at hS
    rw [h1, h2, hideT_nil, hideH_nil] at hS
    exact ⟨st, tmps, w, lam, hI.hyp, hS, Upd.refl _ _ _, agree.refl _ _, hI.key, by have := hI.room; omega, .one st_region_end⟩
  intro fuel
  induction fuel with
  | zero =>
    intro t lst done todo st tmps w lam hfu hI hhead hS
    have h0 : ∀ r, r ∈ pl → ¬ Off lst r.i := by
      intro r hr ho
      have : 0 < offs pl lst := List.countP_pos_iff.2 ⟨r, hr, by simpa [Off] using ho⟩
      omega
    simpa [Region.linearise.go] using stop lst done todo st tmps w lam h0 hI hS
  | succ fuel ih =>
    intro t lst done todo st tmps w lam hfu hI hhead hS
    have hsz : lst.size = ops.size := by rw [hI.size]; simp
    simp only [Region.linearise.go]
    change ∃ st' tmps' w' lam', K st' ∧ Sit N D nt st' tmps' rs w' lam' ∧ Upd N D w w' ∧ agree base lam lam' ∧ KeyS H0 base st'.H ∧ base ≤ st'.n ∧
      Steps cx.P (lone (mk b tmps (rs.map mark) (.inRegion ops (match (Region.ready .any ops lst)[t % (Region.ready .any ops lst).length]? with
      | some i => Region.linearise.go .any ops fuel (t / (Region.ready .any ops lst).length) (lst.setIfInBounds i true) [i]
      | none => [].reverse) :: k)) cs w) (lone (mk b tmps' (rs.map mark) k) cs w')
    cases hi : (Region.ready .any ops lst)[t % (Region.ready .any ops lst).length]? with
    | none =>
      have hnil : Region.ready .any ops lst = [] := by
        cases hr : Region.ready .any ops lst with
        | nil => rfl
        | cons x xs =>
          rw [hr] at hi
          have hlt : t % (x :: xs).length < (x :: xs).length := Nat.mod_lt _ (by simp)
          simp at hi
          simp at hlt
          omega
      -- the first row of the plan that is not listed would be ready
      have h0 : ∀ r, r ∈ pl → ¬ Off lst r.i := by
        have key : ∀ (n : Nat) (A B : List Row), A.length = n → pl = A ++ B → ∀ r, r ∈ A → ¬ Off lst r.i := by
          intro n
          induction n with
          | zero => intro A B hn _ r hr; cases A with
            | nil => cases hr
            | cons x A => cases hn
          | succ n ihn =>
            intro A B hn hsp r hr
            rcases List.eq_nil_or_concat A with rfl | ⟨A', x, rfl⟩
            · cases hn
            · rw [List.concat_eq_append] at *
              have hA' := ihn A' (x :: B) (by simpa using hn) (by simpa using hsp)
              rcases List.mem_append.1 hr with hr | hr
              · exact hA' r hr
              · simp at hr; subst hr
                intro hoff
                obtain ⟨o, hf⟩ := row_facts hpl (A := A') (B := B) (r := r) (by simpa using hsp)
                have : r.i ∈ Region.ready .any ops lst := by
                  refine ready_of (o := o) (by simpa using hf.ho) hoff (fun e he hb => ?_)
                  obtain ⟨p, hp, hpe⟩ := hf.preds e he hb
                  have hnoff := hA' p hp
                  rw [hpe] at hnoff
                  obtain ⟨A2, B2, o2, hsp2, hf2⟩ := row_at hpl (r := p) (by rw [hsp]; simp [hp])
                  have hlt : e.on < lst.size := by
                    rw [hsz]
                    have := (List.getElem?_eq_some_iff.1 hf2.ho).1
                    rw [hpe] at this
                    simpa using this
                  unfold Off at hnoff
                  unfold On
                  rw [Array.getElem?_eq_getElem hlt] at hnoff ⊢
                  cases hv : lst[e.on] with
                  | true => rfl
                  | false => rw [hv] at hnoff; exact absurd rfl hnoff
                rw [hnil] at this
                cases this
        intro r hr
        exact key pl.length pl [] rfl (by simp) r hr
      simpa using stop lst done todo st tmps w lam h0 hI hS
    | some i =>
      simp only []
      rw [linearise_go_acc, List.reverse_singleton, List.singleton_append]
      obtain ⟨hlt, hoff, hpre⟩ := ready_mem (List.mem_of_getElem? hi) hsz
      obtain ⟨r, hr, rfl⟩ := hcov i hlt
      obtain ⟨A, B, o, hsp, hf⟩ := row_at hpl hr
      have hoa : ops[r.i]? = some o := by simpa using hf.ho
      have han : ∀ a, a ∈ r.an → On lst a := by
        intro a ha
        obtain ⟨e, he, hb, h2⟩ := hf.an a ha
        have hon := hpre o hoa e he hb
        rcases h2 with h2 | h2
        · rw [← h2]; exact hon
        · obtain ⟨p, hp, hpe, hpa⟩ := anOf_sub pl e.on a h2
          exact hI.closed p hp (by rw [hpe]; exact hon) a hpa
      have hfu' : offs pl (lst.setIfInBounds r.i true) ≤ fuel := by have := offs_set hr hoff; omega
      have hr' := hr
      rw [hI.split] at hr'
      rcases List.mem_append.1 hr' with hd | htd
      · obtain ⟨tmps1, w1, lam1, hI1, hS1, hU1, hag1, hst1⟩ := run_calm hpl hok hI hS hd hoff han b (Region.linearise.go .any ops fuel (t / (Region.ready .any ops lst).length) (lst.setIfInBounds r.i true) []) k cs
        obtain ⟨st2, tmps2, w2, lam2, hK, hS2, hU2, hag2, hky2, hn2, hst2⟩ := ih _ _ done todo st tmps1 w1 lam1 hfu' hI1 hhead hS1
        exact ⟨st2, tmps2, w2, lam2, hK, hS2, hU1.trans hU2, hag1.trans hag2, hky2, hn2, hst1.trans hst2⟩
      · -- it is the head
        obtain ⟨e, more, rfl⟩ : ∃ e more, todo = e :: more := by
          cases todo with
          | nil => cases htd
          | cons e more => exact ⟨e, more, rfl⟩
        have heff := hhead e more rfl
        have hre : r = e := by
          rcases List.mem_cons.1 htd with h | h
          · exact h
          · exfalso
            obtain ⟨B1, B2, rfl⟩ := List.append_of_mem h
            obtain ⟨o', hf'⟩ := row_facts hpl (A := done ++ e :: B1) (B := B2) (r := r) (by rw [hI.split]; simp)
            have : e.i ∈ r.an := hf'.effs e (by simp) heff
            exact not_on_off (han _ this) (hI.todoOff e List.mem_cons_self)
        subst hre
        obtain ⟨st1, tmps1, w1, lam1, hI1, hS1, hU1, hag1, hst1⟩ := run_great hpu hpl hok hI heff hS han b (Region.linearise.go .any ops fuel (t / (Region.ready .any ops lst).length) (lst.setIfInBounds r.i true) []) k cs
        obtain ⟨done2, todo2, st2, hI2, hhead2, hS2⟩ := advance hpl more (done ++ [r]) st1 hI1 hS1
        obtain ⟨st3, tmps3, w3, lam3, hK, hS3, hU3, hag3, hky3, hn3, hst3⟩ := ih _ _ done2 todo2 st2 tmps1 w1 lam1 hfu' hI2 hhead2 hS2
        exact ⟨st3, tmps3, w3, lam3, hK, hS3, hU1.trans hU3, hag1.trans hag3, hky3, hn3, hst1.trans hst3⟩
end

/-- More numbers are kept. -/
theorem Sit.room {N : Nat} {D : Nat → Prop} {nt n n' : Nat} {T : Sl} {H : Hp} {tmps : Array Value} {rs : List Nat} {w : World} {lam : Lam} (h : Sit N D nt ⟨T, H, n⟩ tmps rs w lam) (hn : n ≤ n') (w' : World) (hh : w'.heap = w.heap) :
    ∃ lam', Sit N D nt ⟨T, H, n'⟩ tmps rs w' lam' ∧ agree n lam lam' ∧ ∀ k, lam'.born k → k < n := by
  obtain ⟨lam', hl⟩ : ∃ lam' : Lam, lam' = ⟨lam.pos, fun k => k < n ∧ lam.born k⟩ := ⟨_, rfl⟩
  have hkp : keeps n lam lam' := by subst hl; exact fun k hk hb => ⟨⟨hk, hb⟩, fun _ => rfl⟩
  have hp : ∀ k i, lam' k i = lam k i := by subst hl; exact fun _ _ => rfl
  refine ⟨lam', ⟨h.tmp.mono hkp hn, ⟨fun k x hx => ?_, fun k x hx => ?_, fun k x hx hw b o hl => ?_, fun k x hx hw k' x' hx' i b o o' hi h1 h2 => ?_, h.heap.nd⟩, by rw [hh]; exact h.size, h.nt, by rw [hh]; exact h.marks, h.once⟩, ⟨hkp, fun k hk hb => ?_⟩, fun k hb => ?_⟩
  · exact (h.heap.has k x hx).move (h.heap.low k x hx) hkp hn (fun _ _ _ _ _ => by rw [hh])
  · have := h.heap.low k x hx
    exact ⟨Nat.lt_of_lt_of_le this.1 hn, (hkp k this.1 this.2).1⟩
  · rw [hp] at hl; exact h.heap.wr k x hx hw b o hl
  · rw [hp] at h1 h2; exact h.heap.apart k x hx hw k' x' hx' i b o o' hi h1 h2
  · subst hl; exact hb.2
  · subst hl; exact hb.1

/-- A plan that fits a region's operations. -/
def planFit (P : Program) (ops : List Oper) (p : Plan) : Bool :=
  decide (p.rows.length = ops.length) && ((List.range ops.length).all fun i => p.rows.any (·.i == i)) && planOk ops p.rows p.m [] p.rows && P.follows .mixedOrders

/-- **A region whose order is open.** -/
theorem awp_draw {cx : Cx} (hpu : PuOk cx) {fx : Fx} {id : Nat} {ops : List Oper} {p : Plan} {T : Sl} {H : Hp} {n : Nat} {K : Ex → St → Prop} (hok : ops.all (dstOk fx.nt) = true) (hfit : planFit cx.P ops p = true)
    (h : evRows cx ops p.rows n p.rows ⟨T, H, n + p.m⟩ (K .nrm)) : awp cx.P fx (.region id ops.toArray true) ⟨T, H, n⟩ K := by
  intro N D b k cs tmps rs w lam hs hn hb
  unfold planFit at hfit
  simp only [Bool.and_eq_true, decide_eq_true_eq] at hfit
  obtain ⟨⟨⟨hlen, hcov⟩, hpl⟩, hmix⟩ := hfit
  have hcov' : ∀ i, i < ops.toArray.size → ∃ r ∈ p.rows, r.i = i := by
    intro i hi
    have := List.all_eq_true.1 hcov i (by simpa using hi)
    obtain ⟨r, hr, he⟩ := List.any_eq_true.1 this
    exact ⟨r, hr, by simpa using he⟩
  obtain ⟨lam0, hS1, hag0, hunb⟩ := hs.room (n' := n + p.m) (by omega) { w with drawn := w.drawn + 1 } rfl
  have hU0 : Upd N D w { w with drawn := w.drawn + 1 } := ⟨rfl, rfl, rfl, Nat.le_refl _, fun _ _ _ => rfl, fun _ _ h => h⟩
  have hoff0 : ∀ r, r ∈ p.rows → Off (Array.replicate ops.toArray.size false) r.i := by
    intro r hr
    obtain ⟨A, B, o, hsp, hf⟩ := row_at hpl hr
    have := (List.getElem?_eq_some_iff.1 hf.ho).1
    unfold Off
    simp [this]
  have hI : Inv cx ops p.rows p.m n H (K .nrm) (Array.replicate ops.toArray.size false) [] p.rows ⟨T, H, n + p.m⟩ lam0 := by
    refine ⟨rfl, by simp, (fun r hr => by cases hr), hoff0, (fun r hr hon => absurd (hoff0 r hr) (not_on_off hon)), (fun r hr => by cases hr), (fun r hr _ o ho hm hb => ?_), (fun r hr o ho hm e hmem => ?_), hs.heap.nd, Nat.le_refl _, KeyS.refl _ _, h⟩
    · have := hunb _ hb; omega
    · have := (hs.heap.low _ _ hmem).1; simp at this; omega
  have hS2 : Sit N D fx.nt (view ops n (Array.replicate ops.toArray.size false) [] ⟨T, H, n + p.m⟩) tmps rs { w with drawn := w.drawn + 1 } lam0 := by
    unfold view pendD pendK
    simp only [List.filterMap_nil, hideT_nil, hideH_nil]
    exact hS1
  obtain ⟨done2, todo2, st2, hI2, hhead2, hS3⟩ := advance hpl p.rows [] _ hI hS2
  have hfu : offs p.rows (Array.replicate ops.toArray.size false) ≤ ops.toArray.size := by
    have := List.countP_le_length (p := fun r : Row => (Array.replicate ops.toArray.size false)[r.i]? == some false) (l := p.rows)
    unfold offs
    simp only [List.size_toArray] at this ⊢
    omega
  obtain ⟨st3, tmps3, w3, lam3, hK, hS4, hU4, hag4, hky4, hn4, hst⟩ := draw_go (ops := ops.toArray) hpu hpl hcov' hok b k cs ops.toArray.size (w.tape w.drawn (.order b.fn id)) _ done2 todo2 st2 tmps _ lam0 hfu hI2 hhead2 hS3
  refine ⟨.nrm, st3, tmps3, rs, w3, lam3, hK, hS4, Nat.le_trans hn hn4, hU0.trans hU4, (hag0.trans hag4).mono hn, hky4.mono hn, .head st_region_draw ?_⟩
  have : Region.schedule (cx.P.follows .mixedOrders) ops.toArray (w.tape w.drawn (.order b.fn id)) = Region.linearise.go .any ops.toArray ops.toArray.size (w.tape w.drawn (.order b.fn id)) (Array.replicate ops.toArray.size false) [] := by
    simp only [Region.schedule, hmix, Bool.true_or, if_true, Region.linearise]
  rw [this]
  exact hst

end Go.Y
