/-
  The walk through a function's code, as one proposition that is rewritten step by step.
-/
import Derived.Test.YtbkmhkeihbgcfaaYu
set_option linter.unusedVariables false
set_option linter.unusedSimpArgs false
namespace Go.Y

def evGo (w : Option Bool) (cx : Cx) (o : Oper) (st : St) (k : St → Prop) : Prop :=
  match w with
  | some true => evOp cx o.op st fun v st' => k ⟨putT st'.T o.dst v, st'.H, st'.n⟩
  | some false => k ⟨putT st.T o.dst (.tup []), st.H, st.n⟩
  | none => False

def evOps (cx : Cx) (all : List Oper) : List Oper → St → (St → Prop) → Prop
  | [], st, K => K st
  | o :: r, st, K => evGo (wantA all st.T o.guard) cx o st fun st' => evOps cx all r st' K

def condO (x : Option AV) (a b : Prop) : Prop :=
  match x with
  | some (.bool t) => if t = true then a else b
  | _ => False

def trimS (l : Option (List Nat)) (st : St) : St := ⟨trimT l st.T, st.H, st.n⟩

def evDraw (cx : Cx) (p : Option Plan) (ops : List Oper) (st : St) (K : St → Prop) : Prop :=
  match p with
  | some p => evRows cx ops p.rows st.n p.rows ⟨st.T, st.H, st.n + p.m⟩ K
  | none => False

/-- A look at code that is done once. -/
def okc (cx : Cx) (nt : Nat) : Code → Bool
  | .region _ ops false => ops.toList.all (dstOk nt)
  | .region id ops true => ops.toList.all (dstOk nt) && (match lookP id cx.pl with
    | some p => planFit cx.P ops.toList p
    | none => true)
  | .seq a b => okc cx nt a && okc cx nt b
  | .cond _ a b => okc cx nt a && okc cx nt b
  | .block _ c => okc cx nt c
  | .scope c => okc cx nt c
  | .loop c => okc cx nt c
  | .rangeFunc _ ps as bd => ps.toList.all (fun p => decide (p < nt)) && okc cx nt as && okc cx nt bd
  | _ => true

/-- A loop: what is owed is the machine's own walk. -/
def evLoop (cx : Cx) (fx : Fx) (c : Code) (st : St) (K : Ex → St → Prop) : Prop := PuOk cx → okc cx fx.nt c = true → awp cx.P fx c st K

def ev (cx : Cx) (fx : Fx) : Code → St → (Ex → St → Prop) → Prop
  | .skip, st, K => K .nrm st
  | .label _, st, K => K .nrm st
  | .region id ops false, st, K => evOps cx ops.toList ops.toList st fun st' => K .nrm (trimS (lookL id cx.lv) st')
  | .region id ops true, st, K => evDraw cx (lookP id cx.pl) ops.toList st fun st' => K .nrm (trimS (lookL id cx.lv) st')
  | .seq a b, st, K => ev cx fx a st (thenK (fun st' => ev cx fx b st' K) K)
  | .cond c a b, st, K => condO (getO st.T c) (ev cx fx a st K) (ev cx fx b st K)
  | .block id c, st, K => ev cx fx c st (blockK id K)
  | .scope c, st, K => ev cx fx c st K
  | .exit id, st, K => K (.exi id) st
  | .ret, st, K => K .ret st
  | c, st, K => evLoop cx fx c st K

theorem condO_some {x : Option AV} {a b : Prop} (h : condO x a b) : ∃ t, x = some (.bool t) ∧ (if t = true then a else b) := by
  unfold condO at h
  split at h
  · rename_i t; exact ⟨t, rfl, h⟩
  · exact h.elim

section
variable {cx : Cx} {fx : Fx}

theorem evOps_sound (hpu : PuOk cx) {all : List Oper} {l : Option (List Nat)} {K : Ex → St → Prop} : ∀ (r : List Oper) (st : St), r.all (dstOk fx.nt) = true → evOps cx all r st (fun st' => K .nrm (trimS l st')) → awpO cx.P fx all r st K
  | [], ⟨T, H, n⟩, _, h => awpO_nil (l := l) h
  | o :: r, ⟨T, H, n⟩, hok, h => by
    simp only [List.all_cons, Bool.and_eq_true] at hok
    unfold evOps at h
    unfold evGo at h
    split at h
    · rename_i hw
      refine awpO_do hpu (R := fun v st' => evOps cx all r ⟨putT st'.T o.dst v, st'.H, st'.n⟩ (fun st' => K .nrm (trimS l st'))) hok.1 hw h (fun v st' hR => evOps_sound hpu r _ hok.2 hR)
    · rename_i hw
      exact awpO_skip hok.1 hw (evOps_sound hpu r _ hok.2 h)
    · exact h.elim

/-- A region, and then less is known. -/
theorem awp_trim {c : Code} {st : St} {l : Option (List Nat)} {K : Ex → St → Prop} (h : awp cx.P fx c st fun e st' => e = .nrm ∧ K .nrm (trimS l st')) : awp cx.P fx c st K := by
  intro N D b k cs tmps rs w lam hs hn hb
  obtain ⟨e, st', tmps', rs', w', lam', ⟨rfl, hK⟩, hS, hn', hU, hag, hky, hA⟩ := h N D b k cs tmps rs w lam hs hn hb
  obtain ⟨T, H, n⟩ := st'
  exact ⟨.nrm, _, tmps', rs', w', lam', hK, hS.less (trim_get l T) (List.Sublist.refl _), hn', hU, hag, hky, hA⟩

/-- **The walk is the machine's.** -/
theorem ev_sound (hpu : PuOk cx) : ∀ (c : Code) (st : St) (K : Ex → St → Prop), okc cx fx.nt c = true → ev cx fx c st K → awp cx.P fx c st K
  | .skip, st, K, _, h => awp_skip h
  | .label _, st, K, _, h => awp_label h
  | .region id ops false, st, K, hok, h => by
    have := awpO_region (id := id) (evOps_sound hpu (l := lookL id cx.lv) (K := K) ops.toList st hok h)
    simpa using this
  | .region id ops true, st, K, hok, h => by
    simp only [okc, Bool.and_eq_true] at hok
    simp only [ev] at h
    unfold evDraw at h
    split at h
    · rename_i p hp
      rw [hp] at hok
      obtain ⟨T, H, n⟩ := st
      refine awp_trim (l := lookL id cx.lv) ?_
      have := awp_draw (K := fun e st' => e = Ex.nrm ∧ K .nrm (trimS (lookL id cx.lv) st')) (T := T) (H := H) (n := n) hpu (id := id) hok.1 hok.2 (by
        have e : (fun st' => K .nrm (trimS (lookL id cx.lv) st')) = (fun st' => Ex.nrm = Ex.nrm ∧ K .nrm (trimS (lookL id cx.lv) st')) := by funext st'; simp
        rw [e] at h
        exact h)
      simpa using this
    · exact h.elim
  | .seq a b, st, K, hok, h => by
    simp only [okc, Bool.and_eq_true] at hok
    refine awp_seq (awp_mono (ev_sound hpu a st _ hok.1 h) (fun e st' hk => ?_))
    cases e with
    | nrm => exact ev_sound hpu b st' K hok.2 hk
    | exi id => exact hk
    | ret => exact hk
  | .cond c a b, st, K, hok, h => by
    simp only [okc, Bool.and_eq_true] at hok
    obtain ⟨t, ht, h⟩ := condO_some h
    refine awp_cond ht ?_
    cases t with
    | true => exact ev_sound hpu a st K hok.1 h
    | false => exact ev_sound hpu b st K hok.2 h
  | .block id c, st, K, hok, h => awp_block (ev_sound hpu c st _ hok h)
  | .scope c, st, K, hok, h => awp_scope (ev_sound hpu c st _ hok h)
  | .exit id, st, K, _, h => awp_exit h
  | .ret, st, K, _, h => awp_ret h
  | .loop c, st, K, hok, h => h hpu hok
  | .rangeFunc .., st, K, hok, h => h hpu hok
  | .goto .., st, K, hok, h => h hpu hok
  | .refuse .., st, K, hok, h => h hpu hok
end

/-! ### What follows -/
/-- What a piece of code is followed by. -/
inductive Kd where
  | top (rs : List ResultVar) (Q : AV → Hp → Nat → Prop)
  | rnd (L : Nat) (Q : AV → Hp → Nat → Prop)
  | bgn (L : Nat) (body : Code) (k : Kd)
  | seq (c : Code) (k : Kd)
  | blk (id : Nat) (k : Kd)
  | loop (c : Code) (k : Kd)
  | inv (J : St → Prop) (k : Kd)

def topR (Q : AV → Hp → Nat → Prop) (x : Option AV) (H : Hp) (n : Nat) : Prop :=
  match x with
  | some v => Q v H n
  | none => False
def rndR (L : Nat) (s : LState) (b : Bool) (Q : AV → Hp → Nat → Prop) (H : Option Hp) (n : Nat) : Prop :=
  match H with
  | some H' => Q (.bool b) H' n
  | none => False

def Kd.den (cx : Cx) (fx : Fx) : Kd → Ex → St → Prop
  | .top rs Q, e, st => match e with
    | .exi _ => False
    | _ => topR Q (resF cx.P rs st.T st.H) st.H st.n
  | .rnd L Q, e, st => match e with
    | .nrm => rndR L .ready true Q (setLp L .ready st.H) st.n
    | .exi id => rndR L (.done (.exit id)) false Q (setLp L (.done (.exit id)) st.H) st.n
    | .ret => rndR L (.done .ret) false Q (setLp L (.done .ret) st.H) st.n
  | .bgn L body k, e, st => match e with
    | .nrm => ∃ r H', hget L st.H = some (.lp r) ∧ r.st = .ready ∧ setLp L .busy st.H = some H' ∧ ev cx fx body ⟨st.T, H', st.n⟩ (Kd.den cx fx k)
    | _ => False
  | .seq c k, e, st => match e with
    | .nrm => ev cx fx c st (Kd.den cx fx k)
    | e => Kd.den cx fx k e st
  | .blk id k, e, st => match e with
    | .exi i => if i = id then Kd.den cx fx k .nrm st else Kd.den cx fx k (.exi i) st
    | e => Kd.den cx fx k e st
  | .loop c k, e, st => match e with
    | .nrm => evLoop cx fx (.loop c) st (Kd.den cx fx k)
    | e => Kd.den cx fx k e st
  | .inv J k, e, st => match e with
    | .nrm => J st
    | e => Kd.den cx fx k e st

/-- The walk stands before a piece of code; before operations of a region; behind. -/
def Ev (cx : Cx) (fx : Fx) (c : Code) (st : St) (k : Kd) : Prop := ev cx fx c st (k.den cx fx)
def EvR (cx : Cx) (fx : Fx) (id : Nat) (all r : List Oper) (st : St) (k : Kd) : Prop := evOps cx all r st fun st' => k.den cx fx .nrm (trimS (lookL id cx.lv) st')
def EvD (cx : Cx) (fx : Fx) (id : Nat) (all : List Oper) (pl : List Row) (base : Nat) (r : List Row) (st : St) (k : Kd) : Prop := evRows cx all pl base r st fun st' => k.den cx fx .nrm (trimS (lookL id cx.lv) st')

section
variable (cx : Cx) (fx : Fx)

theorem then_seq (c : Code) (k : Kd) : thenK (fun st' => ev cx fx c st' (k.den cx fx)) (k.den cx fx) = (Kd.seq c k).den cx fx := by
  funext e st; cases e <;> rfl
theorem block_blk (id : Nat) (k : Kd) : blockK id (k.den cx fx) = (Kd.blk id k).den cx fx := by
  funext e st; cases e <;> rfl
end

/-- **A function's contract.** -/
theorem callA_ev {cx : Cx} (hpu : PuOk cx) {f : FuncId} {fn : Func} {c : Code} {args : List AV} {H : Hp} {n : Nat} {Q : AV → Hp → Nat → Prop}
    (hf : cx.P.funcs[f]? = some fn) (hb : fn.body = some c) (hn : (fn.name == "runtime.NumGoroutine") = false) (hsz : args.length ≤ fn.ntmps) (hok : okc cx fn.ntmps c = true)
    (h : Ev cx ⟨fn.ntmps, n, none, f⟩ c ⟨argT 0 args, H, n⟩ (.top fn.results.toList Q)) : callA cx.P f args H n Q := by
  refine callA_awp hf hb hn hsz (awp_mono (ev_sound hpu c _ _ hok h) (fun e st hk => ?_))
  have done : ∀ {Q' : AV → Hp → Nat → Prop}, topR Q' (resF cx.P fn.results.toList st.T st.H) st.H st.n → ∃ v, resF cx.P fn.results.toList st.T st.H = some v ∧ Q' v st.H st.n := by
    intro Q' h
    unfold topR at h
    split at h
    · rename_i v hv; exact ⟨v, hv, h⟩
    · exact h.elim
  cases e with
  | nrm => exact ⟨(fun id h => by cases h), done hk⟩
  | exi id => exact hk.elim
  | ret => exact ⟨(fun id h => by cases h), done hk⟩

/-- **A round's contract.** -/
theorem roundA_ev {cx : Cx} (hpu : PuOk cx) {L : Nat} {args : List AV} {H : Hp} {n : Nat} {Q : AV → Hp → Nat → Prop} {r : LRec} (hL : hget L H = some (.lp r)) (hlen : args.length = r.ps.length) (hps : r.ps.all (fun p => decide (p < r.nt)) = true)
    (hok1 : okc cx r.nt r.assign = true) (hok2 : okc cx r.nt r.body = true)
    (h : Ev cx ⟨r.nt, n, some L, r.fn⟩ r.assign ⟨putPs r.ps args r.T, H, n⟩ (.bgn L r.body (.rnd L Q))) : roundA cx.P L args H n Q := by
  refine roundA_awp hL hlen hps (awp_mono (ev_sound hpu _ _ _ hok1 h) (fun e st hk => ?_))
  cases e with
  | exi id => exact hk
  | ret => exact hk
  | nrm =>
    obtain ⟨r', H', h1, h2, h3, h4⟩ := hk
    refine ⟨r', H', h1, h2, h3, awp_mono (ev_sound hpu _ _ _ hok2 h4) (fun e st hk => ?_)⟩
    have done : ∀ (s : LState) (b : Bool), rndR L s b Q (setLp L s st.H) st.n → ∃ H', setLp L s st.H = some H' ∧ Q (.bool b) H' st.n := by
      intro s b h
      unfold rndR at h
      split at h
      · rename_i H' hH; exact ⟨H', hH, h⟩
      · exact h.elim
    cases e with
    | nrm => exact done _ _ hk
    | exi id => exact done _ _ hk
    | ret => exact done _ _ hk

end Go.Y
