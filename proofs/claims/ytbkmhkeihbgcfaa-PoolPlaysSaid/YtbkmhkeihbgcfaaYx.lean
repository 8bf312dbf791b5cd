/-
  The walk's rules: code, plans, and data.
-/
import Derived.Test.YtbkmhkeihbgcfaaYw
set_option linter.unusedVariables false
set_option linter.unusedSimpArgs false
namespace Go.Y

/-! ### Code -/
def Nx (cx : Cx) (fx : Fx) (e : Ex) (st : St) (k : Kd) : Prop := k.den cx fx e st
def CondC (cx : Cx) (fx : Fx) (x : Option AV) (a b : Code) (st : St) (k : Kd) : Prop := condO x (Ev cx fx a st k) (Ev cx fx b st k)
/-- A fork. -/
def BrC (cx : Cx) (fx : Fx) (t : Bool) (a b : Code) (st : St) (k : Kd) : Prop := if t = true then Ev cx fx a st k else Ev cx fx b st k
def LoopS (cx : Cx) (fx : Fx) (c : Code) (st : St) (k : Kd) : Prop := evLoop cx fx (.loop c) st (k.den cx fx)
def RanS (cx : Cx) (fx : Fx) (f : Operand) (ps : Array Tmp) (as bd : Code) (st : St) (k : Kd) : Prop := evLoop cx fx (.rangeFunc f ps as bd) st (k.den cx fx)
def InvS (J : St → Prop) (st : St) : Prop := J st
def EvDO (cx : Cx) (fx : Fx) (id : Nat) (all : List Oper) (p : Option Plan) (T : Sl) (H : Hp) (n : Nat) (k : Kd) : Prop :=
  match p with
  | some p => EvD cx fx id all p.rows n p.rows ⟨T, H, n + p.m⟩ k
  | none => False

section
variable {cx : Cx} {fx : Fx} {st : St} {k : Kd} {T : Sl} {H : Hp} {n : Nat}
theorem ev_seq (a b : Code) : Ev cx fx (.seq a b) st k = Ev cx fx a st (.seq b k) := by
  show ev cx fx a st _ = ev cx fx a st _
  rw [then_seq]
theorem ev_skip : Ev cx fx .skip st k = Nx cx fx .nrm st k := rfl
theorem ev_label (l : Nat) : Ev cx fx (.label l) st k = Nx cx fx .nrm st k := rfl
theorem ev_region (id : Nat) (ops : List Oper) : Ev cx fx (.region id ops.toArray false) st k = EvR cx fx id ops ops st k := rfl
theorem ev_draw (id : Nat) (ops : List Oper) : Ev cx fx (.region id ops.toArray true) ⟨T, H, n⟩ k = EvDO cx fx id ops (lookP id cx.pl) T H n k := by
  unfold Ev EvDO EvD
  simp only [ev, evDraw]
  cases lookP id cx.pl <;> rfl
theorem evDO_some (id : Nat) (all : List Oper) (m : Nat) (rows : List Row) : EvDO cx fx id all (some ⟨m, rows⟩) T H n k = EvD cx fx id all rows n rows ⟨T, H, n + m⟩ k := rfl
theorem ev_cond (c : Operand) (a b : Code) : Ev cx fx (.cond c a b) ⟨T, H, n⟩ k = CondC cx fx (getO T c) a b ⟨T, H, n⟩ k := rfl
theorem condC_some (t : Bool) (a b : Code) : CondC cx fx (some (.bool t)) a b st k = BrC cx fx t a b st k := rfl
theorem brC_true (a b : Code) : BrC cx fx true a b st k = Ev cx fx a st k := rfl
theorem brC_false (a b : Code) : BrC cx fx false a b st k = Ev cx fx b st k := rfl
/-- A fork that is open. -/
theorem brC_split {p : Prop} [Decidable p] {a b : Code} (h1 : p = True → Ev cx fx a st k) (h2 : p = False → Ev cx fx b st k) : BrC cx fx (if p then true else false) a b st k := by
  unfold BrC
  by_cases hp : p
  · simp [hp, h1 (eq_true hp)]
  · simp [hp, h2 (eq_false hp)]
theorem brC_splitN {p : Prop} [Decidable p] {a b : Code} (h1 : p = False → Ev cx fx a st k) (h2 : p = True → Ev cx fx b st k) : BrC cx fx (if p then false else true) a b st k := by
  unfold BrC
  by_cases hp : p
  · simp [hp, h2 (eq_true hp)]
  · simp [hp, h1 (eq_false hp)]
theorem ev_block (id : Nat) (c : Code) : Ev cx fx (.block id c) st k = Ev cx fx c st (.blk id k) := by
  show ev cx fx c st _ = ev cx fx c st _
  rw [block_blk]
theorem ev_scope (c : Code) : Ev cx fx (.scope c) st k = Ev cx fx c st k := rfl
theorem ev_exit (id : Nat) : Ev cx fx (.exit id) st k = Nx cx fx (.exi id) st k := rfl
theorem ev_ret : Ev cx fx .ret st k = Nx cx fx .ret st k := rfl
theorem ev_loop (c : Code) : Ev cx fx (.loop c) st k = LoopS cx fx c st k := rfl
theorem ev_range (f : Operand) (ps : Array Tmp) (as bd : Code) : Ev cx fx (.rangeFunc f ps as bd) st k = RanS cx fx f ps as bd st k := rfl

theorem nx_seq (c : Code) : Nx cx fx .nrm st (.seq c k) = Ev cx fx c st k := rfl
theorem nx_seqE (i : Nat) (c : Code) : Nx cx fx (.exi i) st (.seq c k) = Nx cx fx (.exi i) st k := rfl
theorem nx_seqR (c : Code) : Nx cx fx .ret st (.seq c k) = Nx cx fx .ret st k := rfl
theorem nx_blk (i : Nat) : Nx cx fx .nrm st (.blk i k) = Nx cx fx .nrm st k := rfl
theorem nx_blkE (i j : Nat) : Nx cx fx (.exi i) st (.blk j k) = if i = j then Nx cx fx .nrm st k else Nx cx fx (.exi i) st k := rfl
theorem nx_blkR (i : Nat) : Nx cx fx .ret st (.blk i k) = Nx cx fx .ret st k := rfl
theorem nx_loop (c : Code) : Nx cx fx .nrm st (.loop c k) = LoopS cx fx c st k := rfl
theorem nx_loopE (i : Nat) (c : Code) : Nx cx fx (.exi i) st (.loop c k) = Nx cx fx (.exi i) st k := rfl
theorem nx_loopR (c : Code) : Nx cx fx .ret st (.loop c k) = Nx cx fx .ret st k := rfl
theorem nx_inv (J : St → Prop) : Nx cx fx .nrm st (.inv J k) = InvS J st := rfl
theorem nx_invE (i : Nat) (J : St → Prop) : Nx cx fx (.exi i) st (.inv J k) = Nx cx fx (.exi i) st k := rfl
theorem nx_invR (J : St → Prop) : Nx cx fx .ret st (.inv J k) = Nx cx fx .ret st k := rfl

def TopO (Q : AV → Hp → Nat → Prop) (x : Option AV) (H : Hp) (n : Nat) : Prop := topR Q x H n
theorem nx_top (rs : List ResultVar) (Q : AV → Hp → Nat → Prop) : Nx cx fx .nrm ⟨T, H, n⟩ (.top rs Q) = TopO Q (resF cx.P rs T H) H n := rfl
theorem nx_topR (rs : List ResultVar) (Q : AV → Hp → Nat → Prop) : Nx cx fx .ret ⟨T, H, n⟩ (.top rs Q) = TopO Q (resF cx.P rs T H) H n := rfl
theorem topO_some (Q : AV → Hp → Nat → Prop) (v : AV) : TopO Q (some v) H n = Q v H n := rfl
def RndO (b : Bool) (Q : AV → Hp → Nat → Prop) (H : Option Hp) (n : Nat) : Prop :=
  match H with
  | some H' => Q (.bool b) H' n
  | none => False
theorem nx_rnd (L : Nat) (Q : AV → Hp → Nat → Prop) : Nx cx fx .nrm ⟨T, H, n⟩ (.rnd L Q) = RndO true Q (setLp L .ready H) n := rfl
theorem nx_rndE (i L : Nat) (Q : AV → Hp → Nat → Prop) : Nx cx fx (.exi i) ⟨T, H, n⟩ (.rnd L Q) = RndO false Q (setLp L (.done (.exit i)) H) n := rfl
theorem nx_rndR (L : Nat) (Q : AV → Hp → Nat → Prop) : Nx cx fx .ret ⟨T, H, n⟩ (.rnd L Q) = RndO false Q (setLp L (.done .ret) H) n := rfl
theorem rndO_some (b : Bool) (Q : AV → Hp → Nat → Prop) (H' : Hp) : RndO b Q (some H') n = Q (.bool b) H' n := rfl
/-- A round begins: its loop is ready. -/
def BgnO (cx : Cx) (fx : Fx) (L : Nat) (body : Code) (x : Option Ent) (T : Sl) (H : Hp) (n : Nat) (k : Kd) : Prop :=
  match x with
  | some (.lp r) => match r.st with
    | .ready => Ev cx fx body ⟨T, hset L (.lp { r with st := .busy }) H, n⟩ k
    | _ => False
  | _ => False
theorem nx_bgn (L : Nat) (body : Code) : Nx cx fx .nrm ⟨T, H, n⟩ (.bgn L body k) = BgnO cx fx L body (hget L H) T H n k := by
  unfold Nx BgnO Ev
  simp only [Kd.den]
  apply propext
  constructor
  · rintro ⟨r, H', h1, h2, h3, h4⟩
    have h3' := h3
    unfold setLp at h3'
    rw [h1] at h3' ⊢
    simp only [Option.some.injEq] at h3'
    subst h3'
    simp only [h2]
    exact h4
  · intro h
    cases hg : hget L H with
    | none => rw [hg] at h; exact h.elim
    | some x =>
      rw [hg] at h
      cases x <;> first | exact h.elim | skip
      rename_i r
      simp only at h
      split at h
      · rename_i hr
        exact ⟨r, _, rfl, hr, by simp [setLp, hg], h⟩
      · exact h.elim
theorem bgnO_some (L : Nat) (body : Code) (fn nt : Nat) (T' : Sl) (ps : List Nat) (as bd : Code) : BgnO cx fx L body (some (.lp ⟨fn, nt, T', ps, as, bd, .ready⟩)) T H n k = Ev cx fx body ⟨T, hset L (.lp ⟨fn, nt, T', ps, as, bd, .busy⟩) H, n⟩ k := rfl

/-- A loop, one round ahead. -/
theorem loop_next {c : Code} (h : Ev cx fx c st (.loop c k)) : LoopS cx fx c st k := by
  intro hpu hok
  refine awp_round (awp_mono (ev_sound hpu c st _ hok h) (fun e st' hk => ?_))
  cases e with
  | nrm => exact hk hpu hok
  | exi id => exact hk
  | ret => exact hk
/-- **A loop with an invariant**, and something that becomes less in each round. -/
theorem loop_inv {c : Code} (J : Nat → St → Prop) (step : ∀ m st', J m st' → Ev cx fx c st' (.inv (fun st2 => ∃ m2, m2 < m ∧ J m2 st2) k)) {m : Nat} (h : J m st) : LoopS cx fx c st k := by
  intro hpu hok
  induction m using Nat.strongRecOn generalizing st with
  | ind m ih =>
    refine awp_round (awp_mono (ev_sound hpu c st _ hok (step m st h)) (fun e st' hk => ?_))
    cases e with
    | nrm =>
      obtain ⟨m2, hm, hJ⟩ := hk
      exact ih m2 hm hJ
    | exi id => exact hk
    | ret => exact hk

/-! ### Regions -/
theorem evR_nil (id : Nat) (all : List Oper) : EvR cx fx id all [] ⟨T, H, n⟩ k = Nx cx fx .nrm ⟨trimT (lookL id cx.lv) T, H, n⟩ k := rfl
/-- Is it wanted. -/
def WantK (cx : Cx) (fx : Fx) (op : Op) (T : Sl) (H : Hp) (n : Nat) (kt : Kt) (g : Option AV) (w : Bool) (H0 : Hp) (n0 : Nat) : Prop :=
  match g with
  | some (.bool b) => if b = w then OpE cx fx op T H n kt else FinK cx fx kt (.tup []) H0 n0
  | some (.tup []) => FinK cx fx kt (.tup []) H0 n0
  | _ => False
theorem wantK_tup (op : Op) (kt : Kt) (w : Bool) (H0 : Hp) (n0 : Nat) : WantK cx fx op T H n kt (some (.tup [])) w H0 n0 = FinK cx fx kt (.tup []) H0 n0 := rfl
theorem wantK_tt (op : Op) (kt : Kt) (H0 : Hp) (n0 : Nat) : WantK cx fx op T H n kt (some (.bool true)) true H0 n0 = OpE cx fx op T H n kt := rfl
theorem wantK_ff (op : Op) (kt : Kt) (H0 : Hp) (n0 : Nat) : WantK cx fx op T H n kt (some (.bool false)) false H0 n0 = OpE cx fx op T H n kt := rfl
theorem wantK_tf (op : Op) (kt : Kt) (H0 : Hp) (n0 : Nat) : WantK cx fx op T H n kt (some (.bool true)) false H0 n0 = FinK cx fx kt (.tup []) H0 n0 := rfl
theorem wantK_ft (op : Op) (kt : Kt) (H0 : Hp) (n0 : Nat) : WantK cx fx op T H n kt (some (.bool false)) true H0 n0 = FinK cx fx kt (.tup []) H0 n0 := rfl

theorem evOp_T {cx : Cx} {op : Op} {T : Sl} {H : Hp} {n : Nat} (q : Sl → AV → Hp → Nat → Prop) : (evOp cx op ⟨T, H, n⟩ fun v st' => q st'.T v st'.H st'.n) = evOp cx op ⟨T, H, n⟩ fun v st' => q T v st'.H st'.n := by
  have e : ∀ (x : Option AV) (y : Option (AV × Ent)) (z : Option (AV × Hp)) (X : (AV → Hp → Nat → Prop) → Prop) (k : AV → St → Prop) (k' : AV → St → Prop), (∀ v H' n', k v ⟨T, H', n'⟩ = k' v ⟨T, H', n'⟩) →
      (match x with | some v => k v ⟨T, H, n⟩ | none => match y with | some (v, e) => k v ⟨T, (n, e) :: H, n + 1⟩ | none => match z with | some (v, H') => k v ⟨T, H', n⟩ | none => X fun v H' n' => k v ⟨T, H', n'⟩) =
      (match x with | some v => k' v ⟨T, H, n⟩ | none => match y with | some (v, e) => k' v ⟨T, (n, e) :: H, n + 1⟩ | none => match z with | some (v, H') => k' v ⟨T, H', n⟩ | none => X fun v H' n' => k' v ⟨T, H', n'⟩) := by
    intro x y z X k k' h
    cases x with
    | some v => exact h _ _ _
    | none =>
      cases y with
      | some p => obtain ⟨v, e⟩ := p; exact h _ _ _
      | none =>
        cases z with
        | some p => obtain ⟨v, e⟩ := p; exact h _ _ _
        | none => exact congrArg X (funext fun v => funext fun H' => funext fun n' => h v H' n')
  have g := e (opV cx.P op T H) (opN cx.P op T n) (opE cx.P op T H) (opX cx.P op T H n) (fun v st' => q st'.T v st'.H st'.n) (fun v st' => q T v st'.H st'.n) (fun _ _ _ => rfl)
  cases op
  case call c =>
    obtain ⟨ce, args, ts⟩ := c
    cases ce with
    | value f => rfl
    | invoke r m => exact g
    | builtin b => cases b <;> first | rfl | exact g
  all_goals exact g

/-- A guard that is open. -/
theorem wantK_split {p : Prop} [Decidable p] {op : Op} {kt : Kt} {w : Bool} {H0 : Hp} {n0 : Nat} (h1 : p = True → WantK cx fx op T H n kt (some (.bool true)) w H0 n0) (h2 : p = False → WantK cx fx op T H n kt (some (.bool false)) w H0 n0) :
    WantK cx fx op T H n kt (some (.bool (if p then true else false))) w H0 n0 := by
  by_cases hp : p
  · rw [if_pos hp]; exact h1 (eq_true hp)
  · rw [if_neg hp]; exact h2 (eq_false hp)
theorem wantK_splitN {p : Prop} [Decidable p] {op : Op} {kt : Kt} {w : Bool} {H0 : Hp} {n0 : Nat} (h1 : p = True → WantK cx fx op T H n kt (some (.bool false)) w H0 n0) (h2 : p = False → WantK cx fx op T H n kt (some (.bool true)) w H0 n0) :
    WantK cx fx op T H n kt (some (.bool (if p then false else true))) w H0 n0 := by
  by_cases hp : p
  · rw [if_pos hp]; exact h1 (eq_true hp)
  · rw [if_neg hp]; exact h2 (eq_false hp)

theorem evR_op (id : Nat) (all r : List Oper) (d : Option Nat) (op : Op) (ty : TypeId) (pos : String) (af : Array Edge) :
    EvR cx fx id all (⟨d, op, ty, pos, af, none⟩ :: r) ⟨T, H, n⟩ k = OpE cx fx op T H n (.reg id all r d T k) := by
  unfold EvR OpE
  simp only [evOps, wantA, evGo]
  have : ∀ (v : AV) (st' : St), FinK cx fx (.reg id all r d T k) v st'.H st'.n = evOps cx all r ⟨putT T d v, st'.H, st'.n⟩ (fun st' => k.den cx fx .nrm (trimS (lookL id cx.lv) st')) := fun _ _ => rfl
  simp only [this]
  exact evOp_T (fun T v H n => evOps cx all r ⟨putT T d v, H, n⟩ (fun st' => k.den cx fx .nrm (trimS (lookL id cx.lv) st')))

theorem evR_guard (id : Nat) (all r : List Oper) (d : Option Nat) (op : Op) (ty : TypeId) (pos : String) (af : Array Edge) (j : Nat) (w : Bool) :
    EvR cx fx id all (⟨d, op, ty, pos, af, some (j, w)⟩ :: r) ⟨T, H, n⟩ k = WantK cx fx op T H n (.reg id all r d T k) (guardT all T j) w H n := by
  have h0 := evR_op (cx := cx) (fx := fx) (T := T) (H := H) (n := n) (k := k) id all r d op ty pos af
  unfold EvR at h0 ⊢
  simp only [evOps, wantA, evGo] at h0 ⊢
  unfold WantK
  cases hg : guardT all T j with
  | none => rfl
  | some g =>
    cases g with
    | bool b =>
      cases b <;> cases w <;> first | exact h0 | rfl
    | tup l => cases l <;> rfl
    | _ => rfl

/-! ### Plans -/
theorem evD_nil (id : Nat) (all : List Oper) (pl : List Row) (base : Nat) : EvD cx fx id all pl base [] ⟨T, H, n⟩ k = Nx cx fx .nrm ⟨trimT (lookL id cx.lv) T, H, n⟩ k := rfl
def RowK (cx : Cx) (fx : Fx) (id : Nat) (all : List Oper) (pl : List Row) (base : Nat) (o : Option Oper) (i : Nat) (eff : Bool) (chk out : List Nat) (rid : Nat) (r : List Row) (T : Sl) (H : Hp) (n : Nat) (k : Kd) : Prop :=
  match o with
  | some o => evRow cx all pl base ⟨i, eff, [], chk, out, rid⟩ o (wantA all T o.guard) ⟨T, H, n⟩ fun st' => EvD cx fx id all pl base r st' k
  | none => False
theorem evD_row (id : Nat) (all : List Oper) (pl : List Row) (base i : Nat) (eff : Bool) (an chk out : List Nat) (rid : Nat) (r : List Row) :
    EvD cx fx id all pl base (⟨i, eff, an, chk, out, rid⟩ :: r) ⟨T, H, n⟩ k = RowK cx fx id all pl base all[i]? i eff chk out rid r T H n k := by
  show evRows _ _ _ _ _ _ _ = _
  unfold evRows RowK
  cases all[i]? <;> rfl

theorem rowK_eff (id : Nat) (all : List Oper) (pl : List Row) (base i : Nat) (chk out : List Nat) (rid : Nat) (r : List Row) (d : Option Nat) (op : Op) (ty : TypeId) (pos : String) (af : Array Edge) :
    RowK cx fx id all pl base (some ⟨d, op, ty, pos, af, none⟩) i true chk out rid r T H n k = OpE cx fx op T (hideH (outs base out) H) n (.row id all pl base r chk d T (showH (outs base out) H) k) := rfl
theorem rowK_calm (id : Nat) (all : List Oper) (pl : List Row) (base i : Nat) (chk out : List Nat) (rid : Nat) (r : List Row) (d : Option Nat) (op : Op) (ty : TypeId) (pos : String) (af : Array Edge) :
    RowK cx fx id all pl base (some ⟨d, op, ty, pos, af, none⟩) i false chk out rid r T H n k = OpE cx fx op T (hideH (outs base out) H) n (.calm id all pl base (base + rid) r d T H n k) := rfl
/-- A row that is not wanted leaves everything. -/
def RowN (cx : Cx) (fx : Fx) (id : Nat) (all : List Oper) (pl : List Row) (base : Nat) (r : List Row) (d : Option Nat) (T : Sl) (H : Hp) (n : Nat) (k : Kd) : Prop := EvD cx fx id all pl base r ⟨putT T d (.tup []), H, n⟩ k
def RowG (cx : Cx) (fx : Fx) (id : Nat) (all : List Oper) (pl : List Row) (base i : Nat) (eff : Bool) (chk out : List Nat) (rid : Nat) (r : List Row) (d : Option Nat) (op : Op) (T : Sl) (H : Hp) (n : Nat) (k : Kd) (g : Option AV) (w : Bool) : Prop :=
  match g with
  | some (.bool b) => if b = w then RowK cx fx id all pl base (some ⟨d, op, 0, "", #[], none⟩) i eff chk out rid r T H n k else RowN cx fx id all pl base r d T H n k
  | some (.tup []) => RowN cx fx id all pl base r d T H n k
  | _ => False
theorem rowK_guard (id : Nat) (all : List Oper) (pl : List Row) (base i : Nat) (eff : Bool) (chk out : List Nat) (rid : Nat) (r : List Row) (d : Option Nat) (op : Op) (ty : TypeId) (pos : String) (af : Array Edge) (j : Nat) (w : Bool) :
    RowK cx fx id all pl base (some ⟨d, op, ty, pos, af, some (j, w)⟩) i eff chk out rid r T H n k = RowG cx fx id all pl base i eff chk out rid r d op T H n k (guardT all T j) w := by
  unfold RowK RowG
  dsimp only [wantA]
  cases hg : guardT all T j with
  | none => rfl
  | some g =>
    cases g with
    | bool b =>
      cases b <;> cases w <;> rfl
    | tup l => cases l <;> rfl
    | _ => rfl
section
variable (id : Nat) (all : List Oper) (pl : List Row) (base i : Nat) (eff : Bool) (chk out : List Nat) (rid : Nat) (r : List Row) (d : Option Nat) (op : Op)
omit id all pl base i eff chk out rid r d op in
/-- A guard that is open. -/
theorem rowG_split {id : Nat} {all : List Oper} {pl : List Row} {base i : Nat} {eff : Bool} {chk out : List Nat} {rid : Nat} {r : List Row} {d : Option Nat} {op : Op} {p : Prop} [Decidable p] {w : Bool} (h1 : p = True → RowG cx fx id all pl base i eff chk out rid r d op T H n k (some (.bool true)) w) (h2 : p = False → RowG cx fx id all pl base i eff chk out rid r d op T H n k (some (.bool false)) w) :
    RowG cx fx id all pl base i eff chk out rid r d op T H n k (some (.bool (if p then true else false))) w := by
  by_cases hp : p
  · rw [if_pos hp]; exact h1 (eq_true hp)
  · rw [if_neg hp]; exact h2 (eq_false hp)
theorem rowG_tup (w : Bool) : RowG cx fx id all pl base i eff chk out rid r d op T H n k (some (.tup [])) w = RowN cx fx id all pl base r d T H n k := rfl
theorem rowG_tt : RowG cx fx id all pl base i eff chk out rid r d op T H n k (some (.bool true)) true = RowK cx fx id all pl base (some ⟨d, op, 0, "", #[], none⟩) i eff chk out rid r T H n k := rfl
theorem rowG_ff : RowG cx fx id all pl base i eff chk out rid r d op T H n k (some (.bool false)) false = RowK cx fx id all pl base (some ⟨d, op, 0, "", #[], none⟩) i eff chk out rid r T H n k := rfl
theorem rowG_tf : RowG cx fx id all pl base i eff chk out rid r d op T H n k (some (.bool true)) false = RowN cx fx id all pl base r d T H n k := rfl
theorem rowG_ft : RowG cx fx id all pl base i eff chk out rid r d op T H n k (some (.bool false)) true = RowN cx fx id all pl base r d T H n k := rfl
theorem rowN_eq : RowN cx fx id all pl base r d T H n k = EvD cx fx id all pl base r ⟨putT T d (.tup []), H, n⟩ k := rfl
theorem chkA_nil : ChkA cx fx id all pl base [] r st k = EvD cx fx id all pl base r st k := by
  unfold ChkA chkAll; simp
/-- What is looked at again. -/
def ChkO (cx : Cx) (all : List Oper) (base : Nat) (p : Option Row) (o : Option Oper) (T : Sl) (H : Hp) : Prop := chkO cx.P all base p o ⟨T, H, 0⟩
theorem chkO_n (p : Option Row) (o : Option Oper) (n : Nat) : chkO cx.P all base p o ⟨T, H, n⟩ = chkO cx.P all base p o ⟨T, H, 0⟩ := by
  cases p <;> cases o <;> rfl
theorem chkA_cons (j : Nat) (js : List Nat) : ChkA cx fx id all pl base (j :: js) r ⟨T, H, n⟩ k = (ChkO cx all base (rowOf pl j) all[j]? T H ∧ ChkA cx fx id all pl base js r ⟨T, H, n⟩ k) := by
  unfold ChkA ChkO
  rw [← chkO_n (cx := cx) (T := T) (H := H) all base (rowOf pl j) all[j]? n]
  simp only [chkAll, and_assoc]
def ChkW (cx : Cx) (all : List Oper) (base : Nat) (out : List Nat) (d : Option Nat) (op : Op) (g : Option Bool) (T : Sl) (H : Hp) : Prop := chkW cx.P base ⟨0, false, [], [], out, 0⟩ ⟨d, op, 0, "", #[], none⟩ g ⟨T, H, 0⟩
theorem chkO_some (an : List Nat) (ty : TypeId) (pos : String) (af : Array Edge) (g : Option (Nat × Bool)) : ChkO cx all base (some ⟨i, eff, an, chk, out, rid⟩) (some ⟨d, op, ty, pos, af, g⟩) T H = ChkW cx all base out d op (wantA all T g) T H := by
  unfold ChkO ChkW chkO chkW
  dsimp only
theorem chkW_false : ChkW cx all base out d op (some false) T H = True := rfl
/-- A value that is met again. -/
def SameO (x : Option AV) (y : Option AV) : Prop :=
  match x with
  | some v => y = some v
  | none => False
theorem sameO_some (u v : AV) : SameO (some u) (some v) = (v = u) := by simp [SameO]
theorem chkW_load (d : Nat) (t : TypeId) (a : Operand) : ChkW cx all base out (some d) (.load t a) (some true) T H = SameO (loadO (lay cx.P t) (getO T a) (hideH (outs base out) H)) (getT T d) := by
  show oK (one (getO T a) fun x => loadA (lay cx.P t) x (hideH (outs base out) H)) (chkV (some d) T) = _
  unfold loadO one
  cases getO T a with
  | none => rfl
  | some x => dsimp only; cases loadA (lay cx.P t) x (hideH (outs base out) H) <;> rfl
theorem chkW_len (d : Nat) (a : List Operand) (ts : List TypeId) : ChkW cx all base out (some d) (.call ⟨.builtin .len, a.toArray, ts.toArray⟩) (some true) T H = SameO (builtO cx.P .len ts (getOs T a) (hideH (outs base out) H)) (getT T d) := by
  show oK (one (getOs T a) fun vs => builtA cx.P .len ts vs (hideH (outs base out) H)) (chkV (some d) T) = _
  unfold builtO one
  cases getOs T a with
  | none => rfl
  | some x => dsimp only; cases builtA cx.P .len ts x (hideH (outs base out) H) <;> rfl
end

theorem finK_reg (id : Nat) (all r : List Oper) (d : Option Nat) (T' : Sl) (v : AV) : FinK cx fx (.reg id all r d T' k) v H n = EvR cx fx id all r ⟨putT T' d v, H, n⟩ k := rfl
theorem finK_row (id : Nat) (all : List Oper) (pl : List Row) (base : Nat) (r : List Row) (chk : List Nat) (d : Option Nat) (T' : Sl) (S : Hp) (v : AV) : FinK cx fx (.row id all pl base r chk d T' S k) v H n = ChkA cx fx id all pl base chk r ⟨putT T' d v, H ++ S, n⟩ k := rfl
theorem finK_calm (id : Nat) (all : List Oper) (pl : List Row) (base c : Nat) (r : List Row) (d : Option Nat) (T' : Sl) (H0 : Hp) (n0 : Nat) (v : AV) : FinK cx fx (.calm id all pl base c r d T' H0 n0 k) v H n = EvD cx fx id all pl base r ⟨putT T' d v, H0, n0⟩ k := rfl
theorem finN_reg (id : Nat) (all r : List Oper) (d : Option Nat) (T' : Sl) (v : AV) (e : Ent) : FinN cx fx (.reg id all r d T' k) v e H n = EvR cx fx id all r ⟨putT T' d v, (n, e) :: H, n + 1⟩ k := rfl
theorem finN_row (id : Nat) (all : List Oper) (pl : List Row) (base : Nat) (r : List Row) (chk : List Nat) (d : Option Nat) (T' : Sl) (S : Hp) (v : AV) (e : Ent) : FinN cx fx (.row id all pl base r chk d T' S k) v e H n = ChkA cx fx id all pl base chk r ⟨putT T' d v, (n, e) :: (H ++ S), n + 1⟩ k := rfl
theorem finN_calm (id : Nat) (all : List Oper) (pl : List Row) (base c : Nat) (r : List Row) (d : Option Nat) (T' : Sl) (H0 : Hp) (n0 : Nat) (v : AV) (e : Ent) : FinN cx fx (.calm id all pl base c r d T' H0 n0 k) v e H n = EvD cx fx id all pl base r ⟨putT T' d v, (c, e) :: H0, n0⟩ k := rfl
theorem nid_reg (id : Nat) (all r : List Oper) (d : Option Nat) (T' : Sl) (k : Kd) : (Kt.reg id all r d T' k).nid n = n := rfl
theorem nid_row (id : Nat) (all : List Oper) (pl : List Row) (base : Nat) (r : List Row) (chk : List Nat) (d : Option Nat) (T' : Sl) (S : Hp) (k : Kd) : (Kt.row id all pl base r chk d T' S k).nid n = n := rfl
theorem nid_calm (id : Nat) (all : List Oper) (pl : List Row) (base c : Nat) (r : List Row) (d : Option Nat) (T' : Sl) (H0 : Hp) (n0 : Nat) (k : Kd) : (Kt.calm id all pl base c r d T' H0 n0 k).nid n = c := rfl
end

end Go.Y
