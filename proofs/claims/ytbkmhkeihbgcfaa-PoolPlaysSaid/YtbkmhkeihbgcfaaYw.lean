/-
  The walk's rules: each rewrites by one step, and holds no bound names.
-/
import Derived.Test.YtbkmhkeihbgcfaaYv
set_option linter.unusedVariables false
set_option linter.unusedSimpArgs false
namespace Go.Y

/-- What is done with what an operation answers. -/
inductive Kt where
  | reg (id : Nat) (all r : List Oper) (d : Option Nat) (T : Sl) (k : Kd)
  | row (id : Nat) (all : List Oper) (pl : List Row) (base : Nat) (r : List Row) (chk : List Nat) (d : Option Nat) (T : Sl) (S : Hp) (k : Kd)
  | calm (id : Nat) (all : List Oper) (pl : List Row) (base c : Nat) (r : List Row) (d : Option Nat) (T : Sl) (H : Hp) (n : Nat) (k : Kd)

def ChkA (cx : Cx) (fx : Fx) (id : Nat) (all : List Oper) (pl : List Row) (base : Nat) (js : List Nat) (r : List Row) (st : St) (k : Kd) : Prop :=
  chkAll cx.P all pl base js st ∧ EvD cx fx id all pl base r st k

def FinK (cx : Cx) (fx : Fx) (kt : Kt) (v : AV) (H : Hp) (n : Nat) : Prop :=
  match kt with
  | .reg id all r d T k => EvR cx fx id all r ⟨putT T d v, H, n⟩ k
  | .row id all pl base r chk d T S k => ChkA cx fx id all pl base chk r ⟨putT T d v, H ++ S, n⟩ k
  | .calm id all pl base c r d T H0 n0 k => EvD cx fx id all pl base r ⟨putT T d v, H0, n0⟩ k

def Kt.nid (kt : Kt) (n : Nat) : Nat :=
  match kt with
  | .calm _ _ _ _ c _ _ _ _ _ _ => c
  | _ => n

def FinN (cx : Cx) (fx : Fx) (kt : Kt) (v : AV) (e : Ent) (H : Hp) (n : Nat) : Prop :=
  match kt with
  | .calm id all pl base c r d T H0 n0 k => EvD cx fx id all pl base r ⟨putT T d v, (c, e) :: H0, n0⟩ k
  | kt => FinK cx fx kt v ((n, e) :: H) (n + 1)

def OpE (cx : Cx) (fx : Fx) (op : Op) (T : Sl) (H : Hp) (n : Nat) (kt : Kt) : Prop :=
  match kt with
  | .calm _ _ _ _ c _ _ _ _ _ _ => match opV cx.P op T H with
    | some v => FinK cx fx kt v H n
    | none => match opN cx.P op T c with
      | some (v, e) => FinN cx fx kt v e H n
      | none => False
  | kt => evOp cx op ⟨T, H, n⟩ fun v st => FinK cx fx kt v st.H st.n

def ValK (cx : Cx) (fx : Fx) (kt : Kt) (x : Option AV) (H : Hp) (n : Nat) : Prop :=
  match x with
  | some v => FinK cx fx kt v H n
  | none => False
def NewK (cx : Cx) (fx : Fx) (kt : Kt) (x : Option (AV × Ent)) (H : Hp) (n : Nat) : Prop :=
  match x with
  | some (v, e) => FinN cx fx kt v e H n
  | none => False
def EffK (cx : Cx) (fx : Fx) (kt : Kt) (x : Option (AV × Hp)) (n : Nat) : Prop :=
  match x with
  | some (v, H) => FinK cx fx kt v H n
  | none => False

theorem valK_some {cx : Cx} {fx : Fx} {kt : Kt} {v : AV} {H : Hp} {n : Nat} : ValK cx fx kt (some v) H n = FinK cx fx kt v H n := rfl
theorem newK_some {cx : Cx} {fx : Fx} {kt : Kt} {v : AV} {e : Ent} {H : Hp} {n : Nat} : NewK cx fx kt (some (v, e)) H n = FinN cx fx kt v e H n := rfl
theorem effK_some {cx : Cx} {fx : Fx} {kt : Kt} {v : AV} {H : Hp} {n : Nat} : EffK cx fx kt (some (v, H)) n = FinK cx fx kt v H n := rfl

section
variable {cx : Cx} {fx : Fx} {T : Sl} {H : Hp} {n : Nat} {kt : Kt}

theorem opE_val {op : Op} (x : Option AV) (hv : opV cx.P op T H = x) (hn : ∀ m, opN cx.P op T m = none) (he : opE cx.P op T H = none) (hop : ∀ k, evOp cx op ⟨T, H, n⟩ k = match opV cx.P op T H with
    | some v => k v ⟨T, H, n⟩
    | none => match opN cx.P op T n with
      | some (v, e) => k v ⟨T, (n, e) :: H, n + 1⟩
      | none => match opE cx.P op T H with
        | some (v, H') => k v ⟨T, H', n⟩
        | none => False) : OpE cx fx op T H n kt = ValK cx fx kt x H n := by
  subst hv
  cases kt <;> simp only [OpE, hop, hn, he] <;> cases opV cx.P op T H <;> rfl
theorem opE_new {op : Op} (x : Nat → Option (AV × Ent)) (hv : opV cx.P op T H = none) (hn : ∀ m, opN cx.P op T m = x m) (he : opE cx.P op T H = none) (hop : ∀ k, evOp cx op ⟨T, H, n⟩ k = match opV cx.P op T H with
    | some v => k v ⟨T, H, n⟩
    | none => match opN cx.P op T n with
      | some (v, e) => k v ⟨T, (n, e) :: H, n + 1⟩
      | none => match opE cx.P op T H with
        | some (v, H') => k v ⟨T, H', n⟩
        | none => False) : OpE cx fx op T H n kt = NewK cx fx kt (x (kt.nid n)) H n := by
  cases kt <;> simp only [OpE, hop, hn, hv, he, Kt.nid, NewK] <;> first | (cases x n <;> rfl) | (rename_i c _ _ _ _ _ _; cases x c <;> rfl)

theorem opE_move (x : Operand) : OpE cx fx (.move x) T H n kt = ValK cx fx kt (getO T x) H n := opE_val _ rfl (fun _ => rfl) rfl (fun _ => rfl)
theorem opE_assign (x : Operand) : OpE cx fx (.assign x) T H n kt = ValK cx fx kt (getO T x) H n := opE_val _ rfl (fun _ => rfl) rfl (fun _ => rfl)
theorem opE_pick (c a b : Operand) : OpE cx fx (.pick c a b) T H n kt = ValK cx fx kt (pickA (getO T c) (getO T a) (getO T b)) H n := opE_val _ rfl (fun _ => rfl) rfl (fun _ => rfl)
/-- A literal's parts. -/
def partsO (T : Sl) : List (Nat × Operand) → List (Nat × Option AV)
  | [] => []
  | (i, x) :: r => (i, getO T x) :: partsO T r
theorem partsO_eq (ps : List (Nat × Operand)) : (ps.map fun p => (p.1, getO T p.2)) = partsO T ps := by
  induction ps with
  | nil => rfl
  | cons p r ih => obtain ⟨i, x⟩ := p; simp only [List.map_cons, ih, partsO]
theorem opE_build (t : TypeId) (ps : List (Nat × Operand)) : OpE cx fx (.build t ps.toArray) T H n kt = ValK cx fx kt (buildA (placesOf cx.P t) (zeroA cx.P t) (partsO T ps)) H n :=
  opE_val _ (by simp only [opV, partsO_eq]) (fun _ => rfl) rfl (fun _ => rfl)
def loadO (l : Option (Bool × Nat)) (x : Option AV) (H : Hp) : Option AV :=
  match x with
  | some x => loadA l x H
  | none => none
theorem opE_load (t : TypeId) (a : Operand) : OpE cx fx (.load t a) T H n kt = ValK cx fx kt (loadO (lay cx.P t) (getO T a) H) H n :=
  opE_val _ (by simp only [opV]; cases getO T a <;> rfl) (fun _ => rfl) rfl (fun _ => rfl)
def nilO (x : Option AV) : Option AV :=
  match x with
  | some x => nilA x
  | none => none
theorem opE_nilCheck (x : Operand) : OpE cx fx (.nilCheck x) T H n kt = ValK cx fx kt (nilO (getO T x)) H n := opE_val _ (by simp only [opV]; cases getO T x <;> rfl) (fun _ => rfl) rfl (fun _ => rfl)
def binO (P : Program) (op : BinOp) (t : TypeId) (x y : Option AV) : Option AV :=
  match x, y with
  | some x, some y => binA P op t x y
  | _, _ => none
theorem opE_bin (op : BinOp) (t : TypeId) (x y : Operand) (u : TypeId) : OpE cx fx (.binOp op t x y u) T H n kt = ValK cx fx kt (binO cx.P op t (getO T x) (getO T y)) H n := opE_val _ (by simp only [opV]; cases getO T x <;> cases getO T y <;> rfl) (fun _ => rfl) rfl (fun _ => rfl)
def unO (op : UnOp) (x : Option AV) : Option AV :=
  match x with
  | some x => unA op x
  | none => none
theorem opE_un (op : UnOp) (t : TypeId) (x : Operand) : OpE cx fx (.unOp op t x) T H n kt = ValK cx fx kt (unO op (getO T x)) H n := opE_val _ (by simp only [opV]; cases getO T x <;> rfl) (fun _ => rfl) rfl (fun _ => rfl)
def convO (P : Program) (s d : TypeId) (x : Option AV) (H : Hp) : Option AV :=
  match x with
  | some x => convA P s d x H
  | none => none
theorem opE_conv (s d : TypeId) (x : Operand) : OpE cx fx (.convert s d x) T H n kt = ValK cx fx kt (convO cx.P s d (getO T x) H) H n := opE_val _ (by simp only [opV]; cases getO T x <;> rfl) (fun _ => rfl) rfl (fun _ => rfl)
def mkFnO (f : Fn) (a b : Option (List AV)) : Option AV :=
  match a, b with
  | some a, some b => mkFn f a b
  | _, _ => none
theorem opE_makeFunc (f : Fn) (a b : List Operand) : OpE cx fx (.makeFunc f a.toArray b.toArray) T H n kt = ValK cx fx kt (mkFnO f (getOs T a) (getOs T b)) H n := opE_val _ (by simp only [opV]; cases getOs T a <;> cases getOs T b <;> rfl) (fun _ => rfl) rfl (fun _ => rfl)
def sliceO (P : Program) (t : TypeId) (x : Option AV) (lo hi mx : Option (Option AV)) : Option AV :=
  match x with
  | some x => sliceA P t x lo hi mx
  | none => none
theorem opE_slice (t : TypeId) (x : Operand) (lo hi mx : Option Operand) : OpE cx fx (.slice t x lo hi mx) T H n kt = ValK cx fx kt (sliceO cx.P t (getO T x) (lo.map (getO T)) (hi.map (getO T)) (mx.map (getO T))) H n := opE_val _ (by simp only [opV]; cases getO T x <;> rfl) (fun _ => rfl) rfl (fun _ => rfl)
def faO (l : Option (Nat × Bool × Nat)) (x : Option AV) (f : Nat) : Option AV :=
  match x with
  | some x => fieldAddrA l x f
  | none => none
theorem opE_fieldAddr (t : TypeId) (x : Operand) (f : Nat) : OpE cx fx (.fieldAddr t x f) T H n kt = ValK cx fx kt (faO (fldOf cx.P t f) (getO T x) f) H n := opE_val _ (by simp only [opV]; cases getO T x <;> rfl) (fun _ => rfl) rfl (fun _ => rfl)
def fdO (l : Option (Nat × Bool × Nat)) (x : Option AV) (f : Nat) : Option AV :=
  match x with
  | some x => fieldC l x f
  | none => none
theorem opE_field (t : TypeId) (x : Operand) (f : Nat) : OpE cx fx (.field t x f) T H n kt = ValK cx fx kt (fdO (fldOf cx.P t f) (getO T x) f) H n := opE_val _ (by simp only [opV]; cases getO T x <;> rfl) (fun _ => rfl) rfl (fun _ => rfl)
def iaO (l : Option (Nat × Bool × Nat)) (s : Option (Bool × Nat)) (x y : Option AV) : Option AV :=
  match x, y with
  | some x, some y => indexAddrC l s x y
  | _, _ => none
theorem opE_indexAddr (t : TypeId) (x i : Operand) : OpE cx fx (.indexAddr t x i) T H n kt = ValK cx fx kt (iaO (arrOf cx.P t) (slcOf cx.P t) (getO T x) (getO T i)) H n := opE_val _ (by simp only [opV]; cases getO T x <;> cases getO T i <;> rfl) (fun _ => rfl) rfl (fun _ => rfl)
def ixO (P : Program) (t : TypeId) (l : Option (Nat × Bool × Nat)) (x y : Option AV) : Option AV :=
  match x, y with
  | some x, some y => indexC P t l x y
  | _, _ => none
theorem opE_index (t : TypeId) (x i : Operand) : OpE cx fx (.index t x i) T H n kt = ValK cx fx kt (ixO cx.P t (arrOf cx.P t) (getO T x) (getO T i)) H n := opE_val _ (by simp only [opV]; cases getO T x <;> cases getO T i <;> rfl) (fun _ => rfl) rfl (fun _ => rfl)
def exO (x : Option AV) (i : Nat) : Option AV :=
  match x with
  | some x => extractA x i
  | none => none
theorem opE_extract (x : Operand) (i : Nat) : OpE cx fx (.extract x i) T H n kt = ValK cx fx kt (exO (getO T x) i) H n := opE_val _ (by simp only [opV]; cases getO T x <;> rfl) (fun _ => rfl) rfl (fun _ => rfl)
def builtO (P : Program) (b : Builtin) (ts : List TypeId) (x : Option (List AV)) (H : Hp) : Option AV :=
  match x with
  | some vs => builtA P b ts vs H
  | none => none
theorem opE_len (a : List Operand) (ts : List TypeId) : OpE cx fx (.call ⟨.builtin .len, a.toArray, ts.toArray⟩) T H n kt = ValK cx fx kt (builtO cx.P .len ts (getOs T a) H) H n := opE_val _ (by simp only [opV]; cases getOs T a <;> rfl) (fun _ => rfl) rfl (fun _ => rfl)
theorem opE_cap (a : List Operand) (ts : List TypeId) : OpE cx fx (.call ⟨.builtin .cap, a.toArray, ts.toArray⟩) T H n kt = ValK cx fx kt (builtO cx.P .cap ts (getOs T a) H) H n := opE_val _ (by simp only [opV]; cases getOs T a <;> rfl) (fun _ => rfl) rfl (fun _ => rfl)
theorem opE_min (a : List Operand) (ts : List TypeId) : OpE cx fx (.call ⟨.builtin .min, a.toArray, ts.toArray⟩) T H n kt = ValK cx fx kt (builtO cx.P .min ts (getOs T a) H) H n := opE_val _ (by simp only [opV]; cases getOs T a <;> rfl) (fun _ => rfl) rfl (fun _ => rfl)
theorem opE_max (a : List Operand) (ts : List TypeId) : OpE cx fx (.call ⟨.builtin .max, a.toArray, ts.toArray⟩) T H n kt = ValK cx fx kt (builtO cx.P .max ts (getOs T a) H) H n := opE_val _ (by simp only [opV]; cases getOs T a <;> rfl) (fun _ => rfl) rfl (fun _ => rfl)
theorem opE_alloc (t : TypeId) : OpE cx fx (.alloc t) T H n kt = NewK cx fx kt (newA (zeroA cx.P t) (kt.nid n)) H n := opE_new (fun c => newA (zeroA cx.P t) c) rfl (fun _ => rfl) rfl (fun _ => rfl)
theorem opE_box (t : TypeId) (x : Operand) : OpE cx fx (.box t x) T H n kt = NewK cx fx kt (newA (getO T x) (kt.nid n)) H n := opE_new (fun c => newA (getO T x) c) rfl (fun _ => rfl) rfl (fun _ => rfl)
theorem opE_buildSlice (t : TypeId) (len : Nat) (ps : List (Nat × Operand)) : OpE cx fx (.buildSlice t len ps.toArray) T H n kt = NewK cx fx kt (buildSliceA (slcOf cx.P t) (zeroE cx.P t) len (partsO T ps) (kt.nid n)) H n :=
  opE_new (fun c => buildSliceA (slcOf cx.P t) (zeroE cx.P t) len (partsO T ps) c) rfl (fun _ => by simp only [opN, partsO_eq]) rfl (fun _ => rfl)
theorem opE_makeMap (t : TypeId) : OpE cx fx (.makeMap t none) T H n kt = NewK cx fx kt (some (.map (kt.nid n), .mp [])) H n := opE_new (fun c => some (.map c, .mp [])) rfl (fun _ => rfl) rfl (fun _ => rfl)
def msO (l : Option (Bool × Nat)) (z : Option AV) (by_ : Option Nat) (x y : Option AV) (n : Nat) : Option (AV × Ent) :=
  match x, y with
  | some x, some y => makeSliceA l z by_ x y n
  | _, _ => none
theorem opE_makeSlice (t : TypeId) (l c : Operand) : OpE cx fx (.makeSlice t l c) T H n kt = NewK cx fx kt (msO (slcOf cx.P t) (zeroE cx.P t) (bytesE cx.P t) (getO T l) (getO T c) (kt.nid n)) H n :=
  opE_new (fun m => msO (slcOf cx.P t) (zeroE cx.P t) (bytesE cx.P t) (getO T l) (getO T c) m) rfl (fun m => by simp only [opN]; cases getO T l <;> cases getO T c <;> rfl) rfl (fun _ => rfl)
def storeO (l : Option (Bool × Nat)) (x y : Option AV) (H : Hp) : Option (AV × Hp) :=
  match x, y with
  | some x, some y => match storeA l x y H with
    | some H' => some (.tup [], H')
    | none => none
  | _, _ => none
def Kt.great : Kt → Bool
  | .calm .. => false
  | _ => true
theorem opE_store_ (t : TypeId) (a x : Operand) (hk : kt.great = true) : OpE cx fx (.store t a x) T H n kt = EffK cx fx kt (storeO (lay cx.P t) (getO T a) (getO T x) H) n := by
  have : opE cx.P (.store t a x) T H = storeO (lay cx.P t) (getO T a) (getO T x) H := by
    unfold storeO
    simp only [opE, both]
    cases getO T a <;> cases getO T x <;> try rfl
    rename_i u v
    cases h : storeA (lay cx.P t) u v H <;> simp [h]
  cases kt <;> first | (simp [Kt.great] at hk; done) | skip
  all_goals
    simp only [OpE, evOp, opV, opN, this]
    cases storeO (lay cx.P t) (getO T a) (getO T x) H <;> rfl
end

/-! ### Calls -/
section
variable {cx : Cx} {fx : Fx} {T : Sl} {H : Hp} {n : Nat} {kt : Kt}
def CallG (cx : Cx) (fx : Fx) (kt : Kt) (s : Option (List AV → Hp → Option AV)) (g : FuncId) (args : List AV) (H : Hp) (n : Nat) : Prop := evFn cx s g args H n (FinK cx fx kt)
def CallS (cx : Cx) (fx : Fx) (kt : Kt) (g : FuncId) (args : List AV) (H : Hp) (n : Nat) : Prop := callA cx.P g args H n (FinK cx fx kt)
def RoundS (cx : Cx) (fx : Fx) (kt : Kt) (L : Nat) (args : List AV) (H : Hp) (n : Nat) : Prop := roundA cx.P L args H n (FinK cx fx kt)
def CallK (cx : Cx) (fx : Fx) (kt : Kt) (f : Option AV) (args : Option (List AV)) (H : Hp) (n : Nat) : Prop :=
  match f, args with
  | some f, some args => evCall cx f args H n (FinK cx fx kt)
  | _, _ => False
theorem opE_call_ (f : Operand) (a : List Operand) (ts : Array TypeId) (hk : kt.great = true) : OpE cx fx (.call ⟨.value f, a.toArray, ts⟩) T H n kt = CallK cx fx kt (getO T f) (getOs T a) H n := by
  have key : ∀ k : AV → Hp → Nat → Prop, (oK (both (getO T f) (getOs T a) fun a b => some (a, b)) fun fa => evCall cx fa.1 fa.2 H n k) = (match getO T f, getOs T a with | some f, some args => evCall cx f args H n k | _, _ => False) := by
    intro k
    cases getO T f <;> cases getOs T a <;> rfl
  cases kt <;> first | (simp [Kt.great] at hk; done) | exact key _
theorem callK_fn (g : FuncId) (first captured args : List AV) : CallK cx fx kt (some (.fn (.func g) first captured)) (some args) H n = CallG cx fx kt (lookU g cx.pu) g (first ++ args ++ captured) H n := rfl
theorem callK_yld (L : Nat) (args : List AV) : CallK cx fx kt (some (.yld L)) (some args) H n = RoundS cx fx kt L args H n := rfl
theorem callG_some (s : List AV → Hp → Option AV) (g : FuncId) (args : List AV) : CallG cx fx kt (some s) g args H n = ValK cx fx kt (s args H) H n := by
  unfold CallG evFn ValK
  dsimp only
  cases s args H <;> rfl
theorem callG_none (g : FuncId) (args : List AV) : CallG cx fx kt none g args H n = callA cx.P g args H n (FinK cx fx kt) := rfl
/-- A row that grows, and what there was stays. -/
def AppG (cx : Cx) (fx : Fx) (kt : Kt) (t : TypeId) (g : Option (Nat × Nat × List AV × List AV)) (H : Hp) (n : Nat) : Prop :=
  oK g fun r => (roomOk cx.P t (r.2.2.1.length + r.2.2.2.length) ∧ r.1 < r.2.2.1.length + r.2.2.2.length) ∧
    ∀ c, r.2.2.1.length + r.2.2.2.length ≤ c → FinK cx fx kt (.slc n 0 [] r.2.1 0 0 (r.2.2.1.length + r.2.2.2.length) c) ((n, .vec c r.2.1 (r.2.2.1 ++ r.2.2.2)) :: H) (n + 1)
def AppS (cx : Cx) (fx : Fx) (kt : Kt) (t : TypeId) (ko : Option Nat) (sz : Nat) (l m : List AV) (g : Option (Nat × Nat × List AV × List AV)) (H : Hp) (n : Nat) : Prop :=
  (roomOk cx.P t (l.length + m.length) ∧ ∀ c, l.length + m.length ≤ c → FinK cx fx kt (.slc n 0 [] sz 0 0 (l.length + m.length) c) ((n, .vec c sz (l ++ m)) :: dropO ko H) (n + 1)) ∨ AppG cx fx kt t g H n
def AppK (cx : Cx) (fx : Fx) (kt : Kt) (t : TypeId) (x : Option (Option Nat × Nat × List AV × List AV)) (g : Option (Nat × Nat × List AV × List AV)) (H : Hp) (n : Nat) : Prop :=
  match x with
  | some (ko, sz, l, m) => AppS cx fx kt t ko sz l m g H n
  | none => AppG cx fx kt t g H n
theorem appK_some (t : TypeId) (ko : Option Nat) (sz : Nat) (l m : List AV) (g : Option (Nat × Nat × List AV × List AV)) : AppK cx fx kt t (some (ko, sz, l, m)) g H n = AppS cx fx kt t ko sz l m g H n := rfl
theorem appK_grow {t : TypeId} {x : Option (Option Nat × Nat × List AV × List AV)} {g : Option (Nat × Nat × List AV × List AV)} (h : AppG cx fx kt t g H n) : AppK cx fx kt t x g H n := by
  unfold AppK
  split
  · exact .inr h
  · exact h
def appO (s : Option (Bool × Nat)) (z : Option AV) (ni : Bool) (x y : Option AV) (H : Hp) : Option (Option Nat × Nat × List AV × List AV) :=
  match s, z, x, y with
  | some (_, n), some z, some x, some y => if fitZ n (some z) = true ∧ ni = true then
      match ownOf n x H, moreOf n y H with
      | some (k, l), some m => some (k, n, l, m)
      | _, _ => none
    else none
  | _, _, _, _ => none
def growO (s : Option (Bool × Nat)) (z : Option AV) (ni ii : Bool) (x y : Option AV) (H : Hp) : Option (Nat × Nat × List AV × List AV) :=
  match s, z, x, y with
  | some (_, n), some z, some x, some y => if fitZ n (some z) = true then
      match elemsN n x H, (if ni = true then moreOf n y H else if ii = true then zeroN z y else none) with
      | some l, some m => some (capX x, n, l, m)
      | _, _ => none
    else none
  | _, _, _, _ => none
theorem opE_append_ (x y : Operand) (t u : TypeId) (hk : kt.great = true) : OpE cx fx (.call ⟨.builtin .append, #[x, y], #[t, u]⟩) T H n kt = AppK cx fx kt t (appO (slcOf cx.P t) (zeroE cx.P t) (notInt cx.P u) (getO T x) (getO T y) H) (growO (slcOf cx.P t) (zeroE cx.P t) (notInt cx.P u) (isInt cx.P u) (getO T x) (getO T y) H) H n := by
  have key : ∀ k : AV → St → Prop, evOp cx (.call ⟨.builtin .append, #[x, y], #[t, u]⟩) ⟨T, H, n⟩ k =
      ((oK (appO (slcOf cx.P t) (zeroE cx.P t) (notInt cx.P u) (getO T x) (getO T y) H) fun r => roomOk cx.P t (r.2.2.1.length + r.2.2.2.length) ∧
        ∀ c, r.2.2.1.length + r.2.2.2.length ≤ c → k (.slc n 0 [] r.2.1 0 0 (r.2.2.1.length + r.2.2.2.length) c) ⟨T, (n, .vec c r.2.1 (r.2.2.1 ++ r.2.2.2)) :: dropO r.1 H, n + 1⟩) ∨
      (oK (growO (slcOf cx.P t) (zeroE cx.P t) (notInt cx.P u) (isInt cx.P u) (getO T x) (getO T y) H) fun r => (roomOk cx.P t (r.2.2.1.length + r.2.2.2.length) ∧ r.1 < r.2.2.1.length + r.2.2.2.length) ∧
        ∀ c, r.2.2.1.length + r.2.2.2.length ≤ c → k (.slc n 0 [] r.2.1 0 0 (r.2.2.1.length + r.2.2.2.length) c) ⟨T, (n, .vec c r.2.1 (r.2.2.1 ++ r.2.2.2)) :: H, n + 1⟩)) := by
    intro k
    have hg : getOs T [x, y] = match getO T x, getO T y with | some a, some b => some [a, b] | _, _ => none := by
      simp only [getOs, List.map_cons, List.map_nil]
      cases getO T x <;> cases getO T y <;> rfl
    simp only [evOp, hg]
    cases getO T x with
    | none => cases slcOf cx.P t <;> cases zeroE cx.P t <;> simp [appO, growO, oK]
    | some a =>
      cases getO T y with
      | none => cases slcOf cx.P t <;> cases zeroE cx.P t <;> simp [appO, growO, oK]
      | some b =>
        simp only [appendA, growA, appO, growO]
        cases slcOf cx.P t <;> cases zeroE cx.P t <;> rfl
  have fin : ∀ (r : Option (Option Nat × Nat × List AV × List AV)) (g : Option (Nat × Nat × List AV × List AV)), ((oK r fun r => roomOk cx.P t (r.2.2.1.length + r.2.2.2.length) ∧
        ∀ c, r.2.2.1.length + r.2.2.2.length ≤ c → FinK cx fx kt (.slc n 0 [] r.2.1 0 0 (r.2.2.1.length + r.2.2.2.length) c) ((n, .vec c r.2.1 (r.2.2.1 ++ r.2.2.2)) :: dropO r.1 H) (n + 1)) ∨ AppG cx fx kt t g H n) = AppK cx fx kt t r g H n := by
    intro r g
    cases r with
    | none => unfold AppK oK; simp
    | some r => obtain ⟨ko, sz, l, m⟩ := r; rfl
  cases kt <;> first | (simp [Kt.great] at hk; done) | exact (key (fun v st => FinK cx fx _ v st.H st.n)).trans (fin _ _)
theorem opE_store_r (t : TypeId) (a x : Operand) (id : Nat) (all r : List Oper) (d : Option Nat) (T' : Sl) (k : Kd) : OpE cx fx (.store t a x) T H n (.reg id all r d T' k) = EffK cx fx (.reg id all r d T' k) (storeO (lay cx.P t) (getO T a) (getO T x) H) n := opE_store_ t a x rfl
theorem opE_call_r (f : Operand) (a : List Operand) (ts : Array TypeId) (id : Nat) (all r : List Oper) (d : Option Nat) (T' : Sl) (k : Kd) : OpE cx fx (.call ⟨.value f, a.toArray, ts⟩) T H n (.reg id all r d T' k) = CallK cx fx (.reg id all r d T' k) (getO T f) (getOs T a) H n := opE_call_ f a ts rfl
theorem opE_append_r (x y : Operand) (t u : TypeId) (id : Nat) (all r : List Oper) (d : Option Nat) (T' : Sl) (k : Kd) : OpE cx fx (.call ⟨.builtin .append, #[x, y], #[t, u]⟩) T H n (.reg id all r d T' k) = AppK cx fx (.reg id all r d T' k) t (appO (slcOf cx.P t) (zeroE cx.P t) (notInt cx.P u) (getO T x) (getO T y) H) (growO (slcOf cx.P t) (zeroE cx.P t) (notInt cx.P u) (isInt cx.P u) (getO T x) (getO T y) H) H n := opE_append_ x y t u rfl
theorem opE_store_w (t : TypeId) (a x : Operand) (id : Nat) (all : List Oper) (pl : List Row) (base : Nat) (r : List Row) (chk : List Nat) (d : Option Nat) (T' : Sl) (S : Hp) (k : Kd) : OpE cx fx (.store t a x) T H n (.row id all pl base r chk d T' S k) = EffK cx fx (.row id all pl base r chk d T' S k) (storeO (lay cx.P t) (getO T a) (getO T x) H) n := opE_store_ t a x rfl
theorem opE_call_w (f : Operand) (a : List Operand) (ts : Array TypeId) (id : Nat) (all : List Oper) (pl : List Row) (base : Nat) (r : List Row) (chk : List Nat) (d : Option Nat) (T' : Sl) (S : Hp) (k : Kd) : OpE cx fx (.call ⟨.value f, a.toArray, ts⟩) T H n (.row id all pl base r chk d T' S k) = CallK cx fx (.row id all pl base r chk d T' S k) (getO T f) (getOs T a) H n := opE_call_ f a ts rfl
theorem opE_append_w (x y : Operand) (t u : TypeId) (id : Nat) (all : List Oper) (pl : List Row) (base : Nat) (r : List Row) (chk : List Nat) (d : Option Nat) (T' : Sl) (S : Hp) (k : Kd) : OpE cx fx (.call ⟨.builtin .append, #[x, y], #[t, u]⟩) T H n (.row id all pl base r chk d T' S k) = AppK cx fx (.row id all pl base r chk d T' S k) t (appO (slcOf cx.P t) (zeroE cx.P t) (notInt cx.P u) (getO T x) (getO T y) H) (growO (slcOf cx.P t) (zeroE cx.P t) (notInt cx.P u) (isInt cx.P u) (getO T x) (getO T y) H) H n := opE_append_ x y t u rfl

/-! ### Maps, copies -/
def lookO (kt : Option (Bool × Nat)) (z : Option AV) (x k : Option AV) (ok : Bool) (H : Hp) : Option AV :=
  match x, k with
  | some x, some k => lookC kt z (mapC x H) (keyO kt k) ok
  | _, _ => none
theorem opE_lookup (t : TypeId) (x i : Operand) (ok : Bool) : OpE cx fx (.lookup t x i ok) T H n kt = ValK cx fx kt (lookO (mapKT cx.P t) (mapZ cx.P t) (getO T x) (getO T i) ok H) H n := opE_val _ (by simp only [opV]; cases getO T x <;> cases getO T i <;> rfl) (fun _ => rfl) rfl (fun _ => rfl)
def updE (k : Nat) (e : Option Ent) (H : Hp) : Option (AV × Hp) :=
  match e with
  | some e => some (.tup [], hset k e H)
  | none => none
def updO (kt : Option (Bool × Nat)) (m x y : Option AV) (H : Hp) : Option (AV × Hp) :=
  match m, x, y with
  | some (.map k), some x, some y => updE k (putC kt (mapE (hget k H)) (keyO kt x) x y) H
  | _, _, _ => none
theorem opX_upd {P : Program} (t : TypeId) (m x y : Operand) {K : AV → Hp → Nat → Prop} : opX P (.mapUpdate t m x y) T H n K = oK (updO (mapKT P t) (getO T m) (getO T x) (getO T y) H) fun r => K r.1 r.2 n := by
  simp only [opX]
  cases getO T m with
  | none => cases getO T x <;> cases getO T y <;> rfl
  | some m =>
    cases getO T x with
    | none => cases m <;> rfl
    | some x =>
      cases getO T y with
      | none => cases m <;> rfl
      | some y =>
        cases m
        case map k =>
          simp only [both, updA, updO, updE]
          cases putC (mapKT P t) (mapE (hget k H)) (keyO (mapKT P t) x) x y <;> rfl
        all_goals rfl
theorem opE_upd_ (t : TypeId) (m x y : Operand) (hk : kt.great = true) : OpE cx fx (.mapUpdate t m x y) T H n kt = EffK cx fx kt (updO (mapKT cx.P t) (getO T m) (getO T x) (getO T y) H) n := by
  have fin : ∀ (x : Option (AV × Hp)), (oK x fun r => FinK cx fx kt r.1 r.2 n) = EffK cx fx kt x n := by
    intro x; cases x <;> rfl
  cases kt <;> first | (simp [Kt.great] at hk; done) | skip
  all_goals
    simp only [OpE, evOp, opV, opN, opE]
    rw [opX_upd]
    exact fin _
theorem opE_upd_r (t : TypeId) (m x y : Operand) (id : Nat) (all r : List Oper) (d : Option Nat) (T' : Sl) (k : Kd) : OpE cx fx (.mapUpdate t m x y) T H n (.reg id all r d T' k) = EffK cx fx (.reg id all r d T' k) (updO (mapKT cx.P t) (getO T m) (getO T x) (getO T y) H) n := opE_upd_ t m x y rfl
theorem opE_upd_w (t : TypeId) (m x y : Operand) (id : Nat) (all : List Oper) (pl : List Row) (base : Nat) (r : List Row) (chk : List Nat) (d : Option Nat) (T' : Sl) (S : Hp) (k : Kd) : OpE cx fx (.mapUpdate t m x y) T H n (.row id all pl base r chk d T' S k) = EffK cx fx (.row id all pl base r chk d T' S k) (updO (mapKT cx.P t) (getO T m) (getO T x) (getO T y) H) n := opE_upd_ t m x y rfl
theorem builtA_clear {P : Program} (ts : List TypeId) (vs : List AV) : builtA P .clear ts vs H = none := by
  unfold builtA; split <;> simp_all
theorem builtA_copy {P : Program} (ts : List TypeId) (vs : List AV) : builtA P .copy ts vs H = none := by
  unfold builtA; split <;> simp_all
theorem ev_clear (args : List Operand) (ts : Array TypeId) (k : AV → St → Prop) : evOp cx (.call ⟨.builtin .clear, args.toArray, ts⟩) ⟨T, H, n⟩ k = opX cx.P (.call ⟨.builtin .clear, args.toArray, ts⟩) T H n fun v H' n' => k v ⟨T, H', n'⟩ := by
  have e : opV cx.P (.call ⟨.builtin .clear, args.toArray, ts⟩) T H = none := by
    simp only [opV]; cases getOs T args <;> simp [one, builtA_clear]
  simp only [evOp, e, opN, opE]
theorem ev_copy (args : List Operand) (ts : Array TypeId) (k : AV → St → Prop) : evOp cx (.call ⟨.builtin .copy, args.toArray, ts⟩) ⟨T, H, n⟩ k = opX cx.P (.call ⟨.builtin .copy, args.toArray, ts⟩) T H n fun v H' n' => k v ⟨T, H', n'⟩ := by
  have e : opV cx.P (.call ⟨.builtin .copy, args.toArray, ts⟩) T H = none := by
    simp only [opV]; cases getOs T args <;> simp [one, builtA_copy]
  simp only [evOp, e, opN, opE]
def clearE (k : Nat) (m : Option (List (AV × AV))) (H : Hp) : Option (AV × Hp) :=
  match m with
  | some _ => some (.tup [], hset k (.mp []) H)
  | none => none
def clearO (d : Bool) (m : Option (List AV)) (H : Hp) : Option (AV × Hp) :=
  match d, m with
  | true, some [.map k] => clearE k (mapE (hget k H)) H
  | _, _ => none
theorem clearO_no (d : Bool) (xs : Option (List AV)) (h : ∀ x, xs ≠ some [x]) : clearO d xs H = none := by
  unfold clearO; split
  · rename_i k; exact absurd rfl (h (.map k))
  · rfl
theorem clearO_one {P : Program} (t : TypeId) (a : AV) : clearO (hasTy P t) (some [a]) H = (clearA P t a H).map fun H' => (.tup [], H') := by
  unfold clearA hasTy
  cases P.underlying t with
  | none =>
    cases a
    case map k => simp only []; cases mapE (hget k H) <;> rfl
    all_goals rfl
  | some u =>
    cases a
    case map k =>
      simp only [clearO, clearE, Option.isSome]
      cases mapE (hget k H) <;> rfl
    all_goals rfl
theorem oK_map {α β : Type} (x : Option α) (f : α → β) (p : β → Prop) : oK (x.map f) p = oK x fun a => p (f a) := by cases x <;> rfl
theorem opE_clear_ (args : List Operand) (t : TypeId) (hk : kt.great = true) : OpE cx fx (.call ⟨.builtin .clear, args.toArray, #[t]⟩) T H n kt = EffK cx fx kt (clearO (hasTy cx.P t) (getOs T args) H) n := by
  have key : ∀ K : AV → Hp → Nat → Prop, opX cx.P (.call ⟨.builtin .clear, args.toArray, #[t]⟩) T H n K = oK (clearO (hasTy cx.P t) (getOs T args) H) fun r => K r.1 r.2 n := by
    intro K
    simp only [opX]
    cases getOs T args with
    | none => rw [clearO_no _ _ (by simp)]; rfl
    | some l => cases l with
      | nil => rw [clearO_no _ _ (by simp)]; rfl
      | cons a r => cases r with
        | cons b r => rw [clearO_no _ _ (by simp)]; rfl
        | nil => rw [clearO_one, oK_map]
  have fin : ∀ (x : Option (AV × Hp)), (oK x fun r => FinK cx fx kt r.1 r.2 n) = EffK cx fx kt x n := by
    intro x; cases x <;> rfl
  cases kt <;> first | (simp [Kt.great] at hk; done) | skip
  all_goals
    simp only [OpE]
    rw [ev_clear, key]
    exact fin _
theorem opE_clear_r (args : List Operand) (t : TypeId) (id : Nat) (all r : List Oper) (d : Option Nat) (T' : Sl) (k : Kd) : OpE cx fx (.call ⟨.builtin .clear, args.toArray, #[t]⟩) T H n (.reg id all r d T' k) = EffK cx fx (.reg id all r d T' k) (clearO (hasTy cx.P t) (getOs T args) H) n := opE_clear_ args t rfl
def copyO (s : Option (Bool × Nat)) (x y : Option AV) (H : Hp) : Option (AV × Hp) :=
  match s, x, y with
  | some (_, m), some x, some y => copyA m x y H
  | _, _, _ => none
theorem opE_copy_ (x y : Operand) (t u : TypeId) (hk : kt.great = true) : OpE cx fx (.call ⟨.builtin .copy, #[x, y], #[t, u]⟩) T H n kt = EffK cx fx kt (copyO (slcOf cx.P t) (getO T x) (getO T y) H) n := by
  have key : ∀ K : AV → Hp → Nat → Prop, opX cx.P (.call ⟨.builtin .copy, #[x, y], #[t, u]⟩) T H n K = oK (copyO (slcOf cx.P t) (getO T x) (getO T y) H) fun r => K r.1 r.2 n := by
    intro K
    have hg : getOs T [x, y] = match getO T x, getO T y with | some a, some b => some [a, b] | _, _ => none := by
      simp only [getOs, List.map_cons, List.map_nil]
      cases getO T x <;> cases getO T y <;> rfl
    simp only [opX, hg]
    cases getO T x with
    | none => cases slcOf cx.P t <;> simp [copyO, oK]
    | some a => cases getO T y with
      | none => cases slcOf cx.P t <;> simp [copyO, oK]
      | some b =>
        simp only []
        generalize slcOf cx.P t = q
        cases q <;> rfl
  have fin : ∀ (x : Option (AV × Hp)), (oK x fun r => FinK cx fx kt r.1 r.2 n) = EffK cx fx kt x n := by
    intro x; cases x <;> rfl
  have e := fun k => ev_copy (cx := cx) (T := T) (H := H) (n := n) [x, y] #[t, u] k
  cases kt <;> first | (simp [Kt.great] at hk; done) | skip
  all_goals
    simp only [OpE]
    refine (e _).trans ?_
    rw [key]
    exact fin _
theorem opE_copy_r (x y : Operand) (t u : TypeId) (id : Nat) (all r : List Oper) (d : Option Nat) (T' : Sl) (k : Kd) : OpE cx fx (.call ⟨.builtin .copy, #[x, y], #[t, u]⟩) T H n (.reg id all r d T' k) = EffK cx fx (.reg id all r d T' k) (copyO (slcOf cx.P t) (getO T x) (getO T y) H) n := opE_copy_ x y t u rfl
theorem opE_copy_w (x y : Operand) (t u : TypeId) (id : Nat) (all : List Oper) (pl : List Row) (base : Nat) (r : List Row) (chk : List Nat) (d : Option Nat) (T' : Sl) (S : Hp) (k : Kd) : OpE cx fx (.call ⟨.builtin .copy, #[x, y], #[t, u]⟩) T H n (.row id all pl base r chk d T' S k) = EffK cx fx (.row id all pl base r chk d T' S k) (copyO (slcOf cx.P t) (getO T x) (getO T y) H) n := opE_copy_ x y t u rfl
/-- Going through a map. -/
def RngE (cx : Cx) (fx : Fx) (kt : Kt) (k : Nat) (m : Option (List (AV × AV))) (H : Hp) (n : Nat) : Prop := oK m fun m => ∀ s : MpS, FinK cx fx kt (.ptr n 0 []) ((n, .it s [] k) :: hset k (.lk s m) H) (n + 1)
def RngM (cx : Cx) (fx : Fx) (kt : Kt) (d : Bool) (x : Option AV) (H : Hp) (n : Nat) : Prop :=
  match x with
  | some (.map k) => d = true ∧ RngE cx fx kt k (mapE (hget k H)) H n
  | _ => False
theorem opE_range_r (t : TypeId) (x : Operand) (id : Nat) (all r : List Oper) (d : Option Nat) (T' : Sl) (k : Kd) : OpE cx fx (.range t x) T H n (.reg id all r d T' k) = RngM cx fx (.reg id all r d T' k) (mapKT cx.P t).isSome (getO T x) H n := by
  simp only [OpE, evOp, opV, opN, opE, opX, rangeO, RngM, RngE]
  cases getO T x with
  | none => rfl
  | some v => cases v <;> rfl
theorem rngM_map (d : Bool) (k : Nat) : RngM cx fx kt d (some (.map k)) H n = (d = true ∧ RngE cx fx kt k (mapE (hget k H)) H n) := rfl
theorem rngE_go {k : Nat} {m : List (AV × AV)} (h : ∀ s : MpS, FinK cx fx kt (.ptr n 0 []) ((n, .it s [] k) :: hset k (.lk s m) H) (n + 1)) : RngE cx fx kt k (some m) H n := h
def NxtM (cx : Cx) (fx : Fx) (kt : Kt) (x : Option AV) (H : Hp) (n : Nat) : Prop := iterO x fun k => nextO k (hget k H) H n (FinK cx fx kt)
theorem opE_next_r (x : Operand) (id : Nat) (all r : List Oper) (d : Option Nat) (T' : Sl) (k : Kd) : OpE cx fx (.next x false) T H n (.reg id all r d T' k) = NxtM cx fx (.reg id all r d T' k) (getO T x) H n := by
  simp only [OpE, evOp, opV, opN, opE, opX, NxtM]
/-- The next entry: one that was not met, or none is left. -/
theorem nxt_go {it k : Nat} {s : MpS} {seen : List Nat} {m : List (AV × AV)} (h1 : hget it H = some (.it s seen k)) (h2 : hget k H = some (.lk s m)) (h3 : ∀ i q, m[i]? = some q → i ∉ seen → FinK cx fx kt (.tup [.bool true, q.1, q.2]) (hset it (.it s (seen ++ [i]) k) H) n) (h4 : (∀ i, i < m.length → i ∈ seen) → FinK cx fx kt (.tup [.bool false]) H n) : NxtM cx fx kt (some (.ptr it 0 [])) H n := by
  show nextO it (hget it H) H n _
  rw [h1]
  show (match hget k H with
    | some (.lk s' m) => s' = s ∧ nextX it k s seen m H n _
    | _ => False)
  rw [h2]
  exact ⟨rfl, h3, h4⟩
def EntM (cx : Cx) (fx : Fx) (kt : Kt) (x : Option AV) (H : Hp) (n : Nat) : Prop := iterO x fun k => entryO (hget k H) H n (FinK cx fx kt)
theorem opE_entry_r (x : Operand) (id : Nat) (all r : List Oper) (d : Option Nat) (T' : Sl) (k : Kd) : OpE cx fx (.entry x) T H n (.reg id all r d T' k) = EntM cx fx (.reg id all r d T' k) (getO T x) H n := by
  simp only [OpE, evOp, opV, opN, opE, opX, EntM]
theorem ent_go {it k : Nat} {s : MpS} {seen : List Nat} {m : List (AV × AV)} {q : AV × AV} (h1 : hget it H = some (.it s seen k)) (h2 : hget k H = some (.lk s m)) (h3 : lastO seen m = some q) (h4 : FinK cx fx kt (.tup [q.1, q.2]) H n) : EntM cx fx kt (some (.ptr it 0 [])) H n := by
  show entryO (hget it H) H n _
  rw [h1]
  show (match hget k H with
    | some (.lk s' m) => s' = s ∧ oK (lastO seen m) fun q => FinK cx fx kt (.tup [q.1, q.2]) H n
    | _ => False)
  rw [h2]
  exact ⟨rfl, by rw [h3]; exact h4⟩
end

end Go.Y
