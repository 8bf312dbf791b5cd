/-
  States against the machine's; what a call does; the walk through code: definitions.
-/
import Derived.Test.YtbkmhkeihbgcfaaYc
set_option linter.unusedVariables false
set_option linter.unusedSimpArgs false
namespace Go.Y

def evalT (tmps : Array Value) : Operand → Value
  | .tmp t => tmps.getD t undef
  | .const v => v
  | .global g => .pointer (some ⟨g, 0, none⟩)
  | .func f => .func (.func f) #[] #[]

def TRel (lam : Lam) (n : Nat) (T : Sl) (tmps : Array Value) : Prop := ∀ t v, getT T t = some v → tmps.getD t undef = v.conc lam ∧ v.ok lam n

/-- Entries of a map, by their stamps. -/
def MapOk (es : Array MapEntry) (clock : Nat) : Prop := (es.toList.map (·.born)).Nodup ∧ ∀ e, e ∈ es.toList → e.born < clock

def LState.is (s : LState) (l : Loop) : Prop :=
  match s with
  | .ready => l.state = .ready ∧ l.pending = none
  | .busy => l.state = .busy
  | .done c => l.state = .done ∧ l.pending = some c

/-- A block lies in the world as it is said. -/
def HasE (lam : Lam) (n : Nat) (w : World) (k : Nat) : Ent → Prop
  | .cel v => v.ok lam n ∧ v.isTup = false ∧ ∃ b c ty, lam k 0 = some (b, 0) ∧ w.heap[b]? = some (.cells c ty (0, 0)) ∧ c.toList = cellsA lam v
  | .vec cap sz l => okL lam n l ∧ okR sz l ∧ (∀ v, v ∈ l → v.isTup = false) ∧ l.length ≤ cap ∧ ((lam k 0 = none ∧ cap = 0) ∨ ∃ b c ty, lam k 0 = some (b, 0) ∧ w.heap[b]? = some (.cells c ty (0, 0)) ∧ c.size = cap * sz ∧ l.flatMap (cellsA lam) <+: c.toList)
  | .ro f => ∀ i, (f i).ok lam n ∧ ((lam k i = none ∧ (f i).size = 0) ∨ ∃ b o c ty fr, lam k i = some (b, o) ∧ w.heap[b]? = some (.cells c ty fr) ∧ o ≤ c.size ∧ cellsA lam (f i) <+: c.toList.drop o)
  | .mp m => (∀ x y, (x, y) ∈ m → x.ok lam n ∧ y.ok lam n) ∧ ∃ b o es clock, lam k 0 = some (b, o) ∧ w.heap[b]? = some (.map es clock) ∧ MapOk es clock ∧ es.toList.map (fun e => (e.key, e.val)) = m.map fun q => (q.1.conc lam, q.2.conc lam)
  | .lk s m => (∀ x y, (x, y) ∈ m → x.ok lam n ∧ y.ok lam n) ∧ ∃ b o, lam k 0 = some (b, o) ∧ w.heap[b]? = some (.map s.es s.clock) ∧ MapOk s.es s.clock ∧ s.es.toList.map (fun e => (e.key, e.val)) = m.map fun q => (q.1.conc lam, q.2.conc lam)
  | .it s seen m => (m < n ∧ lam.born m) ∧ seen.Nodup ∧ (∀ i, i ∈ seen → i < s.es.size) ∧ ∃ b bm om last, lam k 0 = some (b, 0) ∧ lam m 0 = some (bm, om) ∧ (seen ≠ [] → last = s.clock) ∧ w.heap[b]? = some (.mapIter (some bm) s.clock (seen.map fun i => (s.es[i]?.map (·.born)).getD 0).toArray last)
  | .lp r => ∃ b o l, lam k 0 = some (b, o) ∧ w.heap[b]? = some (.loop l) ∧ l.fn = r.fn ∧ l.params = r.ps.toArray ∧ l.assign = r.assign ∧ l.body = r.body ∧ TRel lam n r.T l.tmps ∧ l.tmps.size = r.nt ∧ r.st.is l

/-- What a frame that was entered with N blocks may have turned: blocks of D, and new ones. -/
structure Upd (N : Nat) (D : Nat → Prop) (w w' : World) : Prop where
  os : w'.os = w.os
  tape : w'.tape = w.tape
  output : w'.output = w.output
  size : w.heap.size ≤ w'.heap.size
  block : ∀ b, b < N → ¬ D b → w'.heap[b]? = w.heap[b]?
  defr : ∀ (b : Nat) (ds : Option (List Deferred)), w.heap[b]? = some (.deferred ds) → w'.heap[b]? = some (.deferred ds)

/-- The world bears a heap: each block that may be written lies apart from all others, and may be turned. -/
structure HSit (N : Nat) (D : Nat → Prop) (lam : Lam) (H : Hp) (n : Nat) (w : World) : Prop where
  has : ∀ k x, (k, x) ∈ H → HasE lam n w k x
  low : ∀ k x, (k, x) ∈ H → k < n ∧ lam.born k
  wr : ∀ k x, (k, x) ∈ H → x.writes = true → ∀ b o, lam k 0 = some (b, o) → D b ∨ N ≤ b
  apart : ∀ k x, (k, x) ∈ H → x.writes = true → ∀ k' x', (k', x') ∈ H → ∀ i b o o', (i = 0 ∨ x'.writes = false) → lam k 0 = some (b, o) → lam k' i = some (b, o') → k' = k ∧ i = 0
  nd : (H.map (·.1)).Nodup

def mark (r : Nat) : Deferred := { target := .collected r, args := #[] }

structure Sit (N : Nat) (D : Nat → Prop) (nt : Nat) (st : St) (tmps : Array Value) (rs : List Nat) (w : World) (lam : Lam) : Prop where
  tmp : TRel lam st.n st.T tmps
  heap : HSit N D lam st.H st.n w
  size : N ≤ w.heap.size
  nt : tmps.size = nt
  marks : ∀ r, r ∈ rs → N ≤ r ∧ w.heap[r]? = some (.deferred (some []))
  once : rs.Nodup

/-! ### Calls -/
def hasBody (P : Program) (f : FuncId) : Bool :=
  match P.funcs[f]? with
  | some fn => fn.body.isSome && !(fn.name == "runtime.NumGoroutine")
  | none => false

/-- From a frame on the machine comes back to its caller with a value. -/
def Rets (P : Program) (fr : Frame) (w : World) (R : Value → World → Prop) : Prop :=
  ∀ (caller : Frame) (cs : List Frame), ∃ v w', R v w' ∧ Steps P (lone fr (caller :: cs) w) (lone (caller.finish v) cs w')

/-- Blocks that are there behind: those that were, and new ones that may be written. -/
def KeyS (H : Hp) (n : Nat) (H' : Hp) : Prop := ∀ k x, (k, x) ∈ H' → (∃ y, (k, y) ∈ H ∧ (x.writes = false → x = y)) ∨ (n ≤ k ∧ x.writes = true)

/-- A call comes to its end with a value, whoever called. -/
def Ends (P : Program) (f : FuncId) (args : Array Value) (w : World) (R : Value → World → Prop) : Prop :=
  ∀ cs, ∃ v w' fr, R v w' ∧ Steps P (lone (Frame.enter P f args .normal) cs w) (lone fr cs w') ∧ fr.fn = f ∧ fr.leaving P w' (.returned v)

def After (N : Nat) (D : Nat → Prop) (n : Nat) (lam : Lam) (H : Hp) (w : World) (Q : AV → Hp → Nat → Prop) (v' : Value) (w' : World) : Prop :=
  ∃ v H' n' lam', v' = v.conc lam' ∧ Q v H' n' ∧ n ≤ n' ∧ v.ok lam' n' ∧ HSit N D lam' H' n' w' ∧ Upd N D w w' ∧ agree n lam lam' ∧ KeyS H n H'

/-- A call of a function, over a heap. -/
def callA (P : Program) (f : FuncId) (args : List AV) (H : Hp) (n : Nat) (Q : AV → Hp → Nat → Prop) : Prop :=
  hasBody P f = true ∧ ∀ N D w lam, HSit N D lam H n w → N ≤ w.heap.size → okL lam n args →
    Ends P f (concL lam args).toArray w (After N D n lam H w Q)

/-- A round of a loop over a function. -/
def roundA (P : Program) (L : Nat) (args : List AV) (H : Hp) (n : Nat) (Q : AV → Hp → Nat → Prop) : Prop :=
  ∃ r, hget L H = some (.lp r) ∧ args.length = r.ps.length ∧ ∀ N D w lam b o l, HSit N D lam H n w → N ≤ w.heap.size → okL lam n args → lam L 0 = some (b, o) → w.heap[b]? = some (.loop l) →
    Rets P (Frame.round b r.fn ((l.params.zip (concL lam args).toArray).foldl (fun tmps (t, a) => tmps.setIfInBounds t a) l.tmps) r.assign r.body .normal) w (After N D n lam H w Q)

/-- A call of a function value. -/
def runA (P : Program) (fv : AV) (args : List AV) (H : Hp) (n : Nat) (Q : AV → Hp → Nat → Prop) : Prop :=
  match fv with
  | .fn (.func g) first captured => callA P g (first ++ args ++ captured) H n Q
  | .yld L => roundA P L args H n Q
  | _ => False

/-! ### Effects -/
def entAt (k : Nat) (H : Hp) : Option Ent := hget k H

/-- What an operation that writes answers, and leaves. -/
def opE (P : Program) (op : Op) (T : Sl) (H : Hp) : Option (AV × Hp) :=
  match op with
  | .store t a x => both (getO T a) (getO T x) fun p v => (storeA (lay P t) p v H).map fun H' => (.tup [], H')
  | _ => none

/-- A slice that owns its row: what is appended to goes on under a new number. -/
def ownRow (x : AV) (H : Hp) : Option (Option Nat × Nat × List AV) :=
  match x with
  | .slc k 0 [] n 0 0 len cap => match hget k H with
    | some (.vec cap' n' l) => if n = n' ∧ cap = cap' ∧ len ≤ l.length then some (some k, n, l.take len) else none
    | _ => none
  | _ => none

def dropO (k : Option Nat) (H : Hp) : Hp :=
  match k with
  | some k => hdel k H
  | none => H

def strRow (s : List UInt8) : List AV := s.map encB

/-- What is appended, of elements of so many cells. -/
def moreOf (n : Nat) (x : AV) (H : Hp) : Option (List AV) :=
  match x with
  | .str s => if n = 1 then some (strRow s) else none
  | .slc k i p m a s len cap => if m = n then elemsA (.slc k i p m a s len cap) H else none
  | .nils => some []
  | _ => none

def ownOf (n : Nat) (x : AV) (H : Hp) : Option (Option Nat × List AV) :=
  match x with
  | .nils => some (none, [])
  | x => match ownRow x H with
    | some (k, n', l) => if n = n' then some (k, l) else none
    | none => none

/-- A slice's elements, each of so many cells. -/
def elemsN (n : Nat) (x : AV) (H : Hp) : Option (List AV) :=
  match x with
  | .slc k i p m a s len cap => if m = n then elemsA (.slc k i p m a s len cap) H else none
  | .nils => some []
  | _ => none

def notInt (P : Program) (t : TypeId) : Bool :=
  match P.underlying t with
  | some (.int _) => false
  | some _ => true
  | none => false

/-- append(x, y...): the row that comes of it: who goes, the elements' size, what there is, and what comes. -/
def appendA (P : Program) (t u : TypeId) (x y : AV) (H : Hp) : Option (Option Nat × Nat × List AV × List AV) :=
  match slcOf P t, zeroE P t with
  | some (_, n), some z => if fitZ n (some z) = true ∧ notInt P u = true then
      match ownOf n x H, moreOf n y H with
      | some (k, l), some m => some (k, n, l, m)
      | _, _ => none
    else none
  | _, _ => none

/-- A slice's room. -/
def capX : AV → Nat
  | .slc _ _ _ _ _ _ _ cap => cap
  | _ => 0
/-- What is appended by number: so many elements that are zero. -/
def zeroN (z : AV) (y : AV) : Option (List AV) :=
  match y with
  | .int .i64 c => if 0 ≤ c ∧ c ≤ 1000000000 then some (List.replicate c.toNat z) else none
  | _ => none
def isInt (P : Program) (t : TypeId) : Bool :=
  match P.underlying t with
  | some (.int _) => true
  | _ => false
/-- append(x, y...), x's room being too little: its row stays. -/
def growA (P : Program) (t u : TypeId) (x y : AV) (H : Hp) : Option (Nat × Nat × List AV × List AV) :=
  match slcOf P t, zeroE P t with
  | some (_, n), some z => if fitZ n (some z) = true then
      match elemsN n x H, (if notInt P u = true then moreOf n y H else if isInt P u = true then zeroN z y else none) with
      | some l, some m => some (capX x, n, l, m)
      | _, _ => none
    else none
  | _, _ => none

/-- How many bytes are too many for a row that grows. -/
def roomOk (P : Program) (t : TypeId) (len : Nat) : Prop :=
  match bytesE P t with
  | some b => len * b ≤ 140737488355328 ∧ len ≤ 9223372036854775807
  | none => False

/-! ### Frames -/
/-- A row: its operation; is it one of those that go one behind the other; what is sure to be ahead of it; what is looked at again behind it; which new blocks it must not see; its own new block. -/
structure Row where
  i : Nat
  eff : Bool
  an : List Nat
  chk : List Nat
  out : List Nat
  id : Nat

/-- The plan of a region whose order is open: how many new blocks it has, and its rows. -/
structure Plan where
  m : Nat
  rows : List Row

/-- The program; which functions are known, and what they answer; the plans; the slots that are looked at behind a region. -/
structure Cx where
  P : Program
  pu : List (Nat × (List AV → Hp → Option AV))
  pl : List (Nat × Plan)
  lv : List (Nat × List Nat)

structure Fx where
  nt : Nat
  n0 : Nat
  rd : Option Nat
  f : FuncId

inductive Ex where
  | nrm
  | exi (id : Nat)
  | ret

inductive Ct where
  | code (c : Code)
  | ops (id : Nat) (all r : List Oper)
  | nrm
  | exi (id : Nat)
  | ret

inductive Kc where
  | top (rs : List ResultVar) (Q : AV → Hp → Nat → Prop)
  | rnd (L : Nat) (Q : AV → Hp → Nat → Prop)
  | bgn (L : Nat) (body : Code) (k : Kc)
  | seq (c : Code) (k : Kc)
  | blk (id : Nat) (k : Kc)
  | loop (c : Code) (k : Kc)
  | inv (J : St → Prop) (k : Kc)

def lookL (id : Nat) : List (Nat × List Nat) → Option (List Nat)
  | [] => none
  | (j, l) :: r => if id = j then some l else lookL id r
def lookP (id : Nat) : List (Nat × Plan) → Option Plan
  | [] => none
  | (j, l) :: r => if id = j then some l else lookP id r
def lookU (id : Nat) : List (Nat × (List AV → Hp → Option AV)) → Option (List AV → Hp → Option AV)
  | [] => none
  | (j, l) :: r => if id = j then some l else lookU id r

/-- A function that answers, and leaves everything. -/
def PureA (P : Program) (f : FuncId) (args : List AV) (v : AV) : Prop := ∀ H n, callA P f args H n fun v' H' n' => v' = v ∧ H' = H ∧ n' = n
/-- A function without a body that answers, and leaves everything. -/
def ExtA (P : Program) (f : FuncId) (args : List AV) (H : Hp) (v : AV) : Prop := ∀ N D w lam n, HSit N D lam H n w → okL lam n args → (callFunc f (concL lam args).toArray).run P w = .ok (.value (v.conc lam)) w ∧ v.ok lam n
def PuOk (cx : Cx) : Prop := ∀ g s, lookU g cx.pu = some s → ∀ args H v, s args H = some v → PureA cx.P g args v ∨ ExtA cx.P g args H v

def trimT (l : Option (List Nat)) (T : Sl) : Sl :=
  match l with
  | some l => keepT l T
  | none => T

def mk (b : Frame) (tmps : Array Value) (ds : List Deferred) (todo : List Item) : Frame :=
  { fn := b.fn, tmps, todo, defers := ds, mode := .run, kind := b.kind, roundOf := b.roundOf }

def Arr (P : Program) (m : Machine) (b : Frame) (tmps : Array Value) (ds : List Deferred) (k : List Item) (cs : List Frame) (w : World) : Ex → Prop
  | .nrm => Steps P m (lone (mk b tmps ds k) cs w)
  | .exi id => ∃ k1, exitTo id k1 = exitTo id k ∧ Steps P m (lone (mk b tmps ds (.code (.exit id) :: k1)) cs w)
  | .ret => ∃ k1, Steps P m (lone (mk b tmps ds (.code .ret :: k1)) cs w)

/-- The frame that a walk stands in: its function, and the loop of which it is a round. -/
def Stands (fx : Fx) (b : Frame) (lam : Lam) : Prop :=
  b.fn = fx.f ∧ match fx.rd with
    | none => b.roundOf = none
    | some L => L < fx.n0 ∧ lam.born L ∧ ∃ bl o, lam L 0 = some (bl, o) ∧ b.roundOf = some bl

/-- From wherever the state is met, the machine walks the code, and comes to where K says. -/
def awp (P : Program) (fx : Fx) (c : Code) (st : St) (K : Ex → St → Prop) : Prop :=
  ∀ (N : Nat) (D : Nat → Prop) (b : Frame) (k : List Item) (cs : List Frame) (tmps : Array Value) (rs : List Nat) (w : World) (lam : Lam),
    Sit N D fx.nt st tmps rs w lam → fx.n0 ≤ st.n → Stands fx b lam →
    ∃ e st' tmps' rs' w' lam', K e st' ∧ Sit N D fx.nt st' tmps' rs' w' lam' ∧ fx.n0 ≤ st'.n ∧ Upd N D w w' ∧ agree fx.n0 lam lam' ∧ KeyS st.H fx.n0 st'.H ∧
      Arr P (lone (mk b tmps (rs.map mark) (.code c :: k)) cs w) b tmps' (rs'.map mark) k cs w' e

def resOne (P : Program) (T : Sl) (H : Hp) : ResultVar → Option AV
  | .tmp t => getT T t
  | .cell a t => one (getT T a) fun x => loadA (lay P t) x H
def resAll (P : Program) (T : Sl) (H : Hp) : List ResultVar → Option (List AV)
  | [] => some []
  | r :: rs => match resOne P T H r, resAll P T H rs with
    | some v, some vs => some (v :: vs)
    | _, _ => none
def tupA : List AV → AV
  | [v] => v
  | vs => .tup vs
def resF (P : Program) (rs : List ResultVar) (T : Sl) (H : Hp) : Option AV := (resAll P T H rs).map tupA

/-- How a round ends: what is told of its loop. -/
def setLp (L : Nat) (s : LState) (H : Hp) : Option Hp :=
  match hget L H with
  | some (.lp r) => some (hset L (.lp { r with st := s }) H)
  | _ => none

/-- What a continuation asks. -/
def Kc.sem (P : Program) (fx : Fx) : Kc → Ex → St → Prop
  | .top rs Q, e, st => (∀ id, e ≠ .exi id) ∧ ∃ v, resF P rs st.T st.H = some v ∧ Q v st.H st.n
  | .rnd L Q, e, st => ∃ H', setLp L (match e with | .nrm => .ready | .exi id => .done (.exit id) | .ret => .done .ret) st.H = some H' ∧ Q (.bool (match e with | .nrm => true | _ => false)) H' st.n
  | .bgn L body k, e, st => match e with
    | .nrm => ∃ r H', hget L st.H = some (.lp r) ∧ r.st = .ready ∧ setLp L .busy st.H = some H' ∧ awp P fx body ⟨st.T, H', st.n⟩ (Kc.sem P fx k)
    | e => False
  | .seq c k, e, st => match e with
    | .nrm => awp P fx c st (Kc.sem P fx k)
    | e => Kc.sem P fx k e st
  | .blk id k, e, st => match e with
    | .exi i => if i = id then Kc.sem P fx k .nrm st else Kc.sem P fx k (.exi i) st
    | e => Kc.sem P fx k e st
  | .loop c k, e, st => match e with
    | .nrm => awp P fx (.loop c) st (Kc.sem P fx k)
    | e => Kc.sem P fx k e st
  | .inv J k, e, st => match e with
    | .nrm => J st
    | e => Kc.sem P fx k e st

/-! ### Regions -/
def guardT (ops : List Oper) (T : Sl) (j : Nat) : Option AV :=
  match (ops[j]?).bind (·.dst) with
  | some d => getT T d
  | none => none

/-- Is an operation wanted. -/
def wantA (ops : List Oper) (T : Sl) (g : Option (Nat × Bool)) : Option Bool :=
  match g with
  | none => some true
  | some (j, want) => match guardT ops T j with
    | some (.bool b) => some (b == want)
    | some (.tup []) => some false
    | _ => none

def oK {α : Type} (x : Option α) (k : α → Prop) : Prop :=
  match x with
  | some a => k a
  | none => False

def isCall : Op → Bool
  | .call ⟨.value _, _, _⟩ => true
  | _ => false
def isAppend : Op → Bool
  | .call ⟨.builtin .append, _, _⟩ => true
  | _ => false

/-! ### Maps that are turned, gone through; rows that are copied -/
/-- A map's entry behind m[x] = y, clear(m). -/
def putC (kt : Option (Bool × Nat)) (m : Option (List (AV × AV))) (l : Option (List Int)) (x y : AV) : Option Ent :=
  match m, l with
  | some m, some l => if keyzB kt m = true then some (.mp (setI m x y (findI kt l m 0))) else none
  | _, _ => none
def updA (P : Program) (t : TypeId) (m x y : AV) (H : Hp) : Option Hp :=
  match m with
  | .map k => match putC (mapKT P t) (mapE (hget k H)) (keyO (mapKT P t) x) x y with
    | some e => some (hset k e H)
    | none => none
  | _ => none
def clearA (P : Program) (t : TypeId) (m : AV) (H : Hp) : Option Hp :=
  match m with
  | .map k => match mapE (hget k H), P.underlying t with
    | some _, some _ => some (hset k (.mp []) H)
    | _, _ => none
  | _ => none
/-- How long a slice is. -/
def lenX : AV → Nat
  | .slc _ _ _ _ _ _ len _ => len
  | _ => 0
/-- A slice's first elements. -/
def elemsF (n : Nat) (x : AV) (c : Nat) (H : Hp) : Option (List AV) :=
  match x with
  | .slc k i p m a s len cap => if m = n ∧ c ≤ len then elemsC (elemsT (hget k H) i p) s c n else none
  | .nils => if c = 0 then some [] else none
  | _ => none
/-- copy(x, y): the row that x is a part of is known up to where x begins. -/
def copyC (e : Option Ent) (n s len : Nat) (l : List AV) : Option Ent :=
  match e with
  | some (.vec cap m r) => if m = n ∧ s ≤ r.length ∧ s + len ≤ cap then some (.vec cap m (r.take s ++ l ++ r.drop (s + l.length))) else none
  | _ => none
def copyA (n : Nat) (x y : AV) (H : Hp) : Option (AV × Hp) :=
  match x with
  | .slc k 0 [] m a s len _ => if m = n then match elemsF n y (min (lenX y) len) H with
      | some l => match copyC (hget k H) n s len l with
        | some e => some (.int .i64 (min (lenX y) len : Nat), hset k e H)
        | none => none
      | none => none
    else none
  | _ => none
/-- Some entry that was not met yet; none, if all were. -/
def nextX (it k : Nat) (s : MpS) (seen : List Nat) (m : List (AV × AV)) (H : Hp) (n : Nat) (K : AV → Hp → Nat → Prop) : Prop :=
  (∀ i q, m[i]? = some q → i ∉ seen → K (.tup [.bool true, q.1, q.2]) (hset it (.it s (seen ++ [i]) k) H) n) ∧ ((∀ i, i < m.length → i ∈ seen) → K (.tup [.bool false]) H n)
def nextO (it : Nat) (e : Option Ent) (H : Hp) (n : Nat) (K : AV → Hp → Nat → Prop) : Prop :=
  match e with
  | some (.it s seen k) => match hget k H with
    | some (.lk s' m) => s' = s ∧ nextX it k s seen m H n K
    | _ => False
  | _ => False
/-- The entry that was met last. -/
def lastO (seen : List Nat) (m : List (AV × AV)) : Option (AV × AV) :=
  match seen.getLast? with
  | some i => m[i]?
  | none => none
def entryO (e : Option Ent) (H : Hp) (n : Nat) (K : AV → Hp → Nat → Prop) : Prop :=
  match e with
  | some (.it s seen k) => match hget k H with
    | some (.lk s' m) => s' = s ∧ oK (lastO seen m) fun q => K (.tup [q.1, q.2]) H n
    | _ => False
  | _ => False
def rangeO (P : Program) (t : TypeId) (x : Option AV) (H : Hp) (n : Nat) (K : AV → Hp → Nat → Prop) : Prop :=
  match x with
  | some (.map k) => (mapKT P t).isSome = true ∧ oK (mapE (hget k H)) fun m => ∀ s : MpS, K (.ptr n 0 []) ((n, .it s [] k) :: hset k (.lk s m) H) (n + 1)
  | _ => False
def iterO (x : Option AV) (f : Nat → Prop) : Prop :=
  match x with
  | some (.ptr k 0 []) => f k
  | _ => False
/-- What other operations answer, and leave. -/
def opX (P : Program) (op : Op) (T : Sl) (H : Hp) (n : Nat) (K : AV → Hp → Nat → Prop) : Prop :=
  match op with
  | .mapUpdate t m x y => oK (both (getO T m) (both (getO T x) (getO T y) fun a b => some (a, b)) fun a b => updA P t a b.1 b.2 H) fun H' => K (.tup []) H' n
  | .range t x => rangeO P t (getO T x) H n K
  | .next x false => iterO (getO T x) fun k => nextO k (hget k H) H n K
  | .entry x => iterO (getO T x) fun k => entryO (hget k H) H n K
  | .call ⟨.builtin .clear, args, ts⟩ => match getOs T args.toList, ts.toList with
    | some [x], [t] => oK (clearA P t x H) fun H' => K (.tup []) H' n
    | _, _ => False
  | .call ⟨.builtin .copy, args, ts⟩ => match getOs T args.toList, ts.toList with
    | some [x, y], [t, _] => match slcOf P t with
      | some (_, m) => oK (copyA m x y H) fun r => K r.1 r.2 n
      | none => False
    | _, _ => False
  | _ => False

/-- A call of a function value. -/
def evFn (cx : Cx) (s : Option (List AV → Hp → Option AV)) (g : FuncId) (args : List AV) (H : Hp) (n : Nat) (Q : AV → Hp → Nat → Prop) : Prop :=
  match s with
  | some s => oK (s args H) fun v => Q v H n
  | none => callA cx.P g args H n Q
def evCall (cx : Cx) (fv : AV) (args : List AV) (H : Hp) (n : Nat) (Q : AV → Hp → Nat → Prop) : Prop :=
  match fv with
  | .fn (.func g) first captured => evFn cx (lookU g cx.pu) g (first ++ args ++ captured) H n Q
  | .yld L => roundA cx.P L args H n Q
  | _ => False

/-- One operation: what it answers, and the state behind. -/
def evOp (cx : Cx) (op : Op) (st : St) (k : AV → St → Prop) : Prop :=
  match op with
  | .call ⟨.value f, args, _⟩ => oK (both (getO st.T f) (getOs st.T args.toList) fun a b => some (a, b)) fun fa => evCall cx fa.1 fa.2 st.H st.n fun v H' n' => k v ⟨st.T, H', n'⟩
  | .call ⟨.builtin .append, args, ts⟩ =>
    match getOs st.T args.toList, ts.toList with
    | some [x, y], [t, u] => (oK (appendA cx.P t u x y st.H) fun r => roomOk cx.P t (r.2.2.1.length + r.2.2.2.length) ∧
        ∀ c, r.2.2.1.length + r.2.2.2.length ≤ c → k (.slc st.n 0 [] r.2.1 0 0 (r.2.2.1.length + r.2.2.2.length) c) ⟨st.T, (st.n, .vec c r.2.1 (r.2.2.1 ++ r.2.2.2)) :: dropO r.1 st.H, st.n + 1⟩) ∨
      (oK (growA cx.P t u x y st.H) fun r => (roomOk cx.P t (r.2.2.1.length + r.2.2.2.length) ∧ r.1 < r.2.2.1.length + r.2.2.2.length) ∧
        ∀ c, r.2.2.1.length + r.2.2.2.length ≤ c → k (.slc st.n 0 [] r.2.1 0 0 (r.2.2.1.length + r.2.2.2.length) c) ⟨st.T, (st.n, .vec c r.2.1 (r.2.2.1 ++ r.2.2.2)) :: st.H, st.n + 1⟩)
    | _, _ => False
  | op => match opV cx.P op st.T st.H with
    | some v => k v st
    | none => match opN cx.P op st.T st.n with
      | some (v, e) => k v ⟨st.T, (st.n, e) :: st.H, st.n + 1⟩
      | none => match opE cx.P op st.T st.H with
        | some (v, H') => k v ⟨st.T, H', st.n⟩
        | none => opX cx.P op st.T st.H st.n fun v H' n' => k v ⟨st.T, H', n'⟩

end Go.Y
