/-
  An evaluator for the program's code over local variables, values and a few named blocks; no proof stands here.
-/
import Derived.Calls
import Derived.Below
import Derived.Laws.Cells
import Derived.Laws.CopyRow
import Derived.Laws.Entries
import Derived.IntWalk
import Derived.KernelRfl
set_option linter.unusedVariables false
set_option linter.unusedSimpArgs false
namespace Go.Z

/-- What is known of a slot: a value; the address of a local variable's cell; nothing. -/
inductive TV where
  | val (v : Value)
  | loc (s off : Nat)
  | bad

/-- What is known of a block: cells that may be written; cells that are read alone. -/
inductive Blk where
  | rw (vs : List Value)
  | ro (vs : List Value)

inductive Ex where
  | normal
  | exit (id : Nat)
  | ret

structure St where
  tmps : Nat → TV
  locs : Nat → Option (List Value)
  heap : List (Nat × Blk)

def upd {α : Type} (f : Nat → α) (s : Nat) (v : α) : Nat → α := fun t => if t = s then v else f t

theorem upd_apply {α : Type} (f : Nat → α) (s : Nat) (v : α) (t : Nat) : upd f s v t = if t = s then v else f t := rfl
theorem upd_same {α : Type} (f : Nat → α) (s : Nat) (v : α) : upd f s v s = v := by simp [upd]
theorem upd_other {α : Type} (f : Nat → α) {s t : Nat} (v : α) (h : t ≠ s) : upd f s v t = f t := by simp [upd, h]

def look (b : Nat) : List (Nat × Blk) → Option Blk
  | [] => none
  | (c, x) :: r => if b = c then some x else look b r

def hset (b : Nat) (x : Blk) : List (Nat × Blk) → List (Nat × Blk)
  | [] => []
  | (c, y) :: r => if b = c then (c, x) :: r else (c, y) :: hset b x r

def St.get (st : St) : Operand → TV
  | .tmp t => st.tmps t
  | .const v => .val v
  | .global g => .val (.pointer (some ⟨g, 0, none⟩))
  | .func f => .val (.func (.func f) #[] #[])

def St.put (st : St) (d : Option Nat) (v : TV) : St :=
  match d with
  | some d => { st with tmps := upd st.tmps d v }
  | none => st

/-- No slot leads to the local variable s any more. -/
def purge (s : Nat) (f : Nat → TV) : Nat → TV := fun t =>
  match f t with
  | .loc s' off => if s' = s then .bad else .loc s' off
  | v => v

/-- A local variable begins (anew). -/
def St.newLoc (st : St) (s : Nat) (vs : List Value) : St :=
  { tmps := match st.locs s with
      | none => st.tmps
      | some _ => purge s st.tmps
    locs := upd st.locs s (some vs)
    heap := st.heap }

/-! ### What a type says -/
def isAggD : TypeDesc → Bool
  | .struct _ | .array _ _ => true
  | _ => false

/-- Is a type's value a row of cells, and how many. -/
def lay (P : Program) (t : TypeId) : Option (Bool × Nat) :=
  match P.underlying t, P.info? t with
  | some d, some i => some (isAggD d, i.size)
  | _, _ => none

def zeroOf (P : Program) (t : TypeId) : Option (List Value) := ((P.info? t).bind (·.zero)).map (·.cells.toList)

/-- A struct's field: where it begins; is it a row; its size. -/
def fldOf (P : Program) (t : TypeId) (f : Nat) : Option (Nat × Bool × Nat) :=
  match P.underlying t with
  | some (.struct fs) =>
    match fs[f]? with
    | some g =>
      match lay P g.type with
      | some (a, n) => some (g.offset, a, n)
      | none => none
    | none => none
  | _ => none

/-- An array's length, and an element: is it a row; its size. -/
def arrOf (P : Program) (t : TypeId) : Option (Nat × Bool × Nat) :=
  match P.underlying t with
  | some (.array len e) =>
    match lay P e with
    | some (a, n) => some (len, a, n)
    | none => none
  | _ => none

def slcOf (P : Program) (t : TypeId) : Option (Bool × Nat) :=
  match P.underlying t with
  | some (.slice e) => lay P e
  | _ => none

def intOf (P : Program) (t : TypeId) : Option IntKind :=
  match P.underlying t with
  | some (.int k) => some k
  | _ => none

/-! ### Parts of rows -/
def partF (agg : Bool) (n : Nat) (cs : List Value) (off : Nat) : Option Value :=
  match agg with
  | true => if off + n ≤ cs.length then some (.agg ((cs.drop off).take n).toArray) else none
  | false => cs[off]?

/-- Cells put over a row's, from a place on. -/
def splice : List Value → Nat → List Value → List Value
  | cs, _, [] => cs
  | cs, off, v :: vs => splice (cs.set off v) (off + 1) vs

def oneCells (vs : List Value) : Bool := vs.all (·.oneCell')

def vcells (v : Value) : List Value := v.cells.toList

def loadC (l : Option (Bool × Nat)) (cs : Option (List Value)) (off : Nat) : Option Value :=
  match l, cs with
  | some (a, n), some cs => partF a n cs off
  | _, _ => none

def Blk.seen : Blk → Option (List Value)
  | .rw vs => some vs
  | .ro vs => some vs

def Blk.open : Blk → Option (List Value)
  | .rw vs => some vs
  | .ro _ => none

def loadF (P : Program) (t : TypeId) (x : TV) (st : St) : Option Value :=
  match x with
  | .loc s off => loadC (lay P t) (st.locs s) off
  | .val (.pointer (some ⟨b, off, none⟩)) => loadC (lay P t) ((look b st.heap).bind Blk.seen) off
  | _ => none

/-- A row behind a store. -/
def storeC (l : Option (Bool × Nat)) (cs : Option (List Value)) (off : Nat) (v : Value) : Option (List Value) :=
  match l, cs with
  | some (_, n), some cs => if (vcells v).length = n ∧ off + n ≤ cs.length ∧ oneCells (vcells v) = true then some (splice cs off (vcells v)) else none
  | _, _ => none

def St.setLoc (st : St) (s : Nat) (cs : Option (List Value)) : Option St :=
  match cs with
  | some cs => some { st with locs := upd st.locs s (some cs) }
  | none => none

def St.setBlk (st : St) (b : Nat) (cs : Option (List Value)) : Option St :=
  match cs with
  | some cs => some { st with heap := hset b (.rw cs) st.heap }
  | none => none

def storeF (P : Program) (t : TypeId) (x y : TV) (st : St) : Option St :=
  match x, y with
  | .loc s off, .val v => st.setLoc s (storeC (lay P t) (st.locs s) off v)
  | .val (.pointer (some ⟨b, off, none⟩)), .val v => st.setBlk b (storeC (lay P t) ((look b st.heap).bind Blk.open) off v)
  | _, _ => none

def fillF (place : Nat → Option (Nat × Nat)) (cells : List Value) : List (Nat × TV) → Option (List Value)
  | [] => some cells
  | (i, .val v) :: r =>
    match place i with
    | some (off, n) => if (vcells v).length = n ∧ off + n ≤ cells.length then fillF place (splice cells off (vcells v)) r else none
    | none => none
  | _ => none

/-- The places of a struct's fields, of an array's elements: where each begins, its size. -/
def placesOf (P : Program) (t : TypeId) : Option (List (Nat × Nat)) :=
  match P.underlying t with
  | some (.struct fs) => fs.toList.mapM fun f => (lay P f.type).map fun l => (f.offset, l.2)
  | some (.array len e) => (lay P e).map fun l => (List.range len).map fun i => (i * l.2, l.2)
  | _ => none

def fillC (place : Nat → Option (Nat × Nat)) (cells : List Value) (p : Option (Nat × Nat)) (v : Value) (r : List (Nat × TV)) : Option (List Value) :=
  match p with
  | some (off, n) => if (vcells v).length = n ∧ off + n ≤ cells.length then fillF place (splice cells off (vcells v)) r else none
  | none => none

def buildC (p : Option (List (Nat × Nat))) (z : Option (List Value)) (parts : List (Nat × TV)) : Option Value :=
  match p, z with
  | some pl, some z => (fillF (fun i => pl[i]?) z parts).map fun cs => .agg cs.toArray
  | _, _ => none

def buildF (P : Program) (t : TypeId) (parts : List (Nat × TV)) : Option Value :=
  match placesOf P t, zeroOf P t with
  | some pl, some z => (fillF (fun i => pl[i]?) z parts).map fun cs => .agg cs.toArray
  | _, _ => none

def addrF (x : TV) (n : Nat) : Option TV :=
  match x with
  | .loc s off => some (.loc s (off + n))
  | .val (.pointer (some ⟨b, off, none⟩)) => some (.val (.pointer (some ⟨b, off + n, none⟩)))
  | _ => none

def fieldAddrC (l : Option (Nat × Bool × Nat)) (x : TV) : Option TV :=
  match l with
  | some (off, _, n) => if n = 0 then none else addrF x off
  | _ => none

def fieldAddrF (P : Program) (t : TypeId) (x : TV) (f : Nat) : Option TV := fieldAddrC (fldOf P t f) x

def slotA (x : TV) (i : Int) (n : Nat) : Option TV :=
  match x with
  | .val (.slice (some ⟨b, off, none⟩) len _) => if 0 ≤ i ∧ i < len then some (.val (.pointer (some ⟨b, off + i.toNat * n, none⟩))) else none
  | _ => none

def indexAddrC (l : Option (Nat × Bool × Nat)) (s : Option (Bool × Nat)) (x y : TV) : Option TV :=
  match y with
  | .val (.int _ i) =>
    match l with
    | some (len, _, n) => if 0 ≤ i ∧ i < len then addrF x (i.toNat * n) else none
    | none =>
      match s with
      | some (_, n) => slotA x i n
      | none => none
  | _ => none

def indexAddrF (P : Program) (t : TypeId) (x y : TV) : Option TV := indexAddrC (arrOf P t) (slcOf P t) x y

def fieldC (l : Option (Nat × Bool × Nat)) (x : TV) : Option Value :=
  match l, x with
  | some (off, a, n), .val (.agg cs) => partF a n cs.toList off
  | _, _ => none

def fieldF (P : Program) (t : TypeId) (x : TV) (f : Nat) : Option Value := fieldC (fldOf P t f) x

def indexC (l : Option (Nat × Bool × Nat)) (x y : TV) : Option Value :=
  match l, x, y with
  | some (len, a, n), .val (.agg cs), .val (.int _ i) => if 0 ≤ i ∧ i < len then partF a n cs.toList (i.toNat * n) else none
  | _, _, _ => none

def indexF (P : Program) (t : TypeId) (x y : TV) : Option Value := indexC (arrOf P t) x y

def bitsF (op : BinOp) (k : IntKind) (a b : Int) : Option Int :=
  match op with
  | .and => some (k.wrap (BitVec.ofInt k.bits a &&& BitVec.ofInt k.bits b).toNat)
  | .or => some (k.wrap (BitVec.ofInt k.bits a ||| BitVec.ofInt k.bits b).toNat)
  | .xor => some (k.wrap (BitVec.ofInt k.bits a ^^^ BitVec.ofInt k.bits b).toNat)
  | .andNot => some (k.wrap (BitVec.ofInt k.bits a &&& ~~~(BitVec.ofInt k.bits b)).toNat)
  | _ => none

def intF (op : BinOp) (k : IntKind) (a b : Int) : Option Value :=
  match op with
  | .add => some (.int k (k.wrap (a + b)))
  | .sub => some (.int k (k.wrap (a - b)))
  | .mul => some (.int k (k.wrap (a * b)))
  | .quo => if b = 0 then none else some (.int k (k.wrap (a.tdiv b)))
  | .rem => if b = 0 then none else some (.int k (a.tmod b))
  | .and | .or | .xor | .andNot => (bitsF op k a b).map (.int k)
  | .eql => some (.bool (a == b))
  | .neq => some (.bool (a != b))
  | .lss => some (.bool (decide (a < b)))
  | .leq => some (.bool (decide (a ≤ b)))
  | .gtr => some (.bool (decide (a > b)))
  | .geq => some (.bool (decide (a ≥ b)))
  | _ => none

def shiftF (op : BinOp) (k : IntKind) (a b : Int) : Option Value :=
  if b < 0 then none else
  match op with
  | .shl => some (.int k (k.wrap (a * 2 ^ min b.toNat k.bits)))
  | .shr => some (.int k (a.fdiv (2 ^ min b.toNat k.bits)))
  | _ => none

def cmpF (op : BinOp) (b : Bool) : Option Value :=
  match op with
  | .eql => some (.bool b)
  | .neq => some (.bool (!b))
  | _ => none

/-- Two values of a type are alike, part by part. -/
def eqD (P : Program) : Nat → TypeId → Value → Value → Option Bool
  | 0, _, _, _ => none
  | d + 1, t, x, y =>
    match P.underlying t, x, y with
    | some .bool, .bool a, .bool b => some (a == b)
    | some (.int _), .int k a, .int k' b => if k = k' then some (a == b) else none
    | some .string, .string a, .string b => some (a == b)
    | some (.struct fs), .agg xs, .agg ys =>
      if P.stoodInHeld t = true then none else
      fs.toList.foldr (fun f r =>
        if f.name == "_" then none else
        match lay P f.type with
        | some (a, n) =>
          match partF a n xs.toList f.offset, partF a n ys.toList f.offset with
          | some u, some v =>
            match eqD P d f.type u v, r with
            | some p, some q => some (p && q)
            | _, _ => none
          | _, _ => none
        | none => none) (some true)
    | some (.array n e), .agg xs, .agg ys =>
      match lay P e with
      | some (a, m) =>
        (List.range n).foldr (fun i r =>
          match partF a m xs.toList (i * m), partF a m ys.toList (i * m) with
          | some u, some v =>
            match eqD P d e u v, r with
            | some p, some q => some (p && q)
            | _, _ => none
          | _, _ => none) (some true)
      | none => none
    | _, _, _ => none

def eqAgg (P : Program) (t : TypeId) (xs ys : List Value) : Option Bool :=
  if P.eqGuardType P.depth t = true then none else eqD P 12 t (.agg xs.toArray) (.agg ys.toArray)

def isBoolTy (P : Program) (t : TypeId) : Bool :=
  match P.underlying t with
  | some .bool => true
  | _ => false

def binF (P : Program) (op : BinOp) (t : TypeId) (x y : Value) : Option Value :=
  match x, y with
  | .int k a, .int k' b =>
    match op with
    | .shl | .shr => shiftF op k a b
    | _ => if k = k' then intF op k a b else none
  | .bool a, .bool b => if isBoolTy P t = true then cmpF op (a == b) else none
  | .agg xs, .agg ys => (eqAgg P t xs.toList ys.toList).bind (cmpF op)
  | _, _ => none

def unF (op : UnOp) (x : Value) : Option Value :=
  match op, x with
  | .not, .bool b => some (.bool !b)
  | .neg, .int k n => some (.int k (k.wrap (0 - n)))
  | _, _ => none

def convC (s : Bool) (k : Option IntKind) (x : Value) : Option Value :=
  match s, k, x with
  | true, some k, .int _ n => some (.int k (k.wrap n))
  | _, _, _ => none

def hasTy (P : Program) (t : TypeId) : Bool := (P.underlying t).isSome

def convF (P : Program) (src dst : TypeId) (x : Value) : Option Value := convC (hasTy P src) (intOf P dst) x

def extractF (x : TV) (i : Nat) : Option Value :=
  match x with
  | .val (.tuple vs) => vs.toList[i]?
  | _ => none

def valsF : List TV → Option (List Value)
  | [] => some []
  | .val v :: r => (valsF r).map (v :: ·)
  | _ => none


/-- What a program's frame is told: the program; which slots hold local variables; which functions are known as pure. -/
structure Row where
  i : Nat
  eff : Bool
  an : List Nat
  chk : List Nat

structure Cx where
  P : Program
  L : List Nat
  pu : List Nat
  pl : List (Nat × List Nat × List Row)

def getAll (st : St) (xs : Array Operand) : Option (List Value) := valsF (xs.toList.map st.get)

def pairF (x : Option TV) (st : St) : Option (TV × St) :=
  match x with
  | some v => some (v, st)
  | none => none

def pairV (x : Option Value) (st : St) : Option (TV × St) :=
  match x with
  | some v => some (.val v, st)
  | none => none

def memb (x : Nat) : List Nat → Bool
  | [] => false
  | y :: r => if x = y then true else memb x r

def newF (L : List Nat) (dst : Option Nat) (vs : Option (List Value)) (st : St) : Option (TV × St) :=
  match dst, vs with
  | some d, some vs => if memb d L = true then some (.loc d 0, st.newLoc d vs) else none
  | _, _ => none

def valF (x : TV) : Option Value :=
  match x with
  | .val v => some v
  | _ => none

def pickF (c a b : TV) : Option TV :=
  match c with
  | .val (.bool t) => some (if t = true then a else b)
  | _ => none

def nilF (x : TV) : Option TV :=
  match x with
  | .loc s off => some (.loc s off)
  | .val (.pointer (some a)) => some (.val (.pointer (some a)))
  | _ => none

/-- One operation that neither calls nor makes a block that others may know. -/
def opF (cx : Cx) (op : Op) (dst : Option Nat) (st : St) : Option (TV × St) :=
  match op with
  | .move x | .assign x => some (st.get x, st)
  | .pick c a b => pairF (pickF (st.get c) (st.get a) (st.get b)) st
  | .alloc t => newF cx.L dst (zeroOf cx.P t) st
  | .box t x => newF cx.L dst ((valF (st.get x)).map vcells) st
  | .build t parts => pairV (buildF cx.P t (parts.toList.map fun p => (p.1, st.get p.2))) st
  | .load t a => pairV (loadF cx.P t (st.get a) st) st
  | .store t a x => (storeF cx.P t (st.get a) (st.get x) st).map fun st' => (.val undef, st')
  | .nilCheck x => pairF (nilF (st.get x)) st
  | .binOp op t x y _ => pairV ((valF (st.get x)).bind fun a => (valF (st.get y)).bind fun b => binF cx.P op t a b) st
  | .unOp op _ x => pairV ((valF (st.get x)).bind (unF op)) st
  | .convert src dst x => pairV ((valF (st.get x)).bind (convF cx.P src dst)) st
  | .makeFunc fn first captured => pairV ((getAll st first).bind fun a => (getAll st captured).map fun b => .func fn a.toArray b.toArray) st
  | .fieldAddr t x f => pairF (fieldAddrF cx.P t (st.get x) f) st
  | .field t x f => pairV (fieldF cx.P t (st.get x) f) st
  | .indexAddr t x i => pairF (indexAddrF cx.P t (st.get x) (st.get i)) st
  | .index t x i => pairV (indexF cx.P t (st.get x) (st.get i)) st
  | .extract x i => pairV (extractF (st.get x) i) st
  | _ => none

/-! ### Calls -/
def _root_.Go.World.putObj' (w : World) (r : Nat) (o : Obj) : World := { w with heap := w.heap.setIfInBounds r o }

def hasBody (P : Program) (f : FuncId) : Bool :=
  match P.funcs[f]? with
  | some fn => fn.body.isSome && !(fn.name == "runtime.NumGoroutine")
  | none => false

/-- A function that only computes: its answer, whatever the world. -/
def PureF (P : Program) (f : FuncId) (args : List Value) (v : Value) : Prop :=
  hasBody P f = true ∧ ∀ w : World, Calls P f args.toArray w fun e w' => e = .returned v ∧ RowKit.Below w.heap.size w w'

open Classical in
/-- The answer of a function that only computes. -/
noncomputable def pureOf (P : Program) (f : FuncId) (args : List Value) : Option Value :=
  if h : ∃ v, PureF P f args v then some h.choose else none

def Has (w : World) (b : Nat) : Blk → Prop
  | .rw vs => ∃ c ty, w.heap[b]? = some (.cells c ty (0, 0)) ∧ vs <+: c.toList
  | .ro vs => ∃ c ty fr, w.heap[b]? = some (.cells c ty fr) ∧ vs <+: c.toList

def Blk.writes : Blk → Bool
  | .rw _ => true
  | .ro _ => false

/-- What a frame that was entered with N blocks may have turned: blocks of D, and new ones. -/
structure Upd (N : Nat) (D : Nat → Prop) (w w' : World) : Prop where
  os : w'.os = w.os
  tape : w'.tape = w.tape
  output : w'.output = w.output
  size : w.heap.size ≤ w'.heap.size
  block : ∀ b, b < N → ¬ D b → w'.heap[b]? = w.heap[b]?
  defr : ∀ (b : Nat) (ds : Option (List Deferred)), w.heap[b]? = some (.deferred ds) → w'.heap[b]? = some (.deferred ds)

/-- The world bears the named blocks. -/
def HRel (H : List (Nat × Blk)) (w : World) : Prop := (∀ b x, (b, x) ∈ H → Has w b x) ∧ (H.map (·.1)).Nodup

def wr (H : List (Nat × Blk)) (b : Nat) : Prop := ∃ x, (b, x) ∈ H ∧ x.writes = true

/-- A call, over named blocks. -/
def callF (P : Program) (f : FuncId) (args : List Value) (H : List (Nat × Blk)) (Q : Value → List (Nat × Blk) → Prop) : Prop :=
  hasBody P f = true ∧ ∀ w : World, HRel H w → Calls P f args.toArray w fun e w' => ∃ v H', e = .returned v ∧ Q v H' ∧ HRel H' w' ∧
    (∀ b x, (b, x) ∈ H' → (x.writes = true → wr H b ∨ w.heap.size ≤ b) ∧ (b ∈ H.map (·.1) ∨ w.heap.size ≤ b)) ∧ Upd w.heap.size (wr H) w w'

def oK {α : Type} (x : Option α) (k : α → Prop) : Prop :=
  match x with
  | some a => k a
  | none => False

def evGuard (x : TV) (want : Bool) (A B : Prop) : Prop :=
  match x with
  | .val (.bool b) => if b = want then A else B
  | .val (.tuple _) => B
  | _ => False

def evCond (x : TV) (A B : Prop) : Prop :=
  match x with
  | .val (.bool b) => if b = true then A else B
  | _ => False

def lenC (l : Option (Nat × Bool × Nat)) (s : Option (Bool × Nat)) (x : Value) : Option Value :=
  match l with
  | some (n, _, _) => some (.int .i64 n)
  | none =>
    match s, x with
    | some _, .slice _ n _ => some (.int .i64 n)
    | _, _ => none

/-- What a builtin function answers, where it looks at values alone. -/
def builtF (P : Program) (b : Builtin) (ts : List TypeId) (vs : List Value) : Option Value :=
  match b, ts, vs with
  | .len, [t], [x] => lenC (arrOf P t) (slcOf P t) x
  | .min, _, [.int k a, .int k' b] => if k = k' then some (.int k (if b < a then b else a)) else none
  | .max, _, [.int k a, .int k' b] => if k = k' then some (.int k (if b > a then b else a)) else none
  | .min, _, [.int k a, .int k' b, .int k'' c] => if k = k' ∧ k = k'' then some (.int k (if c < (if b < a then b else a) then c else (if b < a then b else a))) else none
  | .max, _, [.int k a, .int k' b, .int k'' c] => if k = k' ∧ k = k'' then some (.int k (if c > (if b > a then b else a) then c else (if b > a then b else a))) else none
  | _, _, _ => none

def evGo (pure : Bool) (P : Program) (g : FuncId) (args : List Value) (st : St) (k : TV → St → Prop) : Prop :=
  match pure with
  | true => oK (pureOf P g args) fun v => k (.val v) st
  | false => callF P g args st.heap fun v h => k (.val v) { st with heap := h }

def evFunc (cx : Cx) (f : TV) (args : Option (List Value)) (st : St) (k : TV → St → Prop) : Prop :=
  match f, args with
  | .val (.func (.func g) first captured), some args =>
    if memb g cx.pu = true then oK (pureOf cx.P g (first.toList ++ args ++ captured.toList)) fun v => k (.val v) st
    else callF cx.P g (first.toList ++ args ++ captured.toList) st.heap fun v h => k (.val v) { st with heap := h }
  | _, _ => False

def evCall (cx : Cx) (c : Call) (st : St) (k : TV → St → Prop) : Prop :=
  match c.callee with
  | .value f => evFunc cx (st.get f) (getAll st c.args) st k
  | .builtin b => oK ((getAll st c.args).bind fun vs => builtF cx.P b c.argTypes.toList vs) fun v => k (.val v) st
  | _ => False

def evOp (cx : Cx) (o : Oper) (st : St) (k : TV → St → Prop) : Prop :=
  match o.op with
  | .call c => evCall cx c st k
  | op => oK (opF cx op o.dst st) fun r => k r.1 r.2

def guardC (d : Option Nat) (T : Nat → TV) : TV :=
  match d with
  | some d => T d
  | none => .bad

def guardT (ops : List Oper) (st : St) (j : Nat) : TV :=
  match (ops[j]?).bind (·.dst) with
  | some d => st.tmps d
  | none => .bad

def evOps (cx : Cx) (ops : List Oper) : List Oper → St → (St → Prop) → Prop
  | [], st, K => K st
  | o :: r, st, K =>
    match o.guard with
    | none => evOp cx o st fun v st' => evOps cx ops r (st'.put o.dst v) K
    | some (j, want) => evGuard (guardT ops st j) want (evOp cx o st fun v st' => evOps cx ops r (st'.put o.dst v) K) (evOps cx ops r (st.put o.dst (.val undef)) K)

/-! ### A region whose order is open: a plan of its operations -/
def evRow (cx : Cx) (ops : List Oper) (o : Oper) (st : St) (k : St → Prop) : Prop :=
  match o.guard with
  | none => evOp cx o st fun v st' => k (st'.put o.dst v)
  | some (j, want) => evGuard (guardT ops st j) want (evOp cx o st fun v st' => k (st'.put o.dst v)) (k (st.put o.dst (.val undef)))

/-- A load that may come behind what wrote: it still reads what it read. -/
def chkOne (cx : Cx) (ops : List Oper) (o : Option Oper) (st : St) : Prop :=
  match o with
  | some ⟨some d, .load t a, _, _, _, none⟩ => oK (loadF cx.P t (st.get a) st) fun v => st.tmps d = .val v
  | some ⟨some d, .load t a, _, _, _, some (j, want)⟩ => evGuard (guardT ops st j) want (oK (loadF cx.P t (st.get a) st) fun v => st.tmps d = .val v) True
  | _ => False

def chkAll (cx : Cx) (ops : List Oper) : List Nat → St → Prop → Prop
  | [], _, X => X
  | j :: js, st, X => chkOne cx ops (ops[j]?) st ∧ chkAll cx ops js st X

def evPlan (cx : Cx) (ops : List Oper) : List Row → St → (St → Prop) → Prop
  | [], st, K => K st
  | r :: rs, st, K =>
    match ops[r.i]? with
    | some o => evRow cx ops o st fun st' => chkAll cx ops r.chk st' (evPlan cx ops rs st' K)
    | none => False

def isNew (o : Oper) : Bool :=
  match o.op with
  | .alloc _ | .box .. => true
  | _ => false

def isLoad (o : Oper) : Bool :=
  match o.op with
  | .load .. => true
  | _ => false

/-- An operation that looks at values, at most loads, and makes local variables. -/
def calm (cx : Cx) (o : Oper) : Bool :=
  match o.op with
  | .call c =>
    match c.callee with
    | .value (.func g) => memb g cx.pu
    | .builtin .len | .builtin .min | .builtin .max => true
    | _ => false
  | .store .. => false
  | .move _ | .assign _ | .pick .. | .alloc _ | .box .. | .build .. | .load .. | .nilCheck _ | .binOp .. | .unOp .. | .convert .. | .makeFunc .. | .fieldAddr .. | .field .. | .indexAddr .. | .index .. | .extract .. => true
  | _ => false

def seesT (ops : List Oper) (o : Oper) : List Nat :=
  (o.op.operands.toList.filterMap fun | .tmp t => some t | _ => none) ++
  (match o.guard with
   | some (g, _) => ((ops[g]?).bind (·.dst)).toList
   | none => [])

def bindsE (e : Edge) : Bool := Region.binds .any e

/-- The slots of local variables that a plan's operations make. -/
def newsOf (ops : List Oper) : List Nat := ops.filterMap fun o => if isNew o then o.dst else none

/-- Nothing more is known of some local variables. -/
def forgetV (ds : List Nat) (x : TV) : TV :=
  match x with
  | .loc s off => if memb s ds = true then .bad else .loc s off
  | v => v

def forgetT (ds : List Nat) (T : Nat → TV) : Nat → TV := fun t => forgetV ds (T t)
def forgetL (ds : List Nat) (L : Nat → Option (List Value)) : Nat → Option (List Value) := fun s => if memb s ds = true then none else L s

def St.forget (st : St) (ds : List Nat) : St := { tmps := forgetT ds st.tmps, locs := forgetL ds st.locs, heap := st.heap }

def anOf (pl : List Row) (i : Nat) : List Nat :=
  match pl with
  | [] => []
  | r :: rs => if r.i = i then r.an else anOf rs i

/-- One row of a plan, against the rows ahead of it and behind it. -/
def rowOk (cx : Cx) (ops : List Oper) (pl ahead behind : List Row) (r : Row) : Bool :=
  match ops[r.i]? with
  | none => false
  | some o =>
    (r.eff || calm cx o) && (!r.eff || !isNew o) &&
    (o.after.toList.all fun e => !bindsE e || ahead.any (·.i == e.on)) &&
    (r.an.all fun a => o.after.toList.any fun e => bindsE e && (e.on == a || memb a (anOf pl e.on))) &&
    (ahead.all fun p => !p.eff || memb p.i r.an) &&
    (!memb r.i (ahead.map (·.i))) &&
    (ahead.all fun p => match ops[p.i]? with
      | none => false
      | some q =>
        (match q.dst with
          | some d => (!memb d (seesT ops o) || memb p.i r.an) && (o.dst != some d)
          | none => true) &&
        (match o.dst with
          | some d => !memb d (seesT ops q) || (r.eff && memb p.i r.an)
          | none => true) &&
        (!r.eff || p.eff || !isLoad q || memb p.i r.chk || memb p.i r.an)) &&
    (match o.dst with
      | some d => r.eff || !memb d (seesT ops o)
      | none => !isNew o && !isLoad o) &&
    (r.chk.all fun j => ahead.any fun p => p.i == j && !p.eff)

def planOk (cx : Cx) (ops : List Oper) (pl : List Row) : List Row → List Row → Bool
  | _, [] => true
  | ahead, r :: rs => rowOk cx ops pl ahead rs r && planOk cx ops pl (ahead ++ [r]) rs

def planOf (id : Nat) : List (Nat × List Nat × List Row) → Option (List Nat × List Row)
  | [] => none
  | (j, pl) :: r => if id = j then some pl else planOf id r

/-- The frame of a piece of code, under which it is walked. -/
def mk (b : Frame) (tmps : Array Value) (ds : List Deferred) (todo : List Item) : Frame :=
  { fn := b.fn, tmps, todo, defers := ds, mode := .run, kind := b.kind, roundOf := b.roundOf }

def TRel (lam : Nat → Nat) : TV → Value → Prop
  | .val u, v => v = u
  | .loc s off, v => v = .pointer (some ⟨lam s, off, none⟩)
  | .bad, _ => True

structure Rel (N : Nat) (D E : Nat → Prop) (st : St) (tmps : Array Value) (w : World) (lam : Nat → Nat) : Prop where
  tmp : ∀ t, TRel lam (st.tmps t) (tmps.getD t undef)
  known : ∀ t s off, st.tmps t = .loc s off → st.locs s ≠ none
  loc : ∀ s cs, st.locs s = some cs → N ≤ lam s ∧ Has w (lam s) (.rw cs)
  linj : ∀ s s', st.locs s ≠ none → st.locs s' ≠ none → lam s = lam s' → s = s'
  blk : ∀ b x, (b, x) ∈ st.heap → Has w b x ∧ (x.writes = true → D b ∨ N ≤ b) ∧ (E b ∨ N ≤ b)
  nd : (st.heap.map (·.1)).Nodup
  apart : ∀ s, st.locs s ≠ none → lam s ∉ st.heap.map (·.1)

def mark (r : Nat) : Deferred := { target := .collected r, args := #[] }

structure Sit (N : Nat) (D E : Nat → Prop) (nt : Nat) (st : St) (tmps : Array Value) (rs : List Nat) (w : World) (lam : Nat → Nat) : Prop where
  rel : Rel N D E st tmps w lam
  size : N ≤ w.heap.size
  nt : tmps.size = nt
  marks : ∀ r, r ∈ rs → N ≤ r ∧ w.heap[r]? = some (.deferred (some []))
  once : rs.Nodup

def Arr (P : Program) (m : Machine) (b : Frame) (tmps : Array Value) (ds : List Deferred) (k : List Item) (cs : List Frame) (w : World) : Ex → Prop
  | .normal => Steps P m (lone (mk b tmps ds k) cs w)
  | .exit id => ∃ k1, exitTo id k1 = exitTo id k ∧ Steps P m (lone (mk b tmps ds (.code (.exit id) :: k1)) cs w)
  | .ret => ∃ k1, Steps P m (lone (mk b tmps ds (.code .ret :: k1)) cs w)

/-- From wherever the state is met, the machine walks the code, and comes to where K says. -/
def awp (P : Program) (nt : Nat) (c : Code) (st : St) (K : Ex → St → Prop) : Prop :=
  ∀ (N : Nat) (D E : Nat → Prop) (b : Frame) (k : List Item) (cs : List Frame) (tmps : Array Value) (rs : List Nat) (w : World) (lam : Nat → Nat), Sit N D E nt st tmps rs w lam →
    ∃ e st' tmps' rs' w' lam', K e st' ∧ Sit N D E nt st' tmps' rs' w' lam' ∧ Upd N D w w' ∧ Arr P (lone (mk b tmps (rs.map mark) (.code c :: k)) cs w) b tmps' (rs'.map mark) k cs w' e

/-- How a sequence goes on. -/
def thenK (next : St → Prop) (K : Ex → St → Prop) : Ex → St → Prop
  | .normal, st => next st
  | .exit id, st => K (.exit id) st
  | .ret, st => K .ret st

def blockK (id : Nat) (K : Ex → St → Prop) : Ex → St → Prop
  | .normal, st => K .normal st
  | .exit i, st => if i = id then K .normal st else K (.exit i) st
  | .ret, st => K .ret st

def evDraw (cx : Cx) (pl : Option (List Nat × List Row)) (ops : List Oper) (st : St) (K : St → Prop) : Prop :=
  match pl with
  | some (ds, pl) => evPlan cx ops pl (st.forget ds) K
  | none => False

def ev (cx : Cx) (nt : Nat) : Code → St → (Ex → St → Prop) → Prop
  | .skip, st, K => K .normal st
  | .region _ ops false, st, K => evOps cx ops.toList ops.toList st (K .normal)
  | .region id ops true, st, K => evDraw cx (planOf id cx.pl) ops.toList st (K .normal)
  | .seq a b, st, K => ev cx nt a st (thenK (fun st' => ev cx nt b st' K) K)
  | .cond c a b, st, K => evCond (st.get c) (ev cx nt a st K) (ev cx nt b st K)
  | .block id c, st, K => ev cx nt c st (blockK id K)
  | .exit id, st, K => K (.exit id) st
  | .ret, st, K => K .ret st
  | c, st, K => awp cx.P nt c st K

/-- A look at code that is done once: slots within the frame. -/
def dstsOk (nt : Nat) (ops : List Oper) : Bool := ops.all fun o => match o.dst with
  | some d => decide (d < nt)
  | none => true

def okc (cx : Cx) (nt : Nat) : Code → Bool
  | .region _ ops false => dstsOk nt ops.toList
  | .region id ops true => dstsOk nt ops.toList && (match planOf id cx.pl with
    | some (ds, pl) => (ds == newsOf ops.toList) && decide (pl.length = ops.toList.length) && ((List.range ops.toList.length).all fun i => pl.any (·.i == i)) && planOk cx ops.toList pl [] pl && cx.P.follows .mixedOrders
    | none => true)
  | .seq a b => okc cx nt a && okc cx nt b
  | .cond _ a b => okc cx nt a && okc cx nt b
  | .block _ c => okc cx nt c
  | .loop c => okc cx nt c
  | _ => true

def resOne (P : Program) (st : St) : ResultVar → Option Value
  | .tmp t => valF (st.tmps t)
  | .cell a t => loadF P t (st.tmps a) st

def resAll (P : Program) (st : St) : List ResultVar → Option (List Value)
  | [] => some []
  | r :: rs =>
    match resOne P st r, resAll P st rs with
    | some v, some vs => some (v :: vs)
    | _, _ => none

def tup : List Value → Value
  | [v] => v
  | vs => .tuple vs.toArray

def resF (P : Program) (rs : List ResultVar) (st : St) : Option Value := (resAll P st rs).map tup

def fin (P : Program) (rs : List ResultVar) (Q : Value → List (Nat × Blk) → Prop) : Ex → St → Prop
  | .exit _, _ => False
  | _, st => oK (resF P rs st) fun v => Q v st.heap

def argT : List Value → Nat → TV
  | [], _ => .bad
  | v :: _, 0 => .val v
  | _ :: r, t + 1 => argT r t

def St.init (args : List Value) (H : List (Nat × Blk)) : St :=
  { tmps := argT args
    locs := fun _ => none
    heap := H }

end Go.Z
