/-
  Values, trees and heaps that name blocks by numbers of their own; and how they stand to the machine's. No proof of a law stands here.
-/
import Derived.Calls
import Derived.Below
import Derived.Laws.Cells
import Derived.Laws.CopyRow
import Derived.Laws.Entries
import Derived.IntWalk
import Derived.KernelRfl
set_option linter.unusedVariables false
set_option linter.unusedSimpArgs false
namespace Go.Y

/-- One step into a value: a struct's field (its cell), a row's element (how many cells one has). -/
inductive PE where
  | fld (f off : Nat)
  | idx (i n : Nat)

inductive AV where
  | int (k : IntKind) (n : Int)
  | bool (b : Bool)
  | str (s : List UInt8)
  | agg (l : List AV)
  | rows (sz : Nat) (l : List AV)
  | tup (l : List AV)
  | ptr (k i : Nat) (p : List PE)
  | nilp
  | slc (k i : Nat) (p : List PE) (n a s len cap : Nat)
  | nils
  | map (k : Nat)
  | nilm
  | fn (f : Fn) (first captured : List AV)
  | yld (k : Nat)
  | nilf

def PE.off : PE → Nat
  | .fld _ off => off
  | .idx i n => i * n

def offP : List PE → Nat
  | [] => 0
  | e :: p => e.off + offP p

/-- Where an abstract block lies: its block, and the cell where it begins; nowhere (nil). And which ones there are. -/
structure Lam where
  pos : Nat → Nat → Option (Nat × Nat)
  born : Nat → Prop
instance : CoeFun Lam fun _ => Nat → Nat → Option (Nat × Nat) := ⟨Lam.pos⟩

def glue (l : List Value) : Array Value := (l.flatMap fun v => v.cells.toList).toArray

def ptrV (x : Option (Nat × Nat)) (off : Nat) : Value :=
  match x with
  | some (b, o) => .pointer (some ⟨b, o + off, none⟩)
  | none => .pointer none
def slcV (x : Option (Nat × Nat)) (off len cap : Nat) : Value :=
  match x with
  | some (b, o) => .slice (some ⟨b, o + off, none⟩) len cap
  | none => .slice none len cap
def mapV (x : Option (Nat × Nat)) : Value :=
  match x with
  | some (b, _) => .map (some b)
  | none => .map none
def yldV (x : Option (Nat × Nat)) : Value :=
  match x with
  | some (b, _) => .func (.yield b) #[] #[]
  | none => .nilFunc

mutual
def AV.conc (lam : Lam) : AV → Value
  | .int k n => .int k n
  | .bool b => .bool b
  | .str s => .string ⟨s.toArray⟩
  | .agg l => .agg (glue (concL lam l))
  | .rows _ l => .agg (glue (concL lam l))
  | .tup l => .tuple (concL lam l).toArray
  | .ptr k i p => ptrV (lam k i) (offP p)
  | .nilp => .pointer none
  | .slc k i p n a _ len cap => slcV (lam k i) (offP p + a * n) len cap
  | .nils => .slice none 0 0
  | .map k => mapV (lam k 0)
  | .nilm => .map none
  | .fn f first captured => .func f (concL lam first).toArray (concL lam captured).toArray
  | .yld k => yldV (lam k 0)
  | .nilf => .nilFunc
def concL (lam : Lam) : List AV → List Value
  | [] => []
  | v :: r => v.conc lam :: concL lam r
end

mutual
def AV.size : AV → Nat
  | .agg l => sizeL l
  | .rows _ l => sizeL l
  | _ => 1
def sizeL : List AV → Nat
  | [] => 0
  | v :: r => v.size + sizeL r
end

def AV.isAgg : AV → Bool
  | .agg _ | .rows .. => true
  | _ => false

def AV.isTup : AV → Bool
  | .tup _ => true
  | _ => false

/-- Each of a row's elements has so many cells. -/
def okR (sz : Nat) : List AV → Prop
  | [] => True
  | v :: r => v.size = sz ∧ okR sz r

/-- No tuples. -/
def okT (l : List AV) : Prop := ∀ v, v ∈ l → v.isTup = false

mutual
/-- A value that may lie in a state whose blocks have numbers below n. -/
def AV.ok (lam : Lam) (n : Nat) : AV → Prop
  | .agg l => okL lam n l ∧ okT l
  | .rows sz l => okL lam n l ∧ okR sz l ∧ okT l
  | .tup l => okL lam n l
  | .ptr k i _ => k < n ∧ lam.born k ∧ lam k i ≠ none
  | .slc k i _ _ a s len cap => k < n ∧ lam.born k ∧ len ≤ cap ∧ (cap ≠ 0 → a = s ∧ lam k i ≠ none) ∧ (s ≠ 0 → lam k i ≠ none)
  | .map k => k < n ∧ lam.born k ∧ lam k 0 ≠ none
  | .yld k => k < n ∧ lam.born k ∧ lam k 0 ≠ none
  | .fn f first captured => okL lam n first ∧ okL lam n captured ∧ (∀ l, f ≠ .yield l)
  | _ => True
def okL (lam : Lam) (n : Nat) : List AV → Prop
  | [] => True
  | v :: r => v.ok lam n ∧ okL lam n r
end

/-! ### Into a value -/
def stepP (v : AV) (e : PE) : Option AV :=
  match v, e with
  | .agg l, .fld f off => if sizeL (l.take f) = off then l[f]? else none
  | .rows sz l, .idx i n => if sz = n then l[i]? else none
  | _, _ => none
def setS (v : AV) (e : PE) (u : AV) : AV :=
  match v, e with
  | .agg l, .fld f _ => .agg (l.set f u)
  | .rows sz l, .idx i _ => .rows sz (l.set i u)
  | v, _ => v
def getP (v : AV) : List PE → Option AV
  | [] => some v
  | e :: p => match stepP v e with
    | some u => getP u p
    | none => none
def putP (v : AV) : List PE → AV → Option AV
  | [], x => if v.size = x.size ∧ x.isTup = false then some x else none
  | e :: p, x => match stepP v e with
    | some u => match putP u p x with
      | some u' => some (setS v e u')
      | none => none
    | none => none

/-! ### Slots -/
abbrev Sl := List (Nat × AV)
def getT : Sl → Nat → Option AV
  | [], _ => none
  | (s, v) :: r, t => if t = s then some v else getT r t
def putT (T : Sl) (d : Option Nat) (v : AV) : Sl :=
  match d with
  | some d => (d, v) :: T
  | none => T
def keepT : List Nat → Sl → Sl
  | [], _ => []
  | t :: r, T => match getT T t with
    | some v => (t, v) :: keepT r T
    | none => keepT r T

def ofC : Value → Option AV
  | .int k n => some (.int k n)
  | .bool b => some (.bool b)
  | .string s => some (.str s.data.toList)
  | .pointer none => some .nilp
  | .slice none 0 0 => some .nils
  | .map none => some .nilm
  | .nilFunc => some .nilf
  | .tuple ⟨[]⟩ => some (.tup [])
  | _ => none

def getO (T : Sl) : Operand → Option AV
  | .tmp t => getT T t
  | .const v => ofC v
  | .global _ => none
  | .func f => some (.fn (.func f) [] [])

def seqO {α : Type} : List (Option α) → Option (List α)
  | [] => some []
  | none :: _ => none
  | some v :: r => match seqO r with
    | some vs => some (v :: vs)
    | none => none

def getOs (T : Sl) (xs : List Operand) : Option (List AV) := seqO (xs.map (getO T))

/-! ### Blocks -/
inductive LState where
  | ready
  | busy
  | done (jump : Code)

/-- A range over a function: the frame's slots as the loop was entered, and the loop's code. -/
structure LRec where
  fn : FuncId
  nt : Nat
  T : Sl
  ps : List Nat
  assign : Code
  body : Code
  st : LState

/-- How a map lies: its entries, and its clock. -/
structure MpS where
  es : Array MapEntry
  clock : Nat

/-- A block: a cell; a row; rows that nobody writes; a map; a map that is gone through, as it lies; one that goes through it, which entries it has met, by their places; a loop. -/
inductive Ent where
  | cel (v : AV)
  | vec (cap n : Nat) (l : List AV)
  | ro (f : Nat → AV)
  | mp (m : List (AV × AV))
  | lk (s : MpS) (m : List (AV × AV))
  | it (s : MpS) (seen : List Nat) (m : Nat)
  | lp (r : LRec)

def Ent.tree (i : Nat) : Ent → Option AV
  | .cel v => if i = 0 then some v else none
  | .vec _ n l => if i = 0 then some (.rows n l) else none
  | .ro f => some (f i)
  | _ => none

def Ent.setTree (v : AV) : Ent → Option Ent
  | .cel _ => some (.cel v)
  | .vec cap m l0 => match v with
    | .rows n l => if n = m ∧ l.length = l0.length then some (.vec cap n l) else none
    | _ => none
  | _ => none

def Ent.writes : Ent → Bool
  | .ro _ => false
  | _ => true

abbrev Hp := List (Nat × Ent)
def hget (k : Nat) : Hp → Option Ent
  | [] => none
  | (c, x) :: r => if k = c then some x else hget k r
def hset (k : Nat) (x : Ent) : Hp → Hp
  | [] => []
  | (c, y) :: r => if k = c then (c, x) :: r else (c, y) :: hset k x r
def hdel (k : Nat) : Hp → Hp
  | [] => []
  | (c, y) :: r => if k = c then r else (c, y) :: hdel k r

structure St where
  T : Sl
  H : Hp
  n : Nat

/-! ### What a type says -/
def isAggD : TypeDesc → Bool
  | .struct _ | .array _ _ => true
  | _ => false

/-- Is a type's value a row of cells, and how many. -/
def lay (P : Program) (t : TypeId) : Option (Bool × Nat) :=
  match P.underlying t, P.info? t with
  | some d, some i => some (isAggD d, i.size)
  | _, _ => none

/-- A struct's field: where it begins; is it a row; its size. -/
def fldOf (P : Program) (t : TypeId) (f : Nat) : Option (Nat × Bool × Nat) :=
  match P.underlying t with
  | some (.struct fs) =>
    match fs[f]? with
    | some g =>
      match lay P g.type with
      | some (a, n) => some (g.offset, a, n)
      | none => none
    | none => none
  | _ => none

/-- An array's length, and an element: is it a row; its size. -/
def arrOf (P : Program) (t : TypeId) : Option (Nat × Bool × Nat) :=
  match P.underlying t with
  | some (.array len e) =>
    match lay P e with
    | some (a, n) => some (len, a, n)
    | none => none
  | _ => none

def slcOf (P : Program) (t : TypeId) : Option (Bool × Nat) :=
  match P.underlying t with
  | some (.slice e) => lay P e
  | _ => none

def intOf (P : Program) (t : TypeId) : Option IntKind :=
  match P.underlying t with
  | some (.int k) => some k
  | _ => none

/-- Cells as values of types that are no rows. -/
def ofCs : List Value → Option (List AV) := fun l => seqO (l.map ofC)

mutual
/-- A type's value out of cells (as many as it has), and the cells behind. -/
def unfl (P : Program) : Nat → TypeId → List Value → Option (AV × List Value)
  | 0, _, _ => none
  | d + 1, t, cs =>
    match P.underlying t with
    | some (.struct fs) => (unflS P d fs.toList cs).map fun r => (.agg r.1, r.2)
    | some (.array n e) =>
      match lay P e with
      | some (_, sz) => (unflA P d e n cs).bind fun r => if r.1.all (fun v => v.size == sz) then some (.rows sz r.1, r.2) else none
      | none => none
    | some _ =>
      match cs with
      | c :: r => (ofC c).bind fun v => if v.isTup = false then some (v, r) else none
      | [] => none
    | none => none
def unflS (P : Program) : Nat → List Field → List Value → Option (List AV × List Value)
  | 0, _, _ => none
  | d + 1, [], cs => some ([], cs)
  | d + 1, f :: fs, cs => (unfl P d f.type cs).bind fun r => (unflS P d fs r.2).map fun q => (r.1 :: q.1, q.2)
def unflA (P : Program) : Nat → TypeId → Nat → List Value → Option (List AV × List Value)
  | 0, _, _, _ => none
  | d + 1, e, 0, cs => some ([], cs)
  | d + 1, e, n + 1, cs => (unfl P d e cs).bind fun r => (unflA P d e n r.2).map fun q => (r.1 :: q.1, q.2)
end

def isAggV : Value → Bool
  | .agg _ => true
  | _ => false

/-- A type's zero value. -/
def zeroA (P : Program) (t : TypeId) : Option AV :=
  match (P.info? t).bind (·.zero) with
  | some z =>
    match unfl P 300 t z.cells.toList with
    | some (v, []) => if v.isAgg = isAggV z then some v else none
    | _ => none
  | none => none

/-! ### Keys of maps -/
/-- A key's integers. -/
def keyL : List AV → Option (List Int)
  | [] => some []
  | v :: r => match v, keyL r with
    | .int .i64 a, some l => some (a :: l)
    | _, _ => none
def isI64 (P : Program) (t : TypeId) : Bool :=
  match P.underlying t with
  | some (.int .i64) => true
  | _ => false
/-- What a type of keys is: an integer; a struct, or an array, of so many. -/
def keyT (P : Program) (t : TypeId) : Option (Bool × Nat) :=
  match P.underlying t with
  | some (.int .i64) => some (false, 1)
  | some (.struct fs) =>
    if (fs.toList.all fun f => f.name != "_" && isI64 P f.type && lay P f.type == some (false, 1)) && (fs.toList.map (·.offset) == List.range fs.size) && !P.stoodInHeld t then some (true, fs.size) else none
  | some (.array m e) => if isI64 P e && lay P e == some (false, 1) then some (true, m) else none
  | _ => none
def keyM (m : Nat) (l : Option (List Int)) : Option (List Int) :=
  match l with
  | some l => if l.length = m then some l else none
  | none => none
/-- A key, by its integers. -/
def keyO (kt : Option (Bool × Nat)) (x : AV) : Option (List Int) :=
  match kt, x with
  | some (false, _), .int .i64 a => some [a]
  | some (true, m), .agg l => keyM m (keyL l)
  | some (true, m), .rows _ l => keyM m (keyL l)
  | _, _ => none
def keyzB (kt : Option (Bool × Nat)) : List (AV × AV) → Bool
  | [] => true
  | (k, _) :: r => (keyO kt k).isSome && keyzB kt r
/-- Where a key is, and what there is. -/
def findI (kt : Option (Bool × Nat)) (l : List Int) : List (AV × AV) → Nat → Option (Nat × AV)
  | [], _ => none
  | (k, v) :: r, i => if keyO kt k = some l then some (i, v) else findI kt l r (i + 1)
def setI (m : List (AV × AV)) (x y : AV) (i : Option (Nat × AV)) : List (AV × AV) :=
  match i with
  | some (i, _) => m.set i (x, y)
  | none => m ++ [(x, y)]
def mapE : Option Ent → Option (List (AV × AV))
  | some (.mp m) => some m
  | some (.lk _ m) => some m
  | _ => none
def mapC (x : AV) (H : Hp) : Option (List (AV × AV)) :=
  match x with
  | .map k => mapE (hget k H)
  | .nilm => some []
  | _ => none
def mapKT (P : Program) (t : TypeId) : Option (Bool × Nat) :=
  match P.underlying t with
  | some (.map k _) => keyT P k
  | _ => none
def mapZ (P : Program) (t : TypeId) : Option AV :=
  match P.underlying t with
  | some (.map _ e) => zeroA P e
  | _ => none
def lookOut (ok : Bool) (z : AV) (r : Option (Nat × AV)) : AV :=
  match r with
  | some (_, v) => if ok = true then .tup [v, .bool true] else v
  | none => if ok = true then .tup [z, .bool false] else z
/-- m[x]. -/
def lookC (kt : Option (Bool × Nat)) (z : Option AV) (m : Option (List (AV × AV))) (l : Option (List Int)) (ok : Bool) : Option AV :=
  match z, m, l with
  | some z, some m, some l => if keyzB kt m = true then some (lookOut ok z (findI kt l m 0)) else none
  | _, _, _ => none
def lookA (P : Program) (t : TypeId) (x k : AV) (ok : Bool) (H : Hp) : Option AV := lookC (mapKT P t) (mapZ P t) (mapC x H) (keyO (mapKT P t) k) ok

/-! ### Operations that look at values alone -/
def layOK (l : Option (Bool × Nat)) (v : AV) : Bool :=
  match l with
  | some (a, n) => v.isAgg == a && v.size == n && !v.isTup && n != 0
  | none => false

def bitsF (op : BinOp) (k : IntKind) (a b : Int) : Option Int :=
  match op with
  | .and => some (k.wrap (BitVec.ofInt k.bits a &&& BitVec.ofInt k.bits b).toNat)
  | .or => some (k.wrap (BitVec.ofInt k.bits a ||| BitVec.ofInt k.bits b).toNat)
  | .xor => some (k.wrap (BitVec.ofInt k.bits a ^^^ BitVec.ofInt k.bits b).toNat)
  | .andNot => some (k.wrap (BitVec.ofInt k.bits a &&& ~~~(BitVec.ofInt k.bits b)).toNat)
  | _ => none

def intF (op : BinOp) (k : IntKind) (a b : Int) : Option AV :=
  match op with
  | .add => some (.int k (k.wrap (a + b)))
  | .sub => some (.int k (k.wrap (a - b)))
  | .mul => some (.int k (k.wrap (a * b)))
  | .quo => if b = 0 then none else some (.int k (k.wrap (a.tdiv b)))
  | .rem => if b = 0 then none else some (.int k (a.tmod b))
  | .and | .or | .xor | .andNot => (bitsF op k a b).map (.int k)
  | .eql => some (.bool (if a = b then true else false))
  | .neq => some (.bool (if a = b then false else true))
  | .lss => some (.bool (if a < b then true else false))
  | .leq => some (.bool (if a ≤ b then true else false))
  | .gtr => some (.bool (if b < a then true else false))
  | .geq => some (.bool (if b ≤ a then true else false))
  | _ => none

def shiftF (op : BinOp) (k : IntKind) (a b : Int) : Option AV :=
  if b < 0 then none else
  match op with
  | .shl => some (.int k (k.wrap (a * 2 ^ min b.toNat k.bits)))
  | .shr => some (.int k (a.fdiv (2 ^ min b.toNat k.bits)))
  | _ => none

def cmpF (op : BinOp) (b : Bool) : Option AV :=
  match op with
  | .eql => some (.bool b)
  | .neq => some (.bool (!b))
  | _ => none

def partF (agg : Bool) (n : Nat) (cs : List Value) (off : Nat) : Option Value :=
  match agg with
  | true => if off + n ≤ cs.length then some (.agg ((cs.drop off).take n).toArray) else none
  | false => cs[off]?

/-- Two values of a type are alike, part by part. -/
def eqD (P : Program) : Nat → TypeId → Value → Value → Option Bool
  | 0, _, _, _ => none
  | d + 1, t, x, y =>
    match P.underlying t, x, y with
    | some .bool, .bool a, .bool b => some (a == b)
    | some (.int _), .int k a, .int k' b => if k = k' then some (a == b) else none
    | some .string, .string a, .string b => some (a == b)
    | some (.struct fs), .agg xs, .agg ys =>
      if P.stoodInHeld t = true then none else
      fs.toList.foldr (fun f r =>
        if f.name == "_" then none else
        match lay P f.type with
        | some (a, n) =>
          match partF a n xs.toList f.offset, partF a n ys.toList f.offset with
          | some u, some v =>
            match eqD P d f.type u v, r with
            | some p, some q => some (p && q)
            | _, _ => none
          | _, _ => none
        | none => none) (some true)
    | some (.array n e), .agg xs, .agg ys =>
      match lay P e with
      | some (a, m) =>
        (List.range n).foldr (fun i r =>
          match partF a m xs.toList (i * m), partF a m ys.toList (i * m) with
          | some u, some v =>
            match eqD P d e u v, r with
            | some p, some q => some (p && q)
            | _, _ => none
          | _, _ => none) (some true)
      | none => none
    | _, _, _ => none

def eqAgg (P : Program) (t : TypeId) (xs ys : List Value) : Option Bool :=
  if P.eqGuardType P.depth t = true then none else eqD P 12 t (.agg xs.toArray) (.agg ys.toArray)

/-- A value without blocks, as cells. -/
def leafV : AV → Option Value
  | .int k n => some (.int k n)
  | .bool b => some (.bool b)
  | _ => none
mutual
def flatV : AV → Option (List Value)
  | .agg l => flatL l
  | .rows _ l => flatL l
  | v => (leafV v).map fun x => [x]
def flatL : List AV → Option (List Value)
  | [] => some []
  | v :: r => match flatV v, flatL r with
    | some a, some b => some (a ++ b)
    | _, _ => none
end

def isBoolTy (P : Program) (t : TypeId) : Bool :=
  match P.underlying t with
  | some .bool => true
  | _ => false
def isStrTy (P : Program) (t : TypeId) : Bool :=
  match P.underlying t with
  | some .string => true
  | _ => false
def isFuncTy (P : Program) (t : TypeId) : Bool :=
  match P.underlying t with
  | some (.func ..) => true
  | _ => false
def isPtrTy (P : Program) (t : TypeId) : Bool :=
  match P.underlying t with
  | some (.pointer _) => true
  | _ => false

def aggEq (P : Program) (t : TypeId) (x y : Option (List Value)) : Option Bool :=
  match x, y with
  | some xs, some ys => eqAgg P t xs ys
  | _, _ => none

def binA (P : Program) (op : BinOp) (t : TypeId) (x y : AV) : Option AV :=
  match x, y with
  | .int k a, .int k' b =>
    match op with
    | .shl | .shr => shiftF op k a b
    | _ => if k = k' then intF op k a b else none
  | .bool a, .bool b => if isBoolTy P t = true then cmpF op (a == b) else none
  | .str a, .str b => if isStrTy P t = true then cmpF op (a == b) else none
  | .agg l, .agg m => (aggEq P t (flatL l) (flatL m)).bind (cmpF op)
  | .rows _ l, .rows _ m => (aggEq P t (flatL l) (flatL m)).bind (cmpF op)
  | .fn (.func _) _ _, .nilf => if isFuncTy P t = true then cmpF op false else none
  | .nilf, .nilf => if isFuncTy P t = true then cmpF op true else none
  | .nilf, .fn (.func _) _ _ => if isFuncTy P t = true then cmpF op false else none
  | .nilp, .nilp => if isPtrTy P t = true then cmpF op true else none
  | .ptr .., .nilp => if isPtrTy P t = true then cmpF op false else none
  | .nilp, .ptr .. => if isPtrTy P t = true then cmpF op false else none
  | .nils, .nils => if (slcOf P t).isSome = true then cmpF op true else none
  | .slc _ _ _ _ _ s _ cap, .nils => if (slcOf P t).isSome = true then if cap ≠ 0 ∨ s ≠ 0 then cmpF op false else none else none
  | _, _ => none

def unA (op : UnOp) (x : AV) : Option AV :=
  match op, x with
  | .not, .bool b => some (.bool !b)
  | .neg, .int k n => some (.int k (k.wrap (0 - n)))
  | _, _ => none

def hasTy (P : Program) (t : TypeId) : Bool := (P.underlying t).isSome

/-- Where a slice expression's bounds come to. -/
def bndA (x : Option AV) (y : Nat) : Option Nat :=
  match x with
  | some (.int _ i) => if 0 ≤ i ∧ i ≤ y then some i.toNat else none
  | _ => none

def bndO (x : Option (Option AV)) (y z : Nat) : Option Nat :=
  match x with
  | some x => bndA x y
  | none => some z

/-- low, high, max of a slice of so many, with room for so many. -/
def sliceB (len cap : Nat) (lo hi mx : Option (Option AV)) : Option (Nat × Nat × Nat) :=
  match bndO mx cap cap with
  | some m =>
    match (match hi with | some h => bndA h m | none => match mx with | none => some len | some _ => none) with
    | some h =>
      match bndO lo h 0 with
      | some l => some (l, h, m)
      | none => none
    | none => none
  | none => none

/-- The place where a slice begins: it does not move where no room is left. -/
def mv (m l a : Nat) : Nat := if m = l then a else a + l

def cutA (b : Option (Nat × Nat × Nat)) (k i : Nat) (p : List PE) (n a s : Nat) : Option AV :=
  match b with
  | some (l, h, m) => some (.slc k i p n (mv m l a) (s + l) (h - l) (m - l))
  | none => none

def cutS (b : Option (Nat × Nat × Nat)) (s : List UInt8) : Option AV :=
  match b with
  | some (l, h, _) => some (.str ((s.take h).drop l))
  | none => none

def cutN (b : Option (Nat × Nat × Nat)) : Option AV :=
  match b with
  | some (l, h, m) => some .nils
  | none => none

/-- xs[lo:hi:max]. -/
def sliceA (P : Program) (t : TypeId) (x : AV) (lo hi mx : Option (Option AV)) : Option AV :=
  match x with
  | .slc k i p n a s len cap =>
    match slcOf P t with
    | some (_, n') => if n = n' then cutA (sliceB len cap lo hi mx) k i p n a s else none
    | none => none
  | .nils =>
    match slcOf P t with
    | some _ => cutN (sliceB 0 0 lo hi mx)
    | none => none
  | .ptr k i p =>
    match arrOf P t with
    | some (len, _, n) => cutA (sliceB len len lo hi mx) k i p n 0 0
    | none => none
  | .str s =>
    if isStrTy P t = true then match mx with
      | none => cutS (sliceB s.length s.length lo hi none) s
      | some _ => none
    else none
  | _ => none

def fieldAddrA (l : Option (Nat × Bool × Nat)) (x : AV) (f : Nat) : Option AV :=
  match l, x with
  | some (off, _, n), .ptr k i p => if n = 0 then none else some (.ptr k i (p ++ [.fld f off]))
  | _, _ => none

def indexAddrC (l : Option (Nat × Bool × Nat)) (s : Option (Bool × Nat)) (x y : AV) : Option AV :=
  match y with
  | .int _ j =>
    match l with
    | some (len, _, n) =>
      match x with
      | .ptr k i p => if 0 ≤ j ∧ j < len then some (.ptr k i (p ++ [.idx j.toNat n])) else none
      | _ => none
    | none =>
      match s with
      | some (_, n) =>
        match x with
        | .slc k i p n' a st len cap => if n = n' then if 0 ≤ j ∧ j < len then some (.ptr k i (p ++ [.idx (st + j.toNat) n])) else none else none
        | _ => none
      | none => none
  | _ => none

def fieldC (l : Option (Nat × Bool × Nat)) (x : AV) (f : Nat) : Option AV :=
  match l, x with
  | some (off, a, n), .agg vs => if sizeL (vs.take f) = off then match vs[f]? with
      | some v => if layOK (some (a, n)) v = true then some v else none
      | none => none
    else none
  | _, _ => none

def indexC (P : Program) (t : TypeId) (l : Option (Nat × Bool × Nat)) (x y : AV) : Option AV :=
  match x, y with
  | .rows sz vs, .int _ j =>
    match l with
    | some (len, a, n) => if sz = n then if 0 ≤ j ∧ j < len then match vs[j.toNat]? with
        | some v => if layOK (some (a, n)) v = true then some v else none
        | none => none
      else none else none
    | none => none
  | .str s, .int _ j => if isStrTy P t = true then if 0 ≤ j ∧ j < s.length then match s[j.toNat]? with
        | some c => some (.int .u8 c.toNat)
        | none => none
      else none else none
  | _, _ => none

def extractA (x : AV) (i : Nat) : Option AV :=
  match x with
  | .tup vs => vs[i]?
  | _ => none

def pickA (c a b : Option AV) : Option AV :=
  match c with
  | some (.bool t) => if t = true then a else b
  | _ => none

def nilA (x : AV) : Option AV :=
  match x with
  | .ptr k i p => some (.ptr k i p)
  | .fn (.func f) a b => some (.fn (.func f) a b)
  | .yld k => some (.yld k)
  | .map k => some (.map k)
  | .slc k i p n a s len cap => some (.slc k i p n a s len cap)
  | _ => none

/-- The places of a struct's fields, of an array's elements: where each begins, its size. -/
def placesOf (P : Program) (t : TypeId) : Option (List (Nat × Nat)) :=
  match P.underlying t with
  | some (.struct fs) => fs.toList.mapM fun f => (lay P f.type).map fun l => (f.offset, l.2)
  | some (.array len e) => (lay P e).map fun l => (List.range len).map fun i => (i * l.2, l.2)
  | _ => none

/-- A part put into a struct, or a row, at its place. -/
def setA (v : AV) (i : Nat) (p : Option (Nat × Nat)) (x : AV) : Option AV :=
  match p with
  | some (off, sz) =>
    if x.size = sz ∧ x.isTup = false then
      match v with
      | .agg l => match l[i]? with
        | some u => if u.size = sz ∧ sizeL (l.take i) = off then some (.agg (l.set i x)) else none
        | none => none
      | .rows m l => match l[i]? with
        | some u => if m = sz ∧ i * sz = off then some (.rows m (l.set i x)) else none
        | none => none
      | _ => none
    else none
  | none => none

/-- Parts put into a struct, or a row. -/
def fillA (place : Nat → Option (Nat × Nat)) (v : AV) : List (Nat × Option AV) → Option AV
  | [] => some v
  | (i, some x) :: r =>
    match setA v i (place i) x with
    | some v' => fillA place v' r
    | none => none
  | (_, none) :: _ => none

def buildA (pl : Option (List (Nat × Nat))) (z : Option AV) (parts : List (Nat × Option AV)) : Option AV :=
  match pl, z with
  | some pl, some z => fillA (fun i => pl[i]?) z parts
  | _, _ => none

/-- The bytes of a row of bytes. -/
def bytesOf : List AV → Option (List UInt8)
  | [] => some []
  | .int .u8 n :: r => match bytesOf r with
    | some l => if 0 ≤ n ∧ n < 256 then some (UInt8.ofNat n.toNat :: l) else none
    | none => none
  | _ :: _ => none

def encB (b : UInt8) : AV := .int .u8 b.toNat

def ptrTree (x : AV) (H : Hp) : Option (Ent × AV × List PE) :=
  match x with
  | .ptr k i p => match hget k H with
    | some e => match e.tree i with
      | some v => some (e, v, p)
      | none => none
    | none => none
  | _ => none

def chkL (l : Option (Bool × Nat)) (v : Option AV) : Option AV :=
  match v with
  | some v => if layOK l v = true then some v else none
  | none => none

def loadA (l : Option (Bool × Nat)) (x : AV) (H : Hp) : Option AV :=
  match ptrTree x H with
  | some (_, v, p) => chkL l (getP v p)
  | none => none

def storeB (k : Nat) (e : Ent) (v : Option AV) (H : Hp) : Option Hp :=
  match v with
  | some v => match e.setTree v with
    | some e' => some (hset k e' H)
    | none => none
  | none => none

def storeA (l : Option (Bool × Nat)) (x v : AV) (H : Hp) : Option Hp :=
  match x with
  | .ptr k i p => if layOK l v = true then match ptrTree x H with
      | some (e, u, _) => storeB k e (putP u p v) H
      | none => none
    else none
  | _ => none

/-- The elements of a slice. -/
def elemsC (e : Option AV) (s len n : Nat) : Option (List AV) :=
  match e with
  | some (.rows sz l) => if sz = n then if s + len ≤ l.length ∨ len = 0 then some ((l.drop s).take len) else none else none
  | _ => none
def elemsT (e : Option Ent) (i : Nat) (p : List PE) : Option AV :=
  match e with
  | some e => match e.tree i with
    | some v => getP v p
    | none => none
  | none => none
def elemsA (x : AV) (H : Hp) : Option (List AV) :=
  match x with
  | .slc k i p n _ s len _ => elemsC (elemsT (hget k H) i p) s len n
  | .nils => some []
  | _ => none

def isByteSlc (P : Program) (t : TypeId) : Bool :=
  match P.underlying t with
  | some (.slice e) => match P.underlying e with
    | some (.int .u8) => true
    | _ => false
  | _ => false

def convA (P : Program) (src dst : TypeId) (x : AV) (H : Hp) : Option AV :=
  match x with
  | .int _ n => match hasTy P src, intOf P dst with
    | true, some k => some (.int k (k.wrap n))
    | _, _ => none
  | .slc .. | .nils => match isByteSlc P src, isStrTy P dst with
    | true, true => match elemsA x H with
      | some l => (bytesOf l).map .str
      | none => none
    | _, _ => none
  | _ => none

end Go.Y
