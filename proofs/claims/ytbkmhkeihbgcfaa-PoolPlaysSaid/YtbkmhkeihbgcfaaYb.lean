/-
  Operations that make blocks, that write, and the walk through code: definitions.
-/
import Derived.Test.YtbkmhkeihbgcfaaYa
set_option linter.unusedVariables false
set_option linter.unusedSimpArgs false
namespace Go.Y

/-! ### Operations that make a block: it bears the number n -/
def repZ (z : Option AV) (len : Nat) : Option (List AV) :=
  match z with
  | some z => some (List.replicate len z)
  | none => none

def elemT (P : Program) (t : TypeId) : Option TypeId :=
  match P.underlying t with
  | some (.slice e) => some e
  | _ => none
def zeroE (P : Program) (t : TypeId) : Option AV :=
  match P.underlying t with
  | some (.slice e) => zeroA P e
  | _ => none

/-- Is a type's zero value of its size. -/
def fitZ (n : Nat) (z : Option AV) : Bool :=
  match z with
  | some z => z.size == n && !z.isTup
  | none => false

/-- xs of a row literal. -/
def buildSliceA (l : Option (Bool × Nat)) (z : Option AV) (len : Nat) (parts : List (Nat × Option AV)) (n : Nat) : Option (AV × Ent) :=
  match l, z with
  | some (a, sz), some z => if len * sz ≤ 16777216 ∧ fitZ sz (some z) = true then match fillA (fun i => some (i * sz, sz)) (.rows sz (List.replicate len z)) parts with
      | some (.rows _ l) => some (.slc n 0 [] sz 0 0 len len, .vec len sz l)
      | _ => none
    else none
  | _, _ => none

/-- How many bytes an element of a slice's type has. -/
def bytesE (P : Program) (t : TypeId) : Option Nat :=
  match P.underlying t with
  | some (.slice e) => (P.info? e).map (·.bytes)
  | _ => none

def makeSliceA (l : Option (Bool × Nat)) (z : Option AV) (by_ : Option Nat) (x y : AV) (n : Nat) : Option (AV × Ent) :=
  match l, z, by_, x, y with
  | some (a, sz), some z, some by_, .int _ len, .int _ cap =>
    if 0 ≤ len ∧ len ≤ cap ∧ by_ * cap ≤ 281474976710656 ∧ cap ≤ 9223372036854775807 ∧ fitZ sz (some z) = true then
      some (.slc n 0 [] sz 0 0 len.toNat cap.toNat, .vec cap.toNat sz (List.replicate cap.toNat z))
    else none
  | _, _, _, _, _ => none

def newA (z : Option AV) (n : Nat) : Option (AV × Ent) :=
  match z with
  | some v => if v.isTup = false then some (.ptr n 0 [], .cel v) else none
  | none => none

def opN (P : Program) (op : Op) (T : Sl) (n : Nat) : Option (AV × Ent) :=
  match op with
  | .alloc t => newA (zeroA P t) n
  | .box _ x => newA (getO T x) n
  | .buildSlice t len ps => buildSliceA (slcOf P t) (zeroE P t) len (ps.toList.map fun p => (p.1, getO T p.2)) n
  | .makeMap _ none => some (.map n, .mp [])
  | .makeSlice t l c => match getO T l, getO T c with
    | some x, some y => makeSliceA (slcOf P t) (zeroE P t) (bytesE P t) x y n
    | _, _ => none
  | _ => none

/-! ### Operations that look -/
def both {α β γ : Type} (x : Option α) (y : Option β) (f : α → β → Option γ) : Option γ :=
  match x, y with
  | some a, some b => f a b
  | _, _ => none
def one {α γ : Type} (x : Option α) (f : α → Option γ) : Option γ :=
  match x with
  | some a => f a
  | none => none

def lenA (P : Program) (t : TypeId) (x : AV) (H : Hp) : Option AV :=
  match x with
  | .slc _ _ _ _ _ _ len _ => match slcOf P t with
    | some _ => some (.int .i64 len)
    | none => none
  | .nils => match slcOf P t with
    | some _ => some (.int .i64 0)
    | none => none
  | .str s => if isStrTy P t = true then some (.int .i64 s.length) else none
  | .rows _ _ => match arrOf P t with
    | some (n, _, _) => some (.int .i64 n)
    | none => none
  | _ => none

def capA (P : Program) (t : TypeId) (x : AV) : Option AV :=
  match x with
  | .slc _ _ _ _ _ _ _ cap => match slcOf P t with
    | some _ => some (.int .i64 cap)
    | none => none
  | .nils => match slcOf P t with
    | some _ => some (.int .i64 0)
    | none => none
  | _ => none

def minI (a b : Int) : Int := if b < a then b else a
def maxI (a b : Int) : Int := if b > a then b else a

def builtA (P : Program) (b : Builtin) (ts : List TypeId) (vs : List AV) (H : Hp) : Option AV :=
  match b, ts, vs with
  | .len, [t], [x] => lenA P t x H
  | .cap, [t], [x] => capA P t x
  | .min, _, [.int k a, .int k' b] => if k = k' then some (.int k (minI a b)) else none
  | .max, _, [.int k a, .int k' b] => if k = k' then some (.int k (maxI a b)) else none
  | .min, _, [.int k a, .int k' b, .int k'' c] => if k = k' ∧ k = k'' then some (.int k (minI (minI a b) c)) else none
  | .max, _, [.int k a, .int k' b, .int k'' c] => if k = k' ∧ k = k'' then some (.int k (maxI (maxI a b) c)) else none
  | _, _, _ => none

def mkFn (f : Fn) (a b : List AV) : Option AV :=
  match f with
  | .yield _ => none
  | f => some (.fn f a b)

def opV (P : Program) (op : Op) (T : Sl) (H : Hp) : Option AV :=
  match op with
  | .move x | .assign x => getO T x
  | .pick c a b => pickA (getO T c) (getO T a) (getO T b)
  | .build t ps => buildA (placesOf P t) (zeroA P t) (ps.toList.map fun p => (p.1, getO T p.2))
  | .load t a => one (getO T a) fun x => loadA (lay P t) x H
  | .nilCheck x => one (getO T x) nilA
  | .binOp op t x y _ => both (getO T x) (getO T y) (binA P op t)
  | .unOp op _ x => one (getO T x) (unA op)
  | .convert s d x => one (getO T x) fun v => convA P s d v H
  | .makeFunc fn first captured => both (getOs T first.toList) (getOs T captured.toList) (mkFn fn)
  | .slice t x lo hi mx => one (getO T x) fun v => sliceA P t v (lo.map (getO T)) (hi.map (getO T)) (mx.map (getO T))
  | .fieldAddr t x f => one (getO T x) fun v => fieldAddrA (fldOf P t f) v f
  | .field t x f => one (getO T x) fun v => fieldC (fldOf P t f) v f
  | .indexAddr t x i => both (getO T x) (getO T i) (indexAddrC (arrOf P t) (slcOf P t))
  | .index t x i => both (getO T x) (getO T i) (indexC P t (arrOf P t))
  | .extract x i => one (getO T x) fun v => extractA v i
  | .lookup t x i ok => both (getO T x) (getO T i) fun v k => lookA P t v k ok H
  | .call ⟨.builtin b, args, ts⟩ => one (getOs T args.toList) fun vs => builtA P b ts.toList vs H
  | _ => none

end Go.Y
