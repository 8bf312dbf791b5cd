/-
  The walk's rules: data.
-/
import Derived.Test.YtbkmhkeihbgcfaaYx
set_option linter.unusedVariables false
set_option linter.unusedSimpArgs false
namespace Go.Y

section
variable {T : Sl} {H : Hp} {n : Nat} {P : Program}
/-! ### Slots and operands -/
theorem getT_cons (t s : Nat) (v : AV) (r : Sl) : getT ((s, v) :: r) t = if t = s then some v else getT r t := rfl
theorem putT_some (d : Nat) (v : AV) : putT T (some d) v = (d, v) :: T := rfl
theorem putT_none (v : AV) : putT T none v = T := rfl
theorem trimT_some (l : List Nat) : trimT (some l) T = keepT l T := rfl
theorem trimT_none : trimT none T = T := rfl
theorem keepT_nil : keepT [] T = [] := rfl
def consT (t : Nat) (x : Option AV) (r : Sl) : Sl :=
  match x with
  | some v => (t, v) :: r
  | none => r
theorem keepT_cons (t : Nat) (r : List Nat) : keepT (t :: r) T = consT t (getT T t) (keepT r T) := by
  unfold consT
  rw [keepT]
  cases getT T t <;> rfl
theorem consT_some (t : Nat) (v : AV) (r : Sl) : consT t (some v) r = (t, v) :: r := rfl
theorem consT_none (t : Nat) (r : Sl) : consT t none r = r := rfl
theorem getT_nil (t : Nat) : getT [] t = none := rfl

theorem getO_tmp (t : Nat) : getO T (.tmp t) = getT T t := rfl
theorem getO_const (v : Value) : getO T (.const v) = ofC v := rfl
theorem getO_func (f : Nat) : getO T (.func f) = some (.fn (.func f) [] []) := rfl
theorem ofC_int (k : IntKind) (n : Int) : ofC (.int k n) = some (.int k n) := rfl
theorem ofC_bool (b : Bool) : ofC (.bool b) = some (.bool b) := rfl
theorem ofC_ptr : ofC (.pointer none) = some .nilp := rfl
theorem ofC_slc : ofC (.slice none 0 0) = some .nils := rfl
theorem ofC_map : ofC (.map none) = some .nilm := rfl
theorem ofC_fn : ofC .nilFunc = some .nilf := rfl
theorem getOs_nil : getOs T [] = some [] := rfl
def consO (x : Option AV) (l : Option (List AV)) : Option (List AV) :=
  match x, l with
  | some v, some l => some (v :: l)
  | _, _ => none
theorem getOs_cons (x : Operand) (r : List Operand) : getOs T (x :: r) = consO (getO T x) (getOs T r) := by
  unfold getOs consO
  simp only [List.map_cons]
  generalize getO T x = a
  generalize r.map (getO T) = l
  cases a with
  | none => rfl
  | some a => simp only [seqO]; cases seqO l <;> rfl
theorem consO_some (v : AV) (l : List AV) : consO (some v) (some l) = some (v :: l) := rfl
def guardO (T : Sl) (o : Option Oper) : Option AV :=
  match o with
  | some ⟨some d, _, _, _, _, _⟩ => getT T d
  | _ => none
theorem guardT_eq (ops : List Oper) (j : Nat) : guardT ops T j = guardO T ops[j]? := by
  unfold guardT guardO
  cases ops[j]? with
  | none => rfl
  | some o => obtain ⟨d, op, ty, pos, af, g⟩ := o; cases d <;> rfl
theorem guardO_some (d : Nat) (op : Op) (ty : TypeId) (pos : String) (af : Array Edge) (g : Option (Nat × Bool)) : guardO T (some ⟨some d, op, ty, pos, af, g⟩) = getT T d := rfl
theorem wantA_none (ops : List Oper) : wantA ops T none = some true := rfl
def wantO (x : Option AV) (w : Bool) : Option Bool :=
  match x with
  | some (.bool b) => some (b == w)
  | some (.tup []) => some false
  | _ => none
theorem wantA_some (ops : List Oper) (j : Nat) (w : Bool) : wantA ops T (some (j, w)) = wantO (guardT ops T j) w := rfl
theorem wantO_tup (w : Bool) : wantO (some (.tup [])) w = some false := rfl
theorem wantO_tt : wantO (some (.bool true)) true = some true := rfl
theorem wantO_ff : wantO (some (.bool false)) false = some true := rfl
theorem wantO_tf : wantO (some (.bool true)) false = some false := rfl
theorem wantO_ft : wantO (some (.bool false)) true = some false := rfl

/-! ### The heap -/
theorem hget_cons (k c : Nat) (x : Ent) (r : Hp) : hget k ((c, x) :: r) = if k = c then some x else hget k r := rfl
theorem hset_cons (k c : Nat) (x y : Ent) (r : Hp) : hset k x ((c, y) :: r) = if k = c then (c, x) :: r else (c, y) :: hset k x r := rfl
theorem hdel_cons (k c : Nat) (y : Ent) (r : Hp) : hdel k ((c, y) :: r) = if k = c then r else (c, y) :: hdel k r := rfl
theorem memb_nil (x : Nat) : memb x [] = false := rfl
theorem memb_cons (x y : Nat) (r : List Nat) : memb x (y :: r) = if x = y then true else memb x r := rfl
theorem hideH_cons (ks : List Nat) (k : Nat) (e : Ent) (r : Hp) : hideH ks ((k, e) :: r) = if memb k ks = true then hideH ks r else (k, e) :: hideH ks r := rfl
theorem showH_cons (ks : List Nat) (k : Nat) (e : Ent) (r : Hp) : showH ks ((k, e) :: r) = if memb k ks = true then (k, e) :: showH ks r else showH ks r := rfl
theorem hideH_none (ks : List Nat) : hideH ks [] = [] := rfl
theorem showH_none (ks : List Nat) : showH ks [] = [] := rfl
theorem showH_nil : ∀ H : Hp, showH [] H = []
  | [] => rfl
  | (c, x) :: r => by simp only [showH, memb, Bool.false_eq_true, if_false, showH_nil r]
theorem outs_nil (base : Nat) : outs base [] = [] := rfl
theorem outs_cons (base j : Nat) (l : List Nat) : outs base (j :: l) = (base + j) :: outs base l := rfl
theorem app_nil (H : Hp) : H ++ ([] : Hp) = H := List.append_nil H
theorem nil_app (H : Hp) : ([] : Hp) ++ H = H := rfl
theorem cons_app (x : Nat × Ent) (r H : Hp) : (x :: r) ++ H = x :: (r ++ H) := rfl
theorem dropO_some (k : Nat) : dropO (some k) H = hdel k H := rfl
theorem dropO_none : dropO none H = H := rfl
theorem rowOf_cons (i : Nat) (j : Nat) (eff : Bool) (an chk out : List Nat) (rid : Nat) (r : List Row) : rowOf (⟨j, eff, an, chk, out, rid⟩ :: r) i = if j = i then some ⟨j, eff, an, chk, out, rid⟩ else rowOf r i := rfl

/-! ### Integers -/
def wrapS (k : IntKind) (x : Int) : Int := k.wrap x
def topK : IntKind → Nat
  | .i8 => 127 | .i16 => 32767 | .i32 => 2147483647 | .i64 => 9223372036854775807
  | .u8 => 255 | .u16 => 65535 | .u32 => 4294967295 | .u64 => 18446744073709551615
def botK : IntKind → Nat
  | .i8 => 128 | .i16 => 32768 | .i32 => 2147483648 | .i64 => 9223372036854775808
  | _ => 0
theorem wrap64 {x : Int} (h : -9223372036854775808 ≤ x ∧ x ≤ 9223372036854775807) : IntKind.wrap .i64 x = x := by
  simp [IntKind.wrap, IntKind.signed, IntKind.bits]; omega
theorem wrap32 {x : Int} (h : -2147483648 ≤ x ∧ x ≤ 2147483647) : IntKind.wrap .i32 x = x := by
  simp [IntKind.wrap, IntKind.signed, IntKind.bits]; omega
theorem wrapu8 {x : Int} (h : 0 ≤ x ∧ x ≤ 255) : IntKind.wrap .u8 x = x := by
  simp [IntKind.wrap, IntKind.signed, IntKind.bits]; omega
theorem wrapu16 {x : Int} (h : 0 ≤ x ∧ x ≤ 65535) : IntKind.wrap .u16 x = x := by
  simp [IntKind.wrap, IntKind.signed, IntKind.bits]; omega
theorem wrapu32 {x : Int} (h : 0 ≤ x ∧ x ≤ 4294967295) : IntKind.wrap .u32 x = x := by
  simp [IntKind.wrap, IntKind.signed, IntKind.bits]; omega
theorem wrapu64 {x : Int} (h : 0 ≤ x ∧ x ≤ 18446744073709551615) : IntKind.wrap .u64 x = x := by
  simp [IntKind.wrap, IntKind.signed, IntKind.bits]; omega
/-- A literal that is of its kind. -/
theorem wrap_lit (k : IntKind) (n : Nat) : IntKind.wrap k (OfNat.ofNat n) = if (OfNat.ofNat n : Nat) ≤ topK k then OfNat.ofNat n else wrapS k (OfNat.ofNat n) := by
  unfold wrapS
  split
  · rename_i h
    change n ≤ topK k at h
    show IntKind.wrap k (n : Int) = (n : Int)
    cases k <;> simp [IntKind.wrap, IntKind.signed, IntKind.bits, topK] at h ⊢ <;> omega
  · rfl
theorem wrap_neg (k : IntKind) (n : Nat) : IntKind.wrap k (-OfNat.ofNat n) = if (OfNat.ofNat n : Nat) ≤ botK k then -OfNat.ofNat n else wrapS k (-OfNat.ofNat n) := by
  unfold wrapS
  split
  · rename_i h
    change n ≤ botK k at h
    show IntKind.wrap k (-(n : Int)) = -(n : Int)
    cases k <;> simp [IntKind.wrap, IntKind.signed, IntKind.bits, botK] at h ⊢ <;> omega
  · rfl
theorem top_i8 : topK .i8 = 127 := rfl
theorem bot_i8 : botK .i8 = 128 := rfl
theorem top_i16 : topK .i16 = 32767 := rfl
theorem bot_i16 : botK .i16 = 32768 := rfl
theorem top_i32 : topK .i32 = 2147483647 := rfl
theorem bot_i32 : botK .i32 = 2147483648 := rfl
theorem top_i64 : topK .i64 = 9223372036854775807 := rfl
theorem bot_i64 : botK .i64 = 9223372036854775808 := rfl
theorem top_u8 : topK .u8 = 255 := rfl
theorem bot_u8 : botK .u8 = 0 := rfl
theorem top_u16 : topK .u16 = 65535 := rfl
theorem bot_u16 : botK .u16 = 0 := rfl
theorem top_u32 : topK .u32 = 4294967295 := rfl
theorem bot_u32 : botK .u32 = 0 := rfl
theorem top_u64 : topK .u64 = 18446744073709551615 := rfl
theorem bot_u64 : botK .u64 = 0 := rfl
theorem bits_i8 : IntKind.bits .i8 = 8 := rfl
theorem bits_u8 : IntKind.bits .u8 = 8 := rfl
theorem bits_i16 : IntKind.bits .i16 = 16 := rfl
theorem bits_u16 : IntKind.bits .u16 = 16 := rfl
theorem bits_i32 : IntKind.bits .i32 = 32 := rfl
theorem bits_u32 : IntKind.bits .u32 = 32 := rfl
theorem bits_i64 : IntKind.bits .i64 = 64 := rfl
theorem bits_u64 : IntKind.bits .u64 = 64 := rfl
theorem cast_lit (n : Nat) : ((OfNat.ofNat n : Nat) : Int) = OfNat.ofNat n := rfl
theorem toNat_lit (n : Nat) : Int.toNat (OfNat.ofNat n) = OfNat.ofNat n := rfl
theorem get_zero {α : Type} (x : α) (l : List α) : (x :: l)[0]? = some x := rfl
theorem get_succ {α : Type} (x : α) (l : List α) (n : Nat) : (x :: l)[n + 1]? = l[n]? := rfl
theorem take_zero {α : Type} (l : List α) : l.take 0 = [] := rfl
theorem take_succ {α : Type} (x : α) (l : List α) (n : Nat) : (x :: l).take (n + 1) = x :: l.take n := rfl
theorem set_zero {α : Type} (x y : α) (l : List α) : (x :: l).set 0 y = y :: l := rfl
theorem set_succ {α : Type} (x y : α) (l : List α) (n : Nat) : (x :: l).set (n + 1) y = x :: l.set n y := rfl
theorem length_nil {α : Type} : ([] : List α).length = 0 := rfl
theorem length_cons {α : Type} (x : α) (l : List α) : (x :: l).length = l.length + 1 := rfl
theorem length_set {α : Type} (l : List α) (n : Nat) (y : α) : (l.set n y).length = l.length := List.length_set
theorem append_nil {α : Type} (l : List α) : l ++ [] = l := List.append_nil l
theorem nil_append {α : Type} (l : List α) : [] ++ l = l := rfl
theorem cons_append {α : Type} (x : α) (l m : List α) : (x :: l) ++ m = x :: (l ++ m) := rfl
theorem toList_arr {α : Type} (l : List α) : l.toArray.toList = l := rfl
theorem rep_zero {α : Type} (x : α) : List.replicate 0 x = [] := rfl
theorem rep_succ {α : Type} (x : α) (n : Nat) : List.replicate (n + 1) x = x :: List.replicate n x := rfl
theorem bnot_true : (!true) = false := rfl
theorem bnot_false : (!false) = true := rfl
theorem band_true (b : Bool) : (true && b) = b := rfl
theorem band_false (b : Bool) : (false && b) = false := rfl
theorem beq_tt : (true == true) = true := rfl
theorem beq_ff : (false == false) = true := rfl
theorem beq_tf : (true == false) = false := rfl
theorem beq_ft : (false == true) = false := rfl
theorem beq_nat (a b : Nat) : (a == b) = if a = b then true else false := by
  split
  · rename_i h; subst h; simp
  · rename_i h; simp [h]
theorem beq_int (a b : Int) : (a == b) = if a = b then true else false := by
  split
  · rename_i h; subst h; simp
  · rename_i h; simp [h]
theorem bne_nat (a b : Nat) : (a != b) = if a = b then false else true := by
  split
  · rename_i h; subst h; simp
  · rename_i h; simp [h]
theorem map_some {α β : Type} (f : α → β) (x : α) : Option.map f (some x) = some (f x) := rfl
theorem map_none {α β : Type} (f : α → β) : Option.map f none = none := rfl
theorem true_eq_false : (true = false) = False := by simp
theorem false_eq_true : (false = true) = False := by simp
theorem true_eq_true : (true = true) = True := by simp

theorem fbody_mk (name origin : String) (targs params rt : Array TypeId) (nfree ntmps : Nat) (results : Array ResultVar) (body : Option Code) (nr ours : Bool) (file : String) (el : Nat) (ln : Option Nat) (met : List Departure) (tn : Array String) :
    Func.body ⟨name, origin, targs, params, rt, nfree, ntmps, results, body, nr, ours, file, el, ln, met, tn⟩ = body := rfl
theorem fresults_mk (name origin : String) (targs params rt : Array TypeId) (nfree ntmps : Nat) (results : Array ResultVar) (body : Option Code) (nr ours : Bool) (file : String) (el : Nat) (ln : Option Nat) (met : List Departure) (tn : Array String) :
    Func.results ⟨name, origin, targs, params, rt, nfree, ntmps, results, body, nr, ours, file, el, ln, met, tn⟩ = results := rfl
theorem getD_some {α : Type} (x d : α) : Option.getD (some x) d = x := rfl

/-! ### Values -/
def bol {α : Type} (b : Bool) (x : Option α) : Option α := if b = true then x else none
theorem bol_true {α : Type} (x : Option α) : bol true x = x := rfl
section
variable (t : TypeId) (k k' : IntKind) (a b : Int)
theorem binO_some (op : BinOp) (x y : AV) : binO P op t (some x) (some y) = binA P op t x y := rfl
theorem bin_add : binA P .add t (.int k a) (.int k b) = some (.int k (k.wrap (a + b))) := by simp [binA, intF]
theorem bin_sub : binA P .sub t (.int k a) (.int k b) = some (.int k (k.wrap (a - b))) := by simp [binA, intF]
theorem bin_mul : binA P .mul t (.int k a) (.int k b) = some (.int k (k.wrap (a * b))) := by simp [binA, intF]
/-- Quotient and rest (the names hold no function that the rewriting reads itself). -/
def quoI (a b : Int) : Int := a.tdiv b
def remI (a b : Int) : Int := a.tmod b
def shrI (a : Int) (n : Nat) : Int := a.fdiv (2 ^ n)
theorem quo_lit (m n : Nat) : quoI (OfNat.ofNat m) (OfNat.ofNat n) = Int.tdiv (OfNat.ofNat m) (OfNat.ofNat n) := rfl
theorem quo_neg (m n : Nat) : quoI (-OfNat.ofNat m) (OfNat.ofNat n) = Int.tdiv (-OfNat.ofNat m) (OfNat.ofNat n) := rfl
theorem rem_lit (m n : Nat) : remI (OfNat.ofNat m) (OfNat.ofNat n) = Int.tmod (OfNat.ofNat m) (OfNat.ofNat n) := rfl
theorem rem_neg (m n : Nat) : remI (-OfNat.ofNat m) (OfNat.ofNat n) = Int.tmod (-OfNat.ofNat m) (OfNat.ofNat n) := rfl
theorem shr_lit (m n : Nat) : shrI (OfNat.ofNat m) (OfNat.ofNat n) = Int.tdiv (OfNat.ofNat m) (2 ^ (OfNat.ofNat n : Nat)) := by
  show ((m : Int)).fdiv (2 ^ n) = ((m : Int)).tdiv (2 ^ n)
  rw [Int.tdiv_eq_ediv_of_nonneg (by omega), Int.fdiv_eq_ediv_of_nonneg _ (by exact Int.pow_nonneg (by omega))]
theorem bin_quo : binA P .quo t (.int k a) (.int k b) = if b = 0 then none else some (.int k (k.wrap (quoI a b))) := by simp [binA, intF, quoI]
theorem bin_rem : binA P .rem t (.int k a) (.int k b) = if b = 0 then none else some (.int k (remI a b)) := by simp [binA, intF, remI]
theorem bin_eql : binA P .eql t (.int k a) (.int k b) = some (.bool (if a = b then true else false)) := by simp [binA, intF]
theorem bin_neq : binA P .neq t (.int k a) (.int k b) = some (.bool (if a = b then false else true)) := by simp [binA, intF]
theorem bin_lss : binA P .lss t (.int k a) (.int k b) = some (.bool (if a < b then true else false)) := by simp [binA, intF]
theorem bin_leq : binA P .leq t (.int k a) (.int k b) = some (.bool (if a ≤ b then true else false)) := by simp [binA, intF]
theorem bin_gtr : binA P .gtr t (.int k a) (.int k b) = some (.bool (if b < a then true else false)) := by simp [binA, intF]
theorem bin_geq : binA P .geq t (.int k a) (.int k b) = some (.bool (if b ≤ a then true else false)) := by simp [binA, intF]
def bitI (op : BinOp) (k : IntKind) (a b : Int) : Int := (bitsF op k a b).getD 0
theorem bin_and : binA P .and t (.int k a) (.int k b) = some (.int k (bitI .and k a b)) := by simp [binA, intF, bitsF, bitI]
theorem bin_or : binA P .or t (.int k a) (.int k b) = some (.int k (bitI .or k a b)) := by simp [binA, intF, bitsF, bitI]
theorem bin_xor : binA P .xor t (.int k a) (.int k b) = some (.int k (bitI .xor k a b)) := by simp [binA, intF, bitsF, bitI]
theorem bin_andNot : binA P .andNot t (.int k a) (.int k b) = some (.int k (bitI .andNot k a b)) := by simp [binA, intF, bitsF, bitI]
theorem bin_shl : binA P .shl t (.int k a) (.int k' b) = if b < 0 then none else some (.int k (k.wrap (a * 2 ^ min b.toNat k.bits))) := rfl
theorem bin_shr : binA P .shr t (.int k a) (.int k' b) = if b < 0 then none else some (.int k (shrI a (min b.toNat k.bits))) := rfl
theorem bin_beql (a b : Bool) : binA P .eql t (.bool a) (.bool b) = bol (isBoolTy P t) (some (.bool (a == b))) := rfl
theorem bin_bneq (a b : Bool) : binA P .neq t (.bool a) (.bool b) = bol (isBoolTy P t) (some (.bool (!(a == b)))) := rfl
theorem bin_seql (a b : List UInt8) : binA P .eql t (.str a) (.str b) = bol (isStrTy P t) (some (.bool (a == b))) := rfl
theorem bin_sneq (a b : List UInt8) : binA P .neq t (.str a) (.str b) = bol (isStrTy P t) (some (.bool (!(a == b)))) := rfl
def eqO (neg : Bool) (x : Option Bool) : Option AV :=
  match x with
  | some b => some (.bool (if neg = true then !b else b))
  | none => none
theorem eqO_eq (b : Bool) : eqO false (some b) = some (.bool b) := rfl
theorem eqO_ne (b : Bool) : eqO true (some b) = some (.bool (!b)) := rfl
theorem bin_aeql (l m : List AV) : binA P .eql t (.agg l) (.agg m) = eqO false (aggEq P t (flatL l) (flatL m)) := by
  simp only [binA]; cases aggEq P t (flatL l) (flatL m) <;> rfl
theorem bin_aneq (l m : List AV) : binA P .neq t (.agg l) (.agg m) = eqO true (aggEq P t (flatL l) (flatL m)) := by
  simp only [binA]; cases aggEq P t (flatL l) (flatL m) <;> rfl
theorem bin_reql (i j : Nat) (l m : List AV) : binA P .eql t (.rows i l) (.rows j m) = eqO false (aggEq P t (flatL l) (flatL m)) := by
  simp only [binA]; cases aggEq P t (flatL l) (flatL m) <;> rfl
theorem bin_rneq (i j : Nat) (l m : List AV) : binA P .neq t (.rows i l) (.rows j m) = eqO true (aggEq P t (flatL l) (flatL m)) := by
  simp only [binA]; cases aggEq P t (flatL l) (flatL m) <;> rfl
theorem aggEq_some (xs ys : List Value) : aggEq P t (some xs) (some ys) = eqAgg P t xs ys := rfl
def appV (x y : Option (List Value)) : Option (List Value) :=
  match x, y with
  | some x, some y => some (x ++ y)
  | _, _ => none
theorem flatL_nil : flatL [] = some [] := rfl
theorem flatL_cons (v : AV) (r : List AV) : flatL (v :: r) = appV (flatV v) (flatL r) := rfl
theorem appV_some (x y : List Value) : appV (some x) (some y) = some (x ++ y) := rfl
theorem flatV_int : flatV (.int k a) = some [.int k a] := rfl
theorem flatV_bool (b : Bool) : flatV (.bool b) = some [.bool b] := rfl
theorem flatV_agg (l : List AV) : flatV (.agg l) = flatL l := rfl
theorem flatV_rows (i : Nat) (l : List AV) : flatV (.rows i l) = flatL l := rfl
theorem bin_feql (f : Nat) (x y : List AV) : binA P .eql t (.fn (.func f) x y) .nilf = bol (isFuncTy P t) (some (.bool false)) := rfl
theorem bin_fneq (f : Nat) (x y : List AV) : binA P .neq t (.fn (.func f) x y) .nilf = bol (isFuncTy P t) (some (.bool true)) := rfl
theorem bin_nfeql : binA P .eql t .nilf .nilf = bol (isFuncTy P t) (some (.bool true)) := rfl
theorem bin_nfneq : binA P .neq t .nilf .nilf = bol (isFuncTy P t) (some (.bool false)) := rfl
theorem bin_peql (c i : Nat) (p : List PE) : binA P .eql t (.ptr c i p) .nilp = bol (isPtrTy P t) (some (.bool false)) := rfl
theorem bin_pneq (c i : Nat) (p : List PE) : binA P .neq t (.ptr c i p) .nilp = bol (isPtrTy P t) (some (.bool true)) := rfl
theorem bin_npeql : binA P .eql t .nilp .nilp = bol (isPtrTy P t) (some (.bool true)) := rfl
theorem bin_npneq : binA P .neq t .nilp .nilp = bol (isPtrTy P t) (some (.bool false)) := rfl
theorem unO_some (op : UnOp) (x : AV) : unO op (some x) = unA op x := rfl
theorem un_not (b : Bool) : unA .not (.bool b) = some (.bool !b) := rfl
theorem un_neg : unA .neg (.int k a) = some (.int k (k.wrap (0 - a))) := rfl
theorem convO_some (s d : TypeId) (x : AV) : convO P s d (some x) H = convA P s d x H := rfl
def cvI (h : Bool) (k : Option IntKind) (a : Int) : Option AV :=
  match h, k with
  | true, some k => some (.int k (k.wrap a))
  | _, _ => none
theorem conv_int (s d : TypeId) : convA P s d (.int k a) H = cvI (hasTy P s) (intOf P d) a := by
  simp only [convA, cvI]; cases hasTy P s <;> cases intOf P d <;> rfl
theorem cvI_some : cvI true (some k) a = some (.int k (k.wrap a)) := rfl
end
theorem pickA_true (a b : Option AV) : pickA (some (.bool true)) a b = a := rfl
theorem pickA_false (a b : Option AV) : pickA (some (.bool false)) a b = b := rfl
theorem nilO_some (x : AV) : nilO (some x) = nilA x := rfl
theorem nilA_ptr (k i : Nat) (p : List PE) : nilA (.ptr k i p) = some (.ptr k i p) := rfl
theorem nilA_fn (f : Nat) (a b : List AV) : nilA (.fn (.func f) a b) = some (.fn (.func f) a b) := rfl
theorem nilA_yld (k : Nat) : nilA (.yld k) = some (.yld k) := rfl
theorem nilA_map (k : Nat) : nilA (.map k) = some (.map k) := rfl
theorem nilA_slc (k i : Nat) (p : List PE) (n a s len cap : Nat) : nilA (.slc k i p n a s len cap) = some (.slc k i p n a s len cap) := rfl
theorem exO_some (x : AV) (i : Nat) : exO (some x) i = extractA x i := rfl
theorem ext_tup (l : List AV) (i : Nat) : extractA (.tup l) i = l[i]? := rfl
theorem mkFnO_some (f : Nat) (a b : List AV) : mkFnO (.func f) (some a) (some b) = some (.fn (.func f) a b) := rfl

/-! ### Sizes -/
theorem size_int (k : IntKind) (a : Int) : (AV.int k a).size = 1 := rfl
theorem size_bool (b : Bool) : (AV.bool b).size = 1 := rfl
theorem size_str (s : List UInt8) : (AV.str s).size = 1 := rfl
theorem size_ptr (k i : Nat) (p : List PE) : (AV.ptr k i p).size = 1 := rfl
theorem size_nilp : AV.nilp.size = 1 := rfl
theorem size_slc (k i : Nat) (p : List PE) (n a s len cap : Nat) : (AV.slc k i p n a s len cap).size = 1 := rfl
theorem size_nils : AV.nils.size = 1 := rfl
theorem size_map (k : Nat) : (AV.map k).size = 1 := rfl
theorem size_nilm : AV.nilm.size = 1 := rfl
theorem size_fn (f : Fn) (a b : List AV) : (AV.fn f a b).size = 1 := rfl
theorem size_yld (k : Nat) : (AV.yld k).size = 1 := rfl
theorem size_nilf : AV.nilf.size = 1 := rfl
theorem size_agg (l : List AV) : (AV.agg l).size = sizeL l := rfl
theorem size_rows (n : Nat) (l : List AV) : (AV.rows n l).size = sizeL l := rfl
theorem sizeL_nil : sizeL [] = 0 := rfl
theorem sizeL_cons (v : AV) (r : List AV) : sizeL (v :: r) = v.size + sizeL r := rfl
/-- Is a value a row; a tuple. -/
theorem layOK_int (n : Nat) (k : IntKind) (x : Int) (a : Bool) : layOK (some (a, n)) (.int k x) = (!a && n == 1) := by cases a <;> simp [layOK, AV.isAgg, AV.size, AV.isTup] <;> (rw [Bool.eq_iff_iff]; simp; omega)
theorem layOK_bool (n : Nat) (x : Bool) (a : Bool) : layOK (some (a, n)) (.bool x) = (!a && n == 1) := by cases a <;> simp [layOK, AV.isAgg, AV.size, AV.isTup] <;> (rw [Bool.eq_iff_iff]; simp; omega)
theorem layOK_str (n : Nat) (s : List UInt8) (a : Bool) : layOK (some (a, n)) (.str s) = (!a && n == 1) := by cases a <;> simp [layOK, AV.isAgg, AV.size, AV.isTup] <;> (rw [Bool.eq_iff_iff]; simp; omega)
theorem layOK_ptr (n k i : Nat) (p : List PE) (a : Bool) : layOK (some (a, n)) (.ptr k i p) = (!a && n == 1) := by cases a <;> simp [layOK, AV.isAgg, AV.size, AV.isTup] <;> (rw [Bool.eq_iff_iff]; simp; omega)
theorem layOK_nilp (n : Nat) (a : Bool) : layOK (some (a, n)) .nilp = (!a && n == 1) := by cases a <;> simp [layOK, AV.isAgg, AV.size, AV.isTup] <;> (rw [Bool.eq_iff_iff]; simp; omega)
theorem layOK_slc (m k i : Nat) (p : List PE) (n x s len cap : Nat) (a : Bool) : layOK (some (a, m)) (.slc k i p n x s len cap) = (!a && m == 1) := by cases a <;> simp [layOK, AV.isAgg, AV.size, AV.isTup] <;> (rw [Bool.eq_iff_iff]; simp; omega)
theorem layOK_nils (n : Nat) (a : Bool) : layOK (some (a, n)) .nils = (!a && n == 1) := by cases a <;> simp [layOK, AV.isAgg, AV.size, AV.isTup] <;> (rw [Bool.eq_iff_iff]; simp; omega)
theorem layOK_map (n k : Nat) (a : Bool) : layOK (some (a, n)) (.map k) = (!a && n == 1) := by cases a <;> simp [layOK, AV.isAgg, AV.size, AV.isTup] <;> (rw [Bool.eq_iff_iff]; simp; omega)
theorem layOK_nilm (n : Nat) (a : Bool) : layOK (some (a, n)) .nilm = (!a && n == 1) := by cases a <;> simp [layOK, AV.isAgg, AV.size, AV.isTup] <;> (rw [Bool.eq_iff_iff]; simp; omega)
theorem layOK_fn (n : Nat) (f : Fn) (x y : List AV) (a : Bool) : layOK (some (a, n)) (.fn f x y) = (!a && n == 1) := by cases a <;> simp [layOK, AV.isAgg, AV.size, AV.isTup] <;> (rw [Bool.eq_iff_iff]; simp; omega)
theorem layOK_yld (n k : Nat) (a : Bool) : layOK (some (a, n)) (.yld k) = (!a && n == 1) := by cases a <;> simp [layOK, AV.isAgg, AV.size, AV.isTup] <;> (rw [Bool.eq_iff_iff]; simp; omega)
theorem layOK_nilf (n : Nat) (a : Bool) : layOK (some (a, n)) .nilf = (!a && n == 1) := by cases a <;> simp [layOK, AV.isAgg, AV.size, AV.isTup] <;> (rw [Bool.eq_iff_iff]; simp; omega)
theorem layOK_agg (n : Nat) (l : List AV) (a : Bool) : layOK (some (a, n)) (.agg l) = (a && (sizeL l == n && n != 0)) := by cases a <;> simp [layOK, AV.isAgg, AV.size, AV.isTup]
theorem layOK_rows (n m : Nat) (l : List AV) (a : Bool) : layOK (some (a, n)) (.rows m l) = (a && (sizeL l == n && n != 0)) := by cases a <;> simp [layOK, AV.isAgg, AV.size, AV.isTup]
theorem isTup_int (k : IntKind) (a : Int) : (AV.int k a).isTup = false := rfl
theorem isTup_bool (b : Bool) : (AV.bool b).isTup = false := rfl
theorem isTup_str (s : List UInt8) : (AV.str s).isTup = false := rfl
theorem isTup_ptr (k i : Nat) (p : List PE) : (AV.ptr k i p).isTup = false := rfl
theorem isTup_nilp : AV.nilp.isTup = false := rfl
theorem isTup_slc (k i : Nat) (p : List PE) (n a s len cap : Nat) : (AV.slc k i p n a s len cap).isTup = false := rfl
theorem isTup_nils : AV.nils.isTup = false := rfl
theorem isTup_map (k : Nat) : (AV.map k).isTup = false := rfl
theorem isTup_nilm : AV.nilm.isTup = false := rfl
theorem isTup_fn (f : Fn) (a b : List AV) : (AV.fn f a b).isTup = false := rfl
theorem isTup_yld (k : Nat) : (AV.yld k).isTup = false := rfl
theorem isTup_nilf : AV.nilf.isTup = false := rfl
theorem isTup_agg (l : List AV) : (AV.agg l).isTup = false := rfl
theorem isTup_rows (n : Nat) (l : List AV) : (AV.rows n l).isTup = false := rfl

/-! ### Into a value, and a heap -/
theorem getP_nil (v : AV) : getP v [] = some v := rfl
def getS (x : Option AV) (p : List PE) : Option AV :=
  match x with
  | some u => getP u p
  | none => none
theorem getP_cons (v : AV) (e : PE) (p : List PE) : getP v (e :: p) = getS (stepP v e) p := by
  unfold getS; rw [getP]; cases stepP v e <;> rfl
theorem getS_some (u : AV) (p : List PE) : getS (some u) p = getP u p := rfl
theorem stepP_agg (l : List AV) (f off : Nat) : stepP (.agg l) (.fld f off) = if sizeL (l.take f) = off then l[f]? else none := rfl
theorem stepP_rows (sz : Nat) (l : List AV) (i n : Nat) : stepP (.rows sz l) (.idx i n) = if sz = n then l[i]? else none := rfl
theorem putP_nil (v x : AV) : putP v [] x = if v.size = x.size ∧ x.isTup = false then some x else none := rfl
def putU (v : AV) (e : PE) (x : Option AV) : Option AV :=
  match x with
  | some u => some (setS v e u)
  | none => none
def putS (v : AV) (e : PE) (u : Option AV) (p : List PE) (x : AV) : Option AV :=
  match u with
  | some u => putU v e (putP u p x)
  | none => none
theorem putP_cons (v : AV) (e : PE) (p : List PE) (x : AV) : putP v (e :: p) x = putS v e (stepP v e) p x := by
  unfold putS putU
  rw [putP]
  cases stepP v e with
  | none => rfl
  | some u => dsimp only; cases putP u p x <;> rfl
theorem putS_some (v : AV) (e : PE) (u : AV) (p : List PE) (x : AV) : putS v e (some u) p x = putU v e (putP u p x) := rfl
theorem putU_some (v : AV) (e : PE) (u : AV) : putU v e (some u) = some (setS v e u) := rfl
theorem setS_agg (l : List AV) (f off : Nat) (u : AV) : setS (.agg l) (.fld f off) u = .agg (l.set f u) := rfl
theorem setS_rows (sz : Nat) (l : List AV) (i n : Nat) (u : AV) : setS (.rows sz l) (.idx i n) u = .rows sz (l.set i u) := rfl
theorem loadO_some (l : Option (Bool × Nat)) (x : AV) : loadO l (some x) H = loadA l x H := rfl
def loadE (l : Option (Bool × Nat)) (e : Option Ent) (i : Nat) (p : List PE) : Option AV :=
  match e with
  | some e => match e.tree i with
    | some v => chkL l (getP v p)
    | none => none
  | none => none
theorem loadA_ptr (l : Option (Bool × Nat)) (k i : Nat) (p : List PE) : loadA l (.ptr k i p) H = loadE l (hget k H) i p := by
  unfold loadA loadE
  dsimp only [ptrTree]
  generalize hget k H = x
  cases x with
  | none => rfl
  | some e => dsimp only; generalize e.tree i = y; cases y <;> rfl
theorem loadE_cel (l : Option (Bool × Nat)) (v : AV) (p : List PE) : loadE l (some (.cel v)) 0 p = chkL l (getP v p) := rfl
theorem loadE_vec (l : Option (Bool × Nat)) (cap n : Nat) (r : List AV) (p : List PE) : loadE l (some (.vec cap n r)) 0 p = chkL l (getP (.rows n r) p) := rfl
theorem loadE_ro (l : Option (Bool × Nat)) (f : Nat → AV) (i : Nat) (p : List PE) : loadE l (some (.ro f)) i p = chkL l (getP (f i) p) := rfl
theorem chkL_some (l : Option (Bool × Nat)) (v : AV) : chkL l (some v) = bol (layOK l v) (some v) := rfl
def storeE (k : Nat) (e : Option Ent) (i : Nat) (p : List PE) (v : AV) (H : Hp) : Option Hp :=
  match e with
  | some e => match e.tree i with
    | some u => storeB k e (putP u p v) H
    | none => none
  | none => none
def stH (x : Option Hp) : Option (AV × Hp) :=
  match x with
  | some H => some (.tup [], H)
  | none => none
theorem storeO_some (l : Option (Bool × Nat)) (x y : AV) : storeO l (some x) (some y) H = stH (storeA l x y H) := rfl
theorem stH_some (H : Hp) : stH (some H) = some (.tup [], H) := rfl
theorem storeA_ptr (l : Option (Bool × Nat)) (k i : Nat) (p : List PE) (v : AV) : storeA l (.ptr k i p) v H = bol (layOK l v) (storeE k (hget k H) i p v H) := by
  unfold storeA bol storeE
  dsimp only [ptrTree]
  split
  · generalize hget k H = x
    cases x with
    | none => rfl
    | some e => dsimp only; generalize e.tree i = y; cases y <;> rfl
  · rfl
theorem storeE_cel (k : Nat) (u : AV) (p : List PE) (v : AV) : storeE k (some (.cel u)) 0 p v H = storeB k (.cel u) (putP u p v) H := rfl
theorem storeE_vec (k cap n : Nat) (r : List AV) (p : List PE) (v : AV) : storeE k (some (.vec cap n r)) 0 p v H = storeB k (.vec cap n r) (putP (.rows n r) p v) H := rfl
theorem storeB_cel (k : Nat) (u v : AV) : storeB k (.cel u) (some v) H = some (hset k (.cel v) H) := rfl
theorem storeB_vec (k cap n m : Nat) (r l : List AV) : storeB k (.vec cap n r) (some (.rows m l)) H = if m = n ∧ l.length = r.length then some (hset k (.vec cap m l) H) else none := by
  unfold storeB
  dsimp only [Ent.setTree]
  split
  · rename_i e h
    split at h
    · cases h; rename_i hh; rw [if_pos hh]
    · cases h
  · rename_i h
    split at h
    · cases h
    · rename_i hh; rw [if_neg hh]

theorem faO_some (l : Option (Nat × Bool × Nat)) (x : AV) (f : Nat) : faO l (some x) f = fieldAddrA l x f := rfl
theorem fa_ptr (off n k i : Nat) (a : Bool) (p : List PE) (f : Nat) : fieldAddrA (some (off, a, n)) (.ptr k i p) f = if n = 0 then none else some (.ptr k i (p ++ [.fld f off])) := rfl
theorem fdO_some (l : Option (Nat × Bool × Nat)) (x : AV) (f : Nat) : fdO l (some x) f = fieldC l x f := rfl
def lkO (l : Option (Bool × Nat)) (x : Option AV) : Option AV :=
  match x with
  | some v => bol (layOK l v) (some v)
  | none => none
theorem lkO_some (l : Option (Bool × Nat)) (v : AV) : lkO l (some v) = bol (layOK l v) (some v) := rfl
theorem fd_agg (off n : Nat) (a : Bool) (vs : List AV) (f : Nat) : fieldC (some (off, a, n)) (.agg vs) f = if sizeL (vs.take f) = off then lkO (some (a, n)) vs[f]? else none := by
  unfold fieldC lkO
  dsimp only
  split
  · cases vs[f]? <;> rfl
  · rfl
theorem iaO_some (l : Option (Nat × Bool × Nat)) (s : Option (Bool × Nat)) (x y : AV) : iaO l s (some x) (some y) = indexAddrC l s x y := rfl
theorem ia_ptr (len n k i : Nat) (a : Bool) (s : Option (Bool × Nat)) (p : List PE) (kk : IntKind) (j : Int) : indexAddrC (some (len, a, n)) s (.ptr k i p) (.int kk j) = if 0 ≤ j ∧ j < len then some (.ptr k i (p ++ [.idx j.toNat n])) else none := rfl
theorem ia_slc (n m k i b st len cap : Nat) (a : Bool) (p : List PE) (kk : IntKind) (j : Int) : indexAddrC none (some (a, n)) (.slc k i p m b st len cap) (.int kk j) = if n = m then if 0 ≤ j ∧ j < len then some (.ptr k i (p ++ [.idx (st + j.toNat) n])) else none else none := rfl
theorem ixO_some (t : TypeId) (l : Option (Nat × Bool × Nat)) (x y : AV) : ixO P t l (some x) (some y) = indexC P t l x y := rfl
theorem ix_rows (t : TypeId) (len n sz : Nat) (a : Bool) (vs : List AV) (kk : IntKind) (j : Int) : indexC P t (some (len, a, n)) (.rows sz vs) (.int kk j) = if sz = n then if 0 ≤ j ∧ j < len then lkO (some (a, n)) vs[j.toNat]? else none else none := by
  unfold indexC lkO
  dsimp only
  split
  · split
    · cases vs[j.toNat]? <;> rfl
    · rfl
  · rfl
def chO (x : Option UInt8) : Option AV :=
  match x with
  | some c => some (.int .u8 c.toNat)
  | none => none
theorem ix_str (t : TypeId) (l : Option (Nat × Bool × Nat)) (s : List UInt8) (kk : IntKind) (j : Int) : indexC P t l (.str s) (.int kk j) = bol (isStrTy P t) (if 0 ≤ j ∧ j < s.length then chO s[j.toNat]? else none) := by
  unfold indexC bol chO
  dsimp only
  split
  · split
    · cases s[j.toNat]? <;> rfl
    · rfl
  · rfl
theorem chO_some (c : UInt8) : chO (some c) = some (.int .u8 c.toNat) := rfl

/-! ### New values and blocks -/
theorem newA_some (v : AV) (n : Nat) : newA (some v) n = bol (!v.isTup) (some (.ptr n 0 [], .cel v)) := by
  unfold newA bol; dsimp only; cases v.isTup <;> rfl
theorem partsO_nil : partsO T [] = [] := rfl
theorem partsO_cons (i : Nat) (x : Operand) (r : List (Nat × Operand)) : partsO T ((i, x) :: r) = (i, getO T x) :: partsO T r := rfl
def fillP (pl : List (Nat × Nat)) (v : AV) (ps : List (Nat × Option AV)) : Option AV := fillA (fun i => pl[i]?) v ps
def fillN (pl : List (Nat × Nat)) (v : Option AV) (ps : List (Nat × Option AV)) : Option AV :=
  match v with
  | some v => fillP pl v ps
  | none => none
theorem buildA_some (pl : List (Nat × Nat)) (z : AV) (ps : List (Nat × Option AV)) : buildA (some pl) (some z) ps = fillP pl z ps := rfl
theorem fillP_nil (pl : List (Nat × Nat)) (v : AV) : fillP pl v [] = some v := rfl
theorem fillP_cons (pl : List (Nat × Nat)) (v : AV) (i : Nat) (x : AV) (r : List (Nat × Option AV)) : fillP pl v ((i, some x) :: r) = fillN pl (setA v i pl[i]? x) r := by
  unfold fillP fillN
  rw [fillA]
  cases setA v i pl[i]? x <;> rfl
theorem fillN_some (pl : List (Nat × Nat)) (v : AV) (r : List (Nat × Option AV)) : fillN pl (some v) r = fillP pl v r := rfl
def setC (l : List AV) (i off sz : Nat) (x : AV) (u : Option AV) : Option AV :=
  match u with
  | some u => if u.size = sz ∧ sizeL (l.take i) = off then some (.agg (l.set i x)) else none
  | none => none
def setD (m : Nat) (l : List AV) (i off sz : Nat) (x : AV) (u : Option AV) : Option AV :=
  match u with
  | some u => if m = sz ∧ i * sz = off then some (.rows m (l.set i x)) else none
  | none => none
theorem setA_agg (l : List AV) (i off sz : Nat) (x : AV) : setA (.agg l) i (some (off, sz)) x = if x.size = sz ∧ x.isTup = false then setC l i off sz x l[i]? else none := by
  unfold setA setC
  dsimp only
  split
  · cases l[i]? <;> rfl
  · rfl
theorem setA_rows (m : Nat) (l : List AV) (i off sz : Nat) (x : AV) : setA (.rows m l) i (some (off, sz)) x = if x.size = sz ∧ x.isTup = false then setD m l i off sz x l[i]? else none := by
  unfold setA setD
  dsimp only
  split
  · cases l[i]? <;> rfl
  · rfl
theorem setC_some (l : List AV) (i off sz : Nat) (x u : AV) : setC l i off sz x (some u) = if u.size = sz ∧ sizeL (l.take i) = off then some (.agg (l.set i x)) else none := rfl
theorem setD_some (m : Nat) (l : List AV) (i off sz : Nat) (x u : AV) : setD m l i off sz x (some u) = if m = sz ∧ i * sz = off then some (.rows m (l.set i x)) else none := rfl
def fillQ (sz : Nat) (v : AV) (ps : List (Nat × Option AV)) : Option AV := fillA (fun i => some (i * sz, sz)) v ps
def fillM (sz : Nat) (v : Option AV) (ps : List (Nat × Option AV)) : Option AV :=
  match v with
  | some v => fillQ sz v ps
  | none => none
theorem fillQ_nil (sz : Nat) (v : AV) : fillQ sz v [] = some v := rfl
theorem fillQ_cons (sz : Nat) (v : AV) (i : Nat) (x : AV) (r : List (Nat × Option AV)) : fillQ sz v ((i, some x) :: r) = fillM sz (setA v i (some (i * sz, sz)) x) r := by
  unfold fillQ fillM
  rw [fillA]
  cases setA v i (some (i * sz, sz)) x <;> rfl
theorem fillM_some (sz : Nat) (v : AV) (r : List (Nat × Option AV)) : fillM sz (some v) r = fillQ sz v r := rfl
theorem fitZ_some (n : Nat) (z : AV) : fitZ n (some z) = (z.size == n && !z.isTup) := rfl
def bsO (n sz len : Nat) (x : Option AV) : Option (AV × Ent) :=
  match x with
  | some (.rows _ l) => some (.slc n 0 [] sz 0 0 len len, .vec len sz l)
  | _ => none
theorem bs_some (a : Bool) (sz : Nat) (z : AV) (len : Nat) (ps : List (Nat × Option AV)) (n : Nat) : buildSliceA (some (a, sz)) (some z) len ps n = if len * sz ≤ 16777216 ∧ (z.size == sz && !z.isTup) = true then bsO n sz len (fillQ sz (.rows sz (List.replicate len z)) ps) else none := by
  unfold buildSliceA bsO fillQ
  dsimp only
  rw [fitZ_some]
  rfl
theorem bsO_some (n sz len m : Nat) (l : List AV) : bsO n sz len (some (.rows m l)) = some (.slc n 0 [] sz 0 0 len len, .vec len sz l) := rfl
theorem msO_some (a : Bool) (sz : Nat) (z : AV) (by_ : Nat) (k k' : IntKind) (len cap : Int) (n : Nat) : msO (some (a, sz)) (some z) (some by_) (some (.int k len)) (some (.int k' cap)) n =
    if (0 ≤ len ∧ len ≤ cap ∧ by_ * cap ≤ 281474976710656 ∧ cap ≤ 9223372036854775807) ∧ (z.size == sz && !z.isTup) = true then some (.slc n 0 [] sz 0 0 len.toNat cap.toNat, .vec cap.toNat sz (List.replicate cap.toNat z)) else none := by
  unfold msO makeSliceA
  dsimp only
  rw [fitZ_some]
  simp only [and_assoc]

/-! ### Slices -/
theorem sliceO_some (t : TypeId) (x : AV) (lo hi mx : Option (Option AV)) : sliceO P t (some x) lo hi mx = sliceA P t x lo hi mx := rfl
def slO (s : Option (Bool × Nat)) (n : Nat) (x : Option AV) : Option AV :=
  match s with
  | some (_, n') => if n = n' then x else none
  | none => none
theorem slice_slc (t : TypeId) (k i : Nat) (p : List PE) (n a s len cap : Nat) (lo hi mx : Option (Option AV)) : sliceA P t (.slc k i p n a s len cap) lo hi mx = slO (slcOf P t) n (cutA (sliceB len cap lo hi mx) k i p n a s) := by
  unfold sliceA slO
  dsimp only
  cases slcOf P t <;> rfl
theorem slO_some (a : Bool) (n m : Nat) (x : Option AV) : slO (some (a, n)) m x = if m = n then x else none := rfl
def slN (s : Option (Bool × Nat)) (x : Option AV) : Option AV :=
  match s with
  | some _ => x
  | none => none
theorem slice_nils (t : TypeId) (lo hi mx : Option (Option AV)) : sliceA P t .nils lo hi mx = slN (slcOf P t) (cutN (sliceB 0 0 lo hi mx)) := by
  unfold sliceA slN
  dsimp only
  cases slcOf P t <;> rfl
theorem slN_some (q : Bool × Nat) (x : Option AV) : slN (some q) x = x := rfl
def slA (s : Option (Nat × Bool × Nat)) (k i : Nat) (p : List PE) (lo hi mx : Option (Option AV)) : Option AV :=
  match s with
  | some (len, _, n) => cutA (sliceB len len lo hi mx) k i p n 0 0
  | none => none
theorem slice_ptr (t : TypeId) (k i : Nat) (p : List PE) (lo hi mx : Option (Option AV)) : sliceA P t (.ptr k i p) lo hi mx = slA (arrOf P t) k i p lo hi mx := rfl
theorem slA_some (a : Bool) (len n k i : Nat) (p : List PE) (lo hi mx : Option (Option AV)) : slA (some (len, a, n)) k i p lo hi mx = cutA (sliceB len len lo hi mx) k i p n 0 0 := rfl
theorem cutA_some (l h m k i : Nat) (p : List PE) (n a s : Nat) : cutA (some (l, h, m)) k i p n a s = some (.slc k i p n (mv m l a) (s + l) (h - l) (m - l)) := rfl
theorem cutN_some (l h m : Nat) : cutN (some (l, h, m)) = some .nils := rfl
theorem cutS_some (l h m : Nat) (s : List UInt8) : cutS (some (l, h, m)) s = some (.str ((s.take h).drop l)) := rfl
def sbL (h m : Nat) (lo : Option (Option AV)) : Option (Nat × Nat × Nat) :=
  match bndO lo h 0 with
  | some l => some (l, h, m)
  | none => none
def sbH (m : Nat) (h : Option Nat) (lo : Option (Option AV)) : Option (Nat × Nat × Nat) :=
  match h with
  | some h => sbL h m lo
  | none => none
theorem sliceB_none (len cap : Nat) (lo : Option (Option AV)) : sliceB len cap lo none none = sbL len cap lo := by
  unfold sliceB sbL; rfl
theorem sliceB_hi (len cap : Nat) (lo : Option (Option AV)) (h : Option AV) : sliceB len cap lo (some h) none = sbH cap (bndA h cap) lo := by
  unfold sliceB sbH sbL
  dsimp only [bndO]
  cases bndA h cap <;> rfl
theorem sbH_some (m h : Nat) (lo : Option (Option AV)) : sbH m (some h) lo = sbL h m lo := rfl
theorem sbL_none (h m : Nat) : sbL h m none = some (0, h, m) := rfl
def sbX (h m : Nat) (l : Option Nat) : Option (Nat × Nat × Nat) :=
  match l with
  | some l => some (l, h, m)
  | none => none
theorem sbL_some (h m : Nat) (x : Option AV) : sbL h m (some x) = sbX h m (bndA x h) := by
  unfold sbL sbX
  dsimp only [bndO]
theorem sbX_some (h m l : Nat) : sbX h m (some l) = some (l, h, m) := rfl
theorem bndA_int (k : IntKind) (i : Int) (y : Nat) : bndA (some (.int k i)) y = if 0 ≤ i ∧ i ≤ y then some i.toNat else none := rfl
theorem mv_eq (m l a : Nat) : mv m l a = if m = l then a else a + l := rfl
theorem builtO_some (b : Builtin) (ts : List TypeId) (vs : List AV) : builtO P b ts (some vs) H = builtA P b ts vs H := rfl
theorem len_slc (t : TypeId) (k i : Nat) (p : List PE) (n a s len cap : Nat) : builtA P .len [t] [.slc k i p n a s len cap] H = slN (slcOf P t) (some (.int .i64 len)) := by
  unfold slN; simp only [builtA, lenA]; cases slcOf P t <;> rfl
theorem len_nils (t : TypeId) : builtA P .len [t] [.nils] H = slN (slcOf P t) (some (.int .i64 0)) := by
  unfold slN; simp only [builtA, lenA]; cases slcOf P t <;> rfl
theorem cap_slc (t : TypeId) (k i : Nat) (p : List PE) (n a s len cap : Nat) : builtA P .cap [t] [.slc k i p n a s len cap] H = slN (slcOf P t) (some (.int .i64 cap)) := by
  unfold slN; simp only [builtA, capA]; cases slcOf P t <;> rfl
theorem len_str (t : TypeId) (s : List UInt8) : builtA P .len [t] [.str s] H = bol (isStrTy P t) (some (.int .i64 s.length)) := rfl
def arN (s : Option (Nat × Bool × Nat)) : Option AV :=
  match s with
  | some (n, _, _) => some (.int .i64 n)
  | none => none
theorem len_rows (t : TypeId) (n : Nat) (l : List AV) : builtA P .len [t] [.rows n l] H = arN (arrOf P t) := by
  unfold arN; simp only [builtA, lenA]; cases arrOf P t <;> rfl
theorem arN_some (n m : Nat) (a : Bool) : arN (some (n, a, m)) = some (.int .i64 n) := rfl
theorem min_two (t u : TypeId) (k : IntKind) (a b : Int) : builtA P .min [t, u] [.int k a, .int k b] H = some (.int k (if b < a then b else a)) := by
  simp [builtA, minI]
theorem max_two (t u : TypeId) (k : IntKind) (a b : Int) : builtA P .max [t, u] [.int k a, .int k b] H = some (.int k (if a < b then b else a)) := by
  simp [builtA, maxI]

/-! ### append -/
def apO (n : Nat) (k : Option (Option Nat × List AV)) (m : Option (List AV)) : Option (Option Nat × Nat × List AV × List AV) :=
  match k, m with
  | some (k, l), some m => some (k, n, l, m)
  | _, _ => none
theorem appO_some (a : Bool) (n : Nat) (z x y : AV) : appO (some (a, n)) (some z) true (some x) (some y) H = if (z.size == n && !z.isTup) = true then apO n (ownOf n x H) (moreOf n y H) else none := by
  unfold appO apO
  dsimp only
  rw [fitZ_some]
  simp only [and_true]
  split
  · generalize ownOf n x H = u
    generalize moreOf n y H = w
    cases u with
    | none => rfl
    | some q => obtain ⟨k, l⟩ := q; cases w <;> rfl
  · rfl
theorem apO_some (n : Nat) (k : Option Nat) (l m : List AV) : apO n (some (k, l)) (some m) = some (k, n, l, m) := rfl
theorem own_nils (n : Nat) : ownOf n .nils H = some (none, []) := rfl
def owO (n k len cap m : Nat) (e : Option Ent) : Option (Option Nat × List AV) :=
  match e with
  | some (.vec cap' n' l) => if m = n ∧ m = n' ∧ cap = cap' ∧ len ≤ l.length then some (some k, l.take len) else none
  | _ => none
theorem own_slc (n k m len cap : Nat) : ownOf n (.slc k 0 [] m 0 0 len cap) H = owO n k len cap m (hget k H) := by
  have h0 : ownRow (.slc k 0 [] m 0 0 len cap) H = match hget k H with
    | some (.vec cap' n' l) => if m = n' ∧ cap = cap' ∧ len ≤ l.length then some (some k, m, l.take len) else none
    | _ => none := rfl
  unfold ownOf owO
  dsimp only
  rw [h0]
  generalize hget k H = u
  cases u with
  | none => rfl
  | some e =>
    cases e with
    | vec cap' n' l =>
      dsimp only
      by_cases h1 : m = n' ∧ cap = cap' ∧ len ≤ l.length
      · rw [if_pos h1]
        dsimp only
        by_cases h2 : n = m
        · rw [if_pos h2, if_pos ⟨h2.symm, h1⟩]
        · rw [if_neg h2, if_neg (fun h => h2 h.1.symm)]
      · rw [if_neg h1, if_neg (fun h => h1 h.2)]
    | _ => rfl
theorem owO_vec (n k len cap m cap' n' : Nat) (l : List AV) : owO n k len cap m (some (.vec cap' n' l)) = if m = n ∧ m = n' ∧ cap = cap' ∧ len ≤ l.length then some (some k, l.take len) else none := rfl
theorem more_nils (n : Nat) : moreOf n .nils H = some [] := rfl
def elemsE (e : Option Ent) (i : Nat) (p : List PE) (s len n : Nat) : Option (List AV) := elemsC (elemsT e i p) s len n
theorem more_slc (n k i m a s len cap : Nat) (p : List PE) : moreOf n (.slc k i p m a s len cap) H = if m = n then elemsE (hget k H) i p s len m else none := rfl

/-! ### Results -/
def tupO (x : Option (List AV)) : Option AV :=
  match x with
  | some l => some (tupA l)
  | none => none
theorem resF_eq (rs : List ResultVar) : resF P rs T H = tupO (resAll P T H rs) := by
  unfold resF tupO; cases resAll P T H rs <;> rfl
theorem resAll_nil : resAll P T H [] = some [] := rfl
theorem resAll_cons (r : ResultVar) (rs : List ResultVar) : resAll P T H (r :: rs) = consO (resOne P T H r) (resAll P T H rs) := by
  unfold consO; rw [resAll]; cases resOne P T H r <;> cases resAll P T H rs <;> rfl
theorem resOne_tmp (t : Nat) : resOne P T H (.tmp t) = getT T t := rfl
theorem resOne_cell (a t : Nat) : resOne P T H (.cell a t) = loadO (lay P t) (getT T a) H := by
  unfold loadO; simp only [resOne, one]; cases getT T a <;> rfl
theorem tupO_none : tupO (some []) = some (.tup []) := rfl
theorem tupO_one (v : AV) : tupO (some [v]) = some v := rfl
theorem tupO_more (v u : AV) (r : List AV) : tupO (some (v :: u :: r)) = some (.tup (v :: u :: r)) := rfl
def setLO (L : Nat) (s : LState) (e : Option Ent) (H : Hp) : Option Hp :=
  match e with
  | some (.lp r) => some (hset L (.lp { r with st := s }) H)
  | _ => none
theorem setLp_eq (L : Nat) (s : LState) : setLp L s H = setLO L s (hget L H) H := by
  unfold setLp setLO; cases hget L H with
  | none => rfl
  | some e => cases e <;> rfl
theorem setLO_some (L : Nat) (s s' : LState) (fn nt : Nat) (T' : Sl) (ps : List Nat) (as bd : Code) : setLO L s (some (.lp ⟨fn, nt, T', ps, as, bd, s'⟩)) H = some (hset L (.lp ⟨fn, nt, T', ps, as, bd, s⟩) H) := rfl
theorem putPs_nil (vs : List AV) : putPs [] vs T = T := by cases vs <;> rfl
theorem putPs_cons (p : Nat) (ps : List Nat) (v : AV) (vs : List AV) : putPs (p :: ps) (v :: vs) T = putPs ps vs ((p, v) :: T) := rfl
theorem argT_nil (i : Nat) : argT i [] = [] := rfl
theorem argT_cons (i : Nat) (v : AV) (r : List AV) : argT i (v :: r) = (i, v) :: argT (i + 1) r := rfl
theorem lookU_nil (g : Nat) : lookU g [] = none := rfl
theorem lookU_cons (g j : Nat) (s : List AV → Hp → Option AV) (r : List (Nat × (List AV → Hp → Option AV))) : lookU g ((j, s) :: r) = if g = j then some s else lookU g r := rfl
theorem lookL_cons (g j : Nat) (s : List Nat) (r : List (Nat × List Nat)) : lookL g ((j, s) :: r) = if g = j then some s else lookL g r := rfl
theorem lookL_nil (g : Nat) : lookL g [] = none := rfl
theorem lookP_cons (g j : Nat) (s : Plan) (r : List (Nat × Plan)) : lookP g ((j, s) :: r) = if g = j then some s else lookP g r := rfl
end

/-! ### Functions of values without blocks -/
mutual
/-- A value that names no block. -/
def flatB : AV → Bool
  | .int .. | .bool _ | .str _ | .nilp | .nils | .nilm | .nilf => true
  | .agg l | .rows _ l | .tup l => flatBL l
  | .fn _ a b => flatBL a && flatBL b
  | _ => false
def flatBL : List AV → Bool
  | [] => true
  | v :: r => flatB v && flatBL r
end
mutual
theorem flat_conc {lam lam' : Lam} : ∀ {v : AV}, flatB v = true → v.conc lam' = v.conc lam
  | .agg l, h => by simp only [flatB] at h; simp only [AV.conc, flat_concL (lam := lam) (lam' := lam') h]
  | .rows sz l, h => by simp only [flatB] at h; simp only [AV.conc, flat_concL (lam := lam) (lam' := lam') h]
  | .tup l, h => by simp only [flatB] at h; simp only [AV.conc, flat_concL (lam := lam) (lam' := lam') h]
  | .fn f a b, h => by simp only [flatB, Bool.and_eq_true] at h; simp only [AV.conc, flat_concL (lam := lam) (lam' := lam') h.1, flat_concL (lam := lam) (lam' := lam') h.2]
  | .int .., _ => by simp only [AV.conc]
  | .bool _, _ => by simp only [AV.conc]
  | .str _, _ => by simp only [AV.conc]
  | .nilp, _ => by simp only [AV.conc]
  | .nils, _ => by simp only [AV.conc]
  | .nilm, _ => by simp only [AV.conc]
  | .nilf, _ => by simp only [AV.conc]
  | .ptr .., h => by simp [flatB] at h
  | .slc .., h => by simp [flatB] at h
  | .map _, h => by simp [flatB] at h
  | .yld _, h => by simp [flatB] at h
theorem flat_concL {lam lam' : Lam} : ∀ {l : List AV}, flatBL l = true → concL lam' l = concL lam l
  | [], _ => by simp only [concL]
  | v :: r, h => by simp only [flatBL, Bool.and_eq_true] at h; simp only [concL, flat_conc (lam := lam) (lam' := lam') h.1, flat_concL (lam := lam) (lam' := lam') h.2]
end
mutual
theorem flat_ok {lam lam' : Lam} {n n' : Nat} : ∀ {v : AV}, flatB v = true → v.ok lam n → v.ok lam' n'
  | .agg l, h, k => by simp only [flatB] at h; simp only [AV.ok] at k ⊢; exact ⟨flat_okL h k.1, k.2⟩
  | .rows sz l, h, k => by simp only [flatB] at h; simp only [AV.ok] at k ⊢; exact ⟨flat_okL h k.1, k.2⟩
  | .tup l, h, k => by simp only [flatB] at h; simp only [AV.ok] at k ⊢; exact flat_okL h k
  | .fn f a b, h, k => by simp only [flatB, Bool.and_eq_true] at h; simp only [AV.ok] at k ⊢; exact ⟨flat_okL h.1 k.1, flat_okL h.2 k.2.1, k.2.2⟩
  | .int .., _, _ => by simp only [AV.ok]
  | .bool _, _, _ => by simp only [AV.ok]
  | .str _, _, _ => by simp only [AV.ok]
  | .nilp, _, _ => by simp only [AV.ok]
  | .nils, _, _ => by simp only [AV.ok]
  | .nilm, _, _ => by simp only [AV.ok]
  | .nilf, _, _ => by simp only [AV.ok]
  | .ptr .., h, _ => by simp [flatB] at h
  | .slc .., h, _ => by simp [flatB] at h
  | .map _, h, _ => by simp [flatB] at h
  | .yld _, h, _ => by simp [flatB] at h
theorem flat_okL {lam lam' : Lam} {n n' : Nat} : ∀ {l : List AV}, flatBL l = true → okL lam n l → okL lam' n' l
  | [], _, _ => by simp only [okL]
  | v :: r, h, k => by simp only [flatBL, Bool.and_eq_true] at h; simp only [okL] at k ⊢; exact ⟨flat_ok h.1 k.1, flat_okL h.2 k.2⟩
end

/-- **A function of values without blocks: the walk from an empty heap says all.** -/
theorem pure_of {P : Program} {f : FuncId} {args : List AV} {v : AV} (h : callA P f args [] 0 fun v' _ _ => v' = v) (ha : flatBL args = true) (hv : flatB v = true) : PureA P f args v := by
  intro H n
  refine ⟨h.1, fun N D w lam hH hN hargs cs => ?_⟩
  have h0 : HSit w.heap.size (fun _ => False) lam [] 0 w := ⟨fun k x hk => (by cases hk), fun k x hk => (by cases hk), fun k x hk => (by cases hk), fun k x hk => (by cases hk), List.nodup_nil⟩
  obtain ⟨v', w', fr, ⟨v1, H1, n1, lam1, hc, hq, hn1, hvok, hH1, hU, hag, hky⟩, hst⟩ := h.2 w.heap.size (fun _ => False) w lam h0 (Nat.le_refl _) (flat_okL ha hargs) cs
  subst hq
  refine ⟨v', w', fr, ⟨v1, H, n, lam, by rw [hc]; exact flat_conc hv, ⟨rfl, rfl, rfl⟩, Nat.le_refl _, flat_ok hv hvok, ?_, ?_, agree.refl _ _, KeyS.refl _ _⟩, hst⟩
  · refine ⟨fun k x hk => ?_, hH.low, hH.wr, hH.apart, hH.nd⟩
    refine (hH.has k x hk).move (hH.low k x hk) (keeps.refl _ _) (Nat.le_refl _) (fun i b o hi hl => ?_)
    exact hU.block b ((hH.has k x hk).lt hi hl) (fun h => h)
  · exact ⟨hU.os, hU.tape, hU.output, hU.size, fun b hb hd => hU.block b (by omega) (fun h => h), hU.defr⟩

/-- Known functions. -/
theorem puOk_nil {P : Program} {pl : List (Nat × Plan)} {lv : List (Nat × List Nat)} : PuOk ⟨P, [], pl, lv⟩ := by intro g s h; cases h
theorem puOk_cons {P : Program} {pl : List (Nat × Plan)} {lv : List (Nat × List Nat)} {f : Nat} {s : List AV → Hp → Option AV} {r : List (Nat × (List AV → Hp → Option AV))} (h : ∀ args H v, s args H = some v → PureA P f args v ∨ ExtA P f args H v) (hr : PuOk ⟨P, r, pl, lv⟩) : PuOk ⟨P, (f, s) :: r, pl, lv⟩ := by
  intro g t hg
  simp only [lookU] at hg
  split at hg
  · rename_i e; cases hg; subst e; exact h
  · exact hr g t hg
/-- A function of values alone, among the known ones. -/
theorem puOk_pure {P : Program} {f : Nat} {s : List AV → Option AV} (h : ∀ args v, s args = some v → PureA P f args v) : ∀ (args : List AV) (H : Hp) (v : AV), (fun a (_ : Hp) => s a) args H = some v → PureA P f args v ∨ ExtA P f args H v := fun args H v e => .inl (h args v e)

/-! ### Maps, copies -/
section
variable {cx : Cx} {fx : Fx} {kt : Kt} {H : Hp} {n : Nat}
theorem lookO_some (k : Option (Bool × Nat)) (z : Option AV) (x i : AV) (ok : Bool) : lookO k z (some x) (some i) ok H = lookC k z (mapC x H) (keyO k i) ok := rfl
theorem mapC_map (k : Nat) : mapC (.map k) H = mapE (hget k H) := rfl
theorem mapC_nil : mapC .nilm H = some [] := rfl
theorem mapE_mp (m : List (AV × AV)) : mapE (some (.mp m)) = some m := rfl
theorem mapE_lk (s : MpS) (m : List (AV × AV)) : mapE (some (.lk s m)) = some m := rfl
theorem keyO_int (m : Nat) (a : Int) : keyO (some (false, m)) (.int .i64 a) = some [a] := rfl
theorem keyO_agg (m : Nat) (l : List AV) : keyO (some (true, m)) (.agg l) = keyM m (keyL l) := rfl
theorem keyO_rows (m sz : Nat) (l : List AV) : keyO (some (true, m)) (.rows sz l) = keyM m (keyL l) := rfl
theorem keyL_nil : keyL [] = some [] := rfl
def keyS (a : Int) (l : Option (List Int)) : Option (List Int) :=
  match l with
  | some l => some (a :: l)
  | none => none
theorem keyL_cons (a : Int) (l : List AV) : keyL (.int .i64 a :: l) = keyS a (keyL l) := by
  simp only [keyL, keyS]; cases keyL l <;> rfl
theorem keyS_some (a : Int) (l : List Int) : keyS a (some l) = some (a :: l) := rfl
theorem keyM_1 (a : Int) : keyM 1 (some [a]) = some [a] := rfl
theorem keyM_2 (a b : Int) : keyM 2 (some [a, b]) = some [a, b] := rfl
theorem keyM_3 (a b c : Int) : keyM 3 (some [a, b, c]) = some [a, b, c] := rfl
theorem keyM_4 (a b c d : Int) : keyM 4 (some [a, b, c, d]) = some [a, b, c, d] := rfl
theorem lookC_no {k : Option (Bool × Nat)} {z : AV} {l : List Int} {ok : Bool} : lookC k (some z) (some []) (some l) ok = some (lookOut ok z none) := rfl
theorem lookOut_no (z : AV) : lookOut false z none = z := rfl
theorem lookOut_no2 (z : AV) : lookOut true z none = .tup [z, .bool false] := rfl
theorem lookOut_in (z v : AV) (i : Nat) : lookOut false z (some (i, v)) = v := rfl
theorem lookOut_in2 (z v : AV) (i : Nat) : lookOut true z (some (i, v)) = .tup [v, .bool true] := rfl
/-- m[x], its keys being known to be keys. -/
theorem valK_look {k : Option (Bool × Nat)} {z : AV} {m : List (AV × AV)} {l : List Int} {ok : Bool} (h : keyzB k m = true) (hk : ValK cx fx kt (some (lookOut ok z (findI k l m 0))) H n) : ValK cx fx kt (lookC k (some z) (some m) (some l) ok) H n := by
  unfold lookC; simp only [h, if_true]; exact hk
theorem updO_some (k : Option (Bool × Nat)) (m : Nat) (x y : AV) : updO k (some (.map m)) (some x) (some y) H = updE m (putC k (mapE (hget m H)) (keyO k x) x y) H := rfl
theorem updE_some (k : Nat) (e : Ent) : updE k (some e) H = some (.tup [], hset k e H) := rfl
theorem effK_put {k : Option (Bool × Nat)} {j : Nat} {m : List (AV × AV)} {l : List Int} {x y : AV} (h : keyzB k m = true) (hk : EffK cx fx kt (some (.tup [], hset j (.mp (setI m x y (findI k l m 0))) H)) n) : EffK cx fx kt (updE j (putC k (some m) (some l) x y) H) n := by
  unfold putC updE; simp only [h, if_true]; exact hk
theorem putC_no (k : Option (Bool × Nat)) (l : List Int) (x y : AV) : putC k (some []) (some l) x y = some (.mp [(x, y)]) := rfl
theorem clearO_some (k : Nat) : clearO true (some [.map k]) H = clearE k (mapE (hget k H)) H := rfl
theorem clearE_some (k : Nat) (m : List (AV × AV)) : clearE k (some m) H = some (.tup [], hset k (.mp []) H) := rfl
theorem copyO_some (b : Bool) (m : Nat) (x y : AV) : copyO (some (b, m)) (some x) (some y) H = copyA m x y H := rfl
theorem effK_copy {k a s len c m cap : Nat} {y : AV} {l r : List AV} (hl : elemsF m y (min (lenX y) len) H = some l) (hg : hget k H = some (.vec cap m r)) (hs : s ≤ r.length ∧ s + len ≤ cap)
    (hk : EffK cx fx kt (some (.int .i64 (min (lenX y) len : Nat), hset k (.vec cap m (r.take s ++ l ++ r.drop (s + l.length))) H)) n) : EffK cx fx kt (copyA m (.slc k 0 [] m a s len c) y H) n := by
  have e : copyA m (.slc k 0 [] m a s len c) y H = some (.int .i64 (min (lenX y) len : Nat), hset k (.vec cap m (r.take s ++ l ++ r.drop (s + l.length))) H) := by
    simp only [copyA, if_true, hl, hg, copyC]
    rw [if_pos ⟨trivial, hs.1, hs.2⟩]
  rw [e]; exact hk
theorem isS_some {α : Type} (a : α) : (some a).isSome = true := rfl
end

end Go.Y
