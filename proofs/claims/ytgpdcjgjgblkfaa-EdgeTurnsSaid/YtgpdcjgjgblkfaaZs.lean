/-
  The evaluator's own equations, as rewrite rules.
-/
import Derived.Test.YtgpdcjgjgblkfaaZv
set_option linter.unusedVariables false
set_option linter.unusedSimpArgs false
namespace Go.Z

/-- An equation that the rewriter shall carry a proof of. -/
theorem nd {α : Sort _} {a b : α} (h : a = b) : a = b := h
theorem cast_lit (n : Nat) : ((no_index (OfNat.ofNat n : Nat) : Nat) : Int) = OfNat.ofNat n := nd rfl

theorem w_i64 (n : Int) (h : -9223372036854775808 ≤ n ∧ n ≤ 9223372036854775807) : IntKind.i64.wrap n = n := by rw [IntKind.wrap_i64]; omega
theorem w_i32 (n : Int) (h : -2147483648 ≤ n ∧ n ≤ 2147483647) : IntKind.i32.wrap n = n := by rw [IntKind.wrap_i32]; omega
theorem w_u8 (n : Int) (h : 0 ≤ n ∧ n ≤ 255) : IntKind.u8.wrap n = n := by rw [IntKind.wrap_u8]; omega
theorem w_u16 (n : Int) (h : 0 ≤ n ∧ n ≤ 65535) : IntKind.u16.wrap n = n := IntWalk.u16_in n h
theorem w_u32 (n : Int) (h : 0 ≤ n ∧ n ≤ 4294967295) : IntKind.u32.wrap n = n := by rw [IntKind.wrap_u32]; omega
theorem w_u64 (n : Int) (h : 0 ≤ n ∧ n ≤ 18446744073709551615) : IntKind.u64.wrap n = n := IntWalk.u64_in n h

@[congr] theorem oK_congr {α : Type} {x x' : Option α} {k : α → Prop} (h : x = x') : oK x k = oK x' k := by rw [h]
@[congr] theorem evGuard_congr {x x' : TV} {want : Bool} {A B : Prop} (h : x = x') : evGuard x want A B = evGuard x' want A B := by rw [h]
@[congr] theorem evCond_congr {x x' : TV} {A B : Prop} (h : x = x') : evCond x A B = evCond x' A B := by rw [h]
@[congr] theorem evOps_congr {cx : Cx} {ops l : List Oper} {st st' : St} {K : St → Prop} (h : st = st') : evOps cx ops l st K = evOps cx ops l st' K := by rw [h]
@[congr] theorem ev_congr {cx : Cx} {nt : Nat} {c : Code} {st st' : St} {K : Ex → St → Prop} (h : st = st') : ev cx nt c st K = ev cx nt c st' K := by rw [h]
@[congr] theorem evT_congr {cx : Cx} {lv : List (Nat × List Nat)} {nt : Nat} {c : Code} {st st' : St} {K : Ex → St → Prop} (h : st = st') : evT cx lv nt c st K = evT cx lv nt c st' K := by rw [h]
@[congr] theorem trimS_congr {l l' : Option (List Nat)} {st st' : St} (h0 : l = l') (h : st = st') : trimS l st = trimS l' st' := by rw [h0, h]
@[congr] theorem awp_congr {P : Program} {nt : Nat} {c : Code} {st st' : St} {K : Ex → St → Prop} (h : st = st') : awp P nt c st K = awp P nt c st' K := by rw [h]
@[congr] theorem thenK_congr {f : St → Prop} {K : Ex → St → Prop} {e e' : Ex} {st st' : St} (he : e = e') (h : st = st') : thenK f K e st = thenK f K e' st' := by rw [he, h]
@[congr] theorem blockK_congr {id : Nat} {K : Ex → St → Prop} {e e' : Ex} {st st' : St} (he : e = e') (h : st = st') : blockK id K e st = blockK id K e' st' := by rw [he, h]
@[congr] theorem callF_congr {P : Program} {f : FuncId} {args args' : List Value} {H H' : List (Nat × Blk)} {Q : Value → List (Nat × Blk) → Prop} (ha : args = args') (h : H = H') :
    callF P f args H Q = callF P f args' H' Q := by rw [ha, h]

theorem oK_just {α : Type} (a : α) (k : α → Prop) : oK (some a) k = k a := nd rfl
theorem oK_no {α : Type} (k : α → Prop) : oK none k = False := nd rfl
/-- What keeps the rewriter out of what stands behind a test, a loop or a call that is still open. -/
structure Hide {α β : Sort _} (a : α) (b : β) where
def Stop (A B : Prop) (_ : Hide A B) (b : Bool) : Prop := (b = true → A) ∧ (b = false → B)
theorem stop_true (A B : Prop) (p : Hide A B) : Stop A B p true = A := by simp [Stop]
theorem stop_false (A B : Prop) (p : Hide A B) : Stop A B p false = B := by simp [Stop]
theorem stop_split {A B : Prop} {p : Hide A B} {b : Bool} (h1 : b = true → A) (h2 : b = false → B) : Stop A B p b := ⟨h1, h2⟩
theorem evGuard_on (b : Bool) (A B : Prop) : evGuard (.val (.bool b)) true A B = Stop A B ⟨⟩ b := by cases b <;> simp [evGuard, Stop]
theorem evGuard_off (b : Bool) (A B : Prop) : evGuard (.val (.bool b)) false A B = Stop B A ⟨⟩ b := by cases b <;> simp [evGuard, Stop]
theorem evGuard_undef (w : Bool) (A B : Prop) : evGuard (.val undef) w A B = B := by simp [evGuard, undef]
theorem evCond_on (b : Bool) (A B : Prop) : evCond (.val (.bool b)) A B = Stop A B ⟨⟩ b := by cases b <;> simp [evCond, Stop]
def LoopS (c : Code) (K : Ex → St → Prop) (_ : Hide c K) (P : Program) (nt : Nat) (st : St) : Prop := awp P nt (.loop c) st K
def CallS (Q : Value → List (Nat × Blk) → Prop) (_ : Hide Q Q) (P : Program) (f : FuncId) (args : List Value) (H : List (Nat × Blk)) : Prop := callF P f args H Q
theorem loopT {cx : Cx} (lv : List (Nat × List Nat)) {nt : Nat} {c : Code} {st : St} {K : Ex → St → Prop} {p : Hide c K} (hok : okc cx nt c = true) (h : evT cx lv nt c st (thenK (fun st' => LoopS c K ⟨⟩ cx.P nt st') K)) :
    LoopS c K p cx.P nt st := awp_round (evT_sound c st _ hok h)
theorem loop_round {cx : Cx} {nt : Nat} {c : Code} {st : St} {K : Ex → St → Prop} {p : Hide c K} (hok : okc cx nt c = true) (h : ev cx nt c st (thenK (fun st' => LoopS c K ⟨⟩ cx.P nt st') K)) :
    LoopS c K p cx.P nt st := awp_round (ev_sound c st _ hok h)
theorem callS_of {P : Program} {f : FuncId} {args : List Value} {H : List (Nat × Blk)} {Q Q' : Value → List (Nat × Blk) → Prop} {p : Hide Q Q} (h : callF P f args H Q') (hk : ∀ v H', Q' v H' → Q v H') :
    CallS Q p P f args H := callF_mono h fun v H' hv => ⟨H', List.Sublist.refl _, hk v H' hv⟩

def purgeIf (x : Option (List Value)) (s : Nat) (T : Nat → TV) : Nat → TV :=
  match x with
  | none => T
  | some _ => purge s T

theorem thenK_normal (f : St → Prop) (K : Ex → St → Prop) (st : St) : thenK f K .normal st = f st := nd rfl
theorem thenK_exit (f : St → Prop) (K : Ex → St → Prop) (id : Nat) (st : St) : thenK f K (.exit id) st = K (.exit id) st := nd rfl
theorem thenK_ret (f : St → Prop) (K : Ex → St → Prop) (st : St) : thenK f K .ret st = K .ret st := nd rfl
theorem blockK_normal (id : Nat) (K : Ex → St → Prop) (st : St) : blockK id K .normal st = K .normal st := nd rfl
theorem blockK_ret (id : Nat) (K : Ex → St → Prop) (st : St) : blockK id K .ret st = K .ret st := nd rfl
theorem blockK_exit (id i : Nat) (K : Ex → St → Prop) (st : St) : blockK id K (.exit i) st = if i = id then K .normal st else K (.exit i) st := nd rfl

section
variable (cx : Cx) (nt : Nat) (T : Nat → TV) (L : Nat → Option (List Value)) (H : List (Nat × Blk)) (K : Ex → St → Prop)
theorem ev_skip : ev cx nt .skip (St.mk T L H) K = K .normal (St.mk T L H) := nd rfl
theorem ev_region (id : Nat) (ops : List Oper) : ev cx nt (.region id ops.toArray false) (St.mk T L H) K = evOps cx ops ops (St.mk T L H) (K .normal) := nd rfl
theorem ev_seq (a b : Code) : ev cx nt (.seq a b) (St.mk T L H) K = ev cx nt a (St.mk T L H) (thenK (fun st' => ev cx nt b st' K) K) := nd rfl
theorem ev_cond (c : Operand) (a b : Code) : ev cx nt (.cond c a b) (St.mk T L H) K = evCond ((St.mk T L H).get c) (ev cx nt a (St.mk T L H) K) (ev cx nt b (St.mk T L H) K) := nd rfl
theorem ev_block (id : Nat) (c : Code) : ev cx nt (.block id c) (St.mk T L H) K = ev cx nt c (St.mk T L H) (blockK id K) := nd rfl
theorem ev_exit (id : Nat) : ev cx nt (.exit id) (St.mk T L H) K = K (.exit id) (St.mk T L H) := nd rfl
theorem ev_ret : ev cx nt .ret (St.mk T L H) K = K .ret (St.mk T L H) := nd rfl
theorem ev_loop (c : Code) : ev cx nt (.loop c) (St.mk T L H) K = LoopS c K ⟨⟩ cx.P nt (St.mk T L H) := nd rfl
variable (lv : List (Nat × List Nat))
theorem evT_skip : evT cx lv nt .skip (St.mk T L H) K = K .normal (St.mk T L H) := nd rfl
theorem evT_region (id : Nat) (ops : List Oper) : evT cx lv nt (.region id ops.toArray false) (St.mk T L H) K = evOps cx ops ops (St.mk T L H) (fun st' => K .normal (trimS (lookL id lv) st')) := nd rfl
theorem evT_draw (id : Nat) (ops : List Oper) : evT cx lv nt (.region id ops.toArray true) (St.mk T L H) K = evDraw cx (planOf id cx.pl) ops (St.mk T L H) (fun st' => K .normal (trimS (lookL id lv) st')) := nd rfl
theorem evT_seq (a b : Code) : evT cx lv nt (.seq a b) (St.mk T L H) K = evT cx lv nt a (St.mk T L H) (thenK (fun st' => evT cx lv nt b st' K) K) := nd rfl
theorem evT_cond (c : Operand) (a b : Code) : evT cx lv nt (.cond c a b) (St.mk T L H) K = evCond ((St.mk T L H).get c) (evT cx lv nt a (St.mk T L H) K) (evT cx lv nt b (St.mk T L H) K) := nd rfl
theorem evT_block (id : Nat) (c : Code) : evT cx lv nt (.block id c) (St.mk T L H) K = evT cx lv nt c (St.mk T L H) (blockK id K) := nd rfl
theorem evT_exit (id : Nat) : evT cx lv nt (.exit id) (St.mk T L H) K = K (.exit id) (St.mk T L H) := nd rfl
theorem evT_ret : evT cx lv nt .ret (St.mk T L H) K = K .ret (St.mk T L H) := nd rfl
theorem evT_loop (c : Code) : evT cx lv nt (.loop c) (St.mk T L H) K = LoopS c K ⟨⟩ cx.P nt (St.mk T L H) := nd rfl
theorem trimS_none (st : St) : trimS none st = st := nd rfl
theorem trimS_some (l : List Nat) : trimS (some l) ⟨T, L, H⟩ = ⟨trimT l T, L, H⟩ := nd rfl
theorem trimT_nil : trimT [] T = fun _ => .bad := nd rfl
theorem trimT_cons (a : Nat) (l : List Nat) : trimT (a :: l) T = upd (trimT l T) a (T a) := nd rfl
theorem lookL_cons (id j : Nat) (l : List Nat) (r : List (Nat × List Nat)) : lookL id ((j, l) :: r) = if id = j then some l else lookL id r := nd rfl
theorem lookL_nil (id : Nat) : lookL id [] = none := nd rfl

end

section
variable (cx : Cx) (ops r : List Oper) (T : Nat → TV) (L : Nat → Option (List Value)) (H : List (Nat × Blk)) (K : St → Prop) (d : Option Nat) (ty : TypeId) (pos : String) (af : Array Edge)
theorem evOps_nil : evOps cx ops [] (St.mk T L H) K = K (St.mk T L H) := nd rfl
theorem evOps_guard (op : Op) (j : Nat) (w : Bool) : evOps cx ops (⟨d, op, ty, pos, af, some (j, w)⟩ :: r) (St.mk T L H) K =
    evGuard (guardT ops (St.mk T L H) j) w (evOps cx ops (⟨d, op, ty, pos, af, none⟩ :: r) (St.mk T L H) K) (evOps cx ops r ((St.mk T L H).put d (.val undef)) K) := nd rfl
theorem evOps_move (x : Operand) : evOps cx ops (⟨d, .move x, ty, pos, af, none⟩ :: r) (St.mk T L H) K = evOps cx ops r ((St.mk T L H).put d ((St.mk T L H).get x)) K := nd rfl
theorem evOps_assign (x : Operand) : evOps cx ops (⟨d, .assign x, ty, pos, af, none⟩ :: r) (St.mk T L H) K = evOps cx ops r ((St.mk T L H).put d ((St.mk T L H).get x)) K := nd rfl
theorem oK_pairF (x : Option TV) (k : TV × St → Prop) : oK (pairF x (St.mk T L H)) k = oK x (fun v => k (v, (St.mk T L H))) := by cases x <;> rfl
theorem oK_pairV (x : Option Value) (k : TV × St → Prop) : oK (pairV x (St.mk T L H)) k = oK x (fun v => k (.val v, (St.mk T L H))) := by cases x <;> rfl
theorem evOps_pick (c a b : Operand) : evOps cx ops (⟨d, .pick c a b, ty, pos, af, none⟩ :: r) (St.mk T L H) K = oK (pickF ((St.mk T L H).get c) ((St.mk T L H).get a) ((St.mk T L H).get b)) (fun v => evOps cx ops r ((St.mk T L H).put d v) K) := nd (oK_pairF T L H _ _)
theorem evOps_alloc (t : TypeId) : evOps cx ops (⟨d, .alloc t, ty, pos, af, none⟩ :: r) (St.mk T L H) K = oK (newF cx.L d (zeroOf cx.P t) (St.mk T L H)) (fun v => evOps cx ops r (v.2.put d v.1) K) := nd rfl
theorem evOps_box (t : TypeId) (x : Operand) : evOps cx ops (⟨d, .box t x, ty, pos, af, none⟩ :: r) (St.mk T L H) K = oK (newF cx.L d ((valF ((St.mk T L H).get x)).map vcells) (St.mk T L H)) (fun v => evOps cx ops r (v.2.put d v.1) K) := nd rfl
theorem evOps_build (t : TypeId) (ps : Array (Nat × Operand)) : evOps cx ops (⟨d, .build t ps, ty, pos, af, none⟩ :: r) (St.mk T L H) K =
    oK (buildF cx.P t (ps.toList.map fun p => (p.1, (St.mk T L H).get p.2))) (fun v => evOps cx ops r ((St.mk T L H).put d (.val v)) K) := nd (oK_pairV T L H _ _)
theorem evOps_load (t : TypeId) (a : Operand) : evOps cx ops (⟨d, .load t a, ty, pos, af, none⟩ :: r) (St.mk T L H) K = oK (loadF cx.P t ((St.mk T L H).get a) (St.mk T L H)) (fun v => evOps cx ops r ((St.mk T L H).put d (.val v)) K) := nd (oK_pairV T L H _ _)
theorem evOps_store (t : TypeId) (a x : Operand) : evOps cx ops (⟨d, .store t a x, ty, pos, af, none⟩ :: r) (St.mk T L H) K =
    oK (storeF cx.P t ((St.mk T L H).get a) ((St.mk T L H).get x) (St.mk T L H)) (fun st' => evOps cx ops r (st'.put d (.val undef)) K) := by
  show oK ((storeF cx.P t ((St.mk T L H).get a) ((St.mk T L H).get x) (St.mk T L H)).map fun st' => (TV.val undef, st')) _ = _
  cases storeF cx.P t ((St.mk T L H).get a) ((St.mk T L H).get x) (St.mk T L H) <;> rfl
theorem evOps_nilCheck (x : Operand) : evOps cx ops (⟨d, .nilCheck x, ty, pos, af, none⟩ :: r) (St.mk T L H) K = oK (nilF ((St.mk T L H).get x)) (fun v => evOps cx ops r ((St.mk T L H).put d v) K) := nd (oK_pairF T L H _ _)
theorem evOps_binOp (op : BinOp) (t : TypeId) (x y : Operand) (u : TypeId) : evOps cx ops (⟨d, .binOp op t x y u, ty, pos, af, none⟩ :: r) (St.mk T L H) K =
    oK ((valF ((St.mk T L H).get x)).bind fun a => (valF ((St.mk T L H).get y)).bind fun b => binF cx.P op t a b) (fun v => evOps cx ops r ((St.mk T L H).put d (.val v)) K) := nd (oK_pairV T L H _ _)
theorem evOps_unOp (op : UnOp) (t : TypeId) (x : Operand) : evOps cx ops (⟨d, .unOp op t x, ty, pos, af, none⟩ :: r) (St.mk T L H) K =
    oK ((valF ((St.mk T L H).get x)).bind (unF op)) (fun v => evOps cx ops r ((St.mk T L H).put d (.val v)) K) := nd (oK_pairV T L H _ _)
theorem evOps_convert (a b : TypeId) (x : Operand) : evOps cx ops (⟨d, .convert a b x, ty, pos, af, none⟩ :: r) (St.mk T L H) K =
    oK ((valF ((St.mk T L H).get x)).bind (convF cx.P a b)) (fun v => evOps cx ops r ((St.mk T L H).put d (.val v)) K) := nd (oK_pairV T L H _ _)
theorem evOps_makeFunc (fn : Fn) (a b : Array Operand) : evOps cx ops (⟨d, .makeFunc fn a b, ty, pos, af, none⟩ :: r) (St.mk T L H) K =
    oK ((getAll (St.mk T L H) a).bind fun x => (getAll (St.mk T L H) b).map fun y => Value.func fn x.toArray y.toArray) (fun v => evOps cx ops r ((St.mk T L H).put d (.val v)) K) := nd (oK_pairV T L H _ _)
theorem evOps_fieldAddr (t : TypeId) (x : Operand) (f : Nat) : evOps cx ops (⟨d, .fieldAddr t x f, ty, pos, af, none⟩ :: r) (St.mk T L H) K =
    oK (fieldAddrC (fldOf cx.P t f) ((St.mk T L H).get x)) (fun v => evOps cx ops r ((St.mk T L H).put d v) K) := nd (oK_pairF T L H _ _)
theorem evOps_field (t : TypeId) (x : Operand) (f : Nat) : evOps cx ops (⟨d, .field t x f, ty, pos, af, none⟩ :: r) (St.mk T L H) K =
    oK (fieldC (fldOf cx.P t f) ((St.mk T L H).get x)) (fun v => evOps cx ops r ((St.mk T L H).put d (.val v)) K) := nd (oK_pairV T L H _ _)
theorem evOps_indexAddr (t : TypeId) (x i : Operand) : evOps cx ops (⟨d, .indexAddr t x i, ty, pos, af, none⟩ :: r) (St.mk T L H) K =
    oK (indexAddrC (arrOf cx.P t) (slcOf cx.P t) ((St.mk T L H).get x) ((St.mk T L H).get i)) (fun v => evOps cx ops r ((St.mk T L H).put d v) K) := nd (oK_pairF T L H _ _)
theorem evOps_index (t : TypeId) (x i : Operand) : evOps cx ops (⟨d, .index t x i, ty, pos, af, none⟩ :: r) (St.mk T L H) K =
    oK (indexC (arrOf cx.P t) ((St.mk T L H).get x) ((St.mk T L H).get i)) (fun v => evOps cx ops r ((St.mk T L H).put d (.val v)) K) := nd (oK_pairV T L H _ _)
theorem evOps_extract (x : Operand) (i : Nat) : evOps cx ops (⟨d, .extract x i, ty, pos, af, none⟩ :: r) (St.mk T L H) K =
    oK (extractF ((St.mk T L H).get x) i) (fun v => evOps cx ops r ((St.mk T L H).put d (.val v)) K) := nd (oK_pairV T L H _ _)
theorem evOps_call (f : Operand) (as : Array Operand) (ts : Array TypeId) : evOps cx ops (⟨d, .call ⟨.value f, as, ts⟩, ty, pos, af, none⟩ :: r) (St.mk T L H) K =
    evFunc cx ((St.mk T L H).get f) (getAll (St.mk T L H) as) (St.mk T L H) (fun v st' => evOps cx ops r (st'.put d v) K) := nd rfl
theorem evOps_built (b : Builtin) (as : Array Operand) (ts : Array TypeId) : evOps cx ops (⟨d, .call ⟨.builtin b, as, ts⟩, ty, pos, af, none⟩ :: r) (St.mk T L H) K =
    oK ((getAll (St.mk T L H) as).bind fun vs => builtF cx.P b ts.toList vs) (fun v => evOps cx ops r ((St.mk T L H).put d (.val v)) K) := nd rfl
end

@[congr] theorem evFunc_congr {cx : Cx} {f f' : TV} {as as' : Option (List Value)} {st st' : St} {k : TV → St → Prop} (h1 : f = f') (h2 : as = as') (h3 : st = st') :
    evFunc cx f as st k = evFunc cx f' as' st' k := by rw [h1, h2, h3]
theorem evFunc_func (P : Program) (L pu : List Nat) (pl : List (Nat × List Nat × List Row)) (g : FuncId) (a b : List Value) (args : List Value) (st : St) (k : TV → St → Prop) :
    evFunc ⟨P, L, pu, pl⟩ (.val (.func (.func g) a.toArray b.toArray)) (some args) st k = evGo (memb g pu) P g (a ++ args ++ b) st k := by
  cases h : memb g pu <;> simp [evFunc, evGo, h]
theorem evGo_true (P : Program) (g : FuncId) (args : List Value) (st : St) (k : TV → St → Prop) : evGo true P g args st k = oK (pureOf P g args) (fun v => k (.val v) st) := nd rfl
theorem evGo_false (P : Program) (g : FuncId) (args : List Value) (T : Nat → TV) (L : Nat → Option (List Value)) (H : List (Nat × Blk)) (k : TV → St → Prop) :
    evGo false P g args ⟨T, L, H⟩ k = CallS (fun v h => k (.val v) ⟨T, L, h⟩) ⟨⟩ P g args H := nd rfl
@[congr] theorem evGo_congr {p p' : Bool} {P : Program} {g : FuncId} {args args' : List Value} {st st' : St} {k : TV → St → Prop} (h0 : p = p') (h1 : args = args') (h2 : st = st') :
    evGo p P g args st k = evGo p' P g args' st' k := by rw [h0, h1, h2]

section
variable (T : Nat → TV) (L : Nat → Option (List Value)) (H : List (Nat × Blk))
theorem put_some (d : Nat) (v : TV) : St.put ⟨T, L, H⟩ (some d) v = ⟨upd T d v, L, H⟩ := nd rfl
theorem put_none (v : TV) : St.put ⟨T, L, H⟩ none v = ⟨T, L, H⟩ := nd rfl
theorem get_tmp (t : Nat) : St.get ⟨T, L, H⟩ (.tmp t) = T t := nd rfl
theorem get_const (st : St) (v : Value) : St.get st (.const v) = .val v := nd rfl
theorem get_func (st : St) (f : FuncId) : St.get st (.func f) = .val (.func (.func f) #[] #[]) := nd rfl
theorem loadF_loc (P : Program) (t : TypeId) (s off : Nat) : loadF P t (.loc s off) ⟨T, L, H⟩ = loadC (lay P t) (L s) off := nd rfl
theorem loadF_ptr (P : Program) (t : TypeId) (b off : Nat) : loadF P t (.val (.pointer (some ⟨b, off, none⟩))) ⟨T, L, H⟩ = loadC (lay P t) ((look b H).bind Blk.seen) off := nd rfl
theorem storeF_loc (P : Program) (t : TypeId) (s off : Nat) (v : Value) : storeF P t (.loc s off) (.val v) ⟨T, L, H⟩ = St.setLoc ⟨T, L, H⟩ s (storeC (lay P t) (L s) off v) := nd rfl
theorem storeF_ptr (P : Program) (t : TypeId) (b off : Nat) (v : Value) :
    storeF P t (.val (.pointer (some ⟨b, off, none⟩))) (.val v) ⟨T, L, H⟩ = St.setBlk ⟨T, L, H⟩ b (storeC (lay P t) ((look b H).bind Blk.open) off v) := nd rfl
theorem setLoc_some (s : Nat) (cs : List Value) : St.setLoc ⟨T, L, H⟩ s (some cs) = some ⟨T, upd L s (some cs), H⟩ := nd rfl
theorem setBlk_some (b : Nat) (cs : List Value) : St.setBlk ⟨T, L, H⟩ b (some cs) = some ⟨T, L, hset b (.rw cs) H⟩ := nd rfl
theorem newLoc_eq (s : Nat) (vs : List Value) : St.newLoc ⟨T, L, H⟩ s vs = ⟨purgeIf (L s) s T, upd L s (some vs), H⟩ := by
  unfold St.newLoc purgeIf
  dsimp only
  cases L s <;> rfl
theorem purgeIf_no (s : Nat) : purgeIf none s T = T := nd rfl
theorem purgeIf_yes (s : Nat) (cs : List Value) : purgeIf (some cs) s T = purge s T := nd rfl
theorem newLoc_def (s : Nat) (vs : List Value) : St.newLoc ⟨T, L, H⟩ s vs = ⟨(match L s with | none => T | some _ => purge s T), upd L s (some vs), H⟩ := nd rfl
end

def purgeV (s : Nat) : TV → TV
  | .loc s' off => if s' = s then .bad else .loc s' off
  | v => v
theorem purge_eq (s : Nat) (T : Nat → TV) (t : Nat) : purge s T t = purgeV s (T t) := by
  unfold purge purgeV; rfl
theorem purgeV_val (s : Nat) (v : Value) : purgeV s (.val v) = .val v := nd rfl
theorem purgeV_bad (s : Nat) : purgeV s .bad = .bad := nd rfl
theorem purgeV_loc (s s' off : Nat) : purgeV s (.loc s' off) = if s' = s then .bad else .loc s' off := nd rfl
theorem loadC_go (a : Bool) (n : Nat) (cs : List Value) (off : Nat) : loadC (some (a, n)) (some cs) off = partF a n cs off := nd rfl
theorem storeC_go (a : Bool) (n : Nat) (cs : List Value) (off : Nat) (v : Value) : storeC (some (a, n)) (some cs) off v =
    if (vcells v).length = n ∧ off + n ≤ cs.length ∧ oneCells (vcells v) = true then some (splice cs off (vcells v)) else none := nd rfl
theorem partF_one (n : Nat) (cs : List Value) (off : Nat) : partF false n cs off = cs[off]? := nd rfl
theorem partF_row (n : Nat) (cs : List Value) (off : Nat) : partF true n cs off = if off + n ≤ cs.length then some (.agg ((cs.drop off).take n).toArray) else none := nd rfl
theorem newF_some (L : List Nat) (d : Nat) (vs : List Value) (st : St) : newF L (some d) (some vs) st = if memb d L = true then some (.loc d 0, st.newLoc d vs) else none := nd rfl
theorem memb_cons (x y : Nat) (r : List Nat) : memb x (y :: r) = if x = y then true else memb x r := nd rfl
theorem memb_nil (x : Nat) : memb x [] = false := nd rfl
theorem valF_val (v : Value) : valF (.val v) = some v := nd rfl
theorem pickF_bool (t : Bool) (a b : TV) : pickF (.val (.bool t)) a b = some (if t = true then a else b) := nd rfl
theorem nilF_loc (s off : Nat) : nilF (.loc s off) = some (.loc s off) := nd rfl
theorem nilF_ptr (a : Addr) : nilF (.val (.pointer (some a))) = some (.val (.pointer (some a))) := nd rfl
theorem fieldAddrC_some (off : Nat) (a : Bool) (n : Nat) (x : TV) : fieldAddrC (some (off, a, n)) x = if n = 0 then none else addrF x off := nd rfl
theorem addrF_loc (s off n : Nat) : addrF (.loc s off) n = some (.loc s (off + n)) := nd rfl
theorem addrF_ptr (b off n : Nat) : addrF (.val (.pointer (some ⟨b, off, none⟩))) n = some (.val (.pointer (some ⟨b, off + n, none⟩))) := nd rfl
theorem indexAddrC_arr (len : Nat) (a : Bool) (n : Nat) (s : Option (Bool × Nat)) (x : TV) (k : IntKind) (i : Int) :
    indexAddrC (some (len, a, n)) s x (.val (.int k i)) = if 0 ≤ i ∧ i < len then addrF x (i.toNat * n) else none := nd rfl
theorem indexAddrC_slc (a : Bool) (n : Nat) (x : TV) (k : IntKind) (i : Int) : indexAddrC none (some (a, n)) x (.val (.int k i)) = slotA x i n := nd rfl
theorem slotA_slice (b off len cap : Nat) (i : Int) (n : Nat) :
    slotA (.val (.slice (some ⟨b, off, none⟩) len cap)) i n = if 0 ≤ i ∧ i < len then some (.val (.pointer (some ⟨b, off + i.toNat * n, none⟩))) else none := nd rfl
theorem fieldC_agg (off : Nat) (a : Bool) (n : Nat) (cs : List Value) : fieldC (some (off, a, n)) (.val (.agg cs.toArray)) = partF a n cs off := nd rfl
theorem indexC_agg (len : Nat) (a : Bool) (n : Nat) (cs : List Value) (k : IntKind) (i : Int) :
    indexC (some (len, a, n)) (.val (.agg cs.toArray)) (.val (.int k i)) = if 0 ≤ i ∧ i < len then partF a n cs (i.toNat * n) else none := nd rfl
theorem extractF_tup (vs : List Value) (i : Nat) : extractF (.val (.tuple vs.toArray)) i = vs[i]? := nd rfl
theorem vcells_agg (cs : List Value) : vcells (.agg cs.toArray) = cs := nd rfl
theorem vcells_int (k : IntKind) (n : Int) : vcells (.int k n) = [.int k n] := nd rfl
theorem vcells_bool (b : Bool) : vcells (.bool b) = [.bool b] := nd rfl
theorem vcells_string (b : ByteArray) : vcells (.string b) = [.string b] := nd rfl
theorem vcells_slice (a : Option Addr) (l c : Nat) : vcells (.slice a l c) = [.slice a l c] := nd rfl
theorem vcells_pointer (a : Option Addr) : vcells (.pointer a) = [.pointer a] := nd rfl
theorem vcells_func (f : Fn) (a b : Array Value) : vcells (.func f a b) = [.func f a b] := nd rfl
theorem oneCells_nil : oneCells [] = true := nd rfl
theorem oneCells_int (k : IntKind) (n : Int) (r : List Value) : oneCells (.int k n :: r) = oneCells r := nd rfl
theorem oneCells_bool (b : Bool) (r : List Value) : oneCells (.bool b :: r) = oneCells r := nd rfl
theorem oneCells_string (b : ByteArray) (r : List Value) : oneCells (.string b :: r) = oneCells r := nd rfl
theorem oneCells_slice (a : Option Addr) (l c : Nat) (r : List Value) : oneCells (.slice a l c :: r) = oneCells r := nd rfl
theorem oneCells_pointer (a : Option Addr) (r : List Value) : oneCells (.pointer a :: r) = oneCells r := nd rfl
theorem oneCells_func (f : Fn) (a b : Array Value) (r : List Value) : oneCells (.func f a b :: r) = oneCells r := nd rfl
theorem splice_nil (cs : List Value) (off : Nat) : splice cs off [] = cs := nd rfl
theorem splice_cons (cs : List Value) (off : Nat) (v : Value) (vs : List Value) : splice cs off (v :: vs) = splice (cs.set off v) (off + 1) vs := nd rfl
theorem argT_cons0 (v : Value) (r : List Value) : argT (v :: r) 0 = .val v := nd rfl
theorem argT_succ (v : Value) (r : List Value) (t : Nat) : argT (v :: r) (t + 1) = argT r t := nd rfl
theorem argT_nil (t : Nat) : argT [] t = .bad := nd rfl
theorem init_eq (args : List Value) (H : List (Nat × Blk)) : St.init args H = ⟨argT args, fun _ => none, H⟩ := nd rfl
theorem upd_def {α : Type} (f : Nat → α) (s : Nat) (v : α) (t : Nat) : upd f s v t = if t = s then v else f t := nd rfl
theorem getAll_eq (st : St) (l : List Operand) : getAll st l.toArray = valsF (l.map st.get) := nd rfl
theorem valsF_nil : valsF [] = some [] := nd rfl
theorem valsF_cons (v : Value) (r : List TV) : valsF (.val v :: r) = (valsF r).map (v :: ·) := nd rfl
theorem buildF_eq (P : Program) (t : TypeId) (ps : List (Nat × TV)) : buildF P t ps = buildC (placesOf P t) (zeroOf P t) ps := by
  unfold buildF buildC; rfl
theorem buildC_some (pl : List (Nat × Nat)) (z : List Value) (ps : List (Nat × TV)) : buildC (some pl) (some z) ps = (fillF (fun i => pl[i]?) z ps).map fun cs => .agg cs.toArray := nd rfl
theorem fillF_nil (place : Nat → Option (Nat × Nat)) (cs : List Value) : fillF place cs [] = some cs := nd rfl
theorem fillF_cons (place : Nat → Option (Nat × Nat)) (cs : List Value) (i : Nat) (v : Value) (r : List (Nat × TV)) : fillF place cs ((i, .val v) :: r) = fillC place cs (place i) v r := by
  unfold fillC
  rw [fillF]
theorem fillC_some (place : Nat → Option (Nat × Nat)) (cs : List Value) (off n : Nat) (v : Value) (r : List (Nat × TV)) :
    fillC place cs (some (off, n)) v r = if (vcells v).length = n ∧ off + n ≤ cs.length then fillF place (splice cs off (vcells v)) r else none := nd rfl
theorem binF_shl (P : Program) (t : TypeId) (k k' : IntKind) (a b : Int) : binF P .shl t (.int k a) (.int k' b) = shiftF .shl k a b := nd rfl
theorem binF_shr (P : Program) (t : TypeId) (k k' : IntKind) (a b : Int) : binF P .shr t (.int k a) (.int k' b) = shiftF .shr k a b := nd rfl
theorem binF_add (P : Program) (t : TypeId) (k : IntKind) (a b : Int) : binF P .add t (.int k a) (.int k b) = some (.int k (k.wrap (a + b))) := by simp [binF, intF, bitsF]
theorem binF_sub (P : Program) (t : TypeId) (k : IntKind) (a b : Int) : binF P .sub t (.int k a) (.int k b) = some (.int k (k.wrap (a - b))) := by simp [binF, intF, bitsF]
theorem binF_mul (P : Program) (t : TypeId) (k : IntKind) (a b : Int) : binF P .mul t (.int k a) (.int k b) = some (.int k (k.wrap (a * b))) := by simp [binF, intF, bitsF]
theorem binF_eql (P : Program) (t : TypeId) (k : IntKind) (a b : Int) : binF P .eql t (.int k a) (.int k b) = some (.bool (a == b)) := by simp [binF, intF, bitsF]
theorem binF_neq (P : Program) (t : TypeId) (k : IntKind) (a b : Int) : binF P .neq t (.int k a) (.int k b) = some (.bool (a != b)) := by simp [binF, intF, bitsF]
theorem binF_lss (P : Program) (t : TypeId) (k : IntKind) (a b : Int) : binF P .lss t (.int k a) (.int k b) = some (.bool (decide (a < b))) := by simp [binF, intF, bitsF]
theorem binF_leq (P : Program) (t : TypeId) (k : IntKind) (a b : Int) : binF P .leq t (.int k a) (.int k b) = some (.bool (decide (a ≤ b))) := by simp [binF, intF, bitsF]
theorem binF_gtr (P : Program) (t : TypeId) (k : IntKind) (a b : Int) : binF P .gtr t (.int k a) (.int k b) = some (.bool (decide (a > b))) := by simp [binF, intF, bitsF]
theorem binF_geq (P : Program) (t : TypeId) (k : IntKind) (a b : Int) : binF P .geq t (.int k a) (.int k b) = some (.bool (decide (a ≥ b))) := by simp [binF, intF, bitsF]
theorem binF_and (P : Program) (t : TypeId) (k : IntKind) (a b : Int) : binF P .and t (.int k a) (.int k b) = some (.int k (k.wrap (BitVec.ofInt k.bits a &&& BitVec.ofInt k.bits b).toNat)) := by simp [binF, intF, bitsF]
theorem binF_or (P : Program) (t : TypeId) (k : IntKind) (a b : Int) : binF P .or t (.int k a) (.int k b) = some (.int k (k.wrap (BitVec.ofInt k.bits a ||| BitVec.ofInt k.bits b).toNat)) := by simp [binF, intF, bitsF]
theorem binF_xor (P : Program) (t : TypeId) (k : IntKind) (a b : Int) : binF P .xor t (.int k a) (.int k b) = some (.int k (k.wrap (BitVec.ofInt k.bits a ^^^ BitVec.ofInt k.bits b).toNat)) := by simp [binF, intF, bitsF]
theorem binF_andNot (P : Program) (t : TypeId) (k : IntKind) (a b : Int) : binF P .andNot t (.int k a) (.int k b) = some (.int k (k.wrap (BitVec.ofInt k.bits a &&& ~~~(BitVec.ofInt k.bits b)).toNat)) := by simp [binF, intF, bitsF]
theorem binF_quo (P : Program) (t : TypeId) (k : IntKind) (a b : Int) : binF P .quo t (.int k a) (.int k b) = if b = 0 then none else some (.int k (k.wrap (a.tdiv b))) := by simp [binF, intF]
theorem binF_rem (P : Program) (t : TypeId) (k : IntKind) (a b : Int) : binF P .rem t (.int k a) (.int k b) = if b = 0 then none else some (.int k (a.tmod b)) := by simp [binF, intF]
theorem binF_bool (P : Program) (op : BinOp) (t : TypeId) (a b : Bool) : binF P op t (.bool a) (.bool b) = if isBoolTy P t = true then cmpF op (a == b) else none := nd rfl
theorem binF_agg (P : Program) (op : BinOp) (t : TypeId) (xs ys : List Value) : binF P op t (.agg xs.toArray) (.agg ys.toArray) = (eqAgg P t xs ys).bind (cmpF op) := nd rfl
theorem builtF_len (P : Program) (t : TypeId) (x : Value) : builtF P .len [t] [x] = lenC (arrOf P t) (slcOf P t) x := nd rfl
theorem lenC_arr (n m : Nat) (a : Bool) (s : Option (Bool × Nat)) (x : Value) : lenC (some (n, a, m)) s x = some (.int .i64 n) := nd rfl
theorem lenC_slc (p : Bool × Nat) (a : Option Addr) (n c : Nat) : lenC none (some p) (.slice a n c) = some (.int .i64 n) := nd rfl
theorem builtF_min (P : Program) (ts : List TypeId) (k : IntKind) (a b : Int) : builtF P .min ts [.int k a, .int k b] = some (.int k (if b < a then b else a)) := by simp [builtF]
theorem builtF_max (P : Program) (ts : List TypeId) (k : IntKind) (a b : Int) : builtF P .max ts [.int k a, .int k b] = some (.int k (if b > a then b else a)) := by simp [builtF]
theorem builtF_min3 (P : Program) (ts : List TypeId) (k : IntKind) (a b c : Int) : builtF P .min ts [.int k a, .int k b, .int k c] = some (.int k (if c < (if b < a then b else a) then c else (if b < a then b else a))) := by simp [builtF]
theorem builtF_max3 (P : Program) (ts : List TypeId) (k : IntKind) (a b c : Int) : builtF P .max ts [.int k a, .int k b, .int k c] = some (.int k (if c > (if b > a then b else a) then c else (if b > a then b else a))) := by simp [builtF]
theorem cmpF_eql (b : Bool) : cmpF .eql b = some (.bool b) := nd rfl
theorem cmpF_neq (b : Bool) : cmpF .neq b = some (.bool !b) := nd rfl
theorem unF_not (b : Bool) : unF .not (.bool b) = some (.bool !b) := nd rfl
theorem unF_neg (k : IntKind) (n : Int) : unF .neg (.int k n) = some (.int k (k.wrap (0 - n))) := nd rfl
theorem convF_eq (P : Program) (s d : TypeId) (x : Value) : convF P s d x = convC (hasTy P s) (intOf P d) x := nd rfl
theorem convC_int (k k' : IntKind) (n : Int) : convC true (some k) (.int k' n) = some (.int k (k.wrap n)) := nd rfl
theorem look_cons (b c : Nat) (x : Blk) (r : List (Nat × Blk)) : look b ((c, x) :: r) = if b = c then some x else look b r := nd rfl
theorem hset_cons (b c : Nat) (x y : Blk) (r : List (Nat × Blk)) : hset b x ((c, y) :: r) = if b = c then (c, x) :: r else (c, y) :: hset b x r := nd rfl
theorem guardT_eq (ops : List Oper) (T : Nat → TV) (L : Nat → Option (List Value)) (H : List (Nat × Blk)) (j : Nat) : guardT ops ⟨T, L, H⟩ j = guardC ((ops[j]?).bind (·.dst)) T := by
  unfold guardT guardC; rfl
theorem guardC_some (d : Nat) (T : Nat → TV) : guardC (some d) T = T d := nd rfl
theorem fin_ret (P : Program) (rs : List ResultVar) (Q : Value → List (Nat × Blk) → Prop) (st : St) : fin P rs Q .ret st = oK (resF P rs st) fun v => Q v st.heap := nd rfl
theorem fin_normal (P : Program) (rs : List ResultVar) (Q : Value → List (Nat × Blk) → Prop) (st : St) : fin P rs Q .normal st = oK (resF P rs st) fun v => Q v st.heap := nd rfl
theorem resAll_nil (P : Program) (st : St) : resAll P st [] = some [] := nd rfl
theorem resAll_cons (P : Program) (st : St) (r : ResultVar) (rs : List ResultVar) : resAll P st (r :: rs) = (resOne P st r).bind fun v => (resAll P st rs).map fun vs => v :: vs := by
  conv => lhs; unfold resAll
  cases resOne P st r with
  | none => rfl
  | some v => cases resAll P st rs <;> rfl
theorem resOne_tmp (P : Program) (T : Nat → TV) (L : Nat → Option (List Value)) (H : List (Nat × Blk)) (t : Nat) : resOne P ⟨T, L, H⟩ (.tmp t) = valF (T t) := nd rfl
theorem resOne_cell (P : Program) (st : St) (a : Nat) (t : TypeId) : resOne P st (.cell a t) = loadF P t (st.tmps a) st := nd rfl

theorem resF_one_tmp (P : Program) (t : Nat) (T : Nat → TV) (L : Nat → Option (List Value)) (H : List (Nat × Blk)) : resF P [.tmp t] ⟨T, L, H⟩ = valF (T t) := by
  unfold resF
  rw [resAll_cons, resOne_tmp]
  cases valF (T t) <;> rfl
theorem resF_one_cell (P : Program) (a : Nat) (t : TypeId) (st : St) : resF P [.cell a t] st = loadF P t (st.tmps a) st := by
  unfold resF
  rw [resAll_cons, resOne_cell]
  cases loadF P t (st.tmps a) st <;> rfl
theorem resF_none (P : Program) (st : St) : resF P [] st = some (.tuple #[]) := nd rfl
theorem resF_more (P : Program) (r r' : ResultVar) (rs : List ResultVar) (st : St) : resF P (r :: r' :: rs) st = (resAll P st (r :: r' :: rs)).map fun vs => .tuple vs.toArray := by
  unfold resF
  cases h : resAll P st (r :: r' :: rs) with
  | none => rfl
  | some vs =>
    cases vs with
    | nil => rfl
    | cons v vs =>
      cases vs with
      | nil =>
        unfold resAll at h
        split at h
        · rename_i v2 vs2 h1 h2
          cases h
          unfold resAll at h2
          split at h2 <;> cases h2
        · cases h
      | cons u vs => rfl

/-! ### Regions whose order is open -/
@[congr] theorem evPlan_congr {cx : Cx} {ops : List Oper} {l : List Row} {st st' : St} {K : St → Prop} (h : st = st') : evPlan cx ops l st K = evPlan cx ops l st' K := by rw [h]
@[congr] theorem evDraw_congr {cx : Cx} {p p' : Option (List Nat × List Row)} {ops : List Oper} {st st' : St} {K : St → Prop} (h0 : p = p') (h : st = st') : evDraw cx p ops st K = evDraw cx p' ops st' K := by rw [h0, h]
@[congr] theorem evRow_congr {cx : Cx} {ops : List Oper} {o : Oper} {st st' : St} {K : St → Prop} (h : st = st') : evRow cx ops o st K = evRow cx ops o st' K := by rw [h]
theorem ev_draw (cx : Cx) (nt : Nat) (T : Nat → TV) (L : Nat → Option (List Value)) (H : List (Nat × Blk)) (K : Ex → St → Prop) (id : Nat) (ops : List Oper) : ev cx nt (.region id ops.toArray true) (St.mk T L H) K = evDraw cx (planOf id cx.pl) ops (St.mk T L H) (K .normal) := nd rfl
theorem planOf_cons (id j : Nat) (pl : List Nat × List Row) (r : List (Nat × List Nat × List Row)) : planOf id ((j, pl) :: r) = if id = j then some pl else planOf id r := nd rfl
theorem evDraw_none (cx : Cx) (ops : List Oper) (pl : List Row) (st : St) (K : St → Prop) : evDraw cx (some ([], pl)) ops st K = evPlan cx ops pl st K := by
  have : st.forget [] = st := by
    cases st
    simp only [St.forget, St.mk.injEq, and_true]
    refine ⟨?_, ?_⟩
    · funext t; unfold forgetT forgetV; split <;> simp_all [memb]
    · funext s; simp [forgetL, memb]
  show evPlan cx ops pl (st.forget []) K = _
  rw [this]
theorem evDraw_some (cx : Cx) (ops : List Oper) (d : Nat) (ds : List Nat) (pl : List Row) (T : Nat → TV) (L : Nat → Option (List Value)) (H : List (Nat × Blk)) (K : St → Prop) :
    evDraw cx (some (d :: ds, pl)) ops ⟨T, L, H⟩ K = evPlan cx ops pl ⟨forgetT (d :: ds) T, forgetL (d :: ds) L, H⟩ K := nd rfl
theorem forgetT_eq (ds : List Nat) (T : Nat → TV) (t : Nat) : forgetT ds T t = forgetV ds (T t) := nd rfl
theorem forgetL_eq (ds : List Nat) (L : Nat → Option (List Value)) (s : Nat) : forgetL ds L s = if memb s ds = true then none else L s := nd rfl
theorem forgetV_val (ds : List Nat) (v : Value) : forgetV ds (.val v) = .val v := nd rfl
theorem forgetV_bad (ds : List Nat) : forgetV ds .bad = .bad := nd rfl
theorem forgetV_loc (ds : List Nat) (s off : Nat) : forgetV ds (.loc s off) = if memb s ds = true then .bad else .loc s off := nd rfl
theorem evPlan_nil (cx : Cx) (ops : List Oper) (st : St) (K : St → Prop) : evPlan cx ops [] st K = K st := nd rfl
def evAt (cx : Cx) (ops : List Oper) (o : Option Oper) (chk : List Nat) (rs : List Row) (st : St) (K : St → Prop) : Prop :=
  match o with
  | some o => evOps cx ops [o] st fun st' => chkAll cx ops chk st' (evPlan cx ops rs st' K)
  | none => False
@[congr] theorem evAt_congr {cx : Cx} {ops : List Oper} {o o' : Option Oper} {chk : List Nat} {rs : List Row} {st st' : St} {K : St → Prop} (h0 : o = o') (h : st = st') : evAt cx ops o chk rs st K = evAt cx ops o' chk rs st' K := by rw [h0, h]
theorem evPlan_cons (cx : Cx) (ops : List Oper) (i : Nat) (eff : Bool) (an chk : List Nat) (rs : List Row) (st : St) (K : St → Prop) :
    evPlan cx ops (⟨i, eff, an, chk⟩ :: rs) st K = evAt cx ops (ops[i]?) chk rs st K := by
  unfold evAt
  rw [evPlan]
  cases ops[i]? with
  | none => rfl
  | some o => rfl
theorem evAt_some (cx : Cx) (ops : List Oper) (o : Oper) (chk : List Nat) (rs : List Row) (st : St) (K : St → Prop) :
    evAt cx ops (some o) chk rs st K = evOps cx ops [o] st (fun st' => chkAll cx ops chk st' (evPlan cx ops rs st' K)) := nd rfl
theorem chkAll_nil (cx : Cx) (ops : List Oper) (st : St) (X : Prop) : chkAll cx ops [] st X = X := nd rfl
theorem chkAll_cons (cx : Cx) (ops : List Oper) (j : Nat) (js : List Nat) (st : St) (X : Prop) : chkAll cx ops (j :: js) st X = (chkOne cx ops (ops[j]?) st ∧ chkAll cx ops js st X) := nd rfl
theorem chkOne_plain (cx : Cx) (ops : List Oper) (d : Nat) (t : TypeId) (a : Operand) (ty : TypeId) (pos : String) (af : Array Edge) (st : St) :
    chkOne cx ops (some ⟨some d, .load t a, ty, pos, af, none⟩) st = oK (loadF cx.P t (st.get a) st) (fun v => st.get (.tmp d) = .val v) := nd rfl
theorem chkOne_guard (cx : Cx) (ops : List Oper) (d : Nat) (t : TypeId) (a : Operand) (ty : TypeId) (pos : String) (af : Array Edge) (j : Nat) (w : Bool) (st : St) :
    chkOne cx ops (some ⟨some d, .load t a, ty, pos, af, some (j, w)⟩) st = evGuard (guardT ops st j) w (oK (loadF cx.P t (st.get a) st) (fun v => st.get (.tmp d) = .val v)) True := nd rfl
theorem append_cons {α : Type} (x : α) (l m : List α) : List.append (x :: l) m = x :: List.append l m := nd rfl
theorem append_nil {α : Type} (m : List α) : List.append [] m = m := nd rfl

end Go.Z
