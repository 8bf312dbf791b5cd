/-
  Open places of a walk: what must be shown, or parted, there.
-/
import Derived.Test.YtbkmhkeihbgcfaaMc
set_option linter.unusedVariables false
set_option linter.unusedSimpArgs false
namespace Go.Y

instance : Inhabited AV := ⟨.nilp⟩

/-! ### Integers that may wrap -/
def wrapO (k : IntKind) (e : Int) : Option AV := some (.int k (k.wrap e))
def quoO (k : IntKind) (a b : Int) : Option AV := if b = 0 then none else wrapO k (quoI a b)
def remO (k : IntKind) (a b : Int) : Option AV := if b = 0 then none else some (.int k (remI a b))
section
variable {P : Program} {H : Hp} (t : TypeId) (k k' : IntKind) (a b : Int)
theorem mbin_add : binA P .add t (.int k a) (.int k b) = wrapO k (a + b) := bin_add t k a b
theorem mbin_sub : binA P .sub t (.int k a) (.int k b) = wrapO k (a - b) := bin_sub t k a b
theorem mbin_mul : binA P .mul t (.int k a) (.int k b) = wrapO k (a * b) := bin_mul t k a b
theorem mbin_quo : binA P .quo t (.int k a) (.int k b) = quoO k a b := bin_quo t k a b
theorem mbin_rem : binA P .rem t (.int k a) (.int k b) = remO k a b := bin_rem t k a b
theorem mun_neg : unA .neg (.int k a) = wrapO k (0 - a) := rfl
theorem mcvI_some : cvI true (some k) a = wrapO k a := rfl
theorem mbin_shl : binA P .shl t (.int k a) (.int k' b) = bol (if 0 ≤ b then true else false) (wrapO k (a * 2 ^ min b.toNat k.bits)) := by
  rw [bin_shl]
  unfold bol wrapO
  by_cases h : b < 0
  · rw [if_pos h, if_neg (by simp; omega)]
  · rw [if_neg h, if_pos (by simp; omega)]
theorem shrI_eq (n : Nat) : shrI a n = a / 2 ^ n := by
  unfold shrI
  exact Int.fdiv_eq_ediv_of_nonneg _ (Int.pow_nonneg (by omega))
theorem mbin_shr : binA P .shr t (.int k a) (.int k' b) = bol (if 0 ≤ b then true else false) (some (.int k (a / 2 ^ min b.toNat k.bits))) := by
  rw [bin_shr]
  unfold bol
  by_cases h : b < 0
  · rw [if_pos h, if_neg (by simp; omega)]
  · rw [if_neg h, if_pos (by simp; omega), shrI_eq]
theorem wrapO_lit (n : Nat) : wrapO k (OfNat.ofNat n) = some (.int k (k.wrap (OfNat.ofNat n))) := rfl
theorem wrapO_neg (n : Nat) : wrapO k (-OfNat.ofNat n) = some (.int k (k.wrap (-OfNat.ofNat n))) := rfl
end

section
variable {cx : Cx} {fx : Fx} {kt : Kt} {H : Hp} {n : Nat} {e a b : Int} {k : IntKind}
theorem valK_w64 (h : -9223372036854775808 ≤ e ∧ e ≤ 9223372036854775807) (hk : ValK cx fx kt (some (.int .i64 e)) H n) : ValK cx fx kt (wrapO .i64 e) H n := by unfold wrapO; rw [wrap64 h]; exact hk
theorem valK_w32 (h : -2147483648 ≤ e ∧ e ≤ 2147483647) (hk : ValK cx fx kt (some (.int .i32 e)) H n) : ValK cx fx kt (wrapO .i32 e) H n := by unfold wrapO; rw [wrap32 h]; exact hk
theorem valK_wu8 (h : 0 ≤ e ∧ e ≤ 255) (hk : ValK cx fx kt (some (.int .u8 e)) H n) : ValK cx fx kt (wrapO .u8 e) H n := by unfold wrapO; rw [wrapu8 h]; exact hk
theorem valK_wu16 (h : 0 ≤ e ∧ e ≤ 65535) (hk : ValK cx fx kt (some (.int .u16 e)) H n) : ValK cx fx kt (wrapO .u16 e) H n := by unfold wrapO; rw [wrapu16 h]; exact hk
theorem valK_wu32 (h : 0 ≤ e ∧ e ≤ 4294967295) (hk : ValK cx fx kt (some (.int .u32 e)) H n) : ValK cx fx kt (wrapO .u32 e) H n := by unfold wrapO; rw [wrapu32 h]; exact hk
theorem valK_wu64 (h : 0 ≤ e ∧ e ≤ 18446744073709551615) (hk : ValK cx fx kt (some (.int .u64 e)) H n) : ValK cx fx kt (wrapO .u64 e) H n := by unfold wrapO; rw [wrapu64 h]; exact hk
theorem valK_wr (hk : ValK cx fx kt (some (.int k (k.wrap e))) H n) : ValK cx fx kt (wrapO k e) H n := hk
theorem valK_quo (h : 0 ≤ a ∧ 0 < b) (hk : ValK cx fx kt (wrapO k (a / b)) H n) : ValK cx fx kt (quoO k a b) H n := by
  unfold quoO quoI; rw [if_neg (by omega), Int.tdiv_eq_ediv_of_nonneg h.1]; exact hk
theorem valK_quoR (h : b ≠ 0) (hk : ValK cx fx kt (wrapO k (quoI a b)) H n) : ValK cx fx kt (quoO k a b) H n := by
  unfold quoO; rw [if_neg h]; exact hk
theorem valK_rem (h : 0 ≤ a ∧ 0 < b) (hk : ValK cx fx kt (some (.int k (a % b))) H n) : ValK cx fx kt (remO k a b) H n := by
  unfold remO remI; rw [if_neg (by omega), Int.tmod_eq_emod_of_nonneg h.1]; exact hk
theorem valK_remR (h : b ≠ 0) (hk : ValK cx fx kt (some (.int k (remI a b))) H n) : ValK cx fx kt (remO k a b) H n := by
  unfold remO; rw [if_neg h]; exact hk
end

/-! ### What must hold -/
section
variable {P : Program} {H : Hp}
theorem mia_ptr (len n k i : Nat) (a : Bool) (s : Option (Bool × Nat)) (p : List PE) (kk : IntKind) (j : Int) : indexAddrC (some (len, a, n)) s (.ptr k i p) (.int kk j) = bol (if 0 ≤ j ∧ j < len then true else false) (some (.ptr k i (p ++ [.idx j.toNat n]))) := by
  rw [ia_ptr]; unfold bol; simp
theorem mia_slc (n m k i b st len cap : Nat) (a : Bool) (p : List PE) (kk : IntKind) (j : Int) : indexAddrC none (some (a, n)) (.slc k i p m b st len cap) (.int kk j) = if n = m then bol (if 0 ≤ j ∧ j < len then true else false) (some (.ptr k i (p ++ [.idx (st + j.toNat) n]))) else none := by
  rw [ia_slc]; unfold bol; simp
theorem mix_rows (t : TypeId) (len n sz : Nat) (a : Bool) (vs : List AV) (kk : IntKind) (j : Int) : indexC P t (some (len, a, n)) (.rows sz vs) (.int kk j) = if sz = n then bol (if 0 ≤ j ∧ j < len then true else false) (lkO (some (a, n)) vs[j.toNat]?) else none := by
  rw [ix_rows]; unfold bol; simp
theorem mix_str (t : TypeId) (l : Option (Nat × Bool × Nat)) (s : List UInt8) (kk : IntKind) (j : Int) : indexC P t l (.str s) (.int kk j) = bol (isStrTy P t) (bol (if 0 ≤ j ∧ j < s.length then true else false) (chO s[j.toNat]?)) := by
  rw [ix_str]; unfold bol; simp
def bolN (b : Bool) (x : Option Nat) : Option Nat := bol b x
theorem mbndA_int (k : IntKind) (i : Int) (y : Nat) : bndA (some (.int k i)) y = bol (if 0 ≤ i ∧ i ≤ y then true else false) (some i.toNat) := by
  rw [bndA_int]; unfold bol; simp
theorem mmsO_some (a : Bool) (sz : Nat) (z : AV) (by_ : Nat) (k k' : IntKind) (len cap : Int) (n : Nat) : msO (some (a, sz)) (some z) (some by_) (some (.int k len)) (some (.int k' cap)) n =
    bol (z.size == sz && !z.isTup) (bol (if 0 ≤ len ∧ len ≤ cap ∧ by_ * cap ≤ 281474976710656 ∧ cap ≤ 9223372036854775807 then true else false) (some (.slc n 0 [] sz 0 0 len.toNat cap.toNat, .vec cap.toNat sz (List.replicate cap.toNat z)))) := by
  rw [msO_some]
  unfold bol
  by_cases h1 : (z.size == sz && !z.isTup) = true <;> simp [h1]
theorem mstoreB_vec (k cap n m : Nat) (r l : List AV) : storeB k (.vec cap n r) (some (.rows m l)) H = if m = n then bol (if l.length = r.length then true else false) (some (hset k (.vec cap m l) H)) else none := by
  rw [storeB_vec]; unfold bol
  by_cases h1 : m = n <;> simp [h1]
theorem mowO_vec (n k len cap m cap' n' : Nat) (l : List AV) : owO n k len cap m (some (.vec cap' n' l)) = if m = n ∧ m = n' then bol (if cap = cap' ∧ len ≤ l.length then true else false) (some (some k, l.take len)) else none := by
  rw [owO_vec]; unfold bol
  by_cases h1 : m = n ∧ m = n'
  · by_cases h2 : cap = cap' ∧ len ≤ l.length
    · rw [if_pos ⟨h1.1, h1.2, h2⟩, if_pos h1, if_pos (if_pos h2)]
    · rw [if_neg (fun h => h2 h.2.2), if_pos h1, if_neg (by simp; intro h; have := fun k => h2 ⟨h, k⟩; omega)]
  · rw [if_neg (fun h => h1 ⟨h.1, h.2.1⟩), if_neg h1]
theorem bol_pos {α : Type} {p : Prop} [Decidable p] (x : Option α) (h : p) : bol (if p then true else false) x = x := by rw [if_pos h]; rfl
theorem len_set (l : List AV) (i : Nat) (v : AV) : (l.set i v).length = l.length := List.length_set ..
theorem get_map {α : Type} [Inhabited α] (f : α → AV) (l : List α) {i : Nat} (h : i < l.length) : (l.map f)[i]? = some (f (l.getD i default)) := by
  simp [List.getD, h]
theorem get_set_ne (l : List AV) {i j : Nat} (v : AV) (h : i ≠ j) : (l.set i v)[j]? = l[j]? := by simp [h]
theorem get_set_eq (l : List AV) {i j : Nat} (v : AV) (h : i = j ∧ j < l.length) : (l.set i v)[j]? = some v := by obtain ⟨rfl, h⟩ := h; simp [h]
end

/-! ### Booleans -/
theorem not_tf (p : Prop) [Decidable p] : (!(if p then true else false)) = if p then false else true := by by_cases h : p <;> simp [h]
theorem not_ft (p : Prop) [Decidable p] : (!(if p then false else true)) = if p then true else false := by by_cases h : p <;> simp [h]
theorem and_tf (p q : Prop) [Decidable p] [Decidable q] : ((if p then true else false) && (if q then true else false)) = if p ∧ q then true else false := by by_cases h : p <;> simp [h]
theorem not_not_b (b : Bool) : (!(!b)) = b := by simp

/-! ### Tests -/
/-- A part of a walk, under what was found at a test. -/
def Imp (p q : Prop) : Prop := p → q
theorem imp_go {p q : Prop} (h : p → q) : Imp p q := h
section
variable {cx : Cx} {fx : Fx} {st : St} {kk : Kd} {a b : Code} {p : Prop} [Decidable p] {t : Bool}
theorem brC_y (h : p) (hk : Ev cx fx a st kk) : BrC cx fx (if p then true else false) a b st kk := by unfold BrC; rw [if_pos h, if_pos rfl]; exact hk
theorem brC_n (h : ¬ p) (hk : Ev cx fx b st kk) : BrC cx fx (if p then true else false) a b st kk := by unfold BrC; rw [if_neg h, if_neg (by simp)]; exact hk
theorem brC_yN (h : ¬ p) (hk : Ev cx fx a st kk) : BrC cx fx (if p then false else true) a b st kk := by unfold BrC; rw [if_neg h, if_pos rfl]; exact hk
theorem brC_nN (h : p) (hk : Ev cx fx b st kk) : BrC cx fx (if p then false else true) a b st kk := by unfold BrC; rw [if_pos h, if_neg (by simp)]; exact hk
theorem brC_t (h : t = true) (hk : Ev cx fx a st kk) : BrC cx fx t a b st kk := by unfold BrC; rw [if_pos h]; exact hk
theorem brC_f (h : t = false) (hk : Ev cx fx b st kk) : BrC cx fx t a b st kk := by unfold BrC; rw [if_neg (by simp [h])]; exact hk
theorem brC_s (h1 : Imp (p) (Ev cx fx a st kk)) (h2 : Imp (¬ p) (Ev cx fx b st kk)) : BrC cx fx (if p then true else false) a b st kk := by
  by_cases h : p
  · exact brC_y h (h1 h)
  · exact brC_n h (h2 h)
theorem brC_sN (h1 : Imp (¬ p) (Ev cx fx a st kk)) (h2 : Imp (p) (Ev cx fx b st kk)) : BrC cx fx (if p then false else true) a b st kk := by
  by_cases h : p
  · exact brC_nN h (h2 h)
  · exact brC_yN h (h1 h)
theorem brC_sB (h1 : Imp (t = true) (Ev cx fx a st kk)) (h2 : Imp (t = false) (Ev cx fx b st kk)) : BrC cx fx t a b st kk := by
  cases h : t
  · exact brC_f rfl (h2 h)
  · exact brC_t rfl (h1 h)
theorem brC_sBN (h1 : Imp (t = false) (Ev cx fx a st kk)) (h2 : Imp (t = true) (Ev cx fx b st kk)) : BrC cx fx (!t) a b st kk := by
  cases h : t
  · exact brC_t rfl (h1 h)
  · exact brC_f rfl (h2 h)
variable {op : Op} {T : Sl} {H H0 : Hp} {n n0 : Nat} {kt : Kt} {w : Bool}
theorem wantK_y (h : p) (hk : WantK cx fx op T H n kt (some (.bool true)) w H0 n0) : WantK cx fx op T H n kt (some (.bool (if p then true else false))) w H0 n0 := by rw [if_pos h]; exact hk
theorem wantK_n (h : ¬ p) (hk : WantK cx fx op T H n kt (some (.bool false)) w H0 n0) : WantK cx fx op T H n kt (some (.bool (if p then true else false))) w H0 n0 := by rw [if_neg h]; exact hk
theorem wantK_yN (h : ¬ p) (hk : WantK cx fx op T H n kt (some (.bool true)) w H0 n0) : WantK cx fx op T H n kt (some (.bool (if p then false else true))) w H0 n0 := by rw [if_neg h]; exact hk
theorem wantK_nN (h : p) (hk : WantK cx fx op T H n kt (some (.bool false)) w H0 n0) : WantK cx fx op T H n kt (some (.bool (if p then false else true))) w H0 n0 := by rw [if_pos h]; exact hk
theorem wantK_t (h : t = true) (hk : WantK cx fx op T H n kt (some (.bool true)) w H0 n0) : WantK cx fx op T H n kt (some (.bool t)) w H0 n0 := by rw [h]; exact hk
theorem wantK_f (h : t = false) (hk : WantK cx fx op T H n kt (some (.bool false)) w H0 n0) : WantK cx fx op T H n kt (some (.bool t)) w H0 n0 := by rw [h]; exact hk
theorem wantK_s (h1 : Imp (p) (WantK cx fx op T H n kt (some (.bool true)) w H0 n0)) (h2 : Imp (¬ p) (WantK cx fx op T H n kt (some (.bool false)) w H0 n0)) : WantK cx fx op T H n kt (some (.bool (if p then true else false))) w H0 n0 := by
  by_cases h : p
  · exact wantK_y h (h1 h)
  · exact wantK_n h (h2 h)
theorem wantK_sN (h1 : Imp (¬ p) (WantK cx fx op T H n kt (some (.bool true)) w H0 n0)) (h2 : Imp (p) (WantK cx fx op T H n kt (some (.bool false)) w H0 n0)) : WantK cx fx op T H n kt (some (.bool (if p then false else true))) w H0 n0 := by
  by_cases h : p
  · exact wantK_nN h (h2 h)
  · exact wantK_yN h (h1 h)
theorem wantK_sB (h1 : Imp (t = true) (WantK cx fx op T H n kt (some (.bool true)) w H0 n0)) (h2 : Imp (t = false) (WantK cx fx op T H n kt (some (.bool false)) w H0 n0)) : WantK cx fx op T H n kt (some (.bool t)) w H0 n0 := by
  cases h : t
  · exact h2 h
  · exact h1 h
theorem wantK_sBN (h1 : Imp (t = false) (WantK cx fx op T H n kt (some (.bool true)) w H0 n0)) (h2 : Imp (t = true) (WantK cx fx op T H n kt (some (.bool false)) w H0 n0)) : WantK cx fx op T H n kt (some (.bool (!t))) w H0 n0 := by
  cases h : t
  · exact h1 h
  · exact h2 h
variable {id base i rid : Nat} {all : List Oper} {pl r : List Row} {eff : Bool} {chk out : List Nat} {d : Option Nat}
theorem rowG_y (h : p) (hk : RowG cx fx id all pl base i eff chk out rid r d op T H n kk (some (.bool true)) w) : RowG cx fx id all pl base i eff chk out rid r d op T H n kk (some (.bool (if p then true else false))) w := by rw [if_pos h]; exact hk
theorem rowG_n (h : ¬ p) (hk : RowG cx fx id all pl base i eff chk out rid r d op T H n kk (some (.bool false)) w) : RowG cx fx id all pl base i eff chk out rid r d op T H n kk (some (.bool (if p then true else false))) w := by rw [if_neg h]; exact hk
theorem rowG_yN (h : ¬ p) (hk : RowG cx fx id all pl base i eff chk out rid r d op T H n kk (some (.bool true)) w) : RowG cx fx id all pl base i eff chk out rid r d op T H n kk (some (.bool (if p then false else true))) w := by rw [if_neg h]; exact hk
theorem rowG_nN (h : p) (hk : RowG cx fx id all pl base i eff chk out rid r d op T H n kk (some (.bool false)) w) : RowG cx fx id all pl base i eff chk out rid r d op T H n kk (some (.bool (if p then false else true))) w := by rw [if_pos h]; exact hk
theorem rowG_t (h : t = true) (hk : RowG cx fx id all pl base i eff chk out rid r d op T H n kk (some (.bool true)) w) : RowG cx fx id all pl base i eff chk out rid r d op T H n kk (some (.bool t)) w := by rw [h]; exact hk
theorem rowG_f (h : t = false) (hk : RowG cx fx id all pl base i eff chk out rid r d op T H n kk (some (.bool false)) w) : RowG cx fx id all pl base i eff chk out rid r d op T H n kk (some (.bool t)) w := by rw [h]; exact hk
theorem rowG_s (h1 : Imp (p) (RowG cx fx id all pl base i eff chk out rid r d op T H n kk (some (.bool true)) w)) (h2 : Imp (¬ p) (RowG cx fx id all pl base i eff chk out rid r d op T H n kk (some (.bool false)) w)) : RowG cx fx id all pl base i eff chk out rid r d op T H n kk (some (.bool (if p then true else false))) w := by
  by_cases h : p
  · exact rowG_y h (h1 h)
  · exact rowG_n h (h2 h)
theorem rowG_sN (h1 : Imp (¬ p) (RowG cx fx id all pl base i eff chk out rid r d op T H n kk (some (.bool true)) w)) (h2 : Imp (p) (RowG cx fx id all pl base i eff chk out rid r d op T H n kk (some (.bool false)) w)) : RowG cx fx id all pl base i eff chk out rid r d op T H n kk (some (.bool (if p then false else true))) w := by
  by_cases h : p
  · exact rowG_nN h (h2 h)
  · exact rowG_yN h (h1 h)
theorem rowG_sB (h1 : Imp (t = true) (RowG cx fx id all pl base i eff chk out rid r d op T H n kk (some (.bool true)) w)) (h2 : Imp (t = false) (RowG cx fx id all pl base i eff chk out rid r d op T H n kk (some (.bool false)) w)) : RowG cx fx id all pl base i eff chk out rid r d op T H n kk (some (.bool t)) w := by
  cases h : t
  · exact h2 h
  · exact h1 h
theorem rowG_sBN (h1 : Imp (t = false) (RowG cx fx id all pl base i eff chk out rid r d op T H n kk (some (.bool true)) w)) (h2 : Imp (t = true) (RowG cx fx id all pl base i eff chk out rid r d op T H n kk (some (.bool false)) w)) : RowG cx fx id all pl base i eff chk out rid r d op T H n kk (some (.bool (!t))) w := by
  cases h : t
  · exact h1 h
  · exact h2 h
end

end Go.Y
