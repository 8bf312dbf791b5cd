/-
  Partial results come up to where they are asked for; rows whose elements are not written out.
-/
import Derived.Test.YtbkmhkeihbgcfaaMd
set_option linter.unusedVariables false
set_option linter.unusedSimpArgs false
namespace Go.Y

def alt {α : Type} (b : Bool) (x y : Option α) : Option α := if b = true then x else y
theorem alt_true {α : Type} (x y : Option α) : alt true x y = x := rfl
theorem alt_false {α : Type} (x y : Option α) : alt false x y = y := rfl
theorem pick_alt (b : Bool) (x y : Option AV) : pickA (some (.bool b)) x y = alt b x y := by cases b <;> rfl
theorem bol_false {α : Type} (x : Option α) : bol false x = none := rfl

section
variable (b : Bool) (x y : Option AV) {H : Hp} {P : Program} {T : Sl}
theorem getS_bol (p : List PE) : getS (bol b x) p = bol b (getS x p) := by cases b <;> rfl
theorem getS_alt (p : List PE) : getS (alt b x y) p = alt b (getS x p) (getS y p) := by cases b <;> rfl
theorem chkL_bol (l : Option (Bool × Nat)) : chkL l (bol b x) = bol b (chkL l x) := by cases b <;> rfl
theorem chkL_alt (l : Option (Bool × Nat)) : chkL l (alt b x y) = alt b (chkL l x) (chkL l y) := by cases b <;> rfl
theorem lkO_bol (l : Option (Bool × Nat)) : lkO l (bol b x) = bol b (lkO l x) := by cases b <;> rfl
theorem lkO_alt (l : Option (Bool × Nat)) : lkO l (alt b x y) = alt b (lkO l x) (lkO l y) := by cases b <;> rfl
theorem chO_bol (u : Option UInt8) : chO (bol b u) = bol b (chO u) := by cases b <;> rfl
theorem putS_bol (v : AV) (e : PE) (p : List PE) (z : AV) : putS v e (bol b x) p z = bol b (putS v e x p z) := by cases b <;> rfl
theorem putS_alt (v : AV) (e : PE) (p : List PE) (z : AV) : putS v e (alt b x y) p z = alt b (putS v e x p z) (putS v e y p z) := by cases b <;> rfl
theorem putU_bol (v : AV) (e : PE) : putU v e (bol b x) = bol b (putU v e x) := by cases b <;> rfl
theorem putU_alt (v : AV) (e : PE) : putU v e (alt b x y) = alt b (putU v e x) (putU v e y) := by cases b <;> rfl
theorem storeB_bol (k : Nat) (e : Ent) : storeB k e (bol b x) H = bol b (storeB k e x H) := by cases b <;> rfl
theorem storeB_alt (k : Nat) (e : Ent) : storeB k e (alt b x y) H = alt b (storeB k e x H) (storeB k e y H) := by cases b <;> rfl
theorem stH_bol (u : Option Hp) : stH (bol b u) = bol b (stH u) := by cases b <;> rfl
theorem stH_alt (u v : Option Hp) : stH (alt b u v) = alt b (stH u) (stH v) := by cases b <;> rfl
theorem consO_bol (l : Option (List AV)) : consO (bol b x) l = bol b (consO x l) := by cases b <;> rfl
theorem consO_bol2 (v : AV) (l : Option (List AV)) : consO (some v) (bol b l) = bol b (consO (some v) l) := by cases b <;> rfl
theorem tupO_bol (l : Option (List AV)) : tupO (bol b l) = bol b (tupO l) := by cases b <;> rfl
theorem sbX_bol (h m : Nat) (l : Option Nat) : sbX h m (bol b l) = bol b (sbX h m l) := by cases b <;> rfl
theorem sbH_bol (m : Nat) (h : Option Nat) (lo : Option (Option AV)) : sbH m (bol b h) lo = bol b (sbH m h lo) := by cases b <;> rfl
theorem cutA_bol (u : Option (Nat × Nat × Nat)) (k i : Nat) (p : List PE) (n a s : Nat) : cutA (bol b u) k i p n a s = bol b (cutA u k i p n a s) := by cases b <;> rfl
theorem cutN_bol (u : Option (Nat × Nat × Nat)) : cutN (bol b u) = bol b (cutN u) := by cases b <;> rfl
theorem cutS_bol (u : Option (Nat × Nat × Nat)) (s : List UInt8) : cutS (bol b u) s = bol b (cutS u s) := by cases b <;> rfl
theorem apO_bol (n : Nat) (k : Option (Option Nat × List AV)) (m : Option (List AV)) : apO n (bol b k) m = bol b (apO n k m) := by cases b <;> rfl
theorem apO_bol2 (n : Nat) (k : Option Nat × List AV) (m : Option (List AV)) : apO n (some k) (bol b m) = bol b (apO n (some k) m) := by
  obtain ⟨k, l⟩ := k; cases b <;> rfl
theorem fillN_bol (pl : List (Nat × Nat)) (r : List (Nat × Option AV)) : fillN pl (bol b x) r = bol b (fillN pl x r) := by cases b <;> rfl
theorem fillM_bol (sz : Nat) (r : List (Nat × Option AV)) : fillM sz (bol b x) r = bol b (fillM sz x r) := by cases b <;> rfl
theorem eqO_bol (neg : Bool) (u : Option Bool) : eqO neg (bol b u) = bol b (eqO neg u) := by cases b <;> rfl
theorem bol_bol {α : Type} (c : Bool) (u : Option α) : bol b (bol c u) = bol (b && c) u := by cases b <;> rfl
end

/-! ### Rows -/
theorem get_mapB {α : Type} [Inhabited α] (f : α → AV) (l : List α) (i : Nat) : (l.map f)[i]? = bol (if i < l.length then true else false) (some (f (l.getD i default))) := by
  by_cases h : i < l.length
  · rw [get_map f l h]; simp [bol, h]
  · simp [bol, h]
theorem get_setB (l : List AV) (i j : Nat) (v : AV) : (l.set i v)[j]? = alt (if i = j then true else false) (bol (if i < l.length then true else false) (some v)) l[j]? := by
  unfold alt bol
  by_cases h : i = j
  · subst h
    by_cases h2 : i < l.length <;> simp [h2]
  · simp [h]
theorem get_appB (l : List AV) (x : AV) (j : Nat) : (l ++ [x])[j]? = alt (if j < l.length then true else false) l[j]? (bol (if j = l.length then true else false) (some x)) := by
  unfold alt bol
  by_cases h : j < l.length
  · rw [List.getElem?_append_left h]; simp [h]
  · rw [List.getElem?_append_right (by omega)]
    by_cases h2 : j = l.length
    · subst h2; simp
    · have : j - l.length ≠ 0 := by omega
      obtain ⟨k, hk⟩ := Nat.exists_eq_succ_of_ne_zero this
      simp [h, h2, hk]
theorem get_bytes (l : List UInt8) (i : Nat) : l[i]? = bol (if i < l.length then true else false) (some (l.getD i 0)) := by
  unfold bol
  by_cases h : i < l.length <;> simp [h, List.getD]
theorem len_map {α : Type} (f : α → AV) (l : List α) : (l.map f).length = l.length := List.length_map ..
theorem len_app (l m : List AV) : (l ++ m).length = l.length + m.length := List.length_append
theorem nat_zero_add (n : Nat) : 0 + n = n := Nat.zero_add n
theorem take_map {α : Type} (f : α → AV) (l : List α) : (l.map f).take l.length = l.map f := by
  rw [List.take_of_length_le]; simp
theorem take_self (l : List AV) : l.take l.length = l := List.take_length
theorem drop_zero (l : List AV) : l.drop 0 = l := rfl
theorem elemsE_vec (cap n m : Nat) (l : List AV) (s len : Nat) : elemsE (some (.vec cap n l)) 0 [] s len m = if n = m then bol (if s + len ≤ l.length ∨ len = 0 then true else false) (some ((l.drop s).take len)) else none := by
  unfold elemsE elemsT elemsC bol
  simp [Ent.tree, getP]
theorem elemsE_ro (f : Nat → AV) (i : Nat) (p : List PE) (m : Nat) (s len : Nat) : elemsE (some (.ro f)) i p s len m = elemsC (getP (f i) p) s len m := rfl
theorem elemsE_cel (v : AV) (p : List PE) (m : Nat) (s len : Nat) : elemsE (some (.cel v)) 0 p s len m = elemsC (getP v p) s len m := rfl
theorem elemsC_rows (n m : Nat) (l : List AV) (s len : Nat) : elemsC (some (.rows n l)) s len m = if n = m then bol (if s + len ≤ l.length ∨ len = 0 then true else false) (some ((l.drop s).take len)) else none := by
  unfold elemsC bol; simp
theorem elemsC_bol (b : Bool) (x : Option AV) (s len m : Nat) : elemsC (bol b x) s len m = bol b (elemsC x s len m) := by cases b <;> rfl

/-! ### Nil slices, strings of bytes -/
theorem bin_nsleql {P : Program} (t : TypeId) (k i n a s len cap : Nat) (p : List PE) : binA P .eql t (.slc k i p n a s len cap) .nils = slN (slcOf P t) (bol (if cap ≠ 0 ∨ s ≠ 0 then true else false) (some (.bool false))) := by
  unfold slN bol
  simp only [binA, cmpF]
  cases slcOf P t <;> simp
theorem bin_nslneq {P : Program} (t : TypeId) (k i n a s len cap : Nat) (p : List PE) : binA P .neq t (.slc k i p n a s len cap) .nils = slN (slcOf P t) (bol (if cap ≠ 0 ∨ s ≠ 0 then true else false) (some (.bool true))) := by
  unfold slN bol
  simp only [binA, cmpF]
  cases slcOf P t <;> simp
theorem bin_nnleql {P : Program} (t : TypeId) : binA P .eql t .nils .nils = slN (slcOf P t) (some (.bool true)) := by
  unfold slN
  simp only [binA, cmpF]
  cases slcOf P t <;> simp
theorem bin_nnlneq {P : Program} (t : TypeId) : binA P .neq t .nils .nils = slN (slcOf P t) (some (.bool false)) := by
  unfold slN
  simp only [binA, cmpF]
  cases slcOf P t <;> simp
theorem slN_bol (b : Bool) (q : Bool × Nat) (x : Option AV) : slN (some q) (bol b x) = bol b x := rfl
def strO (l : List AV) : Option AV := (bytesOf l).map AV.str
def cvS (x y : Bool) (l : Option (List AV)) : Option AV :=
  match x, y with
  | true, true => match l with
    | some l => strO l
    | none => none
  | _, _ => none
theorem conv_slc {P : Program} {H : Hp} (s d : TypeId) (k i n a st len cap : Nat) (p : List PE) : convA P s d (.slc k i p n a st len cap) H = cvS (isByteSlc P s) (isStrTy P d) (elemsE (hget k H) i p st len n) := by
  show (match isByteSlc P s, isStrTy P d with
    | true, true => match elemsC (elemsT (hget k H) i p) st len n with
      | some l => (bytesOf l).map AV.str
      | none => none
    | _, _ => none) = _
  unfold elemsE cvS strO
  rfl
theorem conv_nils {P : Program} {H : Hp} (s d : TypeId) : convA P s d .nils H = cvS (isByteSlc P s) (isStrTy P d) (some []) := rfl
theorem cvS_some (l : List AV) : cvS true true (some l) = strO l := rfl
theorem cvS_bol (b : Bool) (l : Option (List AV)) : cvS true true (bol b l) = bol b (cvS true true l) := by cases b <;> rfl
/-- Bytes. -/
def toB (l : List Int) : List UInt8 := l.map fun x => UInt8.ofNat x.toNat
def bytB (l : List Int) : Bool := l.all fun x => decide (0 ≤ x ∧ x < 256)
theorem strO_map (l : List Int) : strO (l.map (AV.int .u8)) = bol (bytB l) (some (.str (toB l))) := by
  unfold strO bol
  have : bytesOf (l.map (AV.int .u8)) = if bytB l = true then some (toB l) else none := by
    induction l with
    | nil => rfl
    | cons x r ih =>
      simp only [List.map_cons, bytesOf, ih]
      by_cases h : bytB r = true
      · rw [if_pos h]
        by_cases h2 : 0 ≤ x ∧ x < 256
        · simp only [if_pos h2]; rw [if_pos (by simp [bytB] at h ⊢; exact ⟨h2, h⟩)]; rfl
        · simp only [if_neg h2]; rw [if_neg (by simp only [bytB, List.all_cons, Bool.and_eq_true, decide_eq_true_eq]; exact fun hh => h2 hh.1)]
      · rw [if_neg h, if_neg (fun hh => h (by simp only [bytB, List.all_cons, Bool.and_eq_true] at hh ⊢; exact hh.2))]
  rw [this]
  cases bytB l <;> rfl
theorem strO_win (l : List Int) (s len : Nat) : strO (((l.map (AV.int .u8)).drop s).take len) = bol (bytB ((l.drop s).take len)) (some (.str (toB ((l.drop s).take len)))) := by
  rw [← List.map_drop, ← List.map_take]; exact strO_map _
theorem strO_take (l : List Int) (len : Nat) : strO ((l.map (AV.int .u8)).take len) = bol (bytB (l.take len)) (some (.str (toB (l.take len)))) := by
  rw [← List.map_take]; exact strO_map _
theorem strO_drop (l : List Int) (s : Nat) : strO ((l.map (AV.int .u8)).drop s) = bol (bytB (l.drop s)) (some (.str (toB (l.drop s)))) := by
  rw [← List.map_drop]; exact strO_map _
theorem strO_nil : strO [] = some (.str []) := rfl
theorem beq_str (a : List UInt8) : (a == a) = true := by simp

def roomB (b : Option Nat) (len : Nat) : Prop :=
  match b with
  | some b => len * b ≤ 140737488355328 ∧ len ≤ 9223372036854775807
  | none => False
theorem roomOk_eq {P : Program} (t : TypeId) (len : Nat) : roomOk P t len = roomB (bytesE P t) len := by
  unfold roomOk roomB; cases bytesE P t <;> rfl
theorem roomB_some (b len : Nat) : roomB (some b) len = (len * b ≤ 140737488355328 ∧ len ≤ 9223372036854775807) := rfl

section
variable {cx : Cx} {fx : Fx} {kt : Kt} {H : Hp} {n : Nat} {p : Prop} [Decidable p] {b : Bool}
theorem valK_bol {x : Option AV} (h : p) (hk : ValK cx fx kt x H n) : ValK cx fx kt (bol (if p then true else false) x) H n := by rw [if_pos h]; exact hk
theorem valK_bolB {x : Option AV} (h : b = true) (hk : ValK cx fx kt x H n) : ValK cx fx kt (bol b x) H n := by rw [h]; exact hk
theorem effK_bol {x : Option (AV × Hp)} (h : p) (hk : EffK cx fx kt x n) : EffK cx fx kt (bol (if p then true else false) x) n := by rw [if_pos h]; exact hk
theorem newK_bol {x : Option (AV × Ent)} (h : p) (hk : NewK cx fx kt x H n) : NewK cx fx kt (bol (if p then true else false) x) H n := by rw [if_pos h]; exact hk
theorem appK_bol {t : TypeId} {x : Option (Option Nat × Nat × List AV × List AV)} {g : Option (Nat × Nat × List AV × List AV)} (h : p) (hk : AppK cx fx kt t x g H n) : AppK cx fx kt t (bol (if p then true else false) x) g H n := by rw [if_pos h]; exact hk
theorem topO_bol {Q : AV → Hp → Nat → Prop} {x : Option AV} (h : p) (hk : TopO Q x H n) : TopO Q (bol (if p then true else false) x) H n := by rw [if_pos h]; exact hk
theorem valK_altY {x y : Option AV} (h : p) (hk : ValK cx fx kt x H n) : ValK cx fx kt (alt (if p then true else false) x y) H n := by rw [if_pos h]; exact hk
theorem valK_altN {x y : Option AV} (h : ¬ p) (hk : ValK cx fx kt y H n) : ValK cx fx kt (alt (if p then true else false) x y) H n := by rw [if_neg h]; exact hk
theorem valK_altS {x y : Option AV} (h1 : Imp p (ValK cx fx kt x H n)) (h2 : Imp (¬ p) (ValK cx fx kt y H n)) : ValK cx fx kt (alt (if p then true else false) x y) H n := by
  by_cases h : p
  · exact valK_altY h (h1 h)
  · exact valK_altN h (h2 h)
theorem effK_altY {x y : Option (AV × Hp)} (h : p) (hk : EffK cx fx kt x n) : EffK cx fx kt (alt (if p then true else false) x y) n := by rw [if_pos h]; exact hk
theorem effK_altN {x y : Option (AV × Hp)} (h : ¬ p) (hk : EffK cx fx kt y n) : EffK cx fx kt (alt (if p then true else false) x y) n := by rw [if_neg h]; exact hk
theorem effK_altS {x y : Option (AV × Hp)} (h1 : Imp p (EffK cx fx kt x n)) (h2 : Imp (¬ p) (EffK cx fx kt y n)) : EffK cx fx kt (alt (if p then true else false) x y) n := by
  by_cases h : p
  · exact effK_altY h (h1 h)
  · exact effK_altN h (h2 h)
theorem valK_altNY {x y : Option AV} (h : ¬ p) (hk : ValK cx fx kt x H n) : ValK cx fx kt (alt (if p then false else true) x y) H n := by rw [if_neg h]; exact hk
theorem valK_altNN {x y : Option AV} (h : p) (hk : ValK cx fx kt y H n) : ValK cx fx kt (alt (if p then false else true) x y) H n := by rw [if_pos h]; exact hk
theorem valK_altT {x y : Option AV} (h : b = true) (hk : ValK cx fx kt x H n) : ValK cx fx kt (alt b x y) H n := by rw [h]; exact hk
theorem valK_altF {x y : Option AV} (h : b = false) (hk : ValK cx fx kt y H n) : ValK cx fx kt (alt b x y) H n := by rw [h]; exact hk
theorem valK_altNS {x y : Option AV} (h1 : Imp (¬ p) (ValK cx fx kt x H n)) (h2 : Imp p (ValK cx fx kt y H n)) : ValK cx fx kt (alt (if p then false else true) x y) H n := by
  by_cases h : p
  · exact valK_altNN h (h2 h)
  · exact valK_altNY h (h1 h)
theorem valK_altB {x y : Option AV} (h1 : Imp (b = true) (ValK cx fx kt x H n)) (h2 : Imp (b = false) (ValK cx fx kt y H n)) : ValK cx fx kt (alt b x y) H n := by
  cases h : b
  · exact h2 h
  · exact h1 h
theorem appS_go {t : TypeId} {ko : Option Nat} {sz : Nat} {l m : List AV} {g : Option (Nat × Nat × List AV × List AV)} (h : roomOk cx.P t (l.length + m.length))
    (hk : ∀ c, Imp (l.length + m.length ≤ c) (FinK cx fx kt (.slc n 0 [] sz 0 0 (l.length + m.length) c) ((n, .vec c sz (l ++ m)) :: dropO ko H) (n + 1))) : AppS cx fx kt t ko sz l m g H n :=
  .inl ⟨h, hk⟩
theorem appS_grow {t : TypeId} {ko : Option Nat} {sz : Nat} {l m : List AV} {g : Option (Nat × Nat × List AV × List AV)} (h : AppG cx fx kt t g H n) : AppS cx fx kt t ko sz l m g H n := .inr h
theorem appK_none (t : TypeId) (g : Option (Nat × Nat × List AV × List AV)) : AppK cx fx kt t none g H n = AppG cx fx kt t g H n := rfl
/-- A row that grows. -/
def AppH (cx : Cx) (fx : Fx) (kt : Kt) (t : TypeId) (c sz : Nat) (l m : List AV) (H : Hp) (n : Nat) : Prop := AppG cx fx kt t (some (c, sz, l, m)) H n
theorem appG_some (t : TypeId) (c sz : Nat) (l m : List AV) : AppG cx fx kt t (some (c, sz, l, m)) H n = AppH cx fx kt t c sz l m H n := rfl
theorem appH_go {t : TypeId} {c sz : Nat} {l m : List AV} (h : roomOk cx.P t (l.length + m.length)) (hc : c < l.length + m.length)
    (hk : ∀ c, Imp (l.length + m.length ≤ c) (FinK cx fx kt (.slc n 0 [] sz 0 0 (l.length + m.length) c) ((n, .vec c sz (l ++ m)) :: H) (n + 1))) : AppH cx fx kt t c sz l m H n :=
  ⟨⟨h, hc⟩, hk⟩
def grO (c n : Nat) (l m : Option (List AV)) : Option (Nat × Nat × List AV × List AV) :=
  match l, m with
  | some l, some m => some (c, n, l, m)
  | _, _ => none
theorem grO_some (c n : Nat) (l m : List AV) : grO c n (some l) (some m) = some (c, n, l, m) := rfl
theorem growO_more (a ii : Bool) (n : Nat) (z x y : AV) : growO (some (a, n)) (some z) true ii (some x) (some y) H = if (z.size == n && !z.isTup) = true then grO (capX x) n (elemsN n x H) (moreOf n y H) else none := by
  simp only [growO, fitZ_some, if_true]
  split
  · cases elemsN n x H <;> cases moreOf n y H <;> rfl
  · rfl
theorem growO_zero (a : Bool) (n : Nat) (z x y : AV) : growO (some (a, n)) (some z) false true (some x) (some y) H = if (z.size == n && !z.isTup) = true then grO (capX x) n (elemsN n x H) (zeroN z y) else none := by
  simp only [growO, fitZ_some]
  split
  · cases elemsN n x H <;> cases zeroN z y <;> rfl
  · rfl
theorem elemsN_nils (n : Nat) : elemsN n .nils H = some [] := rfl
theorem elemsN_slc (n k i m a s len cap : Nat) (p : List PE) : elemsN n (.slc k i p m a s len cap) H = if m = n then elemsE (hget k H) i p s len m else none := rfl
theorem capX_slc (k i m a s len cap : Nat) (p : List PE) : capX (.slc k i p m a s len cap) = cap := rfl
theorem capX_nils : capX .nils = 0 := rfl
theorem zeroN_int (z : AV) (c : Int) : zeroN z (.int .i64 c) = if 0 ≤ c ∧ c ≤ 1000000000 then some (List.replicate c.toNat z) else none := rfl
end

end Go.Y
