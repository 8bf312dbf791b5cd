/-
  Chapter 18, plain laws: what is nearest at the samples of pixels.
-/
import Derived.Test.YtimolomjpmkbiaaEj
set_option linter.unusedVariables false
set_option linter.unusedSimpArgs false
set_option maxRecDepth 10000
namespace Go.Proofs.Ytimolomjpmkbiaa
open Go.Y
/-- What is at the four samples of a pixel. -/
structure B4 where
  s0 : TBase
  s1 : TBase
  s2 : TBase
  s3 : TBase
def zB : TBase := ⟨false, ⟨0, 0, 0, 0⟩, ⟨0, 0, 0, 0⟩⟩
def b0 : B4 := ⟨zB, zB, zB, zB⟩
def eB4 (b : B4) : AV := .rows 9 [eBase b.s0, eBase b.s1, eBase b.s2, eBase b.s3]
theorem eB4_eq (b : B4) : eB4 b = .rows 9 [eBase b.s0, eBase b.s1, eBase b.s2, eBase b.s3] := rfl
theorem eB4_flat (b : B4) : flatB (eB4 b) = true := rfl
def bI (b : Bool) (k : Int) : Int := if b then k else 0
def bitOf (m : Int) (s : Nat) : Bool := decide (m / 2 ^ s % 2 = 1)
/-- A sample is to be taken. -/
def lS (b : TBase) (k : TKey) : Bool := !b.is || decide (0 < cmpK b.key k)
def nB (f : TFrag) : TBase := ⟨true, f.key, f.c⟩
def updS (b : TBase) (h : Bool) (f : TFrag) : TBase := if h && lS b f.key then nB f else b
def upd (b : B4) (f : TFrag) : B4 := ⟨updS b.s0 (bitOf f.mask 0) f, updS b.s1 (bitOf f.mask 1) f, updS b.s2 (bitOf f.mask 2) f, updS b.s3 (bitOf f.mask 3) f⟩
def leftI (b : B4) (k : TKey) (m : Int) : Int := bI (bitOf m 0 && lS b.s0 k) 1 + bI (bitOf m 1 && lS b.s1 k) 2 + bI (bitOf m 2 && lS b.s2 k) 4 + bI (bitOf m 3 && lS b.s3 k) 8
/-- A map's entry. -/
structure ME where
  x : Int
  y : Int
  v : B4
def atM : List ME → Int → Int → B4
  | [], _, _ => b0
  | e :: r, x, y => if e.x = x ∧ e.y = y then e.v else atM r x y
def setM : List ME → Int → Int → B4 → List ME
  | [], x, y, v => [⟨x, y, v⟩]
  | e :: r, x, y, v => if e.x = x ∧ e.y = y then ⟨x, y, v⟩ :: r else e :: setM r x y v
theorem atM_set : ∀ (M : List ME) (x y : Int) (v : B4) (x2 y2 : Int), atM (setM M x y v) x2 y2 = if x = x2 ∧ y = y2 then v else atM M x2 y2
  | [], x, y, v, x2, y2 => rfl
  | e :: r, x, y, v, x2, y2 => by
    unfold setM
    by_cases h : e.x = x ∧ e.y = y
    · rw [if_pos h]
      unfold atM
      by_cases h2 : x = x2 ∧ y = y2
      · rw [if_pos h2, if_pos h2]
      · rw [if_neg h2, if_neg h2, if_neg (by intro h3; apply h2; omega)]
    · rw [if_neg h]
      unfold atM
      by_cases h3 : e.x = x2 ∧ e.y = y2
      · rw [if_pos h3, if_pos h3, if_neg (by intro h2; apply h; omega)]
      · rw [if_neg h3, if_neg h3, atM_set r x y v x2 y2]
def mW (M : List ME) : List (AV × AV) := M.map fun e => (.agg [.int .i64 e.x, .int .i64 e.y], eB4 e.v)
theorem mW_nil : mW [] = [] := rfl
theorem mW_keys : ∀ M : List ME, keyzB (some (true, 2)) (mW M) = true
  | [] => rfl
  | e :: r => by
    show ((keyO (some (true, 2)) (.agg [.int .i64 e.x, .int .i64 e.y])).isSome && keyzB (some (true, 2)) (mW r)) = true
    rw [mW_keys r]; rfl
theorem find_cons (e : ME) (r : List ME) (x y : Int) (i : Nat) : findI (some (true, 2)) [x, y] (mW (e :: r)) i = if e.x = x ∧ e.y = y then some (i, eB4 e.v) else findI (some (true, 2)) [x, y] (mW r) (i + 1) := by
  show (if keyO (some (true, 2)) (.agg [.int .i64 e.x, .int .i64 e.y]) = some [x, y] then some (i, eB4 e.v) else findI (some (true, 2)) [x, y] (mW r) (i + 1)) = _
  by_cases h : e.x = x ∧ e.y = y
  · rw [if_pos h, if_pos (by rw [h.1, h.2]; rfl)]
  · rw [if_neg h, if_neg]
    intro h2
    have h3 : some [e.x, e.y] = some [x, y] := h2
    injection h3 with h3
    injection h3 with h3 h4
    injection h4 with h4 h5
    exact h ⟨h3, h4⟩
theorem look_gen : ∀ (M : List ME) (x y : Int) (i : Nat), lookOut false (eB4 b0) (findI (some (true, 2)) [x, y] (mW M) i) = eB4 (atM M x y)
  | [], x, y, i => rfl
  | e :: r, x, y, i => by
    rw [find_cons]
    unfold atM
    split
    · rfl
    · exact look_gen r x y (i + 1)
theorem set_gen : ∀ (M : List ME) (x y : Int) (v : B4) (i : Nat), (match findI (some (true, 2)) [x, y] (mW M) i with | some (q, _) => i ≤ q ∧ (mW M).set (q - i) (.agg [.int .i64 x, .int .i64 y], eB4 v) = mW (setM M x y v) | none => mW M ++ [(.agg [.int .i64 x, .int .i64 y], eB4 v)] = mW (setM M x y v))
  | [], x, y, v, i => rfl
  | e :: r, x, y, v, i => by
    rw [find_cons]
    unfold setM
    by_cases h : e.x = x ∧ e.y = y
    · rw [if_pos h, if_pos h]
      refine ⟨Nat.le_refl _, ?_⟩
      rw [Nat.sub_self]; rfl
    · rw [if_neg h, if_neg h]
      have ih := set_gen r x y v (i + 1)
      revert ih
      split
      · rename_i q w hq
        intro ih
        refine ⟨by omega, ?_⟩
        obtain ⟨t, rfl⟩ : ∃ t, q = i + 1 + t := ⟨q - (i + 1), by omega⟩
        have e2 := ih.2
        rw [show i + 1 + t - (i + 1) = t by omega] at e2
        rw [show i + 1 + t - i = t + 1 by omega]
        show _ :: (mW r).set t _ = _ :: mW (setM r x y v)
        rw [e2]
      · intro ih
        show _ :: (mW r ++ _) = _ :: mW (setM r x y v)
        rw [ih]
theorem mW_look (M : List ME) (x y : Int) : lookOut false (.rows 9 [.agg [.bool false, .agg [.int .i64 0, .int .i64 0, .int .i64 0, .int .i64 0], .agg [.int .u8 0, .int .u8 0, .int .u8 0, .int .u8 0]], .agg [.bool false, .agg [.int .i64 0, .int .i64 0, .int .i64 0, .int .i64 0], .agg [.int .u8 0, .int .u8 0, .int .u8 0, .int .u8 0]], .agg [.bool false, .agg [.int .i64 0, .int .i64 0, .int .i64 0, .int .i64 0], .agg [.int .u8 0, .int .u8 0, .int .u8 0, .int .u8 0]], .agg [.bool false, .agg [.int .i64 0, .int .i64 0, .int .i64 0, .int .i64 0], .agg [.int .u8 0, .int .u8 0, .int .u8 0, .int .u8 0]]]) (findI (some (true, 2)) [x, y] (mW M) 0) = eB4 (atM M x y) := look_gen M x y 0
theorem mW_set (M : List ME) (x y : Int) (v : B4) : setI (mW M) (.agg [.int .i64 x, .int .i64 y]) (eB4 v) (findI (some (true, 2)) [x, y] (mW M) 0) = mW (setM M x y v) := by
  have h := set_gen M x y v 0
  unfold setI
  revert h
  split
  · rename_i q w hq
    rw [hq]
    intro h
    rw [Nat.sub_zero] at h
    exact h.2
  · rename_i hq
    rw [hq]; exact id
def onB (w h x y : Int) : Bool := decide (0 ≤ x) && (decide (x < w) && (decide (0 ≤ y) && decide (y < h)))
def putM (w h : Int) (M : List ME) (f : TFrag) : List ME := if onB w h f.x f.y = true then setM M f.x f.y (upd (atM M f.x f.y) f) else M
/-- All that are put, for a pixel. -/
def cellF (x y : Int) (b : B4) (l : List TFrag) : B4 := l.foldl (fun b f => if f.x = x ∧ f.y = y then upd b f else b) b
def onL (w h : Int) (l : List TFrag) : List TFrag := l.filter fun f => onB w h f.x f.y
theorem cellF_snoc (x y : Int) (b : B4) (l : List TFrag) (f : TFrag) : cellF x y b (l ++ [f]) = if f.x = x ∧ f.y = y then upd (cellF x y b l) f else cellF x y b l := by
  unfold cellF; rw [List.foldl_append]; rfl
theorem atM_put (w h : Int) (M : List ME) (f : TFrag) (x y : Int) : atM (putM w h M f) x y = if onB w h f.x f.y = true ∧ f.x = x ∧ f.y = y then upd (atM M x y) f else atM M x y := by
  unfold putM
  by_cases ho : onB w h f.x f.y = true
  · rw [if_pos ho, atM_set]
    by_cases hx : f.x = x ∧ f.y = y
    · rw [if_pos hx, if_pos ⟨ho, hx⟩, hx.1, hx.2]
    · rw [if_neg hx, if_neg (fun e => hx e.2)]
  · rw [if_neg ho, if_neg (fun e => ho e.1)]
theorem atM_all (w h : Int) (x y : Int) : ∀ (l : List TFrag) (M : List ME), atM (l.foldl (putM w h) M) x y = cellF x y (atM M x y) (onL w h l)
  | [], M => rfl
  | f :: l, M => by
    rw [List.foldl_cons, atM_all w h x y l, atM_put]
    unfold onL
    rw [List.filter_cons]
    by_cases ho : onB w h f.x f.y = true
    · rw [if_pos ho]
      unfold cellF
      rw [List.foldl_cons]
      by_cases hx : f.x = x ∧ f.y = y
      · rw [if_pos hx, if_pos ⟨ho, hx⟩]
      · rw [if_neg hx, if_neg (fun e => hx e.2)]
    · rw [if_neg ho, if_neg (fun e => ho e.1)]
def allM (w h : Int) (l : List TFrag) : List ME := l.foldl (putM w h) []
theorem allM_snoc (w h : Int) (l : List TFrag) (f : TFrag) : allM w h (l ++ [f]) = putM w h (allM w h l) f := by unfold allM; rw [List.foldl_append]; rfl
theorem atM_allM (w h x y : Int) (l : List TFrag) : atM (allM w h l) x y = cellF x y b0 (onL w h l) := atM_all w h x y l []
theorem onL_snoc (w h : Int) (l : List TFrag) (f : TFrag) : onL w h (l ++ [f]) = if onB w h f.x f.y = true then onL w h l ++ [f] else onL w h l := by
  unfold onL
  rw [List.filter_append]
  by_cases ho : onB w h f.x f.y = true
  · rw [if_pos ho, List.filter_cons, if_pos ho]; rfl
  · rw [if_neg ho, List.filter_cons, if_neg ho, List.filter_nil, List.append_nil]
end Go.Proofs.Ytimolomjpmkbiaa
