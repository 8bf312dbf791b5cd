/-
  Chapter 16, plain laws: the order of keys; things that are put in.
-/
import Derived.Test.YtcmacobhnpgpaaaKd
set_option linter.unusedVariables false
set_option linter.unusedSimpArgs false
namespace Go.Proofs.Ytcmacobhnpgpaaa
open Go.Y
/-- One of -1, 0, 1, and an order. -/
structure IsOrd {T : Type} (f : T → T → Int) : Prop where
  rng : ∀ a b, f a b = -1 ∨ f a b = 0 ∨ f a b = 1
  anti : ∀ a b, f b a = - f a b
  eqL : ∀ a b c, f a b = 0 → f a c = f b c
  tr : ∀ a b c, f a b < 0 → f b c < 0 → f a c < 0
theorem cmp1_ord : IsOrd cmp1 where
  rng a b := by
    unfold cmp1; split
    · omega
    · split <;> omega
  anti a b := by unfold cmp1; split <;> split <;> (try split) <;> omega
  eqL a b c h := by
    have e : a = b := by
      unfold cmp1 at h
      split at h
      · cases h
      · split at h
        · cases h
        · omega
    rw [e]
  tr a b c h1 h2 := by
    have e1 : a < b := by
      unfold cmp1 at h1
      split at h1
      · assumption
      · split at h1 <;> omega
    have e2 : b < c := by
      unfold cmp1 at h2
      split at h2
      · assumption
      · split at h2 <;> omega
    unfold cmp1; rw [if_pos (by omega)]; decide
theorem ord_on {T U : Type} {f : U → U → Int} (h : IsOrd f) (g : T → U) : IsOrd fun a b => f (g a) (g b) :=
  ⟨fun a b => h.rng _ _, fun a b => h.anti _ _, fun a b c => h.eqL _ _ _, fun a b c => h.tr _ _ _⟩
def lex2 {T : Type} (f g : T → T → Int) (a b : T) : Int := if ¬ f a b = 0 then f a b else g a b
theorem eqR {T : Type} {f : T → T → Int} (h : IsOrd f) {a b c : T} (e : f b c = 0) : f a c = f a b := by
  have := h.eqL b c a e
  have := h.anti a b
  have := h.anti a c
  omega
theorem lex_ord {T : Type} {f g : T → T → Int} (hf : IsOrd f) (hg : IsOrd g) : IsOrd (lex2 f g) where
  rng a b := by unfold lex2; split; exact hf.rng a b; exact hg.rng a b
  anti a b := by
    have := hf.anti a b
    have := hg.anti a b
    unfold lex2; split <;> split <;> omega
  eqL a b c h := by
    unfold lex2 at h
    split at h
    · contradiction
    · rename_i h0
      have e0 : f a b = 0 := by omega
      unfold lex2
      rw [hf.eqL a b c e0, hg.eqL a b c h]
  tr a b c h1 h2 := by
    unfold lex2 at h1 h2 ⊢
    by_cases e1 : f a b = 0
    · rw [if_neg (by simpa using e1)] at h1
      have e3 := hf.eqL a b c e1
      by_cases e2 : f b c = 0
      · rw [if_neg (by simpa using e2)] at h2
        rw [if_neg (by omega)]
        exact hg.tr a b c h1 h2
      · rw [if_pos e2] at h2
        rw [if_pos (by omega)]; omega
    · rw [if_pos e1] at h1
      by_cases e2 : f b c = 0
      · have := eqR hf (a := a) e2
        rw [if_pos (by omega)]; omega
      · rw [if_pos e2] at h2
        have := hf.tr a b c h1 h2
        rw [if_pos (by omega)]; exact this
theorem cmpK_lex (a b : TKey) : cmpK a b = lex2 (fun a b => cmp1 a.z b.z) (lex2 (fun a b => cmp1 a.draw b.draw) (lex2 (fun a b => cmp1 a.tri b.tri) (fun a b => cmp1 a.part b.part))) a b := by
  unfold cmpK lex2
  by_cases h : cmp1 a.part b.part = 0 <;> simp [h]
theorem cmpK_ord : IsOrd cmpK := by
  have e : cmpK = lex2 (fun a b => cmp1 a.z b.z) (lex2 (fun a b => cmp1 a.draw b.draw) (lex2 (fun a b => cmp1 a.tri b.tri) (fun a b => cmp1 a.part b.part))) := by
    funext a b; exact cmpK_lex a b
  rw [e]
  exact lex_ord (ord_on cmp1_ord _) (lex_ord (ord_on cmp1_ord _) (lex_ord (ord_on cmp1_ord _) (ord_on cmp1_ord _)))
theorem cmp1_zero {a b : Int} (h : cmp1 a b = 0) : a = b := by
  unfold cmp1 at h
  split at h
  · cases h
  · split at h
    · cases h
    · omega
theorem cmp1_refl (a : Int) : cmp1 a a = 0 := by unfold cmp1; simp
theorem cmpK_zero {a b : TKey} (h : cmpK a b = 0) : a = b := by
  unfold cmpK at h
  split at h
  · contradiction
  · split at h
    · contradiction
    · split at h
      · contradiction
      · split at h
        · contradiction
        · rename_i h1 h2 h3 h4
          have e1 := cmp1_zero (Decidable.not_not.1 h1)
          have e2 := cmp1_zero (Decidable.not_not.1 h2)
          have e3 := cmp1_zero (Decidable.not_not.1 h3)
          have e4 := cmp1_zero (Decidable.not_not.1 h4)
          cases a; cases b
          simp_all
theorem cmpK_refl (a : TKey) : cmpK a a = 0 := by unfold cmpK; simp [cmp1_refl]
theorem cmpK_z {a b : TKey} (h : ¬ a.z = b.z) : cmpK a b = cmp1 a.z b.z := by
  unfold cmpK; rw [if_pos (fun e => h (cmp1_zero e))]
/-- The farthest first. -/
def sortedK : List TFrag → Prop
  | [] => True
  | y :: l => (∀ z, z ∈ l → ¬ cmpK y.key z.key < 0) ∧ sortedK l
/-- The document's way to put one in. -/
def rput : List TFrag → TFrag → List TFrag
  | [], x => [x]
  | y :: l, x => if cmpK y.key x.key < 0 then x :: y :: l else y :: rput l x
theorem rput_mem {x z : TFrag} : ∀ {l : List TFrag}, z ∈ rput l x ↔ z = x ∨ z ∈ l
  | [] => by simp [rput]
  | y :: l => by
    unfold rput
    split
    · simp
    · rw [List.mem_cons, rput_mem, List.mem_cons]; constructor <;> (intro h; rcases h with h | h | h <;> simp [h])
theorem sorted_rput {x : TFrag} : ∀ {l : List TFrag}, sortedK l → sortedK (rput l x)
  | [], _ => ⟨fun z hz => by simp at hz, trivial⟩
  | y :: l, h => by
    unfold rput
    split
    · rename_i hp
      refine ⟨fun z hz => ?_, h⟩
      have h1 := cmpK_ord.anti y.key x.key
      rcases List.mem_cons.1 hz with rfl | hz
      · omega
      · intro hc
        have h2 := cmpK_ord.tr _ _ _ hp hc
        exact h.1 z hz h2
    · rename_i hp
      refine ⟨fun z hz => ?_, sorted_rput h.2⟩
      rcases rput_mem.1 hz with rfl | hz
      · exact hp
      · exact h.1 z hz
/-- Behind the first one that is nearer all are. -/
theorem scan_all {L : List TFrag} {k : TKey} : ∀ n, (∀ i, i < n → ¬ cmpK (L.getD i default).key k < 0) → scan L k n = n
  | 0, _ => rfl
  | n + 1, h => by
    show (if _ then _ else _) = _
    rw [if_neg (h n (Nat.lt_succ_self n))]
theorem scan_to {L : List TFrag} {k : TKey} {m : Nat} : ∀ n, m ≤ n → (∀ i, m ≤ i → i < n → cmpK (L.getD i default).key k < 0) → scan L k n = scan L k m
  | 0, h, _ => by rw [Nat.le_zero.1 h]
  | n + 1, h, hp => by
    by_cases e : m = n + 1
    · rw [e]
    · show (if _ then _ else _) = _
      rw [if_pos (hp n (by omega) (Nat.lt_succ_self n)), scan_to n (by omega) (fun i h1 h2 => hp i h1 (by omega))]
theorem scan_cons {y : TFrag} {L : List TFrag} {k : TKey} (h : ¬ cmpK y.key k < 0) : ∀ n, scan (y :: L) k (n + 1) = scan L k n + 1
  | 0 => by
    show (if cmpK y.key k < 0 then _ else _) = _
    rw [if_neg h]; rfl
  | n + 1 => by
    show (if cmpK (L.getD n default).key k < 0 then scan (y :: L) k (n + 1) else n + 1 + 1) = (if cmpK (L.getD n default).key k < 0 then scan L k n else n + 1) + 1
    split
    · exact scan_cons h n
    · rfl
theorem putK_rput {x : TFrag} : ∀ {L : List TFrag}, sortedK L → putK L x = rput L x
  | [], _ => rfl
  | y :: l, h => by
    unfold rput
    by_cases hp : cmpK y.key x.key < 0
    · rw [if_pos hp]
      have : scan (y :: l) x.key (y :: l).length = 0 := by
        refine scan_to _ (Nat.zero_le _) (fun i _ hi => ?_)
        cases i with
        | zero => exact hp
        | succ i =>
          have hi : i < l.length := by simpa using hi
          show cmpK (l.getD i default).key x.key < 0
          have hm : l.getD i default ∈ l := by
            rw [List.getD_eq_getElem?_getD, List.getElem?_eq_getElem hi]; exact List.getElem_mem hi
          have h1 := h.1 _ hm
          have h2 := cmpK_ord.rng y.key (l.getD i default).key
          have h3 := cmpK_ord.anti y.key (l.getD i default).key
          by_cases h4 : cmpK y.key (l.getD i default).key = 0
          · have := cmpK_ord.eqL _ _ x.key h4
            omega
          · exact cmpK_ord.tr _ _ _ (by omega : cmpK (l.getD i default).key y.key < 0) hp
      unfold putK
      rw [this]; rfl
    · rw [if_neg hp, ← putK_rput h.2]
      unfold putK
      rw [List.length_cons, scan_cons hp]
      unfold insA
      rw [List.take_succ_cons, List.drop_succ_cons]; rfl
/-- Things, put in one by one. -/
def farK (l : List TFrag) : List TFrag := l.foldl putK []
theorem putK_len (L : List TFrag) (x : TFrag) : (putK L x).length = L.length + 1 := by
  have : ∀ n, scan L x.key n ≤ n := by
    intro n
    induction n with
    | zero => exact Nat.le_refl _
    | succ n ih =>
      show (if _ then _ else _) ≤ _
      split
      · omega
      · exact Nat.le_refl _
  have h := this L.length
  unfold putK insA
  rw [List.length_append, List.length_take, List.length_cons, List.length_drop]; omega
theorem farK_snoc (l : List TFrag) (x : TFrag) : farK (l ++ [x]) = putK (farK l) x := by unfold farK; rw [List.foldl_append]; rfl
theorem fold_sorted : ∀ (l A : List TFrag), sortedK A → sortedK (l.foldl putK A) ∧ (l.foldl putK A).length = A.length + l.length
  | [], A, h => ⟨h, rfl⟩
  | x :: l, A, h => by
    have h1 := fold_sorted l (putK A x) (by rw [putK_rput h]; exact sorted_rput h)
    rw [List.foldl_cons]
    refine ⟨h1.1, ?_⟩
    rw [h1.2, putK_len, List.length_cons]; omega
theorem farK_sorted (l : List TFrag) : sortedK (farK l) ∧ (farK l).length = l.length := by
  have := fold_sorted l [] trivial
  refine ⟨this.1, ?_⟩
  have h := this.2
  rw [List.length_nil, Nat.zero_add] at h
  exact h
theorem farK_len (l : List TFrag) : (farK l).length = l.length := (farK_sorted l).2
theorem farK_next {l : List TFrag} {i : Nat} (h : i < l.length) : farK (l.take (i + 1)) = putK (farK (l.take i)) (l.getD i default) := by
  rw [← farK_snoc, List.take_add_one, List.getD_eq_getElem?_getD, List.getElem?_eq_getElem h]; rfl
end Go.Proofs.Ytcmacobhnpgpaaa
