/-
  Chapter 16, plain laws for KeyTurns: unlike keys in any order; keys that are the same.
-/
import Derived.Test.YtcmacobhnpgpaaaKn
set_option linter.unusedVariables false
set_option linter.unusedSimpArgs false
namespace Go.Proofs.Ytcmacobhnpgpaaa
open Go.Y
/-- Two lists of the same things, each farther than the next, are the same. -/
theorem strict_unique : ∀ {l m : List TFrag}, sortedS l → sortedS m → (∀ z, z ∈ l ↔ z ∈ m) → l = m
  | [], [], _, _, _ => rfl
  | [], b :: m, _, _, h => absurd ((h b).2 (List.mem_cons_self ..)) (by simp)
  | a :: l, [], _, _, h => absurd ((h a).1 (List.mem_cons_self ..)) (by simp)
  | a :: l, b :: m, hl, hm, h => by
    have e : a = b := by
      rcases List.mem_cons.1 ((h a).1 (List.mem_cons_self ..)) with e | h1
      · exact e
      · rcases List.mem_cons.1 ((h b).2 (List.mem_cons_self ..)) with e | h2
        · exact e.symm
        · have g1 := hm.1 _ h1
          have g2 := hl.1 _ h2
          have g3 := cmpK_ord.anti a.key b.key
          omega
    subst e
    refine congrArg _ (strict_unique hl.2 hm.2 fun z => ⟨fun hz => ?_, fun hz => ?_⟩)
    · rcases List.mem_cons.1 ((h z).1 (List.mem_cons_of_mem _ hz)) with rfl | h2
      · have := hl.1 _ hz; rw [cmpK_refl] at this; omega
      · exact h2
    · rcases List.mem_cons.1 ((h z).2 (List.mem_cons_of_mem _ hz)) with rfl | h2
      · have := hm.1 _ hz; rw [cmpK_refl] at this; omega
      · exact h2
def unlike (l : List TFrag) : Prop := l.Pairwise fun a b => ¬ a.key = b.key
theorem sortedS_K : ∀ {l : List TFrag}, sortedS l → sortedK l
  | [], _ => trivial
  | y :: l, h => ⟨fun z hz => by have := h.1 z hz; omega, sortedS_K h.2⟩
theorem fold_strict : ∀ (l A : List TFrag), sortedS A → unlike l → (∀ x, x ∈ l → ∀ z, z ∈ A → ¬ z.key = x.key) → sortedS (l.foldl putK A) ∧ ∀ z, z ∈ l.foldl putK A ↔ z ∈ A ∨ z ∈ l
  | [], A, h, _, _ => ⟨h, by simp⟩
  | x :: l, A, h, hu, hx => by
    have e : putK A x = rput A x := putK_rput (sortedS_K h)
    have hu2 := List.pairwise_cons.1 hu
    have h1 := fold_strict l (putK A x) (by rw [e]; exact sorted_strict h (hx x (List.mem_cons_self ..))) hu2.2 (fun y hy z hz => by
      rw [e] at hz
      rcases rput_mem.1 hz with rfl | hz
      · exact hu2.1 y hy
      · exact hx y (List.mem_cons_of_mem _ hy) z hz)
    rw [List.foldl_cons]
    refine ⟨h1.1, fun z => ?_⟩
    rw [h1.2 z, e, rput_mem, List.mem_cons]
    constructor
    · rintro ((h | h) | h) <;> simp [h]
    · rintro (h | h | h) <;> simp [h]
theorem farK_unlike {l : List TFrag} (h : unlike l) : sortedS (farK l) ∧ ∀ z, z ∈ farK l ↔ z ∈ l := by
  have := fold_strict l [] trivial h (fun _ _ z hz => by simp at hz)
  exact ⟨this.1, fun z => by rw [show farK l = l.foldl putK [] from rfl, this.2 z]; simp⟩
theorem farK_perm {l m : List TFrag} (h : unlike l) (hp : l.Perm m) : farK l = farK m := by
  have hm : unlike m := (hp.pairwise_iff (fun e g => e g.symm)).1 h
  have h1 := farK_unlike h
  have h2 := farK_unlike hm
  exact strict_unique h1.1 h2.1 (fun z => by rw [h1.2, h2.2, hp.mem_iff])
theorem pW_mem {z : TFrag} (B : List TFrag) : ∀ i, z ∈ pW B i → z.key.part < (i : Int)
  | 0, h => by simp [pW] at h
  | i + 1, h => by
    unfold pW at h
    rcases List.mem_append.1 h with h | h
    · have := pW_mem B i h; omega
    · rw [List.mem_singleton] at h; subst h; show (i : Int) < ((i + 1 : Nat) : Int); omega
theorem pW_unlike (B : List TFrag) : ∀ i, unlike (pW B i)
  | 0 => List.Pairwise.nil
  | i + 1 => by
    unfold unlike pW
    refine List.pairwise_append.2 ⟨pW_unlike B i, List.pairwise_singleton _ _, fun a ha b hb e => ?_⟩
    rw [List.mem_singleton] at hb; subst hb
    have h1 := pW_mem B i ha
    rw [e] at h1
    have h2 : (i : Int) < (i : Int) := h1
    omega
theorem far_turned (B : List TFrag) (i k : Nat) : farK ((pW B i).drop k ++ (pW B i).take k) = farK (pW B i) := by
  refine (farK_perm (pW_unlike B i) ?_).symm
  have h : ((pW B i).take k ++ (pW B i).drop k).Perm ((pW B i).drop k ++ (pW B i).take k) := List.perm_append_comm
  rwa [List.take_append_drop] at h
/-- Things of one key, by their places. -/
def oneF (i : Nat) : TFrag := ⟨(i : Int), 0, 0, ⟨0, 0, 0, 0⟩, ⟨0, 0, 0, 0⟩⟩
def oneL : Nat → List TFrag
  | 0 => []
  | i + 1 => oneL i ++ [oneF i]
theorem oneL_len : ∀ i, (oneL i).length = i
  | 0 => rfl
  | i + 1 => by unfold oneL; rw [List.length_append, oneL_len i]; rfl
theorem oneL_key {z : TFrag} : ∀ i, z ∈ oneL i → z.key = ⟨0, 0, 0, 0⟩
  | 0, h => by simp [oneL] at h
  | i + 1, h => by
    unfold oneL at h
    rcases List.mem_append.1 h with h | h
    · exact oneL_key i h
    · rw [List.mem_singleton] at h; subst h; rfl
theorem same_sorted {k : TKey} : ∀ {l : List TFrag}, (∀ z, z ∈ l → z.key = k) → sortedK l
  | [], _ => trivial
  | y :: l, h => ⟨fun z hz => by rw [h y (List.mem_cons_self ..), h z (List.mem_cons_of_mem _ hz), cmpK_refl]; omega, same_sorted (fun z hz => h z (List.mem_cons_of_mem _ hz))⟩
theorem rput_end {x : TFrag} : ∀ {l : List TFrag}, (∀ z, z ∈ l → z.key = x.key) → rput l x = l ++ [x]
  | [], _ => rfl
  | y :: l, h => by
    unfold rput
    rw [if_neg (by rw [h y (List.mem_cons_self ..), cmpK_refl]; omega), rput_end (fun z hz => h z (List.mem_cons_of_mem _ hz))]; rfl
theorem one_put (i : Nat) : putK (oneL i) ⟨(i : Int), 0, 0, ⟨0, 0, 0, 0⟩, ⟨0, 0, 0, 0⟩⟩ = oneL (i + 1) := by
  rw [putK_rput (same_sorted (fun z hz => oneL_key i hz)), rput_end (fun z hz => oneL_key i hz)]; rfl
theorem one_get : ∀ {i j : Nat}, j < i → (oneL i).getD j default = oneF j
  | i + 1, j, h => by
    unfold oneL
    by_cases hj : j < i
    · rw [List.getD_eq_getElem?_getD, List.getElem?_append_left (by rw [oneL_len]; exact hj), ← List.getD_eq_getElem?_getD, one_get hj]
    · have e : j = i := by omega
      subst e
      rw [List.getD_eq_getElem?_getD, List.getElem?_append_right (by rw [oneL_len]; exact Nat.le_refl _), oneL_len, Nat.sub_self]; rfl
theorem one_x {i j : Nat} (h : j < i) : ((oneL i).getD j default).x = (j : Int) := by rw [one_get h]; rfl
end Go.Proofs.Ytcmacobhnpgpaaa
