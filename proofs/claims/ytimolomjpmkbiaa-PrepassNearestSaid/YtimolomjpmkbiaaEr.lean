/-
  Chapter 18, plain laws: the nearest of those that have a sample; in any order.
-/
import Derived.Test.YtimolomjpmkbiaaEq
set_option linter.unusedVariables false
set_option linter.unusedSimpArgs false
set_option maxRecDepth 10000
namespace Go.Proofs.Ytimolomjpmkbiaa
open Go.Y
def stepS (x y : Int) (s : Nat) (b : TBase) (f : TFrag) : TBase := if f.x = x ∧ f.y = y then updS b (bitOf f.mask s) f else b
theorem cellF_get (x y : Int) : ∀ (l : List TFrag) (b : B4), cellF x y b l = ⟨l.foldl (stepS x y 0) b.s0, l.foldl (stepS x y 1) b.s1, l.foldl (stepS x y 2) b.s2, l.foldl (stepS x y 3) b.s3⟩
  | [], b => rfl
  | f :: l, b => by
    show cellF x y (if f.x = x ∧ f.y = y then upd b f else b) l = _
    rw [cellF_get x y l, List.foldl_cons, List.foldl_cons, List.foldl_cons, List.foldl_cons]
    unfold stepS
    by_cases h : f.x = x ∧ f.y = y
    · simp only [if_pos h]; rfl
    · simp only [if_neg h]
def hasS (x y : Int) (s : Nat) (f : TFrag) : Prop := (f.x = x ∧ f.y = y) ∧ bitOf f.mask s = true
/-- The nearest of those that have it. -/
def nearS (P : TFrag → Prop) (l : List TFrag) (b : TBase) : Prop := (b = zB ∧ ∀ f, f ∈ l → ¬ P f) ∨ (∃ f, f ∈ l ∧ P f ∧ b = nB f ∧ ∀ g, g ∈ l → P g → ¬ cmpK g.key f.key < 0)
theorem lS_nB (f0 : TFrag) (k : TKey) : lS (nB f0) k = decide (0 < cmpK f0.key k) := rfl
theorem near_snoc (x y : Int) (s : Nat) {l : List TFrag} {b : TBase} (f : TFrag) (h : nearS (hasS x y s) l b) : nearS (hasS x y s) (l ++ [f]) (stepS x y s b f) := by
  by_cases hp : hasS x y s f
  · have e : stepS x y s b f = if lS b f.key = true then nB f else b := by
      unfold stepS updS
      rw [if_pos hp.1, hp.2, Bool.true_and]
    rw [e]
    rcases h with ⟨rfl, hn⟩ | ⟨f0, hf0, hp0, rfl, hm⟩
    · rw [if_pos (show lS zB f.key = true from rfl)]
      refine .inr ⟨f, by simp, hp, rfl, fun g hg hpg => ?_⟩
      rcases List.mem_append.1 hg with hg | hg
      · exact absurd hpg (hn g hg)
      · rw [List.mem_singleton] at hg; subst hg; rw [cmpK_refl]; omega
    · rw [lS_nB]
      by_cases hc : 0 < cmpK f0.key f.key
      · rw [if_pos (by simpa using hc)]
        refine .inr ⟨f, by simp, hp, rfl, fun g hg hpg hlt => ?_⟩
        rcases List.mem_append.1 hg with hg | hg
        · have h1 := hm g hg hpg
          have h2 := cmpK_ord.anti f0.key f.key
          exact h1 (cmpK_ord.tr _ _ _ hlt (by omega))
        · rw [List.mem_singleton] at hg; subst hg; rw [cmpK_refl] at hlt; omega
      · rw [if_neg (by simpa using hc)]
        refine .inr ⟨f0, by simp [hf0], hp0, rfl, fun g hg hpg hlt => ?_⟩
        rcases List.mem_append.1 hg with hg | hg
        · exact hm g hg hpg hlt
        · rw [List.mem_singleton] at hg; subst hg
          have h2 := cmpK_ord.anti f0.key g.key
          omega
  · have e : stepS x y s b f = b := by
      unfold stepS updS
      by_cases hx : f.x = x ∧ f.y = y
      · rw [if_pos hx]
        have : bitOf f.mask s = false := by
          cases hb : bitOf f.mask s
          · rfl
          · exact absurd ⟨hx, hb⟩ hp
        rw [this]; rfl
      · rw [if_neg hx]
    rw [e]
    rcases h with ⟨rfl, hn⟩ | ⟨f0, hf0, hp0, rfl, hm⟩
    · refine .inl ⟨rfl, fun g hg => ?_⟩
      rcases List.mem_append.1 hg with hg | hg
      · exact hn g hg
      · rw [List.mem_singleton] at hg; subst hg; exact hp
    · refine .inr ⟨f0, by simp [hf0], hp0, rfl, fun g hg hpg => ?_⟩
      rcases List.mem_append.1 hg with hg | hg
      · exact hm g hg hpg
      · rw [List.mem_singleton] at hg; subst hg; exact absurd hpg hp
theorem near_fold (x y : Int) (s : Nat) : ∀ (l pre : List TFrag) (b : TBase), nearS (hasS x y s) pre b → nearS (hasS x y s) (pre ++ l) (l.foldl (stepS x y s) b)
  | [], pre, b, h => by rw [List.append_nil]; exact h
  | f :: l, pre, b, h => by
    have := near_fold x y s l (pre ++ [f]) (stepS x y s b f) (near_snoc x y s f h)
    rw [List.append_assoc] at this
    exact this
theorem near_all (x y : Int) (s : Nat) (l : List TFrag) : nearS (hasS x y s) l (l.foldl (stepS x y s) zB) := near_fold x y s l [] zB (.inl ⟨rfl, fun _ h => by simp at h⟩)
/-- Things of one key are one. -/
def oneK (l : List TFrag) : Prop := ∀ f g, f ∈ l → g ∈ l → f.key = g.key → f = g
theorem near_unique {P : TFrag → Prop} {l m : List TFrag} {b c : TBase} (hk : oneK l) (hm : ∀ z, z ∈ m ↔ z ∈ l) (h1 : nearS P l b) (h2 : nearS P m c) : b = c := by
  rcases h1 with ⟨rfl, h1⟩ | ⟨f, hf, hpf, rfl, h1⟩
  · rcases h2 with ⟨rfl, _⟩ | ⟨g, hg, hpg, _, _⟩
    · rfl
    · exact absurd hpg (h1 g ((hm g).1 hg))
  · rcases h2 with ⟨_, h2⟩ | ⟨g, hg, hpg, rfl, h2⟩
    · exact absurd hpf (h2 f ((hm f).2 hf))
    · have a1 := h1 g ((hm g).1 hg) hpg
      have a2 := h2 f ((hm f).2 hf) hpf
      have a3 := cmpK_ord.anti f.key g.key
      have e := cmpK_zero (show cmpK f.key g.key = 0 by omega)
      rw [hk f g hf ((hm g).1 hg) e]
theorem cell_unique {l m : List TFrag} (hk : oneK l) (hm : ∀ z, z ∈ m ↔ z ∈ l) (x y : Int) : cellF x y b0 m = cellF x y b0 l := by
  rw [cellF_get, cellF_get]
  congr 1
  · exact (near_unique hk hm (near_all x y 0 l) (near_all x y 0 m)).symm
  · exact (near_unique hk hm (near_all x y 1 l) (near_all x y 1 m)).symm
  · exact (near_unique hk hm (near_all x y 2 l) (near_all x y 2 m)).symm
  · exact (near_unique hk hm (near_all x y 3 l) (near_all x y 3 m)).symm
/-- A thing put on some pixels, its last number its place. -/
def oF (q : Int) (B : List TFrag) (j : Nat) : TFrag := ⟨(B.getD j default).x % q, (B.getD j default).y % q, (B.getD j default).mask, ⟨(B.getD j default).key.z, (B.getD j default).key.draw, (B.getD j default).key.tri, (j : Int)⟩, (B.getD j default).c⟩
def oW (q : Int) (B : List TFrag) : Nat → List TFrag
  | 0 => []
  | i + 1 => oW q B i ++ [oF q B i]
theorem oW_len (q : Int) (B : List TFrag) : ∀ i, (oW q B i).length = i
  | 0 => rfl
  | i + 1 => by unfold oW; rw [List.length_append, oW_len q B i]; rfl
theorem oW_mem {q : Int} {B : List TFrag} {z : TFrag} : ∀ {i : Nat}, z ∈ oW q B i → ∃ j, j < i ∧ z = oF q B j
  | 0, h => by simp [oW] at h
  | i + 1, h => by
    unfold oW at h
    rcases List.mem_append.1 h with h | h
    · obtain ⟨j, hj, e⟩ := oW_mem h
      exact ⟨j, by omega, e⟩
    · rw [List.mem_singleton] at h; exact ⟨i, by omega, h⟩
theorem oW_one (q : Int) (B : List TFrag) (i : Nat) : oneK (oW q B i) := by
  intro f g hf hg e
  obtain ⟨j, hj, rfl⟩ := oW_mem hf
  obtain ⟨k, hk, rfl⟩ := oW_mem hg
  have h : ((j : Nat) : Int) = (k : Int) := congrArg TKey.part e
  rw [show j = k by omega]
theorem onL_all {w h : Int} {l : List TFrag} (hl : ∀ z, z ∈ l → onB w h z.x z.y = true) : onL w h l = l := by
  unfold onL
  exact List.filter_eq_self.2 hl
theorem on_q {q w x y : Int} (hq : 0 < q) (hw : w = q) : onB w w (x % q) (y % q) = true := by
  subst hw
  have h1 := Int.emod_nonneg x (by omega : w ≠ 0)
  have h2 := Int.emod_lt_of_pos x hq
  have h3 := Int.emod_nonneg y (by omega : w ≠ 0)
  have h4 := Int.emod_lt_of_pos y hq
  simp [onB, h1, h2, h3, h4]
theorem oW_on {q w : Int} (hq : 0 < q) (hw : w = q) (B : List TFrag) (i : Nat) : ∀ z, z ∈ oW q B i → onB w w z.x z.y = true := by
  intro z hz
  obtain ⟨j, _, rfl⟩ := oW_mem hz
  exact on_q hq hw
end Go.Proofs.Ytimolomjpmkbiaa
