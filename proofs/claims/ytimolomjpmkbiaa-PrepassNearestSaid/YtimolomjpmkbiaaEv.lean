/-
  Chapter 18, plain laws for PrepassNearest.
-/
import Derived.Test.YtimolomjpmkbiaaEt
set_option linter.unusedVariables false
set_option linter.unusedSimpArgs false
set_option maxRecDepth 100000
namespace Go.Proofs.Ytimolomjpmkbiaa
open Go.Y
def selB (b : B4) : Nat → TBase
  | 0 => b.s0
  | 1 => b.s1
  | 2 => b.s2
  | _ => b.s3
theorem near_sel (x y : Int) (L : List TFrag) {s : Nat} (hs : s < 4) : nearS (hasS x y s) L (selB (cellF x y b0 L) s) := by
  rw [cellF_get]
  have h' : s = 0 ∨ s = 1 ∨ s = 2 ∨ s = 3 := by omega
  rcases h' with rfl | rfl | rfl | rfl
  · exact near_all x y 0 L
  · exact near_all x y 1 L
  · exact near_all x y 2 L
  · exact near_all x y 3 L
theorem ow_a (B : List TFrag) (i : Nat) : putM (sideI 2) (sideI 2) (allM (sideI 2) (sideI 2) (oW 2 B i)) ⟨(B.getD i default).x % 2, (B.getD i default).y % 2, (B.getD i default).mask, ⟨(B.getD i default).key.z, (B.getD i default).key.draw, (B.getD i default).key.tri, (i : Int)⟩, (B.getD i default).c⟩ = allM (sideI 2) (sideI 2) (oW 2 B (i + 1)) := (allM_snoc _ _ _ _).symm
theorem on_q2 (a b : Int) : onB (sideI 2) (sideI 2) (a % 2) (b % 2) = true := on_q (by decide) side2
theorem oW_on2 (B : List TFrag) (i : Nat) : onL (sideI 2) (sideI 2) (oW 2 B i) = oW 2 B i := onL_all (oW_on (by decide) side2 B i)
structure NeA where
  k : Nat
  many : Nat
  hit : Bool
def neInv (P : TFrag → Prop) (L : List TFrag) (T : TBase) (a : NeA) : Prop := (a.many ≤ a.k ∧ a.k ≤ L.length) ∧ (a.many = 0 → ∀ f, f ∈ L.take a.k → ¬ P f) ∧ (0 < a.many → ∃ f, f ∈ L.take a.k ∧ P f) ∧ (∀ f, f ∈ L.take a.k → P f → f.key = T.key → f.c = T.c → a.hit = true)
theorem ne_start {P : TFrag → Prop} {L : List TFrag} {T : TBase} : neInv P L T ⟨0, 0, false⟩ := ⟨⟨Nat.le_refl _, Nat.zero_le _⟩, fun _ f hf => by simp at hf, fun h => absurd h (by decide), fun f hf => by simp at hf⟩
theorem ne_skip {P : TFrag → Prop} {L : List TFrag} {T : TBase} {k many : Nat} {hit : Bool} (hi : neInv P L T ⟨k, many, hit⟩) (h : (k : Int) < (L.length : Int)) (hn : ¬ P (L.getD k default)) : neInv P L T ⟨k + 1, many, hit⟩ ∧ L.length - (k + 1) < L.length - k := by
  obtain ⟨⟨h1, h2⟩, h3, h4, h5⟩ := hi
  dsimp only at h1 h2 h3 h4 h5
  refine ⟨⟨⟨by show many ≤ k + 1; omega, by show k + 1 ≤ _; omega⟩, fun h0 f hf => ?_, fun h0 => ?_, fun f hf hp => ?_⟩, by omega⟩
  · dsimp only at hf
    rw [take_next h] at hf
    rcases List.mem_append.1 hf with hf | hf
    · exact h3 h0 f hf
    · rw [List.mem_singleton] at hf; subst hf; exact hn
  · obtain ⟨f, hf, hp⟩ := h4 h0
    refine ⟨f, ?_, hp⟩
    dsimp only
    rw [take_next h]; exact List.mem_append.2 (.inl hf)
  · dsimp only at hf
    rw [take_next h] at hf
    rcases List.mem_append.1 hf with hf | hf
    · exact h5 f hf hp
    · rw [List.mem_singleton] at hf; subst hf; exact absurd hp hn
theorem ne_take {P : TFrag → Prop} {L : List TFrag} {T : TBase} {k many : Nat} {hit hit2 : Bool} (hi : neInv P L T ⟨k, many, hit⟩) (h : (k : Int) < (L.length : Int)) (hp : P (L.getD k default)) (hh : hit = true → hit2 = true) (hk : (L.getD k default).key = T.key → (L.getD k default).c = T.c → hit2 = true) : neInv P L T ⟨k + 1, many + 1, hit2⟩ ∧ L.length - (k + 1) < L.length - k := by
  obtain ⟨⟨h1, h2⟩, h3, h4, h5⟩ := hi
  dsimp only at h1 h2 h3 h4 h5
  refine ⟨⟨⟨by show many + 1 ≤ k + 1; omega, by show k + 1 ≤ _; omega⟩, fun h0 => absurd h0 (by dsimp only; omega), fun h0 => ⟨L.getD k default, ?_, hp⟩, fun f hf hpf e1 e2 => ?_⟩, by omega⟩
  · dsimp only
    rw [take_next h]; exact List.mem_append.2 (.inr (by simp))
  · dsimp only at hf
    rw [take_next h] at hf
    rcases List.mem_append.1 hf with hf | hf
    · exact hh (h5 f hf hpf e1 e2)
    · rw [List.mem_singleton] at hf; subst hf; exact hk e1 e2
theorem ne_is {P : TFrag → Prop} {L : List TFrag} {T : TBase} {k : Nat} (hT : nearS P L T) (h : (k : Int) < (L.length : Int)) (hp : P (L.getD k default)) : T.is = true := by
  rcases hT with ⟨_, hn⟩ | ⟨f, _, _, e, _⟩
  · exact absurd hp (hn _ (getD_mem (by omega)))
  · rw [e]; rfl
theorem ne_cmp {P : TFrag → Prop} {L : List TFrag} {T : TBase} {k : Nat} (hT : nearS P L T) (h : (k : Int) < (L.length : Int)) (hp : P (L.getD k default)) : ¬ cmpK (L.getD k default).key T.key < 0 := by
  rcases hT with ⟨_, hn⟩ | ⟨f, _, _, e, hm⟩
  · exact absurd hp (hn _ (getD_mem (by omega)))
  · rw [e]; exact hm _ (getD_mem (by omega)) hp
theorem ne_end {P : TFrag → Prop} {L : List TFrag} {T : TBase} {k many : Nat} {hit : Bool} (hT : nearS P L T) (hi : neInv P L T ⟨k, many, hit⟩) (h : ¬ k < L.length) : (many = 0 ∧ T = zB) ∨ ((∃ j : Nat, many = j + 1) ∧ hit = true) := by
  obtain ⟨⟨h1, h2⟩, h3, h4, h5⟩ := hi
  dsimp only at h1 h2 h3 h4 h5
  rw [List.take_of_length_le (by omega)] at h3 h4 h5
  rcases hT with ⟨e, hn⟩ | ⟨f, hf, hp, e, _⟩
  · left
    refine ⟨?_, e⟩
    rcases Nat.eq_zero_or_pos many with h0 | h0
    · exact h0
    · obtain ⟨f, hf, hp⟩ := h4 h0
      exact absurd hp (hn f hf)
  · right
    refine ⟨?_, h5 f hf hp (by rw [e]; rfl) (by rw [e]; rfl)⟩
    rcases Nat.eq_zero_or_pos many with h0 | h0
    · exact absurd hp (h3 h0 f hf)
    · exact ⟨many - 1, by omega⟩
theorem has_no {x y : Int} {s : Nat} {f : TFrag} (h : f.mask / 2 ^ s % 2 = 0) : ¬ hasS x y s f := by
  intro hp
  have h1 := hp.2
  unfold bitOf at h1
  have h2 := of_decide_eq_true h1
  omega
theorem has_yes {x y : Int} {s : Nat} {f : TFrag} (hx : f.x = x) (hy : f.y = y) (h : ¬ f.mask / 2 ^ s % 2 = 0) : hasS x y s f := by
  refine ⟨⟨hx, hy⟩, ?_⟩
  unfold bitOf
  exact decide_eq_true (by omega)
theorem step_is (b : TBase) : stepP (eBase b) (.fld 0 0) = some (.bool b.is) := rfl
theorem step_bk (b : TBase) : stepP (eBase b) (.fld 1 1) = some (.agg [.int .i64 b.key.z, .int .i64 b.key.draw, .int .i64 b.key.tri, .int .i64 b.key.part]) := rfl
theorem step_bc (b : TBase) : stepP (eBase b) (.fld 2 5) = some (.agg [.int .u8 b.c.r, .int .u8 b.c.g, .int .u8 b.c.b, .int .u8 b.c.a]) := rfl
theorem zB_raw : eBase zB = .agg [.bool false, .agg [.int .i64 0, .int .i64 0, .int .i64 0, .int .i64 0], .agg [.int .u8 0, .int .u8 0, .int .u8 0, .int .u8 0]] := rfl
end Go.Proofs.Ytimolomjpmkbiaa
