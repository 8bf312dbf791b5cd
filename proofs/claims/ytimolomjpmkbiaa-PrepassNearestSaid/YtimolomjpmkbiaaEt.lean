/-
  Chapter 18, plain laws for PrepassSplits: samples one by one.
-/
import Derived.Test.YtimolomjpmkbiaaEs
set_option linter.unusedVariables false
set_option linter.unusedSimpArgs false
set_option maxRecDepth 100000
namespace Go.Proofs.Ytimolomjpmkbiaa
open Go.Y
theorem and_2 {m : Int} (h : 0 ≤ m ∧ m ≤ 255) : andO .u8 m 2 = some (.int .u8 (m / 2 % 2 * 2)) := by
  have key : ∀ n : Nat, n < 256 → bitI .and .u8 (n : Int) 2 = (n : Int) / 2 % 2 * 2 := by decide
  obtain ⟨n, rfl⟩ := Int.eq_ofNat_of_zero_le h.1
  unfold andO; rw [key n (by omega)]
theorem and_4 {m : Int} (h : 0 ≤ m ∧ m ≤ 255) : andO .u8 m 4 = some (.int .u8 (m / 4 % 2 * 4)) := by
  have key : ∀ n : Nat, n < 256 → bitI .and .u8 (n : Int) 4 = (n : Int) / 4 % 2 * 4 := by decide
  obtain ⟨n, rfl⟩ := Int.eq_ofNat_of_zero_le h.1
  unfold andO; rw [key n (by omega)]
theorem and_8 {m : Int} (h : 0 ≤ m ∧ m ≤ 255) : andO .u8 m 8 = some (.int .u8 (m / 8 % 2 * 8)) := by
  have key : ∀ n : Nat, n < 256 → bitI .and .u8 (n : Int) 8 = (n : Int) / 8 % 2 * 8 := by decide
  obtain ⟨n, rfl⟩ := Int.eq_ofNat_of_zero_le h.1
  unfold andO; rw [key n (by omega)]
theorem bit_dec {p q : Prop} [Decidable p] [Decidable q] (h : p ↔ q) : decide p = decide q := by
  by_cases hq : q
  · rw [decide_eq_true hq, decide_eq_true (h.2 hq)]
  · rw [decide_eq_false hq, decide_eq_false (fun e => hq (h.1 e))]
theorem bits_0 (m : Int) : bitOf (m % 2) 0 = bitOf m 0 ∧ bitOf (m % 2) 1 = false ∧ bitOf (m % 2) 2 = false ∧ bitOf (m % 2) 3 = false := by
  unfold bitOf
  refine ⟨bit_dec ?_, decide_eq_false ?_, decide_eq_false ?_, decide_eq_false ?_⟩ <;> simp only [Int.reducePow, Nat.reduceAdd] <;> omega
theorem bits_1 (m : Int) : bitOf (m / 2 % 2 * 2) 0 = false ∧ bitOf (m / 2 % 2 * 2) 1 = bitOf m 1 ∧ bitOf (m / 2 % 2 * 2) 2 = false ∧ bitOf (m / 2 % 2 * 2) 3 = false := by
  unfold bitOf
  refine ⟨decide_eq_false ?_, bit_dec ?_, decide_eq_false ?_, decide_eq_false ?_⟩ <;> simp only [Int.reducePow, Nat.reduceAdd] <;> omega
theorem bits_2 (m : Int) : bitOf (m / 4 % 2 * 4) 0 = false ∧ bitOf (m / 4 % 2 * 4) 1 = false ∧ bitOf (m / 4 % 2 * 4) 2 = bitOf m 2 ∧ bitOf (m / 4 % 2 * 4) 3 = false := by
  unfold bitOf
  refine ⟨decide_eq_false ?_, decide_eq_false ?_, bit_dec ?_, decide_eq_false ?_⟩ <;> simp only [Int.reducePow, Nat.reduceAdd] <;> omega
theorem bits_3 (m : Int) : bitOf (m / 8 % 2 * 8) 0 = false ∧ bitOf (m / 8 % 2 * 8) 1 = false ∧ bitOf (m / 8 % 2 * 8) 2 = false ∧ bitOf (m / 8 % 2 * 8) 3 = bitOf m 3 := by
  unfold bitOf
  refine ⟨decide_eq_false ?_, decide_eq_false ?_, decide_eq_false ?_, bit_dec ?_⟩ <;> simp only [Int.reducePow, Nat.reduceAdd] <;> omega
def qF (q : Int) (B : List TFrag) (j : Nat) : TFrag := ⟨(B.getD j default).x % q, (B.getD j default).y % q, (B.getD j default).mask, (B.getD j default).key, (B.getD j default).c⟩
def qW (q : Int) (B : List TFrag) : Nat → List TFrag
  | 0 => []
  | i + 1 => qW q B i ++ [qF q B i]
def sp0 (f : TFrag) : TFrag := ⟨f.x, f.y, f.mask % 2, f.key, f.c⟩
def sp1 (f : TFrag) : TFrag := ⟨f.x, f.y, f.mask / 2 % 2 * 2, f.key, f.c⟩
def sp2 (f : TFrag) : TFrag := ⟨f.x, f.y, f.mask / 4 % 2 * 4, f.key, f.c⟩
def sp3 (f : TFrag) : TFrag := ⟨f.x, f.y, f.mask / 8 % 2 * 8, f.key, f.c⟩
def sW (B : List TFrag) : Nat → List TFrag
  | 0 => []
  | i + 1 => sW B i ++ [sp0 (qF 2 B i)] ++ [sp1 (qF 2 B i)] ++ [sp2 (qF 2 B i)] ++ [sp3 (qF 2 B i)]
theorem updS_no (b : TBase) (f : TFrag) : updS b false f = b := rfl
theorem upd_split (b : B4) (f : TFrag) : upd (upd (upd (upd b (sp0 f)) (sp1 f)) (sp2 f)) (sp3 f) = upd b f := by
  obtain ⟨a0, a1, a2, a3⟩ := bits_0 f.mask
  obtain ⟨c0, c1, c2, c3⟩ := bits_1 f.mask
  obtain ⟨d0, d1, d2, d3⟩ := bits_2 f.mask
  obtain ⟨e0, e1, e2, e3⟩ := bits_3 f.mask
  unfold upd
  simp only [sp0, sp1, sp2, sp3, a0, a1, a2, a3, c0, c1, c2, c3, d0, d1, d2, d3, e0, e1, e2, e3, updS_no]
  rfl
theorem sp_cell (B : List TFrag) (x y : Int) : ∀ i, cellF x y b0 (sW B i) = cellF x y b0 (qW 2 B i)
  | 0 => rfl
  | i + 1 => by
    have ih := sp_cell B x y i
    show cellF x y b0 (sW B i ++ [sp0 (qF 2 B i)] ++ [sp1 (qF 2 B i)] ++ [sp2 (qF 2 B i)] ++ [sp3 (qF 2 B i)]) = cellF x y b0 (qW 2 B i ++ [qF 2 B i])
    rw [cellF_snoc, cellF_snoc, cellF_snoc, cellF_snoc, cellF_snoc, ih]
    by_cases h : (qF 2 B i).x = x ∧ (qF 2 B i).y = y
    · have h0 : (sp0 (qF 2 B i)).x = x ∧ (sp0 (qF 2 B i)).y = y := h
      have h1 : (sp1 (qF 2 B i)).x = x ∧ (sp1 (qF 2 B i)).y = y := h
      have h2 : (sp2 (qF 2 B i)).x = x ∧ (sp2 (qF 2 B i)).y = y := h
      have h3 : (sp3 (qF 2 B i)).x = x ∧ (sp3 (qF 2 B i)).y = y := h
      rw [if_pos h0, if_pos h1, if_pos h2, if_pos h3, if_pos h, upd_split]
    · have h0 : ¬ ((sp0 (qF 2 B i)).x = x ∧ (sp0 (qF 2 B i)).y = y) := h
      have h1 : ¬ ((sp1 (qF 2 B i)).x = x ∧ (sp1 (qF 2 B i)).y = y) := h
      have h2 : ¬ ((sp2 (qF 2 B i)).x = x ∧ (sp2 (qF 2 B i)).y = y) := h
      have h3 : ¬ ((sp3 (qF 2 B i)).x = x ∧ (sp3 (qF 2 B i)).y = y) := h
      rw [if_neg h0, if_neg h1, if_neg h2, if_neg h3, if_neg h]
theorem side2 : sideI 2 = 2 := by decide
theorem qW_mem {q : Int} {B : List TFrag} {z : TFrag} : ∀ {i : Nat}, z ∈ qW q B i → ∃ j, j < i ∧ z = qF q B j
  | 0, h => by simp [qW] at h
  | i + 1, h => by
    unfold qW at h
    rcases List.mem_append.1 h with h | h
    · obtain ⟨j, hj, e⟩ := qW_mem h
      exact ⟨j, by omega, e⟩
    · rw [List.mem_singleton] at h; exact ⟨i, by omega, h⟩
theorem sW_mem {B : List TFrag} {z : TFrag} : ∀ {i : Nat}, z ∈ sW B i → ∃ j, z.x = (qF 2 B j).x ∧ z.y = (qF 2 B j).y
  | 0, h => by simp [sW] at h
  | i + 1, h => by
    unfold sW at h
    rcases List.mem_append.1 h with h | h
    · rcases List.mem_append.1 h with h | h
      · rcases List.mem_append.1 h with h | h
        · rcases List.mem_append.1 h with h | h
          · exact sW_mem h
          · rw [List.mem_singleton] at h; subst h; exact ⟨i, rfl, rfl⟩
        · rw [List.mem_singleton] at h; subst h; exact ⟨i, rfl, rfl⟩
      · rw [List.mem_singleton] at h; subst h; exact ⟨i, rfl, rfl⟩
    · rw [List.mem_singleton] at h; subst h; exact ⟨i, rfl, rfl⟩
theorem qW_on (B : List TFrag) (i : Nat) : onL (sideI 2) (sideI 2) (qW 2 B i) = qW 2 B i := onL_all (fun z hz => by
  obtain ⟨j, _, rfl⟩ := qW_mem hz
  exact on_q (by decide) side2)
theorem sW_on (B : List TFrag) (i : Nat) : onL (sideI 2) (sideI 2) (sW B i) = sW B i := onL_all (fun z hz => by
  obtain ⟨j, h1, h2⟩ := sW_mem hz
  rw [h1, h2]
  exact on_q (by decide) side2)
theorem qs_a (B : List TFrag) (i : Nat) : putM (sideI 2) (sideI 2) (allM (sideI 2) (sideI 2) (qW 2 B i)) ⟨(B.getD i default).x % 2, (B.getD i default).y % 2, (B.getD i default).mask, (B.getD i default).key, (B.getD i default).c⟩ = allM (sideI 2) (sideI 2) (qW 2 B (i + 1)) := (allM_snoc _ _ _ _).symm
theorem qs_b (B : List TFrag) (i : Nat) : putM (sideI 2) (sideI 2) (putM (sideI 2) (sideI 2) (putM (sideI 2) (sideI 2) (putM (sideI 2) (sideI 2) (allM (sideI 2) (sideI 2) (sW B i)) ⟨(B.getD i default).x % 2, (B.getD i default).y % 2, (B.getD i default).mask % 2, (B.getD i default).key, (B.getD i default).c⟩) ⟨(B.getD i default).x % 2, (B.getD i default).y % 2, (B.getD i default).mask / 2 % 2 * 2, (B.getD i default).key, (B.getD i default).c⟩) ⟨(B.getD i default).x % 2, (B.getD i default).y % 2, (B.getD i default).mask / 4 % 2 * 4, (B.getD i default).key, (B.getD i default).c⟩) ⟨(B.getD i default).x % 2, (B.getD i default).y % 2, (B.getD i default).mask / 8 % 2 * 8, (B.getD i default).key, (B.getD i default).c⟩ = allM (sideI 2) (sideI 2) (sW B (i + 1)) := by
  show _ = allM (sideI 2) (sideI 2) (sW B i ++ [sp0 (qF 2 B i)] ++ [sp1 (qF 2 B i)] ++ [sp2 (qF 2 B i)] ++ [sp3 (qF 2 B i)])
  rw [allM_snoc, allM_snoc, allM_snoc, allM_snoc]
  rfl
/-- What is left, sample by sample. -/
theorem or_left {M : List ME} {x y m : Int} {k : TKey} {c : TColour} :
    bitI .or .u8 (bitI .or .u8 (bitI .or .u8 (bitI .or .u8 0 (cullI (sideI 2) (sideI 2) M ⟨x % 2, y % 2, m % 2, k, c⟩)) (cullI (sideI 2) (sideI 2) M ⟨x % 2, y % 2, m / 2 % 2 * 2, k, c⟩)) (cullI (sideI 2) (sideI 2) M ⟨x % 2, y % 2, m / 4 % 2 * 4, k, c⟩)) (cullI (sideI 2) (sideI 2) M ⟨x % 2, y % 2, m / 8 % 2 * 8, k, c⟩) = cullI (sideI 2) (sideI 2) M ⟨x % 2, y % 2, m, k, c⟩ := by
  have ho : onB (sideI 2) (sideI 2) (x % 2) (y % 2) = true := on_q (by decide) side2
  obtain ⟨a0, a1, a2, a3⟩ := bits_0 m
  obtain ⟨c0, c1, c2, c3⟩ := bits_1 m
  obtain ⟨d0, d1, d2, d3⟩ := bits_2 m
  obtain ⟨e0, e1, e2, e3⟩ := bits_3 m
  unfold cullI leftI
  simp only [ho, if_true, a0, a1, a2, a3, c0, c1, c2, c3, d0, d1, d2, d3, e0, e1, e2, e3, Bool.false_and]
  have key : ∀ p q r s : Bool, bitI .or .u8 (bitI .or .u8 (bitI .or .u8 (bitI .or .u8 0 (bI p 1 + bI false 2 + bI false 4 + bI false 8)) (bI false 1 + bI q 2 + bI false 4 + bI false 8)) (bI false 1 + bI false 2 + bI r 4 + bI false 8)) (bI false 1 + bI false 2 + bI false 4 + bI s 8) = bI p 1 + bI q 2 + bI r 4 + bI s 8 := by decide
  exact key _ _ _ _
end Go.Proofs.Ytimolomjpmkbiaa
