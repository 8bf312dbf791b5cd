/-
  Plain laws of crosses: in small numbers nothing is wrapped.
-/
import Derived.Test.YtgpdcjgjgblkfaaEa
set_option linter.unusedVariables false
namespace Go.Proofs.Ytgpdcjgjgblkfaa
open Go.Z

theorem mul_in (a b : Int) (m n : Nat) (ha : -(m : Int) ≤ a ∧ a ≤ m) (hb : -(n : Int) ≤ b ∧ b ≤ n) : -((m * n : Nat) : Int) ≤ a * b ∧ a * b ≤ ((m * n : Nat) : Int) := by
  have h : (a * b).natAbs ≤ m * n := by
    rw [Int.natAbs_mul]
    exact Nat.mul_le_mul (by omega) (by omega)
  omega

/-- A number that is small. -/
def Sm (n : Int) : Prop := -65536 ≤ n ∧ n ≤ 65536
theorem sm_tmod (n : Int) : Sm (n.tmod 16385) := by
  have h1 := Int.tmod_lt_of_pos n (b := 16385) (by omega)
  have h2 := Int.tmod_lt_of_pos (-n) (b := 16385) (by omega)
  rw [Int.neg_tmod] at h2
  unfold Sm; omega

theorem W_in (n : Int) (h : -9223372036854775808 ≤ n ∧ n ≤ 9223372036854775807) : W n = n := w_i64 n h

def crossN (px py qx qy x y : Int) : Int := (qx - px) * (y - py) - (qy - py) * (x - px)
theorem crossN_in {px py qx qy x y : Int} (h1 : Sm px) (h2 : Sm py) (h3 : Sm qx) (h4 : Sm qy) (h5 : Sm x) (h6 : Sm y) : -34359738368 ≤ crossN px py qx qy x y ∧ crossN px py qx qy x y ≤ 34359738368 := by
  unfold Sm at *
  have a := mul_in (qx - px) (y - py) 131072 131072 (by omega) (by omega)
  have b := mul_in (qy - py) (x - px) 131072 131072 (by omega) (by omega)
  unfold crossN
  omega
theorem cross_n {px py qx qy x y : Int} (h1 : Sm px) (h2 : Sm py) (h3 : Sm qx) (h4 : Sm qy) (h5 : Sm x) (h6 : Sm y) : crossW px py qx qy x y = crossN px py qx qy x y := by
  have c := crossN_in h1 h2 h3 h4 h5 h6
  unfold Sm at *
  have a := mul_in (qx - px) (y - py) 131072 131072 (by omega) (by omega)
  have b := mul_in (qy - py) (x - px) 131072 131072 (by omega) (by omega)
  unfold crossN at c ⊢
  unfold crossW
  rw [W_in (qx - px) (by omega), W_in (y - py) (by omega), W_in (qy - py) (by omega), W_in (x - px) (by omega), W_in ((qx - px) * (y - py)) (by omega), W_in ((qy - py) * (x - px)) (by omega)]
  exact W_in _ (by omega)

theorem crossN_sum (a0 b0 a1 b1 a2 b2 x y : Int) : crossN a0 b0 a1 b1 x y + crossN a1 b1 a2 b2 x y + crossN a2 b2 a0 b0 x y = crossN a0 b0 a1 b1 a2 b2 := by
  unfold crossN
  grind

/-- Inside, in plain words. -/
theorem inW_true {x0 y0 x1 y1 x2 y2 x y : Int} : inW x0 y0 x1 y1 x2 y2 x y = true ↔ 0 < crossW x0 y0 x1 y1 x2 y2 ∧ outW x0 y0 x1 y1 x y = false ∧ outW x1 y1 x2 y2 x y = false ∧ outW x2 y2 x0 y0 x y = false := by
  unfold inW
  split
  · simp; omega
  · split
    · simp_all
    · split
      · simp_all
      · split
        · simp_all
        · simp_all
theorem outW_false {px py qx qy x y : Int} : outW px py qx qy x y = false ↔ 0 < crossW px py qx qy x y ∨ (crossW px py qx qy x y = 0 ∧ firstW px py qx qy = true) := by
  unfold outW
  cases firstW px py qx qy <;> simp <;> omega

theorem sum_plain {a0 b0 a1 b1 a2 b2 x y : Int} (h1 : Sm a0) (h2 : Sm b0) (h3 : Sm a1) (h4 : Sm b1) (h5 : Sm a2) (h6 : Sm b2) (h7 : Sm x) (h8 : Sm y) :
    W (W (crossW a0 b0 a1 b1 x y + crossW a1 b1 a2 b2 x y) + crossW a2 b2 a0 b0 x y) = crossW a0 b0 a1 b1 a2 b2 ∧
    (inW a0 b0 a1 b1 a2 b2 x y = true → crossW a0 b0 a1 b1 x y ≥ 0 ∧ crossW a1 b1 a2 b2 x y ≥ 0 ∧ crossW a2 b2 a0 b0 x y ≥ 0) ∧
    (inW a0 b0 a1 b1 a2 b2 x y = false → crossW a0 b0 a1 b1 x y ≤ 0 ∨ crossW a1 b1 a2 b2 x y ≤ 0 ∨ crossW a2 b2 a0 b0 x y ≤ 0) := by
  have s := crossN_sum a0 b0 a1 b1 a2 b2 x y
  have c1 := crossN_in h1 h2 h3 h4 h7 h8
  have c2 := crossN_in h3 h4 h5 h6 h7 h8
  have c3 := crossN_in h5 h6 h1 h2 h7 h8
  have e1 := cross_n h1 h2 h3 h4 h7 h8
  have e2 := cross_n h3 h4 h5 h6 h7 h8
  have e3 := cross_n h5 h6 h1 h2 h7 h8
  have e4 := cross_n h1 h2 h3 h4 h5 h6
  refine ⟨?_, ?_, ?_⟩
  · rw [e1, e2, e3, e4, W_in (crossN a0 b0 a1 b1 x y + crossN a1 b1 a2 b2 x y) (by omega), W_in _ (by omega), s]
  · intro h
    rw [inW_true, outW_false, outW_false, outW_false] at h
    omega
  · intro h
    refine Classical.byContradiction fun hn => ?_
    have : inW a0 b0 a1 b1 a2 b2 x y = true := by
      rw [inW_true, outW_false, outW_false, outW_false]
      omega
    rw [this] at h
    cases h
end Go.Proofs.Ytgpdcjgjgblkfaa
