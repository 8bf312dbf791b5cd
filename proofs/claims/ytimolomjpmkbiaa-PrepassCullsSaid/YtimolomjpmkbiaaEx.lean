/-
  Chapter 18, plain laws for PrepassCulls.
-/
import Derived.Test.YtimolomjpmkbiaaEs
set_option linter.unusedVariables false
set_option linter.unusedSimpArgs false
set_option maxRecDepth 100000
namespace Go.Proofs.Ytimolomjpmkbiaa
open Go.Y
theorem cmpK_z {a b : TKey} (h : ¬ a.z = b.z) : cmpK a b = cmp1 a.z b.z := by
  unfold cmpK; rw [if_pos (fun e => h (cmp1_zero e))]
theorem andO_65535 (k : IntKind) (hk : k = .i64) (a : Int) : andO k a 65535 = some (.int k (a % 65536)) := by
  subst hk
  unfold andO; rw [show (65535 : Int) = ((2 ^ 16 - 1 : Nat) : Int) from rfl, and_mask .i64 a 16 (by decide)]; rfl
theorem and_z (a : Int) : andO .i64 a 65535 = some (.int .i64 (a % 65536)) := andO_65535 .i64 rfl a
def cF (B : List TFrag) (j : Nat) : TFrag := ⟨(B.getD j default).x % 4, (B.getD j default).y % 4, (B.getD j default).mask, ⟨(B.getD j default).key.z % 65536, (B.getD j default).key.draw, (B.getD j default).key.tri, (B.getD j default).key.part⟩, (B.getD j default).c⟩
def cW (B : List TFrag) : Nat → List TFrag
  | 0 => []
  | i + 1 => cW B i ++ [cF B i]
theorem cW_len (B : List TFrag) : ∀ i, (cW B i).length = i
  | 0 => rfl
  | i + 1 => by unfold cW; rw [List.length_append, cW_len B i]; rfl
theorem cW_mem {B : List TFrag} {z : TFrag} : ∀ {i : Nat}, z ∈ cW B i → ∃ j, j < i ∧ z = cF B j
  | 0, h => by simp [cW] at h
  | i + 1, h => by
    unfold cW at h
    rcases List.mem_append.1 h with h | h
    · obtain ⟨j, hj, e⟩ := cW_mem h
      exact ⟨j, by omega, e⟩
    · rw [List.mem_singleton] at h; exact ⟨i, by omega, h⟩
theorem cW_on (B : List TFrag) (i : Nat) : onL (sideI 4) (sideI 4) (cW B i) = cW B i := onL_all (fun z hz => by
  obtain ⟨j, _, rfl⟩ := cW_mem hz
  exact on_q (by decide) side4)
theorem cW_take (B : List TFrag) (i : Nat) : List.take i (cW B i) = cW B i := List.take_of_length_le (by rw [cW_len]; exact Nat.le_refl _)
theorem on_q4 (a b : Int) : onB (sideI 4) (sideI 4) (a % 4) (b % 4) = true := on_q (by decide) side4
theorem bits_sum {m : Int} (h : 0 ≤ m ∧ m ≤ 255) : bI (bitOf m 0 && true) 1 + bI (bitOf m 1 && true) 2 + bI (bitOf m 2 && true) 4 + bI (bitOf m 3 && true) 8 = m % 16 := by
  have key : ∀ n : Nat, n < 256 → bI (bitOf (n : Int) 0 && true) 1 + bI (bitOf (n : Int) 1 && true) 2 + bI (bitOf (n : Int) 2 && true) 4 + bI (bitOf (n : Int) 3 && true) 8 = (n : Int) % 16 := by decide
  obtain ⟨n, rfl⟩ := Int.eq_ofNat_of_zero_le h.1
  exact key n (by omega)
theorem sub_mask {m : Int} (h : 0 ≤ m ∧ m ≤ 255) (p q r s : Bool) : bitI .andNot .u8 (bI (bitOf m 0 && p) 1 + bI (bitOf m 1 && q) 2 + bI (bitOf m 2 && r) 4 + bI (bitOf m 3 && s) 8) m = 0 := by
  have key : ∀ n : Nat, n < 256 → ∀ p q r s : Bool, bitI .andNot .u8 (bI (bitOf (n : Int) 0 && p) 1 + bI (bitOf (n : Int) 1 && q) 2 + bI (bitOf (n : Int) 2 && r) 4 + bI (bitOf (n : Int) 3 && s) 8) (n : Int) = 0 := by decide
  obtain ⟨n, rfl⟩ := Int.eq_ofNat_of_zero_le h.1
  exact key n (by omega) p q r s
theorem sub_left {p0 p1 p2 p3 q0 q1 q2 q3 : Bool} (h0 : p0 = true → q0 = true) (h1 : p1 = true → q1 = true) (h2 : p2 = true → q2 = true) (h3 : p3 = true → q3 = true) : bitI .andNot .u8 (bI p0 1 + bI p1 2 + bI p2 4 + bI p3 8) (bI q0 1 + bI q1 2 + bI q2 4 + bI q3 8) = 0 := by
  have key : ∀ p0 p1 p2 p3 q0 q1 q2 q3 : Bool, (p0 = true → q0 = true) → (p1 = true → q1 = true) → (p2 = true → q2 = true) → (p3 = true → q3 = true) → bitI .andNot .u8 (bI p0 1 + bI p1 2 + bI p2 4 + bI p3 8) (bI q0 1 + bI q1 2 + bI q2 4 + bI q3 8) = 0 := by decide
  exact key _ _ _ _ _ _ _ _ h0 h1 h2 h3
theorem and_0 {m : Int} (h : 0 ≤ m ∧ m ≤ 255) : bitI .and .u8 0 m = 0 := by
  have key : ∀ n : Nat, n < 256 → bitI .and .u8 0 (n : Int) = 0 := by decide
  obtain ⟨n, rfl⟩ := Int.eq_ofNat_of_zero_le h.1
  exact key n (by omega)
/-- What may be stored: its first number is within bounds. -/
def okT (b : TBase) : Prop := b = zB ∨ (b.is = true ∧ 0 ≤ b.key.z ∧ b.key.z ≤ 65535)
def okC (b : B4) : Prop := okT b.s0 ∧ okT b.s1 ∧ okT b.s2 ∧ okT b.s3
theorem near_ok {P : TFrag → Prop} {B : List TFrag} {i : Nat} {T : TBase} (h : nearS P (cW B i) T) : okT T := by
  rcases h with ⟨e, _⟩ | ⟨f, hf, _, e, _⟩
  · exact .inl e
  · obtain ⟨j, _, rfl⟩ := cW_mem hf
    subst e
    refine .inr ⟨rfl, ?_, ?_⟩
    · show 0 ≤ (B.getD j default).key.z % 65536; omega
    · show (B.getD j default).key.z % 65536 ≤ 65535; omega
theorem cW_ok (B : List TFrag) (i : Nat) (x y : Int) : okC (cellF x y b0 (cW B i)) := by
  rw [cellF_get]
  exact ⟨near_ok (near_all x y 0 _), near_ok (near_all x y 1 _), near_ok (near_all x y 2 _), near_ok (near_all x y 3 _)⟩
theorem lS_near {b : TBase} (h : okT b) : lS b ⟨-1, 0, 0, 0⟩ = true := by
  rcases h with rfl | ⟨h1, h2, h3⟩
  · rfl
  · unfold lS
    have h4 : b.key.z ≠ -1 := by omega
    rw [cmpK_z (b := ⟨-1, 0, 0, 0⟩) h4]
    have : cmp1 b.key.z (-1) = 1 := by unfold cmp1; rw [if_neg (by omega), if_pos (by omega)]
    rw [this, h1]; rfl
theorem lS_far {b : TBase} (h : okT b) : lS b ⟨65536, 0, 0, 0⟩ = !b.is := by
  rcases h with rfl | ⟨h1, h2, h3⟩
  · rfl
  · unfold lS
    have h4 : b.key.z ≠ 65536 := by omega
    rw [cmpK_z (b := ⟨65536, 0, 0, 0⟩) h4]
    have : cmp1 b.key.z 65536 = -1 := by unfold cmp1; rw [if_pos (by omega)]
    rw [this, h1]; rfl
theorem cull_q {M : List ME} {x y m : Int} {k : TKey} {c : TColour} : cullI (sideI 4) (sideI 4) M ⟨x % 4, y % 4, m, k, c⟩ = leftI (atM M (x % 4) (y % 4)) k m := by
  unfold cullI; rw [if_pos (on_q4 x y)]
theorem cu_1 {x y m : Int} {k : TKey} {c : TColour} (h : 0 ≤ m ∧ m ≤ 255) : cullI (sideI 4) (sideI 4) [] ⟨x % 4, y % 4, m, k, c⟩ = m % 16 := by
  rw [cull_q]; exact bits_sum h
theorem cu_near (B : List TFrag) (i : Nat) {x y m : Int} {c : TColour} (h : 0 ≤ m ∧ m ≤ 255) : cullI (sideI 4) (sideI 4) (allM (sideI 4) (sideI 4) (cW B i)) ⟨x % 4, y % 4, m, ⟨-1, 0, 0, 0⟩, c⟩ = m % 16 := by
  rw [cull_q, atM_allM, cW_on]
  obtain ⟨o0, o1, o2, o3⟩ := cW_ok B i (x % 4) (y % 4)
  unfold leftI
  rw [lS_near o0, lS_near o1, lS_near o2, lS_near o3]
  exact bits_sum h
theorem cu_sub {M : List ME} {x y m : Int} {k : TKey} {c : TColour} (h : 0 ≤ m ∧ m ≤ 255) : bitI .andNot .u8 (cullI (sideI 4) (sideI 4) M ⟨x % 4, y % 4, m, k, c⟩) m = 0 := by
  rw [cull_q]; exact sub_mask h _ _ _ _
theorem cu_15 {M : List ME} {x y m : Int} {k : TKey} {c : TColour} : cullI (sideI 4) (sideI 4) M ⟨x % 4, y % 4, m, k, c⟩ ≤ 15 := by
  rw [cull_q]; exact (leftI_rng _ _ _).2
theorem far_imp {b : TBase} {p : Bool} {k : TKey} (h : okT b) (e : (p && lS b ⟨65536, 0, 0, 0⟩) = true) : (p && lS b k) = true := by
  rw [lS_far h] at e
  cases p
  · exact e
  · unfold lS
    simp only [Bool.true_and] at e ⊢
    rw [e]; rfl
theorem cu_far (B : List TFrag) (i : Nat) {x y m : Int} {k : TKey} {c : TColour} : bitI .andNot .u8 (cullI (sideI 4) (sideI 4) (allM (sideI 4) (sideI 4) (cW B i)) ⟨x % 4, y % 4, m, ⟨65536, 0, 0, 0⟩, c⟩) (cullI (sideI 4) (sideI 4) (allM (sideI 4) (sideI 4) (cW B i)) ⟨x % 4, y % 4, m, k, c⟩) = 0 := by
  rw [cull_q, cull_q, atM_allM, cW_on]
  obtain ⟨o0, o1, o2, o3⟩ := cW_ok B i (x % 4) (y % 4)
  exact sub_left (far_imp o0) (far_imp o1) (far_imp o2) (far_imp o3)
theorem own_no {P : TFrag → Prop} {L : List TFrag} {T : TBase} {f : TFrag} {p : Bool} (hT : nearS P L T) (hf : f ∈ L) (hp : p = true → P f) : (p && lS T f.key) = false := by
  cases p
  · rfl
  · rcases hT with ⟨_, hn⟩ | ⟨g, _, _, rfl, hm⟩
    · exact absurd (hp rfl) (hn f hf)
    · have h1 := hm f hf (hp rfl)
      have h2 := cmpK_ord.anti f.key g.key
      rw [Bool.true_and, lS_nB]
      exact decide_eq_false (by omega)
theorem cu_own (B : List TFrag) {i j : Nat} (hj : j < i) : cullI (sideI 4) (sideI 4) (allM (sideI 4) (sideI 4) (cW B i)) ((cW B i).getD j default) = 0 := by
  have hm : (cW B i).getD j default ∈ cW B i := getD_mem (by rw [cW_len]; exact hj)
  obtain ⟨j2, _, e⟩ := cW_mem hm
  have ho : onB (sideI 4) (sideI 4) ((cW B i).getD j default).x ((cW B i).getD j default).y = true := by rw [e]; exact on_q4 _ _
  unfold cullI
  rw [if_pos ho, atM_allM, cW_on, cellF_get]
  have e0 := own_no (near_all ((cW B i).getD j default).x ((cW B i).getD j default).y 0 (cW B i)) hm (fun h : bitOf ((cW B i).getD j default).mask 0 = true => ⟨⟨rfl, rfl⟩, h⟩)
  have e1 := own_no (near_all ((cW B i).getD j default).x ((cW B i).getD j default).y 1 (cW B i)) hm (fun h : bitOf ((cW B i).getD j default).mask 1 = true => ⟨⟨rfl, rfl⟩, h⟩)
  have e2 := own_no (near_all ((cW B i).getD j default).x ((cW B i).getD j default).y 2 (cW B i)) hm (fun h : bitOf ((cW B i).getD j default).mask 2 = true => ⟨⟨rfl, rfl⟩, h⟩)
  have e3 := own_no (near_all ((cW B i).getD j default).x ((cW B i).getD j default).y 3 (cW B i)) hm (fun h : bitOf ((cW B i).getD j default).mask 3 = true => ⟨⟨rfl, rfl⟩, h⟩)
  show bI (bitOf ((cW B i).getD j default).mask 0 && lS ((cW B i).foldl (stepS ((cW B i).getD j default).x ((cW B i).getD j default).y 0) zB) ((cW B i).getD j default).key) 1 + bI (bitOf ((cW B i).getD j default).mask 1 && lS ((cW B i).foldl (stepS ((cW B i).getD j default).x ((cW B i).getD j default).y 1) zB) ((cW B i).getD j default).key) 2 + bI (bitOf ((cW B i).getD j default).mask 2 && lS ((cW B i).foldl (stepS ((cW B i).getD j default).x ((cW B i).getD j default).y 2) zB) ((cW B i).getD j default).key) 4 + bI (bitOf ((cW B i).getD j default).mask 3 && lS ((cW B i).foldl (stepS ((cW B i).getD j default).x ((cW B i).getD j default).y 3) zB) ((cW B i).getD j default).key) 8 = 0
  rw [e0, e1, e2, e3]
  rfl
theorem at_put (B : List TFrag) (i : Nat) {x y m : Int} {c : TColour} : atM (putM (sideI 4) (sideI 4) (allM (sideI 4) (sideI 4) (cW B i)) ⟨x % 4, y % 4, m, ⟨-1, 0, 0, 0⟩, c⟩) (x % 4) (y % 4) = upd (cellF (x % 4) (y % 4) b0 (cW B i)) ⟨x % 4, y % 4, m, ⟨-1, 0, 0, 0⟩, c⟩ := by
  rw [atM_put, if_pos ⟨on_q4 x y, rfl, rfl⟩, atM_allM, cW_on]
theorem put_no {b : TBase} {f : TFrag} {p : Bool} {k : TKey} (h : lS b f.key = true) (hk : lS (nB f) k = false) : (p && lS (updS b p f) k) = false := by
  unfold updS
  cases p
  · rfl
  · rw [Bool.true_and, Bool.true_and, if_pos h, hk]
theorem left_put {b : B4} {f : TFrag} {k : TKey} (h0 : lS b.s0 f.key = true) (h1 : lS b.s1 f.key = true) (h2 : lS b.s2 f.key = true) (h3 : lS b.s3 f.key = true) (hk : lS (nB f) k = false) : leftI (upd b f) k f.mask = 0 := by
  show bI (bitOf f.mask 0 && lS (updS b.s0 (bitOf f.mask 0) f) k) 1 + bI (bitOf f.mask 1 && lS (updS b.s1 (bitOf f.mask 1) f) k) 2 + bI (bitOf f.mask 2 && lS (updS b.s2 (bitOf f.mask 2) f) k) 4 + bI (bitOf f.mask 3 && lS (updS b.s3 (bitOf f.mask 3) f) k) 8 = 0
  rw [put_no h0 hk, put_no h1 hk, put_no h2 hk, put_no h3 hk]
  rfl
theorem cu_put (B : List TFrag) (i : Nat) {x y m : Int} {k : TKey} {c : TColour} (hk : lS (nB ⟨x % 4, y % 4, m, ⟨-1, 0, 0, 0⟩, c⟩) k = false) : cullI (sideI 4) (sideI 4) (putM (sideI 4) (sideI 4) (allM (sideI 4) (sideI 4) (cW B i)) ⟨x % 4, y % 4, m, ⟨-1, 0, 0, 0⟩, c⟩) ⟨x % 4, y % 4, m, k, c⟩ = 0 := by
  rw [cull_q, at_put]
  obtain ⟨o0, o1, o2, o3⟩ := cW_ok B i (x % 4) (y % 4)
  exact left_put (f := ⟨x % 4, y % 4, m, ⟨-1, 0, 0, 0⟩, c⟩) (lS_near o0) (lS_near o1) (lS_near o2) (lS_near o3) hk
theorem cu_fn (B : List TFrag) (i : Nat) {x y m : Int} {c : TColour} : cullI (sideI 4) (sideI 4) (putM (sideI 4) (sideI 4) (allM (sideI 4) (sideI 4) (cW B i)) ⟨x % 4, y % 4, m, ⟨-1, 0, 0, 0⟩, c⟩) ⟨x % 4, y % 4, m, ⟨65536, 0, 0, 0⟩, c⟩ = 0 := cu_put B i rfl
theorem cu_nn (B : List TFrag) (i : Nat) {x y m : Int} {c : TColour} : cullI (sideI 4) (sideI 4) (putM (sideI 4) (sideI 4) (allM (sideI 4) (sideI 4) (cW B i)) ⟨x % 4, y % 4, m, ⟨-1, 0, 0, 0⟩, c⟩) ⟨x % 4, y % 4, m, ⟨-1, 0, 0, 0⟩, c⟩ = 0 := cu_put B i rfl
end Go.Proofs.Ytimolomjpmkbiaa
