/-
  Chapter 3: what bytes say, by plain law.
-/
import Derived.Test.YtngjfoajgedgjaaWl
set_option linter.unusedVariables false
set_option linter.unusedSimpArgs false
set_option maxRecDepth 10000
set_option maxHeartbeats 0
namespace Go.Proofs.Ytngjfoajgedgjaa
open Go.Y
theorem blI_le {p : Int} (h : 0 ≤ p ∧ p < 128) : 0 ≤ blI p ∧ blI p ≤ 7 := by have := blN_le p.toNat; unfold blI; omega
theorem blI_1 {p : Int} (h : 0 ≤ p ∧ p < 128) : blI p ≤ 1 ↔ p ≤ 1 := by
  obtain ⟨m, rfl⟩ := Int.eq_ofNat_of_zero_le h.1
  have : ∀ m : Nat, m < 128 → (blN m ≤ 1 ↔ m ≤ 1) := by decide
  have := this m (by omega)
  unfold blI; rw [Int.toNat_natCast]; omega
theorem blI_0 {p : Int} (h : 0 ≤ p ∧ p < 128) : blI p = 0 ↔ p = 0 := by
  obtain ⟨m, rfl⟩ := Int.eq_ofNat_of_zero_le h.1
  have : ∀ m : Nat, m < 128 → (blN m = 0 ↔ m = 0) := by decide
  have := this m (by omega)
  unfold blI; rw [Int.toNat_natCast]; omega
/-- What stands at place i of a number's bytes, i at most 9. -/
def fitsI (i : Nat) (y : Int) : Prop := 0 ≤ y ∧ y < 2 * 128 ^ (9 - i) ∧ (0 < i → 0 < y)
theorem par_enc : ∀ (f : Nat) (i : Nat) (y : Int) (r : List Int), i + f = 9 → fitsI i y → par i (encF f y ++ r) = some (y, (encF f y).length)
  | 0, i, y, r, hf, h => by
    have hi : i = 9 := by omega
    subst hi
    have h2 : y < 2 := by have := h.2.1; simpa using this
    have h1 : y = 1 := by have := h.2.2 (by decide); omega
    subst h1
    have hb : blI ((1 : Int) % 128) = 1 := by decide
    show par 9 (1 :: r) = _
    rw [par, hb, if_neg (by decide), if_pos (by decide)]; rfl
  | f + 1, i, y, r, hf, h => by
    rw [encF]
    have hi : i ≤ 8 := by omega
    by_cases hy : y < 128
    · rw [if_pos hy]
      have hb := blI_le (p := y % 128) (by omega)
      have hn : ¬ (64 < 7 * (i : Int) + blI (y % 128) ∨ (y = 0 ∧ 0 < i)) := by
        rintro (h1 | ⟨h1, h2⟩)
        · omega
        · have := h.2.2 h2; omega
      show par i (y :: r) = _
      rw [par, if_neg hn, if_pos hy, Int.emod_eq_of_lt h.1 hy]; rfl
    · rw [if_neg hy]
      have hb := blI_le (p := (y % 128 + 128) % 128) (by omega)
      have hn : ¬ (64 < 7 * (i : Int) + blI ((y % 128 + 128) % 128) ∨ (y % 128 + 128 = 0 ∧ 0 < i)) := by
        rintro (h1 | ⟨h1, h2⟩) <;> omega
      have ih := par_enc f (i + 1) (y / 128) r (by omega) ⟨by omega, by
        have := h.2.1
        rw [show 9 - i = (9 - (i + 1)) + 1 by omega, Int.pow_succ] at this
        omega, fun _ => by omega⟩
      show par i ((y % 128 + 128) :: (encF f (y / 128) ++ r)) = _
      rw [par, if_neg hn, if_neg (by omega), ih]
      simp only [Option.map_some, Option.some.injEq, Prod.mk.injEq, List.length_cons]
      exact ⟨by omega, trivial⟩
theorem par_of : ∀ (W : List Int) (i : Nat) (y : Int) (k : Nat), okB W → par i W = some (y, k) → i ≤ 9 ∧ fitsI i y ∧ ∃ r, W = encF (9 - i) y ++ r ∧ k = (encF (9 - i) y).length
  | [], i, y, k, _, h => by cases h
  | c :: r, i, y, k, hB, h => by
    have hc := hB c (List.mem_cons_self ..)
    rw [par] at h
    split at h
    · cases h
    · rename_i hn
      have hp : 0 ≤ c % 128 ∧ c % 128 < 128 := by omega
      have hb := blI_le hp
      have h1 : ¬ 64 < 7 * (i : Int) + blI (c % 128) := fun hh => hn (.inl hh)
      have h2 : ¬ (c = 0 ∧ 0 < i) := fun hh => hn (.inr hh)
      have hi : i ≤ 9 := by omega
      split at h
      · rename_i hlt
        cases h
        have e : c % 128 = c := Int.emod_eq_of_lt hc.1 hlt
        rw [e] at h1 hb ⊢
        have hu : i = 9 → c < 2 := fun h9 => by
          have := (blI_1 (p := c) (by omega)).1 (by omega); omega
        refine ⟨hi, ⟨hc.1, ?_, fun h => by omega⟩, r, ?_⟩
        · by_cases h9 : i = 9
          · subst h9; exact hu rfl
          · have : (1 : Int) * 128 ≤ 128 ^ (9 - i) := by
              rw [show 9 - i = (9 - i - 1) + 1 by omega, Int.pow_succ]
              have : (0 : Int) < 128 ^ (9 - i - 1) := Int.pow_pos (by decide)
              omega
            omega
        · have e2 : encF (9 - i) c = [c] := by
            cases hf : 9 - i with
            | zero => rfl
            | succ f => rw [encF, if_pos hlt]
          rw [e2]; exact ⟨rfl, rfl⟩
      · rename_i hge
        rw [Option.map_eq_some_iff] at h
        obtain ⟨⟨y', k'⟩, hq, he⟩ := h
        cases he
        obtain ⟨g1, g2, r', g3, g4⟩ := par_of r (i + 1) y' k' (fun a ha => hB a (List.mem_cons_of_mem _ ha)) hq
        have hy' := g2.2.2 (Nat.succ_pos i)
        have e9 : 9 - i = (9 - (i + 1)) + 1 := by omega
        refine ⟨hi, ⟨by omega, ?_, fun _ => by omega⟩, r', ?_⟩
        · have := g2.2.1
          rw [e9, Int.pow_succ]; omega
        · have e3 : encF (9 - i) (c % 128 + 128 * y') = c :: encF (9 - (i + 1)) y' := by
            rw [e9, encF, if_neg (by omega), show (c % 128 + 128 * y') % 128 + 128 = c by omega, show (c % 128 + 128 * y') / 128 = y' by omega]
          rw [e3, g4, g3]
          exact ⟨rfl, rfl⟩
def u64R (x : Int) : Prop := 0 ≤ x ∧ x < 18446744073709551616
theorem fits_0 {x : Int} : fitsI 0 x ↔ u64R x := by
  unfold fitsI u64R
  have : (2 : Int) * 128 ^ (9 - 0) = 18446744073709551616 := by decide
  rw [this]
  exact ⟨fun h => ⟨h.1, h.2.1⟩, fun h => ⟨h.1, h.2, fun h => absurd h (by decide)⟩⟩
theorem par_app {x : Int} (h : u64R x) (r : List Int) : par 0 (enc x ++ r) = some (x, (enc x).length) := par_enc 9 0 x r rfl (fits_0.2 h)
theorem par_some {W : List Int} {x : Int} {k : Nat} (hB : okB W) (h : par 0 W = some (x, k)) : u64R x ∧ ∃ r, W = enc x ++ r ∧ k = (enc x).length := by
  obtain ⟨_, h1, h2⟩ := par_of W 0 x k hB h
  exact ⟨fits_0.1 h1, h2⟩
theorem unz_zz (n : Int) : unz (zz n) = n := by
  unfold unz zz
  by_cases h : 0 ≤ n
  · rw [if_pos h, if_pos (by omega)]; omega
  · rw [if_neg h, if_neg (by omega)]; omega
theorem zz_unz {x : Int} (h : u64R x) : zz (unz x) = x := by
  unfold unz zz
  unfold u64R at h
  by_cases h2 : x % 2 = 0
  · rw [if_pos h2, if_pos (by omega)]; omega
  · rw [if_neg h2, if_neg (by omega)]; omega
def i64R (n : Int) : Prop := -9223372036854775808 ≤ n ∧ n ≤ 9223372036854775807
theorem zz_R {n : Int} (h : i64R n) : u64R (zz n) := by
  unfold i64R at h; unfold u64R zz; split <;> omega
theorem unz_R {x : Int} (h : u64R x) : i64R (unz x) := by
  unfold u64R at h; unfold i64R unz; split <;> omega
theorem enc_pos (x : Int) : 0 < (enc x).length := by
  show 0 < (encF 9 x).length
  rw [encF]; split <;> simp
/-- A number's bytes. -/
def eN (n : Int) : List Int := enc (zz n)
/-- What bytes begin with: the number and what is left. -/
def dec (W : List Int) : Option (Int × Nat) := (par 0 W).map fun q => (unz q.1, q.2)
theorem rdN_dec (W : List Int) : rdN W = match dec W with | some q => (q.1, (q.2 : Int)) | none => (0, 0) := by
  unfold rdN dec rdO
  cases par 0 W <;> rfl
theorem dec_app {n : Int} (h : i64R n) (r : List Int) : dec (eN n ++ r) = some (n, (eN n).length) := by
  unfold dec eN; rw [par_app (zz_R h)]; simp [unz_zz]
theorem dec_some {W : List Int} {n : Int} {k : Nat} (hB : okB W) (h : dec W = some (n, k)) : i64R n ∧ k = (eN n).length ∧ W.take k = eN n ∧ W = eN n ++ W.drop k ∧ 0 < k ∧ k ≤ 10 ∧ k ≤ W.length := by
  unfold dec at h
  rw [Option.map_eq_some_iff] at h
  obtain ⟨⟨x, k'⟩, h1, h2⟩ := h
  cases h2
  obtain ⟨h3, r, rfl, rfl⟩ := par_some hB h1
  have e : eN (unz x) = enc x := by unfold eN; rw [zz_unz h3]
  refine ⟨unz_R h3, by rw [e], ?_, ?_, enc_pos x, enc_len x, by simp⟩
  · rw [e]; simp
  · rw [e]; simp
theorem okB_app {l m : List Int} : okB (l ++ m) ↔ okB l ∧ okB m := by
  unfold okB; simp only [List.mem_append]
  exact ⟨fun h => ⟨fun a ha => h a (.inl ha), fun a ha => h a (.inr ha)⟩, fun h a ha => ha.elim (h.1 a) (h.2 a)⟩
theorem encF_ok : ∀ (f : Nat) (x : Int), 0 ≤ x → x < 2 * 128 ^ f → okB (encF f x)
  | 0, x, h, h2 => by intro a ha; simp only [encF, List.mem_singleton] at ha; subst ha; simp at h2; omega
  | f + 1, x, h, h2 => by
    rw [encF]
    split
    · intro a ha; simp only [List.mem_singleton] at ha; omega
    · have ih := encF_ok f (x / 128) (by omega) (by rw [Int.pow_succ] at h2; omega)
      intro a ha
      rcases List.mem_cons.1 ha with rfl | ha
      · omega
      · exact ih a ha
theorem eN_ok {n : Int} (h : i64R n) : okB (eN n) := encF_ok 9 _ (zz_R h).1 (zz_R h).2
/-! ### All numbers of bytes -/
/-- The numbers of bytes, and whether bytes are left. -/
def allsF : Nat → List Int → List Int × Bool
  | 0, _ => ([], false)
  | f + 1, W => if W = [] then ([], false) else match dec W with
    | some q => (q.1 :: (allsF f (W.drop q.2)).1, (allsF f (W.drop q.2)).2)
    | none => ([], true)
def alls (W : List Int) : List Int × Bool := allsF (W.length + 1) W
theorem okB_drop {l : List Int} (h : okB l) (k : Nat) : okB (l.drop k) := fun a ha => h a (List.mem_of_mem_drop ha)
theorem okB_take {l : List Int} (h : okB l) (k : Nat) : okB (l.take k) := fun a ha => h a (List.mem_of_mem_take ha)
theorem allsF_fuel : ∀ (f g : Nat) (W : List Int), okB W → W.length < f → W.length < g → allsF f W = allsF g W
  | 0, _, _, _, h, _ => absurd h (by omega)
  | _, 0, _, _, _, h => absurd h (by omega)
  | f + 1, g + 1, W, hB, hf, hg => by
    rw [allsF, allsF]
    split
    · rfl
    · cases h : dec W with
      | none => rfl
      | some q =>
        have := dec_some (n := q.1) (k := q.2) hB h
        simp only
        rw [allsF_fuel f g (W.drop q.2) (okB_drop hB _) (by rw [List.length_drop]; omega) (by rw [List.length_drop]; omega)]
theorem alls_nil : alls [] = ([], false) := rfl
theorem alls_none {W : List Int} (h0 : W ≠ []) (h : dec W = none) : alls W = ([], true) := by
  rw [alls, allsF, if_neg h0, h]
theorem alls_some {W : List Int} {n : Int} {k : Nat} (hB : okB W) (h : dec W = some (n, k)) : alls W = (n :: (alls (W.drop k)).1, (alls (W.drop k)).2) := by
  obtain ⟨_, _, _, _, h1, _, h2⟩ := dec_some hB h
  have h0 : W ≠ [] := by intro e; subst e; simp at h2; omega
  rw [alls, allsF, if_neg h0, h]
  simp only
  rw [alls, allsF_fuel W.length ((W.drop k).length + 1) _ (okB_drop hB _) (by rw [List.length_drop]; omega) (Nat.lt_succ_self _)]
theorem alls_cons {n : Int} (h : i64R n) {W : List Int} (hB : okB W) : alls (eN n ++ W) = (n :: (alls W).1, (alls W).2) := by
  have := alls_some (okB_app.2 ⟨eN_ok h, hB⟩) (dec_app h W)
  rw [this]; simp
theorem putL_cons (n : Int) (l : List Int) : putL (n :: l) = eN n ++ putL l := rfl
theorem putL_ok : ∀ {l : List Int}, ok64 l → okB (putL l)
  | [], _ => fun a ha => by cases ha
  | n :: l, h => by
    rw [putL_cons]
    exact okB_app.2 ⟨eN_ok (h n (List.mem_cons_self ..)), putL_ok (fun a ha => h a (List.mem_cons_of_mem _ ha))⟩
theorem alls_put : ∀ {l : List Int}, ok64 l → ∀ {W : List Int}, okB W → alls (putL l ++ W) = (l ++ (alls W).1, (alls W).2)
  | [], _, W, _ => by simp [putL]
  | n :: l, h, W, hW => by
    have h2 : ok64 l := fun a ha => h a (List.mem_cons_of_mem _ ha)
    rw [putL_cons, List.append_assoc, alls_cons (h n (List.mem_cons_self ..)) (okB_app.2 ⟨putL_ok h2, hW⟩), alls_put h2 hW]
    rfl
theorem alls_putL {l : List Int} (h : ok64 l) : alls (putL l) = (l, false) := by
  have := alls_put h (W := []) (fun a ha => by cases ha)
  rw [List.append_nil] at this
  rw [this]; simp [alls_nil]
theorem alls_len : ∀ (f : Nat) {W : List Int}, W.length < f → okB W → (alls W).1.length ≤ W.length ∧ ok64 (alls W).1
  | 0, W, h, _ => absurd h (by omega)
  | f + 1, W, h, hB => by
    by_cases h0 : W = []
    · subst h0; exact ⟨Nat.le_refl _, fun a ha => by cases ha⟩
    · cases hd : dec W with
      | none => rw [alls_none h0 hd]; exact ⟨Nat.zero_le _, fun a ha => by cases ha⟩
      | some q =>
        obtain ⟨h1, _, _, _, h2, _, h3⟩ := dec_some (n := q.1) (k := q.2) hB hd
        rw [alls_some (n := q.1) (k := q.2) hB hd]
        obtain ⟨g1, g2⟩ := alls_len f (W := W.drop q.2) (by rw [List.length_drop]; omega) (okB_drop hB _)
        rw [List.length_drop] at g1
        refine ⟨by rw [List.length_cons]; omega, fun a ha => ?_⟩
        rcases List.mem_cons.1 ha with rfl | ha
        · exact h1
        · exact g2 a ha
end Go.Proofs.Ytngjfoajgedgjaa
