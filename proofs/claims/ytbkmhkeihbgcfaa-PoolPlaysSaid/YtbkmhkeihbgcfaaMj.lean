/-
  Bits.
-/
import Derived.Test.YtbkmhkeihbgcfaaMi
set_option linter.unusedVariables false
set_option linter.unusedSimpArgs false
namespace Go.Y

theorem topK_lt (k : IntKind) : topK k < 2 ^ k.bits := by cases k <;> decide
theorem wrap_nat (k : IntKind) {n : Nat} (h : n ≤ topK k) : k.wrap (n : Int) = n := by
  cases k <;> simp only [IntKind.wrap, IntKind.signed, IntKind.bits, topK] at * <;> simp <;> omega
theorem ofInt_nat (k : IntKind) {n : Nat} (h : n ≤ topK k) : (BitVec.ofInt k.bits (n : Int)).toNat = n := by
  have := topK_lt k
  rw [BitVec.toNat_ofInt]
  have h2 : ((n : Int) % ((2 ^ k.bits : Nat) : Int)) = n := Int.emod_eq_of_lt (by omega) (by omega)
  rw [h2]; rfl
theorem and_le (m n : Nat) : m &&& n ≤ m := Nat.and_le_left
theorem top_pow (k : IntKind) : ∃ j, topK k = 2 ^ j - 1 := by
  cases k
  · exact ⟨7, rfl⟩
  · exact ⟨15, rfl⟩
  · exact ⟨31, rfl⟩
  · exact ⟨63, rfl⟩
  · exact ⟨8, rfl⟩
  · exact ⟨16, rfl⟩
  · exact ⟨32, rfl⟩
  · exact ⟨64, rfl⟩
theorem or_top (k : IntKind) {m n : Nat} (hm : m ≤ topK k) (hn : n ≤ topK k) : m ||| n ≤ topK k := by
  obtain ⟨j, hj⟩ := top_pow k
  have h2 := Nat.two_pow_pos j
  have := Nat.or_lt_two_pow (x := m) (y := n) (n := j) (by omega) (by omega)
  omega
theorem xor_top (k : IntKind) {m n : Nat} (hm : m ≤ topK k) (hn : n ≤ topK k) : m ^^^ n ≤ topK k := by
  obtain ⟨j, hj⟩ := top_pow k
  have h2 := Nat.two_pow_pos j
  have := Nat.xor_lt_two_pow (x := m) (y := n) (n := j) (by omega) (by omega)
  omega
theorem bit_and {k : IntKind} {m n : Nat} (hm : m ≤ topK k) (hn : n ≤ topK k) : bitI .and k (m : Int) (n : Int) = ((m &&& n : Nat) : Int) := by
  simp only [bitI, bitsF, Option.getD_some, BitVec.toNat_and, ofInt_nat k hm, ofInt_nat k hn]
  exact wrap_nat k (Nat.le_trans (and_le m n) hm)
theorem bit_or {k : IntKind} {m n : Nat} (hm : m ≤ topK k) (hn : n ≤ topK k) : bitI .or k (m : Int) (n : Int) = ((m ||| n : Nat) : Int) := by
  simp only [bitI, bitsF, Option.getD_some, BitVec.toNat_or, ofInt_nat k hm, ofInt_nat k hn]
  exact wrap_nat k (or_top k hm hn)
theorem bit_xor {k : IntKind} {m n : Nat} (hm : m ≤ topK k) (hn : n ≤ topK k) : bitI .xor k (m : Int) (n : Int) = ((m ^^^ n : Nat) : Int) := by
  simp only [bitI, bitsF, Option.getD_some, BitVec.toNat_xor, ofInt_nat k hm, ofInt_nat k hn]
  exact wrap_nat k (xor_top k hm hn)
theorem bit_andNot {k : IntKind} {m n : Nat} (hm : m ≤ topK k) (hn : n ≤ topK k) : bitI .andNot k (m : Int) (n : Int) = ((m &&& (2 ^ k.bits - 1 - n) : Nat) : Int) := by
  simp only [bitI, bitsF, Option.getD_some, BitVec.toNat_and, BitVec.toNat_not, ofInt_nat k hm, ofInt_nat k hn]
  exact wrap_nat k (Nat.le_trans (and_le m _) hm)
def bitS (op : BinOp) (k : IntKind) (a b : Int) : Int := bitI op k a b
theorem bitI_and_lit (k : IntKind) (m n : Nat) : bitI .and k (OfNat.ofNat m) (OfNat.ofNat n) = if (OfNat.ofNat m : Nat) ≤ topK k then if (OfNat.ofNat n : Nat) ≤ topK k then (((OfNat.ofNat m : Nat) &&& (OfNat.ofNat n : Nat) : Nat) : Int) else bitS .and k (OfNat.ofNat m) (OfNat.ofNat n) else bitS .and k (OfNat.ofNat m) (OfNat.ofNat n) := by
  split
  · split
    · rename_i h1 h2; exact bit_and h1 h2
    · rfl
  · rfl
theorem bitI_or_lit (k : IntKind) (m n : Nat) : bitI .or k (OfNat.ofNat m) (OfNat.ofNat n) = if (OfNat.ofNat m : Nat) ≤ topK k then if (OfNat.ofNat n : Nat) ≤ topK k then (((OfNat.ofNat m : Nat) ||| (OfNat.ofNat n : Nat) : Nat) : Int) else bitS .or k (OfNat.ofNat m) (OfNat.ofNat n) else bitS .or k (OfNat.ofNat m) (OfNat.ofNat n) := by
  split
  · split
    · rename_i h1 h2; exact bit_or h1 h2
    · rfl
  · rfl
theorem bitI_xor_lit (k : IntKind) (m n : Nat) : bitI .xor k (OfNat.ofNat m) (OfNat.ofNat n) = if (OfNat.ofNat m : Nat) ≤ topK k then if (OfNat.ofNat n : Nat) ≤ topK k then (((OfNat.ofNat m : Nat) ^^^ (OfNat.ofNat n : Nat) : Nat) : Int) else bitS .xor k (OfNat.ofNat m) (OfNat.ofNat n) else bitS .xor k (OfNat.ofNat m) (OfNat.ofNat n) := by
  split
  · split
    · rename_i h1 h2; exact bit_xor h1 h2
    · rfl
  · rfl
theorem bitI_andNot_lit (k : IntKind) (m n : Nat) : bitI .andNot k (OfNat.ofNat m) (OfNat.ofNat n) = if (OfNat.ofNat m : Nat) ≤ topK k then if (OfNat.ofNat n : Nat) ≤ topK k then (((OfNat.ofNat m : Nat) &&& (2 ^ k.bits - 1 - (OfNat.ofNat n : Nat)) : Nat) : Int) else bitS .andNot k (OfNat.ofNat m) (OfNat.ofNat n) else bitS .andNot k (OfNat.ofNat m) (OfNat.ofNat n) := by
  split
  · split
    · rename_i h1 h2; exact bit_andNot h1 h2
    · rfl
  · rfl
theorem bits_ge (k : IntKind) {j : Nat} (h : 2 ^ j - 1 ≤ topK k) : j ≤ k.bits := by
  have h1 := topK_lt k
  by_cases hj : j ≤ k.bits
  · exact hj
  · have := Nat.pow_le_pow_right (n := 2) (by omega) (show k.bits + 1 ≤ j by omega)
    rw [Nat.pow_succ] at this
    have := Nat.two_pow_pos k.bits
    omega
/-- A mask of the last places. -/
theorem and_mask (k : IntKind) (a : Int) (j : Nat) (hj : 2 ^ j - 1 ≤ topK k) : bitI .and k a ((2 ^ j - 1 : Nat) : Int) = a % (2 ^ j : Nat) := by
  have hd : (2 ^ j : Nat) ∣ 2 ^ k.bits := Nat.pow_dvd_pow 2 (bits_ge k hj)
  have e : ((BitVec.ofInt k.bits a).toNat &&& (2 ^ j - 1) : Nat) = (a % (2 ^ j : Nat)).toNat := by
    rw [Nat.and_two_pow_sub_one_eq_mod, BitVec.toNat_ofInt]
    have h0 : 0 ≤ a % ((2 ^ k.bits : Nat) : Int) := Int.emod_nonneg _ (by have := Nat.two_pow_pos k.bits; omega)
    have h1 : ((a % ((2 ^ k.bits : Nat) : Int)).toNat % 2 ^ j : Nat) = ((a % ((2 ^ k.bits : Nat) : Int)) % ((2 ^ j : Nat) : Int)).toNat := by
      obtain ⟨m, hm⟩ := Int.eq_ofNat_of_zero_le h0
      rw [hm]; rfl
    rw [h1, Int.emod_emod_of_dvd _ (Int.natCast_dvd_natCast.2 hd)]
  simp only [bitI, bitsF, Option.getD_some, BitVec.toNat_and, ofInt_nat k hj]
  rw [e]
  have h0 : 0 ≤ a % ((2 ^ j : Nat) : Int) := Int.emod_nonneg _ (by have := Nat.two_pow_pos j; omega)
  have h1 : a % ((2 ^ j : Nat) : Int) < (2 ^ j : Nat) := Int.emod_lt_of_pos _ (by have := Nat.two_pow_pos j; omega)
  rw [wrap_nat k (by omega)]
  omega
def andO (k : IntKind) (a b : Int) : Option AV := some (.int k (bitI .and k a b))
theorem mbin_and {P : Program} (t : TypeId) (k : IntKind) (a b : Int) : binA P .and t (.int k a) (.int k b) = andO k a b := bin_and t k a b
theorem andO_lit (k : IntKind) (m n : Nat) : andO k (OfNat.ofNat m) (OfNat.ofNat n) = some (.int k (bitI .and k (OfNat.ofNat m) (OfNat.ofNat n))) := rfl
theorem andO_1 (k : IntKind) (a : Int) : andO k a 1 = some (.int k (a % 2)) := by
  unfold andO; rw [show (1 : Int) = ((2 ^ 1 - 1 : Nat) : Int) from rfl, and_mask k a 1 (by cases k <;> decide)]; rfl
theorem andO_3 (k : IntKind) (a : Int) : andO k a 3 = some (.int k (a % 4)) := by
  unfold andO; rw [show (3 : Int) = ((2 ^ 2 - 1 : Nat) : Int) from rfl, and_mask k a 2 (by cases k <;> decide)]; rfl
theorem andO_7 (k : IntKind) (a : Int) : andO k a 7 = some (.int k (a % 8)) := by
  unfold andO; rw [show (7 : Int) = ((2 ^ 3 - 1 : Nat) : Int) from rfl, and_mask k a 3 (by cases k <;> decide)]; rfl
theorem andO_15 (k : IntKind) (a : Int) : andO k a 15 = some (.int k (a % 16)) := by
  unfold andO; rw [show (15 : Int) = ((2 ^ 4 - 1 : Nat) : Int) from rfl, and_mask k a 4 (by cases k <;> decide)]; rfl
section
variable {cx : Cx} {fx : Fx} {kt : Kt} {H : Hp} {n : Nat} {a : Int}
theorem valK_andR {k : IntKind} {b : Int} (hk : ValK cx fx kt (some (.int k (bitI .and k a b))) H n) : ValK cx fx kt (andO k a b) H n := hk
end
theorem if_true_false (p : Prop) [Decidable p] : ((if p then true else false) = true) = p := by by_cases h : p <;> simp [h]
theorem bool_if {p : Prop} [Decidable p] {b : Bool} (h : b = true ↔ p) : AV.bool b = .bool (if p then true else false) := by
  congr 1; rw [Bool.eq_iff_iff, h]; simp
end Go.Y
