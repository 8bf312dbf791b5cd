/-
  Chapter 16, plain laws: lists that are cut; unlike keys.
-/
import Derived.Test.YtcmacobhnpgpaaaKm
set_option linter.unusedVariables false
set_option linter.unusedSimpArgs false
namespace Go.Proofs.Ytcmacobhnpgpaaa
open Go.Y
/-- A thing whose last number is its place. -/
def pf (B : List TFrag) (j : Nat) : TFrag := ⟨(B.getD j default).x, (B.getD j default).y, (B.getD j default).mask, ⟨(B.getD j default).key.z, (B.getD j default).key.draw, (B.getD j default).key.tri, (j : Int)⟩, (B.getD j default).c⟩
def pW (B : List TFrag) : Nat → List TFrag
  | 0 => []
  | i + 1 => pW B i ++ [pf B i]
theorem pW_len (B : List TFrag) : ∀ i, (pW B i).length = i
  | 0 => rfl
  | i + 1 => by unfold pW; rw [List.length_append, pW_len B i]; rfl
theorem pW_far (B : List TFrag) (i : Nat) : farK (pW B (i + 1)) = putK (farK (pW B i)) (pf B i) := farK_snoc _ _
theorem rput_take (x : TFrag) : ∀ (k : Nat) (l : List TFrag), (rput (l.take k) x).take k = (rput l x).take k
  | 0, l => by simp
  | k + 1, [] => rfl
  | k + 1, y :: l => by
    rw [List.take_succ_cons]
    unfold rput
    by_cases h : cmpK y.key x.key < 0
    · rw [if_pos h, if_pos h, List.take_succ_cons, List.take_succ_cons]
      cases k with
      | zero => simp
      | succ k => simp [List.take_take]
    · rw [if_neg h, if_neg h, List.take_succ_cons, List.take_succ_cons, rput_take x k l]
theorem sorted_take : ∀ (k : Nat) {l : List TFrag}, sortedK l → sortedK (l.take k)
  | 0, _, _ => by simp [sortedK]
  | k + 1, [], _ => by simp [sortedK]
  | k + 1, y :: l, h => by
    rw [List.take_succ_cons]
    exact ⟨fun z hz => h.1 z (List.mem_of_mem_take hz), sorted_take k h.2⟩
/-- One that is cut as it is filled. -/
theorem cut_next (B : List TFrag) (k i : Nat) : (putK ((farK (pW B i)).take k) (pf B i)).take k = (farK (pW B (i + 1))).take k := by
  have hs := (farK_sorted (pW B i)).1
  rw [pW_far, putK_rput (sorted_take k hs), putK_rput hs, rput_take]
/-- Unlike keys: each is farther than the next. -/
def sortedS : List TFrag → Prop
  | [] => True
  | y :: l => (∀ z, z ∈ l → cmpK y.key z.key = 1) ∧ sortedS l
theorem sorted_strict {x : TFrag} : ∀ {l : List TFrag}, sortedS l → (∀ z, z ∈ l → ¬ z.key = x.key) → sortedS (rput l x)
  | [], _, _ => ⟨fun z hz => by simp at hz, trivial⟩
  | y :: l, h, hx => by
    have hne : ¬ cmpK y.key x.key = 0 := fun e => hx y (List.mem_cons_self ..) (cmpK_zero e)
    have hr := cmpK_ord.rng y.key x.key
    have ha := cmpK_ord.anti y.key x.key
    unfold rput
    split
    · rename_i hp
      refine ⟨fun z hz => ?_, h⟩
      rcases List.mem_cons.1 hz with rfl | hz
      · omega
      · have h1 := h.1 z hz
        have h2 := cmpK_ord.anti y.key z.key
        have h3 := cmpK_ord.tr z.key y.key x.key (by omega) hp
        have h4 := cmpK_ord.anti z.key x.key
        have h5 := cmpK_ord.rng x.key z.key
        omega
    · rename_i hp
      refine ⟨fun z hz => ?_, sorted_strict h.2 (fun z hz => hx z (List.mem_cons_of_mem _ hz))⟩
      rcases rput_mem.1 hz with rfl | hz
      · omega
      · exact h.1 z hz
theorem far_mem {z : TFrag} (B : List TFrag) : ∀ i, z ∈ farK (pW B i) → z.key.part < (i : Int)
  | 0, h => by simp [pW, farK] at h
  | i + 1, h => by
    rw [pW_far, putK_rput (farK_sorted _).1] at h
    rcases rput_mem.1 h with rfl | h
    · show (i : Int) < ((i + 1 : Nat) : Int); omega
    · have := far_mem B i h; omega
theorem far_strict (B : List TFrag) : ∀ i, sortedS (farK (pW B i))
  | 0 => trivial
  | i + 1 => by
    rw [pW_far, putK_rput (farK_sorted _).1]
    refine sorted_strict (far_strict B i) (fun z hz e => ?_)
    have h1 := far_mem B i hz
    rw [e] at h1
    have h2 : (i : Int) < (i : Int) := h1
    omega
theorem strict_get : ∀ {l : List TFrag} {i : Nat}, sortedS l → i + 1 < l.length → cmpK (l.getD i default).key (l.getD (i + 1) default).key = 1
  | y :: l, 0, h, hl => by
    have hl : 0 < l.length := by simpa using hl
    show cmpK y.key (l.getD 0 default).key = 1
    refine h.1 _ ?_
    rw [List.getD_eq_getElem?_getD, List.getElem?_eq_getElem hl]; exact List.getElem_mem hl
  | y :: l, i + 1, h, hl => strict_get (l := l) (i := i) h.2 (by simpa using hl)
end Go.Proofs.Ytcmacobhnpgpaaa
