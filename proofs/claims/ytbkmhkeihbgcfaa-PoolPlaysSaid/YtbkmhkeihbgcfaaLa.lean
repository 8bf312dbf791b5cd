/-
  From a law's contract to its row: flat arguments are opened, and what the call leaves is below what there was.
-/
import Derived.Test.YtbkmhkeihbgcfaaYy
import Derived.WalkKit
import Derived.ProofKit
import Derived.OpenShut
import Derived.ShutString
import Derived.ChangeOld
import Derived.Below
namespace Go.Y
open Go.WideElems Go.RowKit
set_option linter.unusedVariables false

/-- A contract in an empty store leaves all that was there as it was. -/
theorem calls_of_callA {P : Program} {f : FuncId} {args : List AV} {u : AV} {w : World} (h : callA P f args [] 0 fun v _ _ => v = u) (ha : ∀ lam, okL lam 0 args) (hu : flatB u = true) (lam : Lam) {avs : Array Value} {uv : Value} (hav : (concL lam args).toArray = avs) (huv : u.conc lam = uv) :
    Calls P f avs w fun e w' => e = .returned uv ∧ Below w.heap.size w w' := by
  subst hav; subst huv
  have h0 : HSit w.heap.size (fun _ => False) lam [] 0 w := ⟨fun k x hk => (by cases hk), fun k x hk => (by cases hk), fun k x hk => (by cases hk), fun k x hk => (by cases hk), List.nodup_nil⟩
  intro cs
  obtain ⟨v', w', fr, ⟨v1, H1, n1, lam1, hc, hq, hn1, hvok, hH1, hU, hag, hky⟩, hst, hf, hl⟩ := h.2 w.heap.size (fun _ => False) w lam h0 (Nat.le_refl _) (ha lam) cs
  subst hq
  have e : v' = v1.conc lam := by rw [hc]; exact flat_conc hu
  subst e
  exact ⟨.returned (v1.conc lam), w', fr, ⟨rfl, hU.os, hU.tape, hU.output, hU.size, fun b hb => hU.block b hb (fun h => h)⟩, hst, hf, hl⟩

/-- A row of integers, and booleans (none). -/
def Flat : List (Option IntKind) → List Value → Prop
  | [], vs => vs = []
  | some k :: ks, vs => ∃ n r, vs = .int k n :: r ∧ k.has n ∧ Flat ks r
  | none :: ks, vs => ∃ b r, vs = .bool b :: r ∧ Flat ks r

/-- A cell's kind. -/
def kindOf (P : Program) (t : TypeId) : Option (Option IntKind) :=
  match P.underlying t with
  | some (.int k) => some (some k)
  | some .bool => some none
  | _ => none

def kindsOf (P : Program) : List TypeId → Option (List (Option IntKind))
  | [] => some []
  | t :: ts => match kindOf P t, kindsOf P ts with
    | some k, some ks => some (k :: ks)
    | _, _ => none

def aggTy (P : Program) (t : TypeId) : Bool :=
  match P.underlying t with
  | some (.struct _) | some (.array _ _) => true
  | _ => false

def Cell1 (k : Option IntKind) (v : Value) : Prop :=
  match k with
  | some k => ∃ n, v = .int k n ∧ k.has n
  | none => ∃ b, v = .bool b

theorem cell_int {P : Program} {w : World} {r : Reach} {base : Nat} {t : TypeId} {k : Option IntKind} {v : Value} (ht : kindOf P t = some k) (h : Cell.okWide P w r base t v) : Cell1 k v := by
  unfold kindOf at ht
  split at ht <;> cases ht
  · rename_i k hu
    unfold Cell.okWide at h
    rw [hu] at h
    unfold Cell.ok at h
    rw [hu] at h
    cases v <;> simp at h
    exact ⟨_, by rw [h.1], h.2⟩
  · rename_i hu
    unfold Cell.okWide at h
    rw [hu] at h
    unfold Cell.ok at h
    rw [hu] at h
    cases v <;> simp at h
    exact ⟨_, rfl⟩

theorem flat_of : ∀ (ks : List (Option IntKind)) (vs : List Value), vs.length = ks.length → (∀ (i : Nat) k v, ks[i]? = some k → vs[i]? = some v → Cell1 k v) → Flat ks vs
  | [], vs, hl, _ => List.length_eq_zero_iff.1 hl
  | k :: ks, [], hl, _ => by cases hl
  | k :: ks, v :: vs, hl, h => by
    have h0 := h 0 k v rfl rfl
    have ih := flat_of ks vs (Nat.succ.inj hl) (fun i k' v' hk hv => h (i + 1) k' v' hk hv)
    cases k with
    | some k =>
      obtain ⟨n, rfl, hn⟩ := h0
      exact ⟨n, vs, rfl, hn, ih⟩
    | none =>
      obtain ⟨b, rfl⟩ := h0
      exact ⟨b, vs, rfl, ih⟩

theorem kindsOf_get {P : Program} : ∀ (ts : List TypeId) (ks : List (Option IntKind)), kindsOf P ts = some ks → ks.length = ts.length ∧ ∀ (i : Nat) t k, ts[i]? = some t → ks[i]? = some k → kindOf P t = some k
  | [], ks, h => by cases h; exact ⟨rfl, fun i t k ht => by simp at ht⟩
  | t :: ts, ks, h => by
    unfold kindsOf at h
    split at h
    · rename_i k ks' h1 h2
      cases h
      obtain ⟨hl, hg⟩ := kindsOf_get ts ks' h2
      refine ⟨by simp [hl], fun i t' k' ht hk => ?_⟩
      cases i with
      | zero => simp at ht hk; subst ht hk; exact h1
      | succ i => exact hg i t' k' (by simpa using ht) (by simpa using hk)
    · cases h

/-- How many times a list stands in a row. -/
def times (n : Nat) (ks : List (Option IntKind)) : List (Option IntKind) := (List.replicate n ks).flatten

theorem times_get (ks : List (Option IntKind)) : ∀ (n i : Nat), i < n * ks.length → (times n ks)[i]? = ks[i % ks.length]?
  | 0, i, h => by simp at h
  | n + 1, i, h => by
    have e : times (n + 1) ks = ks ++ times n ks := by simp [times, List.replicate_succ]
    rw [e]
    by_cases hi : i < ks.length
    · rw [List.getElem?_append_left hi, Nat.mod_eq_of_lt hi]
    · have hle : ks.length ≤ i := Nat.le_of_not_lt hi
      rw [List.getElem?_append_right hle, times_get ks n (i - ks.length) (by rw [Nat.add_one_mul] at h; omega), Nat.mod_eq_sub_mod hle]

theorem times_length (ks : List (Option IntKind)) : ∀ n, (times n ks).length = n * ks.length
  | 0 => by simp [times]
  | n + 1 => by
    have e : times (n + 1) ks = ks ++ times n ks := by simp [times, List.replicate_succ]
    rw [e, List.length_append, times_length ks n, Nat.add_one_mul]
    omega

/-- What a flat type's value is. -/
def flatTy (P : Program) (t : TypeId) : Option (List (Option IntKind)) :=
  if aggTy P t = true then
    match P.cellTypes P.depth t with
    | some ts => match kindsOf P ts with
      | some ks => some (times (P.cellsOf t / ts.length) ks)
      | none => none
    | none => none
  else none

theorem open_flat {P : Program} {w : World} {r : Reach} {base : Nat} {t : TypeId} {v : Value} {ks : List (Option IntKind)} (hk : flatTy P t = some ks) (h : Value.okWide P w r base t v) :
    ∃ cs : List Value, v = .agg cs.toArray ∧ Flat ks cs := by
  unfold flatTy at hk
  split at hk
  case isFalse => cases hk
  rename_i ha
  have h2 : ∃ cs, v = .agg cs ∧ cs.size = P.cellsOf t ∧ Row.okWide P w r base t cs := by
    unfold aggTy at ha
    unfold Value.okWide at h
    split at ha
    · rename_i hu; rw [hu] at h; exact h
    · rename_i hu; rw [hu] at h; exact h
    · cases ha
  obtain ⟨cs, rfl, hsz, ts, hts, ⟨n, hn⟩, hc⟩ := h2
  rw [hts] at hk
  dsimp only at hk
  split at hk
  case h_2 => cases hk
  rename_i ks0 hks
  cases hk
  obtain ⟨hl, hg⟩ := kindsOf_get ts ks0 hks
  have hdiv : (P.cellsOf t / ts.length) * ks0.length = cs.size := by
    rw [← hsz, hn, hl]
    by_cases h0 : ts.length = 0
    · simp [h0]
    · rw [Nat.mul_div_cancel _ (Nat.pos_of_ne_zero h0)]
  refine ⟨cs.toList, by simp, flat_of _ _ (by rw [times_length, hdiv]; simp) (fun i k v hik hiv => ?_)⟩
  have hi : i < cs.size := by
    have := (List.getElem?_eq_some_iff.1 hiv).1
    simpa using this
  rw [times_get ks0 _ i (by rw [hdiv]; exact hi), hl] at hik
  obtain ⟨u, hu, hcell⟩ := hc i v (by simpa using hiv)
  exact cell_int (hg _ _ _ hu hik) hcell

theorem open_one {P : Program} {w : World} {r : Reach} {base : Nat} {t : TypeId} {v : Value} {k : IntKind} (ht : P.underlying t = some (.int k)) (h : Value.okWide P w r base t v) : ∃ n, v = .int k n ∧ k.has n := by
  unfold Value.okWide at h
  rw [ht] at h
  exact cell_int (k := some k) (by unfold kindOf; rw [ht]) h

theorem open_flag {P : Program} {w : World} {r : Reach} {base : Nat} {t : TypeId} {v : Value} (ht : P.underlying t = some .bool) (h : Value.okWide P w r base t v) : ∃ b, v = .bool b := by
  unfold Value.okWide at h
  rw [ht] at h
  exact cell_int (k := none) (by unfold kindOf; rw [ht]) h

end Go.Y
