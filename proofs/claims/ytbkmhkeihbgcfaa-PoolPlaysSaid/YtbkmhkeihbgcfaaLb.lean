/-
  From a law's contract to its row: slices of flat elements among the arguments.
-/
import Derived.Test.YtbkmhkeihbgcfaaLa
import Derived.Deep.Slices
namespace Go.Y
open Go.WideElems Go.RowKit Go.Deep Go.ChangeShapes
set_option linter.unusedVariables false

/-! ### A type's cells, by its build -/
mutual
def flatK (P : Program) : Nat → TypeId → Option (List (Option IntKind))
  | 0, _ => none
  | d + 1, t =>
    match P.underlying t with
    | some (.int k) => some [some k]
    | some .bool => some [none]
    | some (.struct fs) => flatS P d 0 fs.toList
    | some (.array n e) => match flatK P d e with
      | some ks => if P.cellsOf e = ks.length then some (times n ks) else none
      | none => none
    | _ => none
def flatS (P : Program) : Nat → Nat → List Field → Option (List (Option IntKind))
  | 0, _, _ => none
  | d + 1, off, [] => some []
  | d + 1, off, f :: fs => match flatK P d f.type with
    | some ks => if f.offset = off ∧ P.cellsOf f.type = ks.length then match flatS P d (off + ks.length) fs with
        | some r => some (ks ++ r)
        | none => none
      else none
    | none => none
end

theorem flat_app : ∀ (ks r : List (Option IntKind)) (cs : List Value), Flat ks (cs.take ks.length) → Flat r (cs.drop ks.length) → Flat (ks ++ r) cs
  | [], r, cs, h, h' => by simpa using h'
  | none :: ks, r, cs, h, h' => by
    cases cs with
    | nil => simp [Flat] at h
    | cons c cs =>
      simp only [List.length_cons, List.take_succ_cons, List.drop_succ_cons, Flat, List.cons_append] at h h' ⊢
      obtain ⟨b, q, e, hq⟩ := h
      cases e
      exact ⟨b, cs, rfl, flat_app ks r cs hq h'⟩
  | some k :: ks, r, cs, h, h' => by
    cases cs with
    | nil => simp [Flat] at h
    | cons c cs =>
      simp only [List.length_cons, List.take_succ_cons, List.drop_succ_cons, Flat, List.cons_append] at h h' ⊢
      obtain ⟨b, q, e, hk, hq⟩ := h
      cases e
      exact ⟨b, cs, rfl, hk, flat_app ks r cs hq h'⟩

section
variable {H : Type} {enc : TypeId × Value → H} {P : Program} {w : World} {base : Nat} {spare : Nat → Bool} {held : Bool}

theorem flat_times (ks : List (Option IntKind)) : ∀ (n : Nat) (cs : List Value), cs.length = n * ks.length → (∀ i, i < n → Flat ks ((cs.drop (i * ks.length)).take ks.length)) → Flat (times n ks) cs
  | 0, cs, hl, _ => by
    have : cs = [] := List.length_eq_zero_iff.1 (by simpa using hl)
    subst this
    simp [times, Flat]
  | n + 1, cs, hl, h => by
    have e : times (n + 1) ks = ks ++ times n ks := by simp [times, List.replicate_succ]
    rw [e]
    refine flat_app _ _ _ (by simpa using h 0 (by omega)) (flat_times ks n _ (by rw [List.length_drop, hl, Nat.add_one_mul]; omega) (fun i hi => ?_))
    have := h (i + 1) (by omega)
    rw [List.drop_drop]
    rw [Nat.add_one_mul] at this
    rw [Nat.add_comm]
    exact this

mutual
theorem trod_flat : ∀ (d : Nat) (t : TypeId) (ks : List (Option IntKind)) (fuel : Nat) (cs : List Value) (x : DataW H × List MemPlace), flatK P d t = some ks → P.cellsOf t = ks.length → DataW.trod enc P w base spare held fuel t cs = some x → Flat ks cs
  | 0, t, ks, fuel, cs, x, hk, _, _ => by simp [flatK] at hk
  | d + 1, t, ks, fuel, cs, x, hk, hc, h => by
    unfold flatK at hk
    split at hk
    · rename_i k ht
      cases hk
      obtain ⟨n, rfl, _, hw⟩ := DataW.trod_int ht h
      exact ⟨n, [], rfl, by simpa [Lit.wf, IntKind.has] using hw, rfl⟩
    · rename_i ht
      cases hk
      obtain ⟨b, rfl, _⟩ := DataW.trod_bool ht h
      exact ⟨b, [], rfl, rfl⟩
    · rename_i fs ht
      obtain ⟨xs, n, _, _, hl, hxl, hf⟩ := DataW.trod_struct ht h
      refine trodS_flat d fs.toList 0 ks n cs hk (by rw [hl, hc]) (fun i f hi => ?_)
      have := hf i f (by simpa using hi)
      have hlt : i < xs.length := by rw [hxl]; simpa using (List.getElem?_eq_some_iff.1 hi).1
      rw [List.getElem?_eq_getElem hlt] at this
      exact ⟨_, by simpa using this⟩
    · rename_i n e ht
      split at hk
      · rename_i ks0 hk0
        split at hk
        · rename_i he
          cases hk
          obtain ⟨xs, m, _, _, hl, hxl, hf⟩ := DataW.trod_array ht h
          refine flat_times ks0 n cs (by rw [hl, hc, times_length]) (fun i hi => ?_)
          have := hf i hi
          rw [List.getElem?_eq_getElem (by omega), he] at this
          exact trod_flat d e ks0 m _ _ hk0 he this
        · cases hk
      · cases hk
    · cases hk
theorem trodS_flat : ∀ (d : Nat) (fs : List Field) (off : Nat) (ks : List (Option IntKind)) (fuel : Nat) (cs : List Value), flatS P d off fs = some ks → cs.length = ks.length →
    (∀ (i : Nat) f, fs[i]? = some f → ∃ y, DataW.trod enc P w base spare held fuel f.type ((cs.drop (f.offset - off)).take (P.cellsOf f.type)) = some y) → Flat ks cs
  | 0, fs, off, ks, fuel, cs, hk, _, _ => by simp [flatS] at hk
  | d + 1, [], off, ks, fuel, cs, hk, hl, _ => by
    simp only [flatS, Option.some.injEq] at hk
    subst hk
    exact List.length_eq_zero_iff.1 (by simpa using hl)
  | d + 1, f :: fs, off, ks, fuel, cs, hk, hl, h => by
    unfold flatS at hk
    split at hk
    · rename_i ks0 hk0
      split at hk
      · rename_i hh
        obtain ⟨h1, h2⟩ := hh
        split at hk
        · rename_i r hr
          cases hk
          obtain ⟨y, hy⟩ := h 0 f rfl
          rw [h1, Nat.sub_self, List.drop_zero, h2] at hy
          refine flat_app _ _ _ (trod_flat d f.type ks0 fuel _ _ hk0 h2 hy) (trodS_flat d fs (off + ks0.length) r fuel _ hr (by rw [List.length_drop, hl, List.length_append]; omega) (fun i g hi => ?_))
          obtain ⟨y, hy⟩ := h (i + 1) g (by simpa using hi)
          refine ⟨y, ?_⟩
          rw [List.drop_drop]
          have hle := flatS_le d fs (off + ks0.length) r hr i g hi
          rw [show ks0.length + (g.offset - (off + ks0.length)) = g.offset - off by omega]
          exact hy
        · cases hk
      · cases hk
    · cases hk
theorem flatS_le : ∀ (d : Nat) (fs : List Field) (off : Nat) (ks : List (Option IntKind)), flatS P d off fs = some ks → ∀ (i : Nat) g, fs[i]? = some g → off ≤ g.offset
  | 0, fs, off, ks, hk, _, _, _ => by simp [flatS] at hk
  | d + 1, [], off, ks, hk, i, g, hi => by simp at hi
  | d + 1, f :: fs, off, ks, hk, i, g, hi => by
    unfold flatS at hk
    split at hk
    · rename_i ks0 hk0
      split at hk
      · rename_i hh
        split at hk
        · rename_i r hr
          cases i with
          | zero => simp at hi; subst hi; omega
          | succ i => have := flatS_le d fs _ r hr i g (by simpa using hi); omega
        · cases hk
      · cases hk
    · cases hk
end

/-! ### Where a row lies -/
theorem rowAt_le (p : Program) (fits : TypeId → Bool) : ∀ (d : Nat) (e : TypeId) (count off n : Nat), rowAt p fits d e count off n = true → off ≤ count * p.cellsOf e
  | 0, e, count, off, n, h => by simp [rowAt] at h
  | d + 1, e, count, off, n, h => by
    unfold rowAt at h
    simp only at h
    split at h
    · cases h
    · rename_i hs
      have hdm := Nat.div_add_mod off (p.cellsOf e)
      have hml := Nat.mod_lt off (Nat.pos_of_ne_zero hs)
      simp only [Bool.or_eq_true, Bool.and_eq_true, beq_iff_eq, decide_eq_true_eq] at h
      rcases h with ⟨⟨h1, h2⟩, _⟩ | ⟨h1, _⟩
      · have h3 : (off / p.cellsOf e) * p.cellsOf e ≤ count * p.cellsOf e := Nat.mul_le_mul_right _ (by omega)
        rw [Nat.mul_comm] at h3
        omega
      · have h3 : (off / p.cellsOf e + 1) * p.cellsOf e ≤ count * p.cellsOf e := Nat.mul_le_mul_right _ h1
        rw [Nat.add_one_mul, Nat.mul_comm] at h3
        omega
theorem liesAt_le (p : Program) : ∀ (d : Nat) (e : TypeId) (count off : Nat) (u : TypeId) (n : Nat), liesAt p d e count off u n = true → off ≤ count * p.cellsOf e
  | 0, e, count, off, u, n, h => by simp [liesAt] at h
  | d + 1, e, count, off, u, n, h => by
    unfold liesAt at h
    simp only [Bool.or_eq_true] at h
    rcases h with h | h
    · exact rowAt_le p _ _ _ _ _ _ h
    · split at h
      · exact liesAt_le p d e count off _ _ h
      · cases h

theorem chunks {c : List Value} {o sz : Nat} {C : Nat → List Value} : ∀ len, (∀ i, i < len → C i = (c.drop (o + i * sz)).take sz) → (∀ i, i < len → (C i).length = sz) → (List.range len).flatMap C = (c.drop o).take (len * sz)
  | 0, _, _ => by simp
  | len + 1, h, hl => by
    rw [List.range_succ, List.flatMap_append, chunks len (fun i hi => h i (by omega)) (fun i hi => hl i (by omega)), Nat.add_one_mul, List.take_add]
    simp only [List.flatMap_cons, List.flatMap_nil, List.append_nil]
    rw [h len (by omega), List.drop_drop]

/-- **An argument that is a slice of flat elements.** -/
theorem open_slice_arg {b0 : Nat} {t e : TypeId} {ks : List (Option IntKind)} {v : Value} {d : DataW H} {p : List MemPlace} (ht : P.underlying t = some (.slice e)) (hks : flatK P 60 e = some ks) (hsz : P.cellsOf e = ks.length)
    (hok : Value.okWide P w .any b0 t v) (h : DataW.Trod enc P w base (fun _ => true) held t v d p) :
    ∃ (x : Option (Nat × Nat)) (len cap : Nat) (C : Nat → List Value), v = slcV x 0 len cap ∧ len ≤ cap ∧ cap ≤ maxLen ∧ (x = none → cap = 0) ∧ (∀ i, i < len → Flat ks (C i)) ∧
      ∀ b o, x = some (b, o) → ∃ c ty fr, w.heap[b]? = some (.cells c ty fr) ∧ o ≤ c.size ∧ (List.range len).flatMap C <+: c.toList.drop o := by
  have hok' : Cell.ok P w .any b0 t v := by
    unfold Value.okWide at hok
    rw [ht] at hok
    unfold Cell.okWide at hok
    rw [ht] at hok
    exact hok
  unfold Cell.ok at hok'
  rw [ht] at hok'
  obtain ⟨fuel, h⟩ := h
  rcases open_slice ht h with ⟨h1, _⟩ | ⟨a, len, cap, m, n, D, Pl, h1, hb, hl, hm, hmm, _, hx⟩
  · have hv : v = .slice none 0 0 := by
      cases v <;> simp [Value.cells] at h1 hok' <;> simp_all
    subst hv
    exact ⟨none, 0, 0, fun _ => [], rfl, Nat.le_refl _, Nat.zero_le _, fun _ => rfl, fun i hi => by omega, fun b o e => by cases e⟩
  · have hv : v = .slice (some a) len cap := by
      cases v <;> simp [Value.cells] at h1 hok' <;> simp_all
    subst hv
    simp only at hok'
    obtain ⟨_, _, _, hspot, row, cells, hshape, hlies⟩ := hok'
    have hmc : m = cap := by rw [hmm]; rfl
    subst hmc
    obtain ⟨C, hC⟩ := choose_lt (p := fun i cs' => w.cells? base (a.add (i * P.cellsOf e)) (P.cellsOf e) = some cs' ∧ DataW.trod enc P w base (fun _ => true) held n e cs' = some (D i, Pl i)) hx
    obtain ⟨bb, oo, ss⟩ := a
    simp only at hspot
    subst hspot
    unfold World.shape? at hshape
    split at hshape
    · rename_i c ty fr hw
      cases hshape
      refine ⟨some (bb, oo), len, m, C, rfl, hl, hm, (fun e => by cases e), (fun i hi => trod_flat (enc := enc) (w := w) (base := base) (spare := fun _ => true) (held := held) 60 e ks n (C i) (D i, Pl i) hks hsz (hC i (by omega)).2), fun b o e0 => ?_⟩
      cases e0
      refine ⟨c, _, _, hw, ?_, ?_⟩
      · have := liesAt_le P _ _ _ _ _ _ hlies
        exact Nat.le_trans this (Nat.div_mul_le_self _ _)
      · have key : ∀ i, i < len → C i = (c.toList.drop (oo + i * P.cellsOf e)).take (P.cellsOf e) := by
          intro i hi
          obtain ⟨_, hlen, hat⟩ := World.cells?_some (hC i (by omega)).1
          apply List.ext_getElem?
          intro j
          by_cases hj : j < P.cellsOf e
          · have h1 := hat j hj
            rw [add_add] at h1
            have h2 : w.cell? ((⟨bb, oo, none⟩ : Addr).add (i * P.cellsOf e + j)) = c[oo + (i * P.cellsOf e + j)]? := by
              rw [add_addr]
              simp [World.cell?, hw]
            rw [h2] at h1
            rw [← h1, List.getElem?_take_of_lt hj, List.getElem?_drop]
            simp [Nat.add_assoc]
          · rw [List.getElem?_eq_none (by omega), List.getElem?_eq_none (by rw [List.length_take]; omega)]
        rw [chunks len key (fun i hi => (World.cells?_some (hC i (by omega)).1).2.1)]
        exact List.take_prefix _ _
    · cases hshape

/-- A slice's elements as what they say. -/
theorem slice_list {α : Type} [Inhabited α] {enc' : α → AV} {len : Nat} {C : Nat → List Value} (h : ∀ i, i < len → ∃ a : α, ∀ lam, cellsA lam (enc' a) = C i) :
    ∃ l : List α, l.length = len ∧ ∀ lam, (l.map enc').flatMap (cellsA lam) = (List.range len).flatMap C := by
  obtain ⟨f, hf⟩ := choose_lt (p := fun i (a : α) => ∀ lam, cellsA lam (enc' a) = C i) h
  refine ⟨(List.range len).map f, by simp, fun lam => ?_⟩
  rw [List.map_map, List.flatMap_map]
  exact flatMap_congr_range (fun i hi => hf i hi lam)
theorem slice_listP {α : Type} [Inhabited α] {enc' : α → AV} {p : α → Prop} {len : Nat} {C : Nat → List Value} (h : ∀ i, i < len → ∃ a : α, p a ∧ ∀ lam, cellsA lam (enc' a) = C i) :
    ∃ l : List α, l.length = len ∧ (∀ a ∈ l, p a) ∧ ∀ lam, (l.map enc').flatMap (cellsA lam) = (List.range len).flatMap C := by
  obtain ⟨f, hf⟩ := choose_lt (p := fun i (a : α) => p a ∧ ∀ lam, cellsA lam (enc' a) = C i) h
  refine ⟨(List.range len).map f, by simp, fun a ha => ?_, fun lam => ?_⟩
  · obtain ⟨i, hi, rfl⟩ := List.mem_map.1 ha
    exact (hf i (by simpa using hi)).1
  · rw [List.map_map, List.flatMap_map]
    exact flatMap_congr_range (fun i hi => (hf i hi).2 lam)
end

/-! ### Contracts over the arguments' blocks -/
/-- The blocks of a law's arguments: rows that nobody writes. -/
def rosH : Nat → List (Nat × List AV) → Hp
  | _, [] => []
  | k, (sz, l) :: r => (k, .ro fun _ => .rows sz l) :: rosH (k + 1) r
def rosL (xs : List (Option (Nat × Nat))) : Lam := ⟨fun k _ => (xs[k]?).getD none, fun k => k < xs.length⟩

/-- What is known of one such block. -/
def RoArg (w : World) (x : Option (Nat × Nat)) (sz : Nat) (l : List AV) : Prop :=
  flatBL l = true ∧ okR sz l ∧ okT l ∧ (∀ lam n, okL lam n l) ∧ (x = none → l = []) ∧ ∀ lam b o, x = some (b, o) → ∃ c ty fr, w.heap[b]? = some (.cells c ty fr) ∧ o ≤ c.size ∧ l.flatMap (cellsA lam) <+: c.toList.drop o

theorem rosH_get : ∀ (r : List (Nat × List AV)) (k0 : Nat) (k : Nat) (e : Ent), (k, e) ∈ rosH k0 r → ∃ i sz l, k = k0 + i ∧ r[i]? = some (sz, l) ∧ e = .ro fun _ => .rows sz l
  | [], k0, k, e, h => by cases h
  | (sz, l) :: r, k0, k, e, h => by
    simp only [rosH] at h
    rcases List.mem_cons.1 h with h | h
    · cases h; exact ⟨0, sz, l, rfl, rfl, rfl⟩
    · obtain ⟨i, sz', l', h1, h2, h3⟩ := rosH_get r (k0 + 1) k e h
      exact ⟨i + 1, sz', l', by omega, by simpa using h2, h3⟩
theorem rosH_keys : ∀ (r : List (Nat × List AV)) (k0 : Nat), (∀ k, k ∈ (rosH k0 r).map (·.1) → k0 ≤ k) ∧ ((rosH k0 r).map (·.1)).Nodup
  | [], k0 => by simp [rosH]
  | (sz, l) :: r, k0 => by
    obtain ⟨h1, h2⟩ := rosH_keys r (k0 + 1)
    simp only [rosH, List.map_cons, List.nodup_cons]
    refine ⟨fun k hk => ?_, fun hm => ?_, h2⟩
    · rcases List.mem_cons.1 hk with h | h
      · omega
      · have := h1 k h; omega
    · have := h1 k0 hm; omega

theorem ros_sit {w : World} (r : List (Nat × List AV)) (xs : List (Option (Nat × Nat))) (hl : xs.length = r.length) (h : ∀ (i : Nat) x sz l, xs[i]? = some x → r[i]? = some (sz, l) → RoArg w x sz l) :
    HSit w.heap.size (fun _ => False) (rosL xs) (rosH 0 r) r.length w := by
  refine ⟨fun k e hk => ?_, fun k e hk => ?_, fun k e hk hw => ?_, fun k e hk hw => ?_, (rosH_keys r 0).2⟩
  · obtain ⟨i, sz, l, hi, hr, rfl⟩ := rosH_get r 0 k e hk
    rw [Nat.zero_add] at hi
    subst hi
    have hlt : k < xs.length := by rw [hl]; exact (List.getElem?_eq_some_iff.1 hr).1
    have hx : xs[k]? = some xs[k] := List.getElem?_eq_getElem hlt
    obtain ⟨hf, hR, hT, hL, hn, hw⟩ := h k _ sz l hx hr
    intro j
    have hpos : (rosL xs) k j = xs[k] := by
      show (xs[k]?).getD none = _
      rw [hx]; rfl
    refine ⟨by simp only [AV.ok]; exact ⟨hL _ _, hR, hT⟩, ?_⟩
    rw [hpos]
    cases hxk : xs[k] with
    | none =>
      left
      refine ⟨rfl, ?_⟩
      rw [hn hxk]
      rfl
    | some bo =>
      obtain ⟨b, o⟩ := bo
      right
      obtain ⟨c, ty, fr, g1, g2, g3⟩ := hw (rosL xs) b o hxk
      exact ⟨b, o, c, ty, fr, rfl, g1, g2, by rw [cells_rows]; exact g3⟩
  · obtain ⟨i, sz, l, hi, hr, rfl⟩ := rosH_get r 0 k e hk
    rw [Nat.zero_add] at hi
    subst hi
    have hlt : k < r.length := (List.getElem?_eq_some_iff.1 hr).1
    exact ⟨hlt, by show k < xs.length; rw [hl]; exact hlt⟩
  · obtain ⟨i, sz, l, hi, hr, rfl⟩ := rosH_get r 0 k e hk
    cases hw
  · obtain ⟨i, sz, l, hi, hr, rfl⟩ := rosH_get r 0 k e hk
    cases hw

/-- A contract over the arguments' blocks leaves all that was there as it was. -/
theorem calls_of_callA_ro {P : Program} {f : FuncId} {args : List AV} {u : AV} {w : World} {r : List (Nat × List AV)} {xs : List (Option (Nat × Nat))} (h : callA P f args (rosH 0 r) r.length fun v _ _ => v = u) (hl : xs.length = r.length)
    (hr : ∀ (i : Nat) x sz l, xs[i]? = some x → r[i]? = some (sz, l) → RoArg w x sz l) (ha : okL (rosL xs) r.length args) (hu : flatB u = true) {avs : Array Value} {uv : Value} (hav : (concL (rosL xs) args).toArray = avs) (huv : u.conc (rosL xs) = uv) :
    Calls P f avs w fun e w' => e = .returned uv ∧ Below w.heap.size w w' := by
  subst hav; subst huv
  intro cs
  obtain ⟨v', w', fr, ⟨v1, H1, n1, lam1, hc, hq, hn1, hvok, hH1, hU, hag, hky⟩, hst, hf, hl⟩ := h.2 w.heap.size (fun _ => False) w _ (ros_sit r xs hl hr) (Nat.le_refl _) ha cs
  subst hq
  have e : v' = v1.conc (rosL xs) := by rw [hc]; exact flat_conc hu
  subst e
  exact ⟨.returned (v1.conc (rosL xs)), w', fr, ⟨rfl, hU.os, hU.tape, hU.output, hU.size, fun b hb => hU.block b hb (fun h => h)⟩, hst, hf, hl⟩

end Go.Y
