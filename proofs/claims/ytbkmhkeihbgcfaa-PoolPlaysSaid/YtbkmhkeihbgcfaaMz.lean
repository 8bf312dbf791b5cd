/-
  All of the machinery.
-/
import Derived.Test.YtbkmhkeihbgcfaaMk
import Derived.Test.YtbkmhkeihbgcfaaLb
set_option linter.unusedVariables false
namespace Go.Y
theorem has_u8 {x : Int} (h : IntKind.has .u8 x) : 0 ≤ x ∧ x ≤ 255 := by simpa [IntKind.has, IntKind.min, IntKind.max, IntKind.signed, IntKind.bits] using h
theorem has_u16 {x : Int} (h : IntKind.has .u16 x) : 0 ≤ x ∧ x ≤ 65535 := by simpa [IntKind.has, IntKind.min, IntKind.max, IntKind.signed, IntKind.bits] using h
theorem has_u32 {x : Int} (h : IntKind.has .u32 x) : 0 ≤ x ∧ x ≤ 4294967295 := by simpa [IntKind.has, IntKind.min, IntKind.max, IntKind.signed, IntKind.bits] using h
theorem has_u64 {x : Int} (h : IntKind.has .u64 x) : 0 ≤ x ∧ x ≤ 18446744073709551615 := by simpa [IntKind.has, IntKind.min, IntKind.max, IntKind.signed, IntKind.bits] using h
theorem has_i8 {x : Int} (h : IntKind.has .i8 x) : -128 ≤ x ∧ x ≤ 127 := by simpa [IntKind.has, IntKind.min, IntKind.max, IntKind.signed, IntKind.bits] using h
theorem has_i16 {x : Int} (h : IntKind.has .i16 x) : -32768 ≤ x ∧ x ≤ 32767 := by simpa [IntKind.has, IntKind.min, IntKind.max, IntKind.signed, IntKind.bits] using h
theorem has_i32 {x : Int} (h : IntKind.has .i32 x) : -2147483648 ≤ x ∧ x ≤ 2147483647 := by simpa [IntKind.has, IntKind.min, IntKind.max, IntKind.signed, IntKind.bits] using h
theorem has_i64 {x : Int} (h : IntKind.has .i64 x) : -9223372036854775808 ≤ x ∧ x ≤ 9223372036854775807 := by simpa [IntKind.has, IntKind.min, IntKind.max, IntKind.signed, IntKind.bits] using h
theorem flatK_split {ks r : List (Option IntKind)} : ∀ {cs : List Value}, Flat (ks ++ r) cs → ∃ c1 c2, cs = c1 ++ c2 ∧ Flat ks c1 ∧ Flat r c2 := by
  induction ks with
  | nil => intro cs h; exact ⟨[], cs, rfl, rfl, h⟩
  | cons k ks ih =>
    intro cs h
    cases k with
    | none =>
      obtain ⟨b, q, rfl, h⟩ := h
      obtain ⟨c1, c2, rfl, h1, h2⟩ := ih h
      exact ⟨_ :: c1, c2, rfl, ⟨b, c1, rfl, h1⟩, h2⟩
    | some k =>
      obtain ⟨n, q, rfl, hn, h⟩ := h
      obtain ⟨c1, c2, rfl, h1, h2⟩ := ih h
      exact ⟨_ :: c1, c2, rfl, ⟨n, c1, rfl, hn, h1⟩, h2⟩
/-- A contract without blocks, used. -/
theorem callA_flat {P : Program} {f : FuncId} {args : List AV} {R : AV → Prop} {H : Hp} {n : Nat} {Q : AV → Hp → Nat → Prop} (h : callA P f args [] 0 fun v' _ _ => flatB v' = true ∧ R v') (ha : flatBL args = true) (hq : ∀ v, R v → Q v H n) : callA P f args H n Q := by
  refine ⟨h.1, fun N D w lam hH hN hargs cs => ?_⟩
  have h0 : HSit w.heap.size (fun _ => False) lam [] 0 w := ⟨fun k x hk => (by cases hk), fun k x hk => (by cases hk), fun k x hk => (by cases hk), fun k x hk => (by cases hk), List.nodup_nil⟩
  obtain ⟨v', w', fr, ⟨v1, H1, n1, lam1, hc, ⟨hv, hR⟩, hn1, hvok, hH1, hU, hag, hky⟩, hst⟩ := h.2 w.heap.size (fun _ => False) w lam h0 (Nat.le_refl _) (flat_okL ha hargs) cs
  refine ⟨v', w', fr, ⟨v1, H, n, lam, by rw [hc]; exact flat_conc hv, hq _ hR, Nat.le_refl _, flat_ok hv hvok, ?_, ?_, agree.refl _ _, KeyS.refl _ _⟩, hst⟩
  · refine ⟨fun k x hk => ?_, hH.low, hH.wr, hH.apart, hH.nd⟩
    refine (hH.has k x hk).move (hH.low k x hk) (keeps.refl _ _) (Nat.le_refl _) (fun i b o hi hl => ?_)
    exact hU.block b ((hH.has k x hk).lt hi hl) (fun h => h)
  · exact ⟨hU.os, hU.tape, hU.output, hU.size, fun b hb hd => hU.block b (by omega) (fun h => h), hU.defr⟩
theorem callA_pure {P : Program} {f : FuncId} {args : List AV} {v : AV} {H : Hp} {n : Nat} {Q : AV → Hp → Nat → Prop} (h : callA P f args [] 0 fun v' _ _ => v' = v) (ha : flatBL args = true) (hv : flatB v = true) (hq : Q v H n) : callA P f args H n Q :=
  callA_flat (R := fun v' => v' = v) (callA_mono h (fun v' _ _ e => by subst e; exact ⟨hv, rfl⟩)) ha (fun v' e => e ▸ hq)
theorem of_int {k : IntKind} {cs : List Value} (h : Flat [some k] cs) : ∃ a : Int, k.has a ∧ ∀ lam, cellsA lam (.int k a) = cs := by
  obtain ⟨n, q, rfl, hn, h⟩ := h
  cases h
  exact ⟨n, hn, fun lam => rfl⟩
theorem of_bool {cs : List Value} (h : Flat [none] cs) : ∃ a : Bool, True ∧ ∀ lam, cellsA lam (.bool a) = cs := by
  obtain ⟨n, q, rfl, h⟩ := h
  cases h
  exact ⟨n, trivial, fun lam => rfl⟩
theorem roArg_of {α : Type} {enc : α → AV} {w : World} {x : Option (Nat × Nat)} {sz cap : Nat} {l : List α} {F : List Value} (hf : ∀ a, flatB (enc a) = true) (hs : ∀ a, (enc a).size = sz) (ht : ∀ a, (enc a).isTup = false) (ho : ∀ a lam n, (enc a).ok lam n)
    (hl : l.length ≤ cap) (hn : x = none → cap = 0) (he : ∀ lam, (l.map enc).flatMap (cellsA lam) = F) (hb : ∀ b o, x = some (b, o) → ∃ c ty fr, w.heap[b]? = some (.cells c ty fr) ∧ o ≤ c.size ∧ F <+: c.toList.drop o) : RoArg w x sz (l.map enc) := by
  refine ⟨flatBL_map hf l, ?_, ?_, fun lam n => ?_, fun h => ?_, fun lam b o h => ?_⟩
  · rw [okR_mem]; intro v hv; obtain ⟨a, _, rfl⟩ := List.mem_map.1 hv; exact hs a
  · intro v hv; obtain ⟨a, _, rfl⟩ := List.mem_map.1 hv; exact ht a
  · rw [okL_mem]; intro v hv; obtain ⟨a, _, rfl⟩ := List.mem_map.1 hv; exact ho a _ _
  · have := hn h
    have : l = [] := List.length_eq_zero_iff.1 (by omega)
    rw [this]; rfl
  · obtain ⟨c, ty, fr, h1, h2, h3⟩ := hb b o h
    exact ⟨c, ty, fr, h1, h2, by rw [he]; exact h3⟩
theorem congr_list1 {lam : Lam} {a0 : AV} {b0 : Value} (h0 : a0.conc lam = b0) : concL lam [a0] = [b0] := by
  simp only [concL, h0]
theorem congr_list2 {lam : Lam} {a0 a1 : AV} {b0 b1 : Value} (h0 : a0.conc lam = b0) (h1 : a1.conc lam = b1) : concL lam [a0, a1] = [b0, b1] := by
  simp only [concL, h0, h1]
theorem congr_list3 {lam : Lam} {a0 a1 a2 : AV} {b0 b1 b2 : Value} (h0 : a0.conc lam = b0) (h1 : a1.conc lam = b1) (h2 : a2.conc lam = b2) : concL lam [a0, a1, a2] = [b0, b1, b2] := by
  simp only [concL, h0, h1, h2]
theorem congr_list4 {lam : Lam} {a0 a1 a2 a3 : AV} {b0 b1 b2 b3 : Value} (h0 : a0.conc lam = b0) (h1 : a1.conc lam = b1) (h2 : a2.conc lam = b2) (h3 : a3.conc lam = b3) : concL lam [a0, a1, a2, a3] = [b0, b1, b2, b3] := by
  simp only [concL, h0, h1, h2, h3]
theorem congr_list5 {lam : Lam} {a0 a1 a2 a3 a4 : AV} {b0 b1 b2 b3 b4 : Value} (h0 : a0.conc lam = b0) (h1 : a1.conc lam = b1) (h2 : a2.conc lam = b2) (h3 : a3.conc lam = b3) (h4 : a4.conc lam = b4) : concL lam [a0, a1, a2, a3, a4] = [b0, b1, b2, b3, b4] := by
  simp only [concL, h0, h1, h2, h3, h4]
theorem congr_list6 {lam : Lam} {a0 a1 a2 a3 a4 a5 : AV} {b0 b1 b2 b3 b4 b5 : Value} (h0 : a0.conc lam = b0) (h1 : a1.conc lam = b1) (h2 : a2.conc lam = b2) (h3 : a3.conc lam = b3) (h4 : a4.conc lam = b4) (h5 : a5.conc lam = b5) : concL lam [a0, a1, a2, a3, a4, a5] = [b0, b1, b2, b3, b4, b5] := by
  simp only [concL, h0, h1, h2, h3, h4, h5]
end Go.Y
