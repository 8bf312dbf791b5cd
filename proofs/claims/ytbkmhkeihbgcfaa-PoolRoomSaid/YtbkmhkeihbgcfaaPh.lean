/-
  Chapter 17: nodes that are taken again and again (for the law PoolRoom).
-/
import Derived.Test.YtbkmhkeihbgcfaaPg
set_option linter.unusedVariables false
set_option linter.unusedSimpArgs false
set_option maxRecDepth 10000
set_option maxHeartbeats 0
namespace Go.Proofs.Ytbkmhkeihbgcfaa
open Go.Y
def downR : Nat → List Int
  | 0 => []
  | n + 1 => (n : Int) :: downR n
theorem downR_len : ∀ n, (downR n).length = n
  | 0 => rfl
  | n + 1 => by rw [downR, List.length_cons, downR_len n]
theorem downR_mem : ∀ {n : Nat} {j : Int}, j ∈ downR n → 0 ≤ j ∧ j < n
  | 0, j, h => absurd h List.not_mem_nil
  | n + 1, j, h => by
    rcases List.mem_cons.1 h with h | h
    · omega
    · have := downR_mem h; omega
theorem downR_nodup : ∀ n, (downR n).Nodup
  | 0 => List.nodup_nil
  | n + 1 => by
    rw [downR, List.nodup_cons]
    exact ⟨fun h => by have := downR_mem h; omega, downR_nodup n⟩
theorem downR_get : ∀ {n q : Nat}, q < n → (downR n).getD q default = (n : Int) - 1 - q
  | 0, q, h => by omega
  | n + 1, 0, h => by simp [downR]
  | n + 1, q + 1, h => by
    have := downR_get (n := n) (q := q) (by omega)
    simp only [downR, List.getD_cons_succ]
    rw [this]; omega
/-- The free ones, in order, from one on. -/
def restP : Nat → List Node → Int → Nat → Prop
  | 0, _, f, _ => f = -1
  | c + 1, ns, f, i => f = i ∧ restP c ns (gN ns i) (i + 1)
theorem restP_set {j : Nat} {v : Node} : ∀ {c : Nat} {ns : List Node} {f : Int} {i : Nat}, j < i → restP c ns f i → restP c (ns.set j v) f i
  | 0, ns, f, i, _, h => h
  | c + 1, ns, f, i, hj, h => by
    refine ⟨h.1, ?_⟩
    have e : gN (ns.set j v) i = gN ns i := by rw [gN, gN, List.getD_eq_getElem?_getD, List.getElem?_set_ne (by omega), ← List.getD_eq_getElem?_getD]
    rw [e]
    exact restP_set (by omega) h.2
def rmP (N : Nat) (ns : List Node) (f : Int) (i : Nat) : Prop := i ≤ N ∧ chN ns ((i : Int) - 1) (downR i) ∧ thL ns (downR i) = downR i ∧ ((f = -1 ∧ ns.length = i) ∨ (ns.length = N ∧ restP (N - i) ns f i))
theorem rmP_0 (N : Nat) : rmP N [] (-1) 0 := ⟨Nat.zero_le _, rfl, rfl, .inl ⟨rfl, rfl⟩⟩
theorem rmP_free {N : Nat} {ns : List Node} {f : Int} {i : Nat} (h : rmP N ns f i) : f = -1 ∨ (0 ≤ f ∧ f < ns.length) := by
  obtain ⟨h0, h1, h2, h3⟩ := h
  rcases h3 with ⟨h3, _⟩ | ⟨h3, h4⟩
  · exact .inl h3
  · cases hc : N - i with
    | zero => rw [hc] at h4; exact .inl h4
    | succ c =>
      rw [hc] at h4
      have := h4.1
      exact .inr (by omega)
theorem rmP_len {N : Nat} {ns : List Node} {f : Int} {i : Nat} (h : rmP N ns f i) : ns.length ≤ N := by
  obtain ⟨h0, h1, h2, h3⟩ := h
  rcases h3 with ⟨_, h3⟩ | ⟨h3, _⟩ <;> omega
/-- One more is taken. -/
theorem rmP_push {N : Nat} {ns : List Node} {f : Int} {i : Nat} {live most : Int} (h : rmP N ns f i) (hi : i < N) (hl : live < (N : Int)) :
    ∃ f' ns', pushP ⟨N, f, live, most, ns⟩ ((i : Int) - 1) i = ((i : Int), true, ⟨N, f', live + 1, (if most < live + 1 then live + 1 else most), ns'⟩) ∧ rmP N ns' f' (i + 1) := by
  have h' := h
  obtain ⟨h0, h1, h2, h3⟩ := h
  have hok := chN_ok h1
  have ht : ¬ ((((i : Int) - 1) ≠ -1 ∧ takenP ns ((i : Int) - 1) = false) ∨ live = N) := by
    rintro (⟨g1, g2⟩ | g1)
    · rcases hok with hok | hok
      · exact g1 hok
      · rw [hok] at g2; exact Bool.noConfusion g2
    · omega
  rcases h3 with ⟨h3, h4⟩ | ⟨h3, h4⟩
  · subst h3
    refine ⟨-1, appN ns ((i : Int), (i : Int) - 1, true), ?_, ?_⟩
    · unfold pushP
      rw [if_neg ht]
      simp only [if_true, h4]
      rfl
    · have hb : ∀ j, j ∈ downR i → 0 ≤ j ∧ j < ns.length := fun j hj => by have := downR_mem hj; omega
      refine ⟨by omega, ?_, ?_, .inl ⟨rfl, by rw [appN_len, h4]⟩⟩
      · have := chN_new (x := (i : Int)) h1
        rw [h4] at this
        rw [show (((i + 1 : Nat) : Int) - 1) = i by omega]
        exact this
      · have := thL_new (x := (i : Int)) (h := (i : Int) - 1) hb
        rw [h4, h2] at this
        exact this
  · obtain ⟨c, hc⟩ : ∃ c, N - i = c + 1 := ⟨N - i - 1, by omega⟩
    rw [hc] at h4
    obtain ⟨h5, h6⟩ := h4
    subst h5
    have hn : ((i : Nat) : Int).toNat = i := by omega
    refine ⟨gN ns i, ns.set i ((i : Int), (i : Int) - 1, true), ?_, ?_⟩
    · unfold pushP
      rw [if_neg ht, if_neg (by simp only; omega)]
      simp only [hn]
      rfl
    · have hnot : (i : Int) ∉ downR i := fun hm => by have := downR_mem hm; omega
      have hge : (ns.set i ((i : Int), (i : Int) - 1, true)).getD i default = ((i : Int), (i : Int) - 1, true) := by
        rw [List.getD_eq_getElem?_getD, List.getElem?_set_self (by omega)]; rfl
      have hc1 := chN_set (v := ((i : Int), (i : Int) - 1, true)) (show (0 : Int) ≤ i by omega) hnot h1
      have ht1 := thL_set (ns := ns) (v := ((i : Int), (i : Int) - 1, true)) (show (0 : Int) ≤ i by omega) hnot (fun k hk => (downR_mem hk).1)
      rw [hn] at hc1 ht1
      refine ⟨by omega, ⟨by omega, ?_, ?_⟩, ?_, .inr ⟨by rw [List.length_set]; exact h3, ?_⟩⟩
      · unfold takenP
        rw [show (((i + 1 : Nat) : Int) - 1) = i by omega, List.length_set, if_pos (by omega), hn, hge]
      · rw [hn, hge]; exact hc1
      · show gX _ ((i : Int)).toNat :: thL _ (downR i) = _
        rw [ht1, h2, gX, hn, hge]; rfl
      · rw [show N - (i + 1) = c by omega]
        exact restP_set (by omega) h6
/-- All are let go. -/
theorem restP_free : ∀ (m : Nat) {N : Nat} {ns : List Node} {f : Int}, m ≤ N → ns.length = N → restP (N - m) ns f m → restP N (freeF ns f (downR m)).1 (freeF ns f (downR m)).2 0
  | 0, N, ns, f, _, _, h => h
  | m + 1, N, ns, f, hm, hl, h => by
    rw [downR, freeF]
    have hn : ((m : Nat) : Int).toNat = m := by omega
    rw [hn]
    refine restP_free m (by omega) (by rw [List.length_set]; exact hl) ?_
    rw [show N - m = (N - (m + 1)) + 1 by omega]
    refine ⟨rfl, ?_⟩
    have e : gN (ns.set m (0, f, false)) m = f := by rw [gN, List.getD_eq_getElem?_getD, List.getElem?_set_self (by omega)]; rfl
    rw [e]
    exact restP_set (by omega) h
theorem rmP_again {N : Nat} {ns : List Node} {f : Int} (h : rmP N ns f N) : rmP N (freeF ns f (downR N)).1 (freeF ns f (downR N)).2 0 := by
  obtain ⟨h0, h1, h2, h3⟩ := h
  have hl : ns.length = N := by rcases h3 with ⟨_, h3⟩ | ⟨h3, _⟩ <;> exact h3
  have hf : restP (N - N) ns f N := by
    rw [Nat.sub_self]
    rcases h3 with ⟨h3, _⟩ | ⟨_, h3⟩
    · exact h3
    · rw [Nat.sub_self] at h3; exact h3
  exact ⟨Nat.zero_le _, rfl, rfl, .inr ⟨by rw [freeF_len, hl], restP_free N (Nat.le_refl _) hl hf⟩⟩
theorem roomP_use {k m len cap N i : Nat} {ns : List Node} {free most : Int} {H : Hp} {n : Nat} {Q : AV → Hp → Nat → Prop} (hk : hget k H = some (.cel (.agg [.int .i64 N, .int .i64 free, .int .i64 i, .int .i64 most, .slc m 0 [] 3 0 0 len cap]))) (hm : hget m H = some (.vec cap 3 (ns.map nodeV)))
    (hlt : k < n ∧ m < n ∧ k ≠ m) (hlen : len = ns.length) (hr : rmP N ns free i) (hi : i < N ∧ N ≤ 201)
    (hq : ∀ (ns' : List Node) (f' : Int) (len' cap' : Nat), Imp (rmP N ns' f' (i + 1) ∧ len' = ns'.length) (Q (.tup [.int .i64 i, .bool true]) ((n, .vec cap' 3 (ns'.map nodeV)) :: (k, .cel (.agg [.int .i64 N, .int .i64 f', .int .i64 ((i : Int) + 1), .int .i64 (if most < (i : Int) + 1 then (i : Int) + 1 else most), .slc n 0 [] 3 0 0 len' cap'])) :: hideH [m, k] H) (n + 1))) :
    callA Try.prog 15 [.ptr k 0 [], .int .i64 ((i : Int) - 1), .int .i64 i] H n Q := by
  subst hlen
  have ek : idx [k, m] n 0 = k := rfl
  have em : idx [k, m] n 1 = m := rfl
  have hlen := rmP_len hr
  obtain ⟨f', ns', hp, hr'⟩ := rmP_push (live := i) (most := most) hr hi.1 (by omega)
  refine callA_use (push_call ⟨N, free, i, most, ns⟩ cap ((i : Int) - 1) i ⟨by show (0 : Int) ≤ i; omega, show (i : Int) < 70000 by omega⟩ (rmP_free hr) (show ns.length < 70000 by omega)) [k, m] rfl (by simp; exact hlt.2.2) (by simp; exact ⟨hlt.1, hlt.2.1⟩) (by simp [keysB, poolH]) rfl ?_ ?_
  · refine ⟨?_, ?_, trivial⟩
    · have := hm
      simpa [Ent.ren, em, nodes_ren] using this
    · have := hk
      simpa [Ent.ren, ek, em, poolV, AV.ren, renL] using this
  · rintro v H1 m1 _ ⟨cap', rfl, rfl, rfl⟩
    rw [hp]
    have := hq ns' f' ns'.length cap' ⟨hr', rfl⟩
    simpa [poolH, poolV, renH, renL, AV.ren, Ent.ren, idx, keysB, nodes_ren] using this
theorem roomF_use {k m len cap N : Nat} {ns : List Node} {free most h x : Int} {H : Hp} {n : Nat} {Q : AV → Hp → Nat → Prop} (hk : hget k H = some (.cel (.agg [.int .i64 N, .int .i64 free, .int .i64 N, .int .i64 most, .slc m 0 [] 3 0 0 len cap]))) (hm : hget m H = some (.vec cap 3 (ns.map nodeV)))
    (hlt : k < n ∧ m < n ∧ k ≠ m) (hlen : len = ns.length) (hr : rmP N ns free N) (hi : N ≤ 201)
    (hq : ∀ (cap' : Nat), (Q (.tup [.int .i64 h, .bool false]) ((n, .vec cap' 3 (ns.map nodeV)) :: (k, .cel (.agg [.int .i64 N, .int .i64 free, .int .i64 N, .int .i64 most, .slc n 0 [] 3 0 0 len cap'])) :: hideH [m, k] H) (n + 1))) :
    callA Try.prog 15 [.ptr k 0 [], .int .i64 h, .int .i64 x] H n Q := by
  subst hlen
  have ek : idx [k, m] n 0 = k := rfl
  have em : idx [k, m] n 1 = m := rfl
  have hlen := rmP_len hr
  refine callA_use (push_call ⟨N, free, N, most, ns⟩ cap h x ⟨by show (0 : Int) ≤ N; omega, show (N : Int) < 70000 by omega⟩ (rmP_free hr) (show ns.length < 70000 by omega)) [k, m] rfl (by simp; exact hlt.2.2) (by simp; exact ⟨hlt.1, hlt.2.1⟩) (by simp [keysB, poolH]) rfl ?_ ?_
  · refine ⟨?_, ?_, trivial⟩
    · have := hm
      simpa [Ent.ren, em, nodes_ren] using this
    · have := hk
      simpa [Ent.ren, ek, em, poolV, AV.ren, renL] using this
  · rintro v H1 m1 _ ⟨cap', rfl, rfl, rfl⟩
    have hp : pushP ⟨N, free, N, most, ns⟩ h x = (h, false, ⟨N, free, N, most, ns⟩) := by
      unfold pushP
      rw [if_pos (.inr rfl)]
    rw [hp]
    have := hq cap'
    simpa [poolH, poolV, renH, renL, AV.ren, Ent.ren, idx, keysB, nodes_ren] using this
end Go.Proofs.Ytbkmhkeihbgcfaa
