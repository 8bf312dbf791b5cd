/-
  Abstract values against the machine's: cells, sizes, parts of values.
-/
import Derived.Test.YtbkmhkeihbgcfaaYb
set_option linter.unusedVariables false
set_option linter.unusedSimpArgs false
namespace Go.Y

theorem concL_eq (lam : Lam) : ∀ l : List AV, concL lam l = l.map (AV.conc lam)
  | [] => by simp [concL]
  | v :: r => by simp [concL, concL_eq lam r]

/-- A value's cells. -/
def cellsA (lam : Lam) (v : AV) : List Value := (v.conc lam).cells.toList

theorem glue_toList (l : List Value) : (glue l).toList = l.flatMap fun v => v.cells.toList := by simp [glue]

theorem cells_rows (lam : Lam) (sz : Nat) (l : List AV) : cellsA lam (.rows sz l) = l.flatMap (cellsA lam) := by
  unfold cellsA
  simp only [AV.conc]
  show (glue _).toList = _
  rw [glue_toList, concL_eq, List.flatMap_map]
theorem cells_agg (lam : Lam) (l : List AV) : cellsA lam (.agg l) = l.flatMap (cellsA lam) := by
  unfold cellsA
  simp only [AV.conc]
  show (glue _).toList = _
  rw [glue_toList, concL_eq, List.flatMap_map]
theorem conc_agg (lam : Lam) (l : List AV) : (AV.agg l).conc lam = .agg (l.flatMap (cellsA lam)).toArray := by
  simp [AV.conc, glue, concL_eq, List.flatMap_map]; rfl
theorem conc_rows (lam : Lam) (sz : Nat) (l : List AV) : (AV.rows sz l).conc lam = .agg (l.flatMap (cellsA lam)).toArray := by
  simp [AV.conc, glue, concL_eq, List.flatMap_map]; rfl

theorem conc_leaf (lam : Lam) : ∀ v : AV, v.isAgg = false → ∀ cs, v.conc lam ≠ .agg cs := by
  intro v hv cs
  cases v with
  | ptr k i p => cases h : lam k i <;> simp [AV.conc, ptrV, h]
  | slc k i p n a s len cap => cases h : lam k i <;> simp [AV.conc, slcV, h]
  | map k => cases h : lam k 0 <;> simp [AV.conc, mapV, h]
  | yld k => cases h : lam k 0 <;> simp [AV.conc, yldV, h]
  | agg l => simp [AV.isAgg] at hv
  | rows sz l => simp [AV.isAgg] at hv
  | _ => simp [AV.conc]

theorem cells_leafV {v : Value} (h : ∀ cs, v ≠ .agg cs) : v.cells = #[v] := by
  cases v <;> first | rfl | exact absurd rfl (h _)

theorem cells_leaf (lam : Lam) {v : AV} (hv : v.isAgg = false) : cellsA lam v = [v.conc lam] := by
  unfold cellsA
  rw [cells_leafV (conc_leaf lam v hv)]

theorem size_leaf {v : AV} (hv : v.isAgg = false) : v.size = 1 := by
  cases v <;> first | rfl | simp [AV.isAgg] at hv | simp [AV.size]

mutual
theorem cells_length (lam : Lam) : ∀ v : AV, (cellsA lam v).length = v.size
  | .agg l => by rw [cells_agg, AV.size]; exact cellsL_length lam l
  | .rows sz l => by rw [cells_rows, AV.size]; exact cellsL_length lam l
  | .int .. => by rw [cells_leaf lam rfl]; rfl
  | .bool _ => by rw [cells_leaf lam rfl]; rfl
  | .str _ => by rw [cells_leaf lam rfl]; rfl
  | .tup _ => by rw [cells_leaf lam rfl]; rfl
  | .ptr .. => by rw [cells_leaf lam rfl]; rfl
  | .nilp => by rw [cells_leaf lam rfl]; rfl
  | .slc .. => by rw [cells_leaf lam rfl]; rfl
  | .nils => by rw [cells_leaf lam rfl]; rfl
  | .map _ => by rw [cells_leaf lam rfl]; rfl
  | .nilm => by rw [cells_leaf lam rfl]; rfl
  | .fn .. => by rw [cells_leaf lam rfl]; rfl
  | .yld _ => by rw [cells_leaf lam rfl]; rfl
  | .nilf => by rw [cells_leaf lam rfl]; rfl
theorem cellsL_length (lam : Lam) : ∀ l : List AV, (l.flatMap (cellsA lam)).length = sizeL l
  | [] => rfl
  | v :: r => by
    rw [List.flatMap_cons, List.length_append, cells_length lam v, cellsL_length lam r, sizeL]
end

theorem isAgg_conc (lam : Lam) (v : AV) : (∃ cs, v.conc lam = .agg cs) ↔ v.isAgg = true := by
  constructor
  · rintro ⟨cs, h⟩
    cases hv : v.isAgg with
    | true => rfl
    | false => exact absurd h (conc_leaf lam v hv cs)
  · intro h
    cases v <;> first | (exact ⟨_, conc_agg lam _⟩) | (exact ⟨_, conc_rows lam _ _⟩) | simp [AV.isAgg] at h

/-- A row that is a value's cells. -/
theorem conc_of_agg (lam : Lam) {v : AV} (h : v.isAgg = true) : v.conc lam = .agg (cellsA lam v).toArray := by
  cases v <;> first | (rw [conc_agg, cells_agg]; done) | (rw [conc_rows, cells_rows]; done) | simp [AV.isAgg] at h

/-! ### Lists of values -/
theorem okL_mem {lam : Lam} {n : Nat} : ∀ {l : List AV}, okL lam n l ↔ ∀ v, v ∈ l → v.ok lam n
  | [] => by simp [okL]
  | v :: r => by simp [okL, okL_mem (l := r)]
theorem okR_mem {sz : Nat} : ∀ {l : List AV}, okR sz l ↔ ∀ v, v ∈ l → v.size = sz
  | [] => by simp [okR]
  | v :: r => by simp [okR, okR_mem (l := r)]
theorem okL_get {lam : Lam} {n : Nat} {l : List AV} (h : okL lam n l) {i : Nat} {v : AV} (hi : l[i]? = some v) : v.ok lam n := okL_mem.1 h v (List.mem_of_getElem? hi)
theorem okR_get {sz : Nat} {l : List AV} (h : okR sz l) {i : Nat} {v : AV} (hi : l[i]? = some v) : v.size = sz := okR_mem.1 h v (List.mem_of_getElem? hi)
theorem okL_set {lam : Lam} {n : Nat} {l : List AV} (h : okL lam n l) {i : Nat} {v : AV} (hv : v.ok lam n) : okL lam n (l.set i v) := by
  rw [okL_mem] at h ⊢
  intro u hu
  rcases List.mem_or_eq_of_mem_set hu with hu | rfl
  · exact h u hu
  · exact hv
theorem okR_set {sz : Nat} {l : List AV} (h : okR sz l) {i : Nat} {v : AV} (hv : v.size = sz) : okR sz (l.set i v) := by
  rw [okR_mem] at h ⊢
  intro u hu
  rcases List.mem_or_eq_of_mem_set hu with hu | rfl
  · exact h u hu
  · exact hv
theorem okT_set {l : List AV} (h : okT l) {i : Nat} {v : AV} (hv : v.isTup = false) : okT (l.set i v) := by
  intro u hu
  rcases List.mem_or_eq_of_mem_set hu with hu | rfl
  · exact h u hu
  · exact hv
theorem okT_get {l : List AV} (h : okT l) {i : Nat} {v : AV} (hi : l[i]? = some v) : v.isTup = false := h v (List.mem_of_getElem? hi)
theorem okT_app {l m : List AV} : okT (l ++ m) ↔ okT l ∧ okT m := by
  simp only [okT, List.mem_append]
  exact ⟨fun h => ⟨fun v hv => h v (.inl hv), fun v hv => h v (.inr hv)⟩, fun h v hv => hv.elim (h.1 v) (h.2 v)⟩
theorem okT_take {l : List AV} (h : okT l) (i : Nat) : okT (l.take i) := fun v hv => h v (List.mem_of_mem_take hv)
theorem okT_drop {l : List AV} (h : okT l) (i : Nat) : okT (l.drop i) := fun v hv => h v (List.mem_of_mem_drop hv)
theorem okT_rep {v : AV} (h : v.isTup = false) (k : Nat) : okT (List.replicate k v) := fun u hu => by rw [List.eq_of_mem_replicate hu]; exact h
theorem okL_app {lam : Lam} {n : Nat} {l m : List AV} : okL lam n (l ++ m) ↔ okL lam n l ∧ okL lam n m := by
  simp only [okL_mem, List.mem_append]
  exact ⟨fun h => ⟨fun v hv => h v (.inl hv), fun v hv => h v (.inr hv)⟩, fun h v hv => hv.elim (h.1 v) (h.2 v)⟩
theorem okR_app {n : Nat} {l m : List AV} : okR n (l ++ m) ↔ okR n l ∧ okR n m := by
  simp only [okR_mem, List.mem_append]
  exact ⟨fun h => ⟨fun v hv => h v (.inl hv), fun v hv => h v (.inr hv)⟩, fun h v hv => hv.elim (h.1 v) (h.2 v)⟩
theorem sizeL_app : ∀ (l m : List AV), sizeL (l ++ m) = sizeL l + sizeL m
  | [], m => by simp [sizeL]
  | v :: r, m => by rw [List.cons_append, sizeL, sizeL, sizeL_app r m]; omega
theorem sizeL_rep {sz : Nat} : ∀ {l : List AV}, okR sz l → sizeL l = l.length * sz
  | [], _ => by simp [sizeL]
  | v :: r, h => by
    simp only [okR] at h
    rw [sizeL, sizeL_rep h.2, h.1, List.length_cons, Nat.add_one_mul]; omega
theorem okR_take {sz : Nat} {l : List AV} (h : okR sz l) (i : Nat) : okR sz (l.take i) := by
  rw [okR_mem] at h ⊢; exact fun v hv => h v (List.mem_of_mem_take hv)
theorem okR_drop {sz : Nat} {l : List AV} (h : okR sz l) (i : Nat) : okR sz (l.drop i) := by
  rw [okR_mem] at h ⊢; exact fun v hv => h v (List.mem_of_mem_drop hv)
theorem okL_take {lam : Lam} {n : Nat} {l : List AV} (h : okL lam n l) (i : Nat) : okL lam n (l.take i) := by
  rw [okL_mem] at h ⊢; exact fun v hv => h v (List.mem_of_mem_take hv)
theorem okL_drop {lam : Lam} {n : Nat} {l : List AV} (h : okL lam n l) (i : Nat) : okL lam n (l.drop i) := by
  rw [okL_mem] at h ⊢; exact fun v hv => h v (List.mem_of_mem_drop hv)
theorem okL_rep {lam : Lam} {n : Nat} {v : AV} (h : v.ok lam n) (k : Nat) : okL lam n (List.replicate k v) := by
  rw [okL_mem]; intro u hu; rw [List.eq_of_mem_replicate hu]; exact h
theorem okR_rep {n : Nat} {v : AV} (h : v.size = n) (k : Nat) : okR n (List.replicate k v) := by
  rw [okR_mem]; intro u hu; rw [List.eq_of_mem_replicate hu]; exact h

/-- What there is of numbers below n lies where it lay. -/
def keeps (n : Nat) (lam lam' : Lam) : Prop := ∀ k, k < n → lam.born k → lam'.born k ∧ ∀ i, lam' k i = lam k i
/-- And nothing is there that was not, of such numbers. -/
structure agree (n : Nat) (lam lam' : Lam) : Prop where
  keeps : keeps n lam lam'
  back : ∀ k, k < n → lam'.born k → lam.born k
instance {n : Nat} {a b : Lam} : Coe (agree n a b) (keeps n a b) := ⟨agree.keeps⟩
theorem keeps.refl (n : Nat) (lam : Lam) : keeps n lam lam := fun _ _ h => ⟨h, fun _ => rfl⟩
theorem keeps.trans {n : Nat} {a b c : Lam} (h : keeps n a b) (h' : keeps n b c) : keeps n a c := fun k hk hb =>
  ⟨(h' k hk (h k hk hb).1).1, fun i => ((h' k hk (h k hk hb).1).2 i).trans ((h k hk hb).2 i)⟩
theorem keeps.mono {m n : Nat} {a b : Lam} (h : keeps n a b) (hm : m ≤ n) : keeps m a b := fun k hk => h k (by omega)
theorem agree.refl (n : Nat) (lam : Lam) : agree n lam lam := ⟨keeps.refl n lam, fun _ _ h => h⟩
theorem agree.trans {n : Nat} {a b c : Lam} (h : agree n a b) (h' : agree n b c) : agree n a c := ⟨h.keeps.trans h'.keeps, fun k hk hb => h.back k hk (h'.back k hk hb)⟩
theorem agree.mono {m n : Nat} {a b : Lam} (h : agree n a b) (hm : m ≤ n) : agree m a b := ⟨h.keeps.mono hm, fun k hk => h.back k (by omega)⟩

mutual
theorem ok_mono {m n : Nat} {lam lam' : Lam} (h : m ≤ n) (ha : keeps m lam lam') : ∀ {v : AV}, v.ok lam m → v.ok lam' n
  | .agg l, hv => by simp only [AV.ok] at hv ⊢; exact ⟨okL_mono h ha hv.1, hv.2⟩
  | .rows sz l, hv => by simp only [AV.ok] at hv ⊢; exact ⟨okL_mono h ha hv.1, hv.2⟩
  | .tup l, hv => by simp only [AV.ok] at hv ⊢; exact okL_mono h ha hv
  | .ptr k i p, hv => by simp only [AV.ok] at hv ⊢; rw [(ha k hv.1 hv.2.1).2 i]; exact ⟨by omega, (ha k hv.1 hv.2.1).1, hv.2.2⟩
  | .slc k i p _ a s len cap, hv => by simp only [AV.ok] at hv ⊢; rw [(ha k hv.1 hv.2.1).2 i]; exact ⟨by omega, (ha k hv.1 hv.2.1).1, hv.2.2⟩
  | .map k, hv => by simp only [AV.ok] at hv ⊢; rw [(ha k hv.1 hv.2.1).2 0]; exact ⟨by omega, (ha k hv.1 hv.2.1).1, hv.2.2⟩
  | .yld k, hv => by simp only [AV.ok] at hv ⊢; rw [(ha k hv.1 hv.2.1).2 0]; exact ⟨by omega, (ha k hv.1 hv.2.1).1, hv.2.2⟩
  | .fn f a b, hv => by simp only [AV.ok] at hv ⊢; exact ⟨okL_mono h ha hv.1, okL_mono h ha hv.2.1, hv.2.2⟩
  | .int .., _ => by simp only [AV.ok]
  | .bool _, _ => by simp only [AV.ok]
  | .str _, _ => by simp only [AV.ok]
  | .nilp, _ => by simp only [AV.ok]
  | .nils, _ => by simp only [AV.ok]
  | .nilm, _ => by simp only [AV.ok]
  | .nilf, _ => by simp only [AV.ok]
theorem okL_mono {m n : Nat} {lam lam' : Lam} (h : m ≤ n) (ha : keeps m lam lam') : ∀ {l : List AV}, okL lam m l → okL lam' n l
  | [], _ => by simp only [okL]
  | v :: r, hv => by simp only [okL] at hv ⊢; exact ⟨ok_mono h ha hv.1, okL_mono h ha hv.2⟩
end

mutual
theorem conc_agree {n : Nat} {lam lam' : Lam} (h : keeps n lam lam') : ∀ {v : AV}, v.ok lam n → v.conc lam' = v.conc lam
  | .agg l, hv => by simp only [AV.ok] at hv; simp only [AV.conc, concL_agree h hv.1]
  | .rows sz l, hv => by simp only [AV.ok] at hv; simp only [AV.conc, concL_agree h hv.1]
  | .tup l, hv => by simp only [AV.ok] at hv; simp only [AV.conc, concL_agree h hv]
  | .ptr k i p, hv => by simp only [AV.ok] at hv; simp only [AV.conc, (h k hv.1 hv.2.1).2 i]
  | .slc k i p n a s len cap, hv => by simp only [AV.ok] at hv; simp only [AV.conc, (h k hv.1 hv.2.1).2 i]
  | .map k, hv => by simp only [AV.ok] at hv; simp only [AV.conc, (h k hv.1 hv.2.1).2 0]
  | .yld k, hv => by simp only [AV.ok] at hv; simp only [AV.conc, (h k hv.1 hv.2.1).2 0]
  | .fn f a b, hv => by simp only [AV.ok] at hv; simp only [AV.conc, concL_agree h hv.1, concL_agree h hv.2.1]
  | .int .., _ => by simp only [AV.conc]
  | .bool _, _ => by simp only [AV.conc]
  | .str _, _ => by simp only [AV.conc]
  | .nilp, _ => by simp only [AV.conc]
  | .nils, _ => by simp only [AV.conc]
  | .nilm, _ => by simp only [AV.conc]
  | .nilf, _ => by simp only [AV.conc]
theorem concL_agree {n : Nat} {lam lam' : Lam} (h : keeps n lam lam') : ∀ {l : List AV}, okL lam n l → concL lam' l = concL lam l
  | [], _ => by simp only [concL]
  | v :: r, hv => by simp only [okL] at hv; simp only [concL, conc_agree h hv.1, concL_agree h hv.2]
end

theorem cells_agree {n : Nat} {lam lam' : Lam} (h : keeps n lam lam') {v : AV} (hv : v.ok lam n) : cellsA lam' v = cellsA lam v := by
  unfold cellsA; rw [conc_agree h hv]

/-! ### Parts of values -/
theorem flat_split (lam : Lam) {l : List AV} {i : Nat} {u : AV} (h : l[i]? = some u) :
    l.flatMap (cellsA lam) = (l.take i).flatMap (cellsA lam) ++ cellsA lam u ++ (l.drop (i + 1)).flatMap (cellsA lam) := by
  have hl : l = l.take i ++ u :: l.drop (i + 1) := by
    obtain ⟨hlt, he⟩ := List.getElem?_eq_some_iff.1 h
    rw [← he, List.getElem_cons_drop, List.take_append_drop]
  conv => lhs; rw [hl]
  simp

theorem flat_set (lam : Lam) {l : List AV} {i : Nat} {u x : AV} (h : l[i]? = some u) :
    (l.set i x).flatMap (cellsA lam) = (l.take i).flatMap (cellsA lam) ++ cellsA lam x ++ (l.drop (i + 1)).flatMap (cellsA lam) := by
  obtain ⟨hlt, he⟩ := List.getElem?_eq_some_iff.1 h
  have h1 : (l.set i x)[i]? = some x := by simp [hlt]
  rw [flat_split lam h1]
  rw [List.take_set_of_le (Nat.le_refl _), List.drop_set_of_lt (Nat.lt_succ_self _)]

/-- A part of a value is a part of its cells. -/
theorem stepP_spec (lam : Lam) {n : Nat} {v u : AV} {e : PE} (hv : v.ok lam n) (h : stepP v e = some u) :
    ∃ a b, cellsA lam v = a ++ cellsA lam u ++ b ∧ a.length = e.off ∧ u.ok lam n ∧ (∀ x, cellsA lam (setS v e x) = a ++ cellsA lam x ++ b) ∧
      (∀ x, x.ok lam n → x.isTup = false → x.size = u.size → (setS v e x).ok lam n ∧ (setS v e x).isTup = false ∧ (setS v e x).size = v.size) := by
  unfold stepP at h
  split at h
  · rename_i l f off
    split at h
    · rename_i hs
      simp only [AV.ok] at hv
      refine ⟨_, _, by rw [cells_agg]; exact flat_split lam h, by rw [cellsL_length]; exact hs, okL_get hv.1 h, fun x => by rw [setS, cells_agg]; exact flat_set lam h, fun x hx hxt hsz => ⟨by simp only [setS, AV.ok]; exact ⟨okL_set hv.1 hx, okT_set hv.2 hxt⟩, rfl, ?_⟩⟩
      have h1 := congrArg List.length (flat_set lam (x := x) h)
      have h2 := congrArg List.length (flat_split lam h)
      rw [cellsL_length] at h1 h2
      simp only [List.length_append, cells_length, hsz] at h1 h2
      simp only [setS, AV.size]
      omega
    · cases h
  · rename_i sz l i m
    split at h
    · rename_i hs
      subst hs
      simp only [AV.ok] at hv
      have hlt := (List.getElem?_eq_some_iff.1 h).1
      refine ⟨_, _, by rw [cells_rows]; exact flat_split lam h, ?_, okL_get hv.1 h, fun x => by rw [setS, cells_rows]; exact flat_set lam h, fun x hx hxt hsz => ⟨?_, rfl, ?_⟩⟩
      · rw [cellsL_length, sizeL_rep (okR_take hv.2.1 i), List.length_take, Nat.min_eq_left (by omega)]; rfl
      · simp only [setS, AV.ok]; exact ⟨okL_set hv.1 hx, okR_set hv.2.1 (by rw [hsz]; exact okR_get hv.2.1 h), okT_set hv.2.2 hxt⟩
      · have h1 := congrArg List.length (flat_set lam (x := x) h)
        have h2 := congrArg List.length (flat_split lam h)
        rw [cellsL_length] at h1 h2
        simp only [List.length_append, cells_length, hsz] at h1 h2
        simp only [setS, AV.size]
        omega
    · cases h
  · cases h

theorem getP_spec (lam : Lam) {n : Nat} : ∀ (p : List PE) {v u : AV}, v.ok lam n → getP v p = some u →
    ∃ a b, cellsA lam v = a ++ cellsA lam u ++ b ∧ a.length = offP p ∧ u.ok lam n
  | [], v, u, hv, h => by
    simp only [getP, Option.some.injEq] at h
    subst h
    exact ⟨[], [], by simp, rfl, hv⟩
  | e :: p, v, u, hv, h => by
    unfold getP at h
    split at h
    · rename_i x hx
      obtain ⟨a, b, h1, h2, h3, _, _⟩ := stepP_spec lam hv hx
      obtain ⟨a2, b2, h4, h5, h6⟩ := getP_spec lam p h3 h
      exact ⟨a ++ a2, b2 ++ b, by rw [h1, h4]; simp, by rw [List.length_append, h2, h5, offP], h6⟩
    · cases h

theorem putP_spec (lam : Lam) {n : Nat} {x : AV} (hx : x.ok lam n) : ∀ (p : List PE) {v v' : AV}, v.ok lam n → putP v p x = some v' →
    ∃ a b c, cellsA lam v = a ++ c ++ b ∧ c.length = x.size ∧ cellsA lam v' = a ++ cellsA lam x ++ b ∧ a.length = offP p ∧ v'.ok lam n ∧ v'.size = v.size ∧ x.isTup = false ∧ v'.isTup = false
  | [], v, v', hv, h => by
    unfold putP at h
    split at h
    · rename_i hs
      cases h
      exact ⟨[], [], cellsA lam v, by simp, by rw [cells_length]; exact hs.1, by simp, rfl, hx, hs.1.symm, hs.2, hs.2⟩
    · cases h
  | e :: p, v, v', hv, h => by
    unfold putP at h
    split at h
    · rename_i u hu
      split at h
      · rename_i u' hu'
        cases h
        obtain ⟨a, b, h1, h2, h3, h4, h5⟩ := stepP_spec lam hv hu
        obtain ⟨a2, b2, c, g1, g2, g3, g4, g5, g6, g7, g8⟩ := putP_spec lam hx p h3 hu'
        obtain ⟨k1, k3, k2⟩ := h5 u' g5 g8 g6
        refine ⟨a ++ a2, b2 ++ b, c, by rw [h1, g1]; simp, g2, by rw [h4, g3]; simp, by rw [List.length_append, h2, g4, offP], k1, k2, g7, k3⟩
      · cases h
    · cases h

theorem offP_app : ∀ (p q : List PE), offP (p ++ q) = offP p + offP q
  | [], q => by simp [offP]
  | e :: p, q => by rw [List.cons_append, offP, offP, offP_app p q]; omega

/-! ### Slots -/
theorem seqO_some {α : Type} : ∀ {l : List (Option α)} {vs : List α}, seqO l = some vs → l = vs.map some
  | [], vs, h => by cases h; rfl
  | none :: r, vs, h => by cases h
  | some v :: r, vs, h => by
    unfold seqO at h
    split at h
    · rename_i us hu
      cases h
      rw [seqO_some hu]; rfl
    · cases h

theorem getT_put (T : Sl) (d : Option Nat) (v : AV) (t : Nat) : getT (putT T d v) t = if d = some t then some v else getT T t := by
  cases d with
  | none => simp [putT]
  | some d =>
    simp only [putT, getT, Option.some.injEq]
    by_cases h : t = d
    · simp [h]
    · have : ¬ d = t := fun e => h e.symm
      simp [h, this]

theorem getT_keep : ∀ (l : List Nat) (T : Sl) (t : Nat) (v : AV), getT (keepT l T) t = some v → getT T t = some v
  | [], T, t, v, h => by cases h
  | s :: r, T, t, v, h => by
    unfold keepT at h
    split at h
    · rename_i u hu
      unfold getT at h
      split at h
      · rename_i e; subst e; cases h; exact hu
      · exact getT_keep r T t v h
    · exact getT_keep r T t v h

/-! ### Heaps -/
theorem hget_mem {k : Nat} {x : Ent} : ∀ {H : Hp}, hget k H = some x → (k, x) ∈ H
  | [], h => by cases h
  | (c, y) :: r, h => by
    unfold hget at h
    split at h
    · rename_i e; subst e; cases h; exact List.mem_cons_self
    · exact List.mem_cons_of_mem _ (hget_mem h)
theorem hset_keys (k : Nat) (x : Ent) : ∀ H : Hp, (hset k x H).map (·.1) = H.map (·.1)
  | [] => rfl
  | (c, y) :: r => by
    unfold hset
    split
    · simp
    · simp [hset_keys k x r]
theorem hset_mem {k : Nat} {x : Ent} {c : Nat} {y : Ent} : ∀ {H : Hp}, (H.map (·.1)).Nodup → (c, y) ∈ hset k x H → (c = k ∧ y = x) ∨ (c ≠ k ∧ (c, y) ∈ H)
  | [], _, h => by simp [hset] at h
  | (d, z) :: r, hn, h => by
    simp only [List.map_cons, List.nodup_cons] at hn
    unfold hset at h
    split at h
    · rename_i e
      subst e
      rcases List.mem_cons.1 h with h1 | h1
      · cases h1; exact .inl ⟨rfl, rfl⟩
      · refine .inr ⟨?_, List.mem_cons_of_mem _ h1⟩
        intro e; subst e
        exact hn.1 (List.mem_map.2 ⟨(_, y), h1, rfl⟩)
    · rename_i e
      rcases List.mem_cons.1 h with h | h
      · cases h; exact .inr ⟨fun e' => e e'.symm, List.mem_cons_self⟩
      · rcases hset_mem hn.2 h with ⟨h1, h2⟩ | ⟨h1, h2⟩
        · exact .inl ⟨h1, h2⟩
        · exact .inr ⟨h1, List.mem_cons_of_mem _ h2⟩
theorem hdel_sub (k : Nat) : ∀ H : Hp, (hdel k H).Sublist H
  | [] => List.Sublist.refl _
  | (c, y) :: r => by
    unfold hdel
    split
    · exact List.sublist_cons_self _ _
    · exact (hdel_sub k r).cons_cons _
theorem hdel_ne {k : Nat} : ∀ {H : Hp}, (H.map (·.1)).Nodup → ∀ c y, (c, y) ∈ hdel k H → c ≠ k
  | [], _, c, y, h => by cases h
  | (d, z) :: r, hn, c, y, h => by
    simp only [List.map_cons, List.nodup_cons] at hn
    unfold hdel at h
    split at h
    · rename_i e
      subst e
      intro e; subst e
      exact hn.1 (List.mem_map.2 ⟨(_, y), h, rfl⟩)
    · rename_i e
      rcases List.mem_cons.1 h with h | h
      · cases h; exact fun e' => e e'.symm
      · exact hdel_ne hn.2 c y h

end Go.Y
