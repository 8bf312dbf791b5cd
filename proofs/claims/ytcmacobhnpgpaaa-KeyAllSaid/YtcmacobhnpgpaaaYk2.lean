/-
  Maps that are turned and gone through; rows that are copied: the machine's own.
-/
import Derived.Test.YtcmacobhnpgpaaaYk1
set_option linter.unusedVariables false
set_option linter.unusedSimpArgs false
namespace Go.Y
open RowKit

section
variable {P : Program} {N : Nat} {D : Nat → Prop} {H : Hp} {n : Nat} {w : World} {lam : Lam}

/-! ### m[x] = y -/
theorem modify_set {α β : Type} (g : α → β) (f : α → α) (v : β) (hv : ∀ a, g (f a) = v) : ∀ (l : List α) (i : Nat), (l.modify i f).map g = (l.map g).set i v
  | [], i => by simp
  | a :: l, 0 => by simp [hv]
  | a :: l, i + 1 => by simp [modify_set g f v hv l i]
theorem modify_same {α β : Type} (g : α → β) (f : α → α) (hv : ∀ a, g (f a) = g a) : ∀ (l : List α) (i : Nat), (l.modify i f).map g = l.map g
  | [], i => by simp
  | a :: l, 0 => by simp [hv]
  | a :: l, i + 1 => by simp [modify_same g f hv l i]
theorem same_ints : ∀ (l : List Int), (((l.map (Value.int .i64)).zip (l.map (Value.int .i64))).all fun q => Instr.sameBits 9999 q.1 q.2) = true
  | [] => rfl
  | a :: l => by
    simp only [List.map_cons, List.zip_cons_cons, List.all_cons, same_ints l, Bool.and_true]
    simp [Instr.sameBits]
theorem same_key (q : Bool × Nat) (l : List Int) : Instr.sameBits 10000 (keyV q l) (keyV q l) = true := by
  obtain ⟨b, m⟩ := q
  cases b with
  | false => simp [keyV, Instr.sameBits]
  | true =>
    show Instr.sameBits (9999 + 1) (.agg _) (.agg _) = true
    simp only [Instr.sameBits, beq_self_eq_true, Bool.true_and, List.toList_toArray]
    exact same_ints l
theorem stays_run (q : Bool × Nat) (l : List Int) : (Instr.keyThatStays (keyV q l) (keyV q l)).run P w = .ok (keyV q l) w := by
  unfold Instr.keyThatStays
  rw [same_key]; rfl
theorem bornP {es : Array MapEntry} {clock : Nat} (h : MapOk es clock) : (es.toList.map (·.born)).Nodup ∧ ∀ b, b ∈ es.toList.map (·.born) → b < clock := by
  refine ⟨h.1, fun b hb => ?_⟩
  obtain ⟨e, he, rfl⟩ := List.mem_map.1 hb
  exact h.2 e he
theorem bornQ {es : Array MapEntry} {clock : Nat} (h : (es.toList.map (·.born)).Nodup) (h2 : ∀ b, b ∈ es.toList.map (·.born) → b < clock) : MapOk es clock :=
  ⟨h, fun e he => h2 _ (List.mem_map_of_mem he)⟩
theorem putC_some {kt : Option (Bool × Nat)} {m : Option (List (AV × AV))} {l : Option (List Int)} {x y : AV} {e : Ent} (h : putC kt m l x y = some e) : ∃ m' l', m = some m' ∧ l = some l' ∧ keyzB kt m' = true ∧ e = .mp (setI m' x y (findI kt l' m' 0)) := by
  unfold putC at h
  split at h
  · rename_i m' l'
    split at h
    · rename_i hk; cases h; exact ⟨m', l', rfl, rfl, hk, rfl⟩
    · cases h
  · cases h
theorem upd_run (hH : HSit N D lam H n w) {t : TypeId} {m x y : AV} {H' : Hp} (hx : x.ok lam n) (hy : y.ok lam n) (h : updA P t m x y H = some H') :
    ∃ w', (Instr.mapUpdate t (m.conc lam) (x.conc lam) (y.conc lam)).run P w = .ok () w' ∧ HSit N D lam H' n w' ∧ Upd N D w w' ∧ KeyS H n H' := by
  unfold updA at h
  split at h
  case h_2 => cases h
  rename_i k
  split at h
  case h_2 => cases h
  rename_i e he
  cases h
  obtain ⟨mm, l, hm, hl, hkb, rfl⟩ := putC_some he
  cases hq : mapKT P t with
  | none => rw [hq] at hl; simp [keyO] at hl
  | some q =>
    obtain ⟨kt, et, hu, hS, _⟩ := mapKT_spec hq
    rw [hq] at hl hkb
    obtain ⟨c1, c2, c3⟩ := keyO_spec lam hl
    obtain ⟨g1, ⟨e0, hk0, hw0⟩, b, o, es, clock, g2, g3, g4, g5⟩ := mapE_has hH hm
    have hf := findKey_run (w := w) (P := P) lam hS c2 c3 hkb g5
    rw [← c1] at hf
    have hc := checkKey_run (w := w) (em := false) hS c2 c3
    rw [← c1] at hc
    have hwr := hH.wr k e0 (hget_mem hk0) hw0 b o g2
    have fin : ∀ (es' : Array MapEntry) (clock' : Nat) (mm' : List (AV × AV)), MapOk es' clock' → es'.toList.map (fun e => (e.key, e.val)) = mm'.map (fun q => (q.1.conc lam, q.2.conc lam)) → (∀ a b, (a, b) ∈ mm' → a.ok lam n ∧ b.ok lam n) →
        HSit N D lam (hset k (.mp mm') H) n (w.putObjY b (.map es' clock')) ∧ Upd N D w (w.putObjY b (.map es' clock')) ∧ KeyS H n (hset k (.mp mm') H) := by
      intro es' clock' mm' h1 h2 h3
      refine ⟨hH.set hk0 hw0 rfl g2 (fun b' hb' => putObj_other hb') ⟨h3, b, o, es', clock', g2, putObj_same g3, h1, h2⟩, upd_putObj g3 (fun ds => by simp) hwr, KeyS.set hH.nd hk0 rfl⟩
    cases hfi : findI (some q) l mm 0 with
    | none =>
      rw [hfi] at hf
      obtain ⟨b1, b2⟩ := bornP g4
      obtain ⟨f1, f2, f3⟩ := fin (es.push { key := x.conc lam, val := y.conc lam, born := clock }) (clock + 1) (mm ++ [(x, y)]) (bornQ (by
          simp only [Array.toList_push, List.map_append, List.map_cons, List.map_nil]
          rw [List.nodup_append]
          refine ⟨b1, by simp, fun a ha c hc => ?_⟩
          simp only [List.mem_singleton] at hc
          have := b2 a ha
          omega) (fun a ha => by
          simp only [Array.toList_push, List.map_append, List.map_cons, List.map_nil, List.mem_append, List.mem_singleton] at ha
          rcases ha with ha | ha
          · have := b2 a ha; omega
          · omega)) (by simp [g5]) (fun a c hac => by
          rcases List.mem_append.1 hac with hac | hac
          · exact g1 a c hac
          · simp only [List.mem_singleton, Prod.mk.injEq] at hac
            obtain ⟨rfl, rfl⟩ := hac
            exact ⟨hx, hy⟩)
      refine ⟨_, ?_, f1, f2, f3⟩
      simp only [AV.conc, g2, mapV, Instr.mapUpdate, Sem.run_bind, run_underlying hu, Result.andThen_ok, getMap_run g3, hc, hf, Option.map_none]
      exact setObj_run g3 (by simp)
    | some p =>
      obtain ⟨j, v⟩ := p
      rw [hfi] at hf
      obtain ⟨k', _, hmj, hkk⟩ := findI_mem hfi
      rw [Nat.sub_zero] at hmj
      have hj : es.toList[j]?.map (fun e => (e.key, e.val)) = some (k'.conc lam, v.conc lam) := by
        rw [← List.getElem?_map, g5, List.getElem?_map, hmj]; rfl
      obtain ⟨en, hen, henv⟩ := Option.map_eq_some_iff.1 hj
      simp only [Prod.mk.injEq] at henv
      have hka : k'.conc lam = x.conc lam := by rw [(keyO_spec lam hkk).1, c1]
      have hold : ((es[j]?).map (·.key)).getD (x.conc lam) = x.conc lam := by
        rw [← Array.getElem?_toList, hen]; simp [henv.1, hka]
      obtain ⟨b1, b2⟩ := bornP g4
      have hmb : ∀ (f : MapEntry → MapEntry), (∀ a, (f a).born = a.born) → ((es.modify j f).toList.map (·.born)) = es.toList.map (·.born) := fun f hf => by
        rw [Array.toList_modify]; exact modify_same (·.born) f hf _ _
      obtain ⟨f1, f2, f3⟩ := fin (es.modify j fun e => { e with key := x.conc lam, val := y.conc lam }) clock (mm.set j (x, y)) (bornQ (by
          rw [hmb (fun e => { e with key := x.conc lam, val := y.conc lam }) (fun _ => rfl)]; exact b1) (fun a ha => by rw [hmb (fun e => { e with key := x.conc lam, val := y.conc lam }) (fun _ => rfl)] at ha; exact b2 a ha)) (by
          rw [Array.toList_modify, modify_set (fun e : MapEntry => (e.key, e.val)) _ (x.conc lam, y.conc lam) (fun _ => rfl), g5, List.map_set]) (fun a c hac => by
          rcases List.mem_or_eq_of_mem_set hac with hac | hac
          · exact g1 a c hac
          · simp only [Prod.mk.injEq] at hac
            obtain ⟨rfl, rfl⟩ := hac
            exact ⟨hx, hy⟩)
      refine ⟨_, ?_, f1, f2, f3⟩
      have hst : (Instr.keyThatStays (x.conc lam) (x.conc lam)).run P w = .ok (x.conc lam) w := by rw [c1]; exact stays_run q l
      simp only [AV.conc, g2, mapV, Instr.mapUpdate, Sem.run_bind, run_underlying hu, Result.andThen_ok, getMap_run g3, hc, hf, Option.map_some, hold, hst]
      exact setObj_run g3 (by simp)
theorem clear_run (hH : HSit N D lam H n w) {t ty : TypeId} {m : AV} {H' : Hp} (h : clearA P t m H = some H') :
    ∃ w', (Builtin.clear_ #[t] ty #[m.conc lam]).run P w = .ok (.tuple #[]) w' ∧ HSit N D lam H' n w' ∧ Upd N D w w' ∧ KeyS H n H' := by
  unfold clearA at h
  split at h
  case h_2 => cases h
  rename_i k
  split at h
  case h_2 => cases h
  rename_i mm d hm hu
  cases h
  obtain ⟨g1, ⟨e0, hk0, hw0⟩, b, o, es, clock, g2, g3, g4, g5⟩ := mapE_has hH hm
  have hwr := hH.wr k e0 (hget_mem hk0) hw0 b o g2
  refine ⟨w.putObjY b (.map #[] clock), ?_, hH.set hk0 hw0 rfl g2 (fun b' hb' => putObj_other hb') ⟨fun _ _ h => (by cases h), b, o, #[], clock, g2, putObj_same g3, ⟨by simp, by simp⟩, rfl⟩, upd_putObj g3 (fun ds => by simp) hwr, KeyS.set hH.nd hk0 rfl⟩
  simp only [AV.conc, g2, mapV, Builtin.clear_]
  simp [run_underlying hu]
  cases d <;> simp [getMap_run g3, setObj_run (o := .map #[] clock) g3 (by simp)]

/-! ### copy -/
theorem elemsF_run (hH : HSit N D lam H n w) {sz c : Nat} {x : AV} {l : List AV} (hx : x.ok lam n) (h : elemsF sz x c H = some l) :
    okL lam n l ∧ okT l ∧ okR sz l ∧ l.length = c ∧ (Builtin.firstCells sz c (x.conc lam)).run P w = .ok (l.flatMap (cellsA lam)).toArray w ∧ (Builtin.lenOf (x.conc lam)).run P w = .ok (lenX x) w := by
  unfold elemsF at h
  split at h
  · rename_i k i p m a s len cap
    split at h
    · rename_i hm
      obtain ⟨rfl, hc⟩ := hm
      have hx2 : (AV.slc k i p m a s c cap).ok lam n := by
        simp only [AV.ok] at hx ⊢
        exact ⟨hx.1, hx.2.1, by omega, hx.2.2.2.1, hx.2.2.2.2⟩
      have h2 : moreOf m (.slc k i p m a s c cap) H = some l := by
        unfold moreOf elemsA
        simp only [if_true]
        exact h
      obtain ⟨g1, g2, g3, g4, g5, _⟩ := more_run (P := P) hH hx2 h2
      have hl : l.length = c := elemsC_len h
      rw [hl] at g5
      refine ⟨g1, g2, g3, hl, ?_, ?_⟩
      · rw [← g5]
        simp only [AV.conc]
        cases lam k i <;> rfl
      · simp only [AV.conc, lenX]
        cases lam k i <;> simp [slcV, Builtin.lenOf]
    · cases h
  · split at h
    · rename_i hc
      subst hc
      cases h
      refine ⟨by simp [okL], by simp [okT], by simp [okR], rfl, ?_, by simp [AV.conc, Builtin.lenOf, lenX]⟩
      simp only [AV.conc, List.flatMap_nil]
      exact run_firstCells_none (P := P) w _ _ _ _
    · cases h
  · cases h
theorem hset_self {k : Nat} {e : Ent} : ∀ {H : Hp}, hget k H = some e → hset k e H = H
  | [], h => by simp [hget] at h
  | (c, x) :: r, h => by
    unfold hget at h
    unfold hset
    split at h
    · rename_i hk; cases h; rw [if_pos hk]
    · rename_i hk; rw [if_neg hk, hset_self h]
theorem copy_run (hH : HSit N D lam H n w) {t u ty e : TypeId} {x y v : AV} {sz : Nat} {a : Bool} {H' : Hp} (ht : P.underlying t = some (.slice e)) (hs : lay P e = some (a, sz)) (hx : x.ok lam n) (hy : y.ok lam n) (h : copyA sz x y H = some (v, H')) :
    ∃ w', (Builtin.copy_ #[t, u] ty #[x.conc lam, y.conc lam]).run P w = .ok (v.conc lam) w' ∧ v.ok lam n ∧ HSit N D lam H' n w' ∧ Upd N D w w' ∧ KeyS H n H' := by
  obtain ⟨i, hi, hc⟩ := lay_info hs
  unfold copyA at h
  split at h
  case h_2 => cases h
  rename_i k m a' s len cap
  split at h
  case isFalse => cases h
  rename_i hm
  subst hm
  split at h
  case h_2 => cases h
  rename_i l hl
  split at h
  case h_2 => cases h
  rename_i en hen
  cases h
  obtain ⟨g1, g2, g3, g4, g5, g6⟩ := elemsF_run (P := P) hH hy hl
  obtain ⟨cn, hcn⟩ : ∃ cn, cn = min (lenX y) len := ⟨_, rfl⟩
  rw [← hcn] at g4 g5 hl ⊢
  have hv : (AV.int .i64 ((cn : Nat) : Int)).ok lam n := by simp [AV.ok]
  unfold copyC at hen
  split at hen
  case h_2 => cases hen
  rename_i cap2 m2 r hk
  split at hen
  case isFalse => cases hen
  rename_i hcond
  obtain ⟨rfl, hsr, hsl⟩ := hcond
  cases hen
  obtain ⟨k1, k2, k2', k3, k4⟩ := hH.has _ _ (hget_mem hk)
  have hxok := hx
  simp only [AV.ok] at hxok
  have hrun0 : ∀ base, (AV.slc k 0 [] m2 a' s len cap).conc lam = .slice base len cap → ∀ w', (match base with
      | some ad => (storeCells ad (l.flatMap (cellsA lam))).run P w = .ok () w'
      | none => w' = w) → (Builtin.copy_ #[t, u] ty #[(AV.slc k 0 [] m2 a' s len cap).conc lam, y.conc lam]).run P w = .ok (.int .i64 (cn : Int)) w' := by
    intro base hb w' hst
    have hmin : Nat.min (lenX y) len = cn := hcn.symm
    rw [hb]
    cases base with
    | none =>
      replace hst : w' = w := hst
      rw [hst]
      simp only [Builtin.copy_]
      simp [run_underlying ht, g6, run_sizeOf w hi, hc, hmin, g5, goInt]
    | some ad =>
      simp only [Builtin.copy_]
      simp [run_underlying ht, g6, run_sizeOf w hi, hc, hmin, g5, hst, goInt]
  rcases k4 with ⟨k4, hcap0⟩ | ⟨b, c, ty0, k4, k5, k6, k7⟩
  · have hcap : cap = 0 := by
      apply Classical.byContradiction
      intro h0
      exact (hxok.2.2.2.1 h0).2 k4
    have hlen : len = 0 := by omega
    have hcn0 : cn = 0 := by omega
    have hl0 : l = [] := List.length_eq_zero_iff.1 (by omega)
    subst hl0
    have hrow : List.take s r ++ [] ++ List.drop (s + ([] : List AV).length) r = r := by simp
    rw [hrow, hset_self hk]
    refine ⟨w, ?_, hv, hH, Upd.refl _ _ _, KeyS.refl _ _⟩
    refine hrun0 none ?_ w rfl
    simp [AV.conc, k4, slcV]
  · have has : a' = s ∨ cn = 0 := by
      by_cases h0 : cap = 0
      · exact .inr (by omega)
      · exact .inl (hxok.2.2.2.1 h0).1
    have hrs : (r.take s).length = s := by rw [List.length_take]; omega
    have hR : okR m2 r := k2
    have hpre : ((r.take s).flatMap (cellsA lam)).length = s * m2 := by rw [cellsL_length, sizeL_rep (okR_take hR _), hrs]
    have hlc : (l.flatMap (cellsA lam)).length = cn * m2 := by rw [cellsL_length, sizeL_rep g3, g4]
    obtain ⟨rest, hrest⟩ := k7
    have hcl := congrArg List.length hrest
    simp only [List.length_append, Array.length_toList, cellsL_length, sizeL_rep hR] at hcl
    have hle : (s + cn) * m2 ≤ cap2 * m2 := Nat.mul_le_mul_right _ (by omega)
    rw [Nat.add_mul] at hle
    have hbase : (AV.slc k 0 [] m2 a' s len cap).conc lam = .slice (some ⟨b, a' * m2, none⟩) len cap := by simp [AV.conc, k4, slcV, offP]
    have hst : ∃ c' : Array Value, (storeCells ⟨b, a' * m2, none⟩ (l.flatMap (cellsA lam))).run P w = .ok () (w.setRow b c') ∧ c'.toList = c.toList.take (s * m2) ++ l.flatMap (cellsA lam) ++ c.toList.drop (s * m2 + cn * m2) := by
      rcases has with rfl | h0
      · have := run_storeCells_at P b (a' * m2) ty0 (l.flatMap (cellsA lam)) 0 c w k5 (by rw [hlc]; omega) (cellsL_one lam g1 g2)
        simp only [Nat.add_zero, hlc] at this
        exact ⟨_, this, by simp⟩
      · have hl0 : l = [] := List.length_eq_zero_iff.1 (by omega)
        subst hl0
        refine ⟨c, ?_, by simp [h0]⟩
        simp only [List.flatMap_nil, storeCells]
        rw [setRow_self w b c ty0 (0, 0) k5]; rfl
    obtain ⟨c', hst, hc'⟩ := hst
    have hdrop : c.toList.drop (s * m2 + cn * m2) = (r.drop (s + cn)).flatMap (cellsA lam) ++ rest.drop ((s + cn - r.length) * m2) := by
      rw [← Nat.add_mul]
      by_cases hsc : s + cn ≤ r.length
      · have e1 : ((r.take (s + cn)).flatMap (cellsA lam)).length = (s + cn) * m2 := by rw [cellsL_length, sizeL_rep (okR_take hR _), List.length_take, Nat.min_eq_left hsc]
        have e2 : c.toList = (r.take (s + cn)).flatMap (cellsA lam) ++ ((r.drop (s + cn)).flatMap (cellsA lam) ++ rest) := by
          rw [← List.append_assoc, ← List.flatMap_append, List.take_append_drop, hrest]
        rw [e2, List.drop_left' e1, show s + cn - r.length = 0 by omega, Nat.zero_mul, List.drop_zero]
      · have e1 : r.drop (s + cn) = [] := List.drop_of_length_le (by omega)
        rw [e1, List.flatMap_nil, List.nil_append, ← hrest, List.drop_append, cellsL_length, sizeL_rep hR, List.drop_of_length_le (by rw [cellsL_length, sizeL_rep hR]; exact Nat.mul_le_mul_right _ (by omega)), List.nil_append, Nat.sub_mul]
    have htake : c.toList.take (s * m2) = (r.take s).flatMap (cellsA lam) := by
      have e2 : c.toList = (r.take s).flatMap (cellsA lam) ++ ((r.drop s).flatMap (cellsA lam) ++ rest) := by
        rw [← List.append_assoc, ← List.flatMap_append, List.take_append_drop, hrest]
      rw [e2, List.take_left' hpre]
    have hsz : c'.size = c.size := by
      have := congrArg List.length hc'
      rw [Array.length_toList, List.length_append, List.length_append, List.length_take, List.length_drop, hlc, Array.length_toList] at this
      omega
    refine ⟨w.setRow b c', hrun0 _ hbase _ hst, hv, hH.set hk rfl rfl k4 (fun b' hb' => setRow_other w b b' _ hb') ⟨?_, ?_, ?_, ?_, .inr ⟨b, c', ty0, k4, setRow_heap w b c _ ty0 _ k5, by rw [hsz, k6], ?_⟩⟩, upd_setRow w b _ (hH.wr k _ (hget_mem hk) rfl b 0 k4) k5, KeyS.set hH.nd hk rfl⟩
    · exact okL_app.2 ⟨okL_app.2 ⟨okL_take k1 _, g1⟩, okL_drop k1 _⟩
    · exact okR_app.2 ⟨okR_app.2 ⟨okR_take hR _, g3⟩, okR_drop hR _⟩
    · exact okT_app.2 ⟨okT_app.2 ⟨okT_take k2' _, g2⟩, okT_drop k2' _⟩
    · simp only [List.length_append, hrs, List.length_drop, g4]; omega
    · rw [hc', htake, hdrop, g4, List.flatMap_append, List.flatMap_append, ← List.append_assoc]
      exact List.prefix_append _ _
end

end Go.Y
