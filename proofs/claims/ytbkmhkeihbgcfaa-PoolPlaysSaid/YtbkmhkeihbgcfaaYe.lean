/-
  Each operation that looks at values is the machine's own.
-/
import Derived.Test.YtbkmhkeihbgcfaaYd
import Derived.ChangeKeysEq
import Derived.Laws.StructEq
import Derived.Laws.Strings
set_option linter.unusedVariables false
set_option linter.unusedSimpArgs false
namespace Go.Y
open RowKit

theorem add_addr (b off n : Nat) : (⟨b, off, none⟩ : Addr).add n = ⟨b, off + n, none⟩ := by
  unfold Addr.add; split <;> simp_all

section
variable {P : Program} {w : World}

theorem lay_spec {t : TypeId} {a : Bool} {n : Nat} (h : lay P t = some (a, n)) :
    (isAgg t).run P w = .ok a w ∧ (sizeOf t).run P w = .ok n w ∧ (underlying t).run P w = .ok ((P.underlying t).getD default) w ∧ isAggD ((P.underlying t).getD default) = a := by
  unfold lay at h
  cases hu : P.underlying t with
  | none => simp [hu] at h
  | some d =>
    cases hi : P.info? t with
    | none => simp [hu, hi] at h
    | some i =>
      simp only [hu, hi, Option.some.injEq, Prod.mk.injEq] at h
      obtain ⟨rfl, rfl⟩ := h
      refine ⟨?_, ?_, ?_, by simp⟩
      · simp only [isAgg, Sem.run_bind, run_underlying hu w, Result.andThen_ok]
        cases d <;> rfl
      · simp [sizeOf, typeInfo, hi]
      · simpa using run_underlying hu w

theorem run_loadVar_part {t : TypeId} {b off : Nat} {c : Array Value} {ty : TypeId} {fr : Nat × Nat} {vs : List Value} {a : Bool} {n : Nat} {v : Value}
    (hg : w.heap[b]? = some (.cells c ty fr)) (hp : vs <+: c.toList) (hl : lay P t = some (a, n)) (hv : partF a n vs off = some v) :
    (loadVar t ⟨b, off, none⟩).run P w = .ok v w := by
  obtain ⟨h1, h2, _, _⟩ := lay_spec (w := w) hl
  obtain ⟨rest, hr⟩ := hp
  have hcell : ∀ j v, vs[j]? = some v → w.cell? ⟨b, j, none⟩ = some v := by
    intro j v hj
    have : c.toList[j]? = some v := by rw [← hr, List.getElem?_append_left (List.getElem?_eq_some_iff.1 hj).1]; exact hj
    simpa [World.cell?, hg] using this
  cases a with
  | true =>
    simp only [partF] at hv
    split at hv
    · rename_i hle
      cases hv
      have hlen : ((vs.drop off).take n).length = n := by simp; omega
      have hc := run_loadCells_list (P := P) w ⟨b, off, none⟩ ((vs.drop off).take n) (fun j v hj => by
        rw [add_addr]
        apply hcell
        rw [List.getElem?_take] at hj
        split at hj
        · simpa using hj
        · cases hj)
      rw [hlen] at hc
      simp only [loadVar, Sem.run_bind, h1, Result.andThen_ok, if_true, h2, hc, Sem.run_pure]
    · cases hv
  | false =>
    simp only [partF] at hv
    simp only [loadVar, Sem.run_bind, h1, Result.andThen_ok, Bool.false_eq_true, if_false, run_load, hcell _ _ hv]

theorem part_run {t : TypeId} {a : Bool} {n : Nat} {cs : Array Value} {off : Nat} {v : Value} (hl : lay P t = some (a, n)) (e : partF a n cs.toList off = some v) :
    (part t cs off).run P w = .ok v w := by
  obtain ⟨h1, h2, _, _⟩ := lay_spec (w := w) hl
  cases a with
  | true =>
    simp only [partF] at e
    split at e
    · cases e
      simp only [part, Sem.run_bind, h1, Result.andThen_ok, if_true, h2, Sem.run_pure]
      congr 2
      apply Array.ext'
      simp [List.extract_eq_take_drop]
    · cases e
  | false =>
    simp only [partF] at e
    have e' : cs[off]? = some v := by simpa using e
    simp only [part, Sem.run_bind, h1, Result.andThen_ok, Bool.false_eq_true, if_false, e', Sem.run_pure]

theorem lay_info {t : TypeId} {a : Bool} {n : Nat} (h : lay P t = some (a, n)) : ∃ i, P.info? t = some i ∧ P.cellsOf t = n := by
  unfold lay at h
  cases hu : P.underlying t with
  | none => simp [hu] at h
  | some d =>
    cases hi : P.info? t with
    | none => simp [hu, hi] at h
    | some i =>
      simp [hu, hi] at h
      exact ⟨i, rfl, by simp [Program.cellsOf, hi, h.2]⟩

theorem fldOf_spec {t : TypeId} {f off n : Nat} {a : Bool} (h : fldOf P t f = some (off, a, n)) :
    ∃ fs g, P.underlying t = some (.struct fs) ∧ fs[f]? = some g ∧ g.offset = off ∧ lay P g.type = some (a, n) := by
  unfold fldOf at h
  split at h
  · rename_i fs hu
    split at h
    · rename_i g hg
      split at h
      · rename_i a' n' hl
        cases h
        exact ⟨fs, g, hu, hg, rfl, hl⟩
      · cases h
    · cases h
  · cases h

theorem arrOf_spec {t : TypeId} {len n : Nat} {a : Bool} (h : arrOf P t = some (len, a, n)) : ∃ e, P.underlying t = some (.array len e) ∧ lay P e = some (a, n) := by
  unfold arrOf at h
  split at h
  · rename_i l e hu
    split at h
    · rename_i a' n' hl
      cases h
      exact ⟨e, hu, hl⟩
    · cases h
  · cases h

theorem slcOf_spec {t : TypeId} {n : Nat} {a : Bool} (h : slcOf P t = some (a, n)) : ∃ e, P.underlying t = some (.slice e) ∧ lay P e = some (a, n) := by
  unfold slcOf at h
  split at h
  · rename_i e hu; exact ⟨e, hu, h⟩
  · cases h

theorem eqD_run : ∀ (m d : Nat) (t : TypeId) (x y : Value) (r : Bool), eqD P m t x y = some r → (Op.equalIn (d + m) t x y).run P w = .ok r w
  | 0, d, t, x, y, r, h => by simp [eqD] at h
  | m + 1, d, t, x, y, r, h => by
    unfold eqD at h
    split at h
    · rename_i a b hu
      cases h
      exact run_equalIn_bool w (d + m) t a b hu
    · rename_i kd k a k' b hu
      split at h
      · rename_i hk
        subst hk
        cases h
        show (Op.equalIn ((d + m) + 1) t (.int k a) (.int k b)).run P w = _
        simp [Op.equalIn, run_underlying hu]
      · cases h
    · rename_i a b hu
      cases h
      show (Op.equalIn ((d + m) + 1) t (.string a) (.string b)).run P w = _
      simp [Op.equalIn, run_underlying hu]
    · rename_i fs xs ys hu
      split at h
      · cases h
      · rename_i hs
        have hs' : P.stoodInHeld t = false := by simpa using hs
        have hfs : P.fieldsOf t = fs := by simp [Program.fieldsOf, hu]
        show (Op.equalIn ((d + m) + 1) t (.agg xs) (.agg ys)).run P w = _
        rw [run_equalIn_struct w (d + m) t xs ys (by rw [hfs]; exact hu) hs', hfs]
        generalize fs.toList = l at h
        induction l generalizing r with
        | nil => simp only [List.foldr_nil, Option.some.injEq] at h; subst h; simp [Op.eqFields]
        | cons f l ih =>
          simp only [List.foldr_cons] at h
          split at h
          · cases h
          · rename_i hn
            split at h
            · rename_i a n hl
              split at h
              · rename_i u v hx hy
                split at h
                · rename_i p q hp hq
                  cases h
                  have hne : f.name ≠ "_" := by simpa using hn
                  rw [Op.eqFields, if_pos hne]
                  simp only [Sem.run_bind, part_run (w := w) hl hx, part_run (w := w) hl hy, Result.andThen_ok, eqD_run m d f.type u v p hp]
                  cases p with
                  | true => simpa using ih q hq
                  | false => simp
                · cases h
              · cases h
            · cases h
    · rename_i n e xs ys hu
      split at h
      · rename_i a k hl
        obtain ⟨i, hi, hc⟩ := lay_info hl
        show (Op.equalIn ((d + m) + 1) t (.agg xs) (.agg ys)).run P w = _
        rw [run_equalIn_array w (d + m) xs ys hu hi, hc]
        generalize List.range n = l at h
        induction l generalizing r with
        | nil => simp only [List.foldr_nil, Option.some.injEq] at h; subst h; simp [Op.eqItems]
        | cons f l ih =>
          simp only [List.foldr_cons] at h
          split at h
          · rename_i u v hx hy
            split at h
            · rename_i p q hp hq
              cases h
              rw [Op.eqItems]
              simp only [Sem.run_bind, part_run (w := w) hl hx, part_run (w := w) hl hy, Result.andThen_ok, eqD_run m d e u v p hp]
              cases p with
              | true => simpa using ih q hq
              | false => simp
            · cases h
          · cases h
      · cases h
    · cases h

theorem eqAgg_run {t : TypeId} {xs ys : Array Value} {r : Bool} (h : eqAgg P t xs.toList ys.toList = some r) : P.eqGuardType P.depth t = false ∧ (Op.equal t (.agg xs) (.agg ys)).run P w = .ok r w := by
  unfold eqAgg at h
  split at h
  · cases h
  · rename_i hg
    exact ⟨by simpa using hg, eqD_run 12 9988 t _ _ r (by simpa using h)⟩

theorem equal_run_succ {t : TypeId} {x y : Value} {r : Bool} (h : ∀ d, (Op.equalIn (d + 1) t x y).run P w = .ok r w) : (Op.equal t x y).run P w = .ok r w := by
  unfold Op.equal
  exact h 9999

theorem cmp_run {op : BinOp} {t : TypeId} {ox oy : Operand} {x y : Value} {r : Bool} {v : AV} (lam : Lam) (hg : (eqGuard op t ox oy x y).run P w = .ok () w)
    (hb : ∀ op, (op = .eql ∨ op = .neq) → (binOp op t x y).run P w = (do let r ← Op.equal t x y; pure (.bool (if op = .eql then r else !r)) : Sem Value).run P w)
    (hq : (Op.equal t x y).run P w = .ok r w) (hc : cmpF op r = some v) : (do eqGuard op t ox oy x y; binOp op t x y : Sem Value).run P w = .ok (v.conc lam) w := by
  unfold cmpF at hc
  cases op <;> first | (cases hc; done) | skip
  · cases hc
    simp only [Sem.run_bind, hg, Result.andThen_ok, hb .eql (.inl rfl), hq, Sem.run_pure, if_true, AV.conc]
  · cases hc
    simp only [Sem.run_bind, hg, Result.andThen_ok, hb .neq (.inr rfl), hq, Sem.run_pure, AV.conc]
    rfl

theorem guard_pure {op : BinOp} {t : TypeId} {ox oy : Operand} {x y : Value} (h1 : x ≠ .nilIface) (h2 : ∀ cs, x ≠ .agg cs) : eqGuard op t ox oy x y = pure () := by
  unfold eqGuard
  cases op <;> first | rfl | skip
  all_goals
    cases x <;> first | exact absurd rfl h1 | exact absurd rfl (h2 _) | rfl

mutual
theorem flatV_cells (lam : Lam) : ∀ {v : AV} {cs : List Value}, flatV v = some cs → cellsA lam v = cs
  | .agg l, cs, h => by rw [cells_agg]; exact flatL_cells lam (by simpa only [flatV] using h)
  | .rows sz l, cs, h => by rw [cells_rows]; exact flatL_cells lam (by simpa only [flatV] using h)
  | .int k n, cs, h => by simp only [flatV, leafV, Option.map_some, Option.some.injEq] at h; subst h; rfl
  | .bool b, cs, h => by simp only [flatV, leafV, Option.map_some, Option.some.injEq] at h; subst h; rfl
  | .str _, cs, h => by simp [flatV, leafV] at h
  | .tup _, cs, h => by simp [flatV, leafV] at h
  | .ptr .., cs, h => by simp [flatV, leafV] at h
  | .nilp, cs, h => by simp [flatV, leafV] at h
  | .slc .., cs, h => by simp [flatV, leafV] at h
  | .nils, cs, h => by simp [flatV, leafV] at h
  | .map _, cs, h => by simp [flatV, leafV] at h
  | .nilm, cs, h => by simp [flatV, leafV] at h
  | .fn .., cs, h => by simp [flatV, leafV] at h
  | .yld _, cs, h => by simp [flatV, leafV] at h
  | .nilf, cs, h => by simp [flatV, leafV] at h
theorem flatL_cells (lam : Lam) : ∀ {l : List AV} {cs : List Value}, flatL l = some cs → l.flatMap (cellsA lam) = cs
  | [], cs, h => by simp only [flatL, Option.some.injEq] at h; subst h; rfl
  | v :: r, cs, h => by
    unfold flatL at h
    split at h
    · rename_i a b ha hb
      cases h
      rw [List.flatMap_cons, flatV_cells lam ha, flatL_cells lam hb]
    · cases h
end

theorem aggEq_run {t : TypeId} {l m : List AV} {r : Bool} (lam : Lam) (h : aggEq P t (flatL l) (flatL m) = some r) :
    P.eqGuardType P.depth t = false ∧ (Op.equal t (.agg (l.flatMap (cellsA lam)).toArray) (.agg (m.flatMap (cellsA lam)).toArray)).run P w = .ok r w := by
  unfold aggEq at h
  split at h
  · rename_i xs ys hx hy
    rw [flatL_cells lam hx, flatL_cells lam hy]
    exact eqAgg_run (w := w) (by simpa using h)
  · cases h

theorem agg_run {op : BinOp} {t : TypeId} {ox oy : Operand} {l m : List AV} {v : AV} (lam : Lam) (e : (aggEq P t (flatL l) (flatL m)).bind (cmpF op) = some v) :
    (do eqGuard op t ox oy (.agg (l.flatMap (cellsA lam)).toArray) (.agg (m.flatMap (cellsA lam)).toArray); binOp op t (.agg (l.flatMap (cellsA lam)).toArray) (.agg (m.flatMap (cellsA lam)).toArray) : Sem Value).run P w = .ok (v.conc lam) w := by
  obtain ⟨r, hr, hc⟩ := Option.bind_eq_some_iff.1 e
  obtain ⟨hg, hq⟩ := aggEq_run (w := w) lam hr
  refine cmp_run lam ?_ ?_ hq hc
  · unfold eqGuard
    cases op <;> simp [hg]
  · rintro op (rfl | rfl) <;> simp [binOp]

theorem if_decide (p : Prop) [Decidable p] : (if p then true else false) = decide p := by by_cases h : p <;> simp [h]
theorem if_decide' (p : Prop) [Decidable p] : (if p then false else true) = !decide p := by by_cases h : p <;> simp [h]

theorem int_beq (a b : Int) : (a == b) = decide (a = b) := by rw [Bool.eq_iff_iff]; simp

theorem int_run {op : BinOp} {t : TypeId} {k : IntKind} {a b : Int} {v : AV} (lam : Lam) (h1 : op ≠ .shl) (h2 : op ≠ .shr) (e : intF op k a b = some v) :
    (binOp op t (.int k a) (.int k b)).run P w = .ok (v.conc lam) w := by
  unfold intF at e
  cases op <;> first | exact absurd rfl h1 | exact absurd rfl h2 | skip
  all_goals dsimp only at e
  all_goals try unfold bitsF at e
  all_goals first
    | (cases e; done)
    | (simp only [Option.map_some] at e; cases e; simp [binOp, Op.intArith, Op.intBits, Op.intCmp, AV.conc, if_decide, if_decide']; done)
    | (cases e; simp [binOp, Op.intArith, Op.intBits, Op.intCmp, AV.conc, if_decide, if_decide']; done)
    | (split at e
       · cases e
       · rename_i hb
         cases e
         simp [binOp, Op.intDiv, hb, AV.conc])
    | (cases e; simp [binOp, Op.intCmp, AV.conc, if_decide, if_decide', int_beq, bne])

theorem str_inj {a b : List UInt8} : ((⟨a.toArray⟩ : ByteArray).toList == (⟨b.toArray⟩ : ByteArray).toList) = (a == b) := by
  rw [ByteArray.toList_eq, ByteArray.toList_eq]

theorem isFunc_spec {t : TypeId} (h : isFuncTy P t = true) : ∃ a b c, P.underlying t = some (.func a b c) := by
  unfold isFuncTy at h
  split at h
  · exact ⟨_, _, _, by assumption⟩
  · cases h
theorem isPtr_spec {t : TypeId} (h : isPtrTy P t = true) : ∃ a, P.underlying t = some (.pointer a) := by
  unfold isPtrTy at h
  split at h
  · exact ⟨_, by assumption⟩
  · cases h

theorem ptrV_some {x : Option (Nat × Nat)} {off : Nat} (h : x ≠ none) : ∃ b o, x = some (b, o) ∧ ptrV x off = .pointer (some ⟨b, o + off, none⟩) := by
  cases x with
  | none => exact absurd rfl h
  | some p => exact ⟨p.1, p.2, rfl, rfl⟩

theorem bin_run {op : BinOp} {t : TypeId} {ox oy : Operand} {x y v : AV} {n : Nat} (lam : Lam) (hx : x.ok lam n) (hy : y.ok lam n) (e : binA P op t x y = some v) :
    (do eqGuard op t ox oy (x.conc lam) (y.conc lam); binOp op t (x.conc lam) (y.conc lam) : Sem Value).run P w = .ok (v.conc lam) w ∧ v.isTup = false ∧ v.ok lam n := by
  have cmpB : ∀ {r : Bool} {v : AV}, cmpF op r = some v → v.isTup = false ∧ v.ok lam n := by
    intro r v h; unfold cmpF at h; split at h <;> cases h <;> exact ⟨rfl, by simp only [AV.ok]⟩
  unfold binA at e
  split at e
  · rename_i k a k' b
    have hg : eqGuard op t ox oy (.int k a) (.int k' b) = pure () := guard_pure (by simp) (by simp)
    simp only [AV.conc, hg, pure_bind]
    split at e
    · unfold shiftF at e
      split at e
      · cases e
      · rename_i hb
        cases e
        exact ⟨by simp [binOp, Op.shift, hb, AV.conc], rfl, by simp only [AV.ok]⟩
    · unfold shiftF at e
      split at e
      · cases e
      · rename_i hb
        cases e
        exact ⟨by simp [binOp, Op.shift, hb, AV.conc], rfl, by simp only [AV.ok]⟩
    · rename_i h1 h2
      split at e
      · rename_i hk
        subst hk
        refine ⟨int_run lam (fun e => h1 e) (fun e => h2 e) e, ?_⟩
        unfold intF at e
        cases op <;> dsimp only at e <;> first | (cases e; exact ⟨rfl, by simp only [AV.ok]⟩) | (unfold bitsF at e; cases e; exact ⟨rfl, by simp only [AV.ok]⟩) | (split at e <;> cases e; exact ⟨rfl, by simp only [AV.ok]⟩) | cases e
      · cases e
  · rename_i a b
    split at e
    · rename_i hu0
      have hu : P.underlying t = some .bool := by
        unfold isBoolTy at hu0
        split at hu0
        · assumption
        · cases hu0
      refine ⟨cmp_run lam (by rw [show (AV.bool a).conc lam = .bool a by simp [AV.conc], guard_pure (by simp) (by simp)]; rfl) ?_ (r := a == b) ?_ e, cmpB e⟩
      · rintro op (rfl | rfl) <;> simp [binOp, AV.conc]
      · exact equal_run_succ fun d => by simp [Op.equalIn, run_underlying hu, AV.conc]
    · cases e
  · rename_i a b
    split at e
    · have hg : eqGuard op t ox oy (.string ⟨a.toArray⟩) (.string ⟨b.toArray⟩) = pure () := guard_pure (by simp) (by simp)
      refine ⟨?_, cmpB e⟩
      simp only [AV.conc, hg, pure_bind]
      unfold cmpF at e
      cases op <;> first | (cases e; done) | skip
      · cases e; simp only [binOp, Op.stringOp, str_inj, Sem.run_pure, AV.conc]
      · cases e; simp only [binOp, Op.stringOp, str_inj, Sem.run_pure, AV.conc]
    · cases e
  · rename_i l m
    rw [conc_agg, conc_agg]
    refine ⟨agg_run lam e, ?_⟩
    obtain ⟨r, hr, hc⟩ := Option.bind_eq_some_iff.1 e
    exact cmpB hc
  · rename_i l m
    rw [conc_rows, conc_rows]
    refine ⟨agg_run lam e, ?_⟩
    obtain ⟨r, hr, hc⟩ := Option.bind_eq_some_iff.1 e
    exact cmpB hc
  · rename_i f a b
    split at e
    · rename_i hu
      obtain ⟨_, _, _, hu⟩ := isFunc_spec hu
      refine ⟨cmp_run lam (by simp only [AV.conc]; rw [guard_pure (by simp) (by simp)]; rfl) (by rintro op (rfl | rfl) <;> simp [binOp, AV.conc]) (r := false) ?_ e, cmpB e⟩
      exact equal_run_succ fun d => by simp [Op.equalIn, run_underlying hu, AV.conc]
    · cases e
  · split at e
    · rename_i hu
      obtain ⟨_, _, _, hu⟩ := isFunc_spec hu
      refine ⟨cmp_run lam (by simp only [AV.conc]; rw [guard_pure (by simp) (by simp)]; rfl) (by rintro op (rfl | rfl) <;> simp [binOp, AV.conc]) (r := true) ?_ e, cmpB e⟩
      exact equal_run_succ fun d => by simp [Op.equalIn, run_underlying hu, AV.conc]
    · cases e
  · rename_i f a b
    split at e
    · rename_i hu
      obtain ⟨_, _, _, hu⟩ := isFunc_spec hu
      refine ⟨cmp_run lam (by simp only [AV.conc]; rw [guard_pure (by simp) (by simp)]; rfl) (by rintro op (rfl | rfl) <;> simp [binOp, AV.conc]) (r := false) ?_ e, cmpB e⟩
      exact equal_run_succ fun d => by simp [Op.equalIn, run_underlying hu, AV.conc]
    · cases e
  · split at e
    · rename_i hu
      obtain ⟨_, hu⟩ := isPtr_spec hu
      refine ⟨cmp_run lam (by simp only [AV.conc]; rw [guard_pure (by simp) (by simp)]; rfl) (by rintro op (rfl | rfl) <;> simp [binOp, AV.conc]) (r := true) ?_ e, cmpB e⟩
      exact equal_run_succ fun d => by simp [Op.equalIn, run_underlying hu, AV.conc]
    · cases e
  · rename_i k i p
    split at e
    · rename_i hu
      obtain ⟨_, hu⟩ := isPtr_spec hu
      simp only [AV.ok] at hx
      obtain ⟨b, o, _, hc⟩ := ptrV_some (off := offP p) hx.2.2
      refine ⟨cmp_run lam (by simp only [AV.conc, hc]; rw [guard_pure (by simp) (by simp)]; rfl) (by rintro op (rfl | rfl) <;> simp [binOp, AV.conc, hc]) (r := false) ?_ e, cmpB e⟩
      exact equal_run_succ fun d => by simp [Op.equalIn, run_underlying hu, AV.conc, hc]
    · cases e
  · rename_i k i p
    split at e
    · rename_i hu
      obtain ⟨_, hu⟩ := isPtr_spec hu
      simp only [AV.ok] at hy
      obtain ⟨b, o, _, hc⟩ := ptrV_some (off := offP p) hy.2.2
      refine ⟨cmp_run lam (by simp only [AV.conc]; rw [guard_pure (by simp) (by simp)]; rfl) (by rintro op (rfl | rfl) <;> simp [binOp, AV.conc, hc]) (r := false) ?_ e, cmpB e⟩
      exact equal_run_succ fun d => by simp [Op.equalIn, run_underlying hu, AV.conc, hc]
    · cases e
  · split at e
    · rename_i hu
      obtain ⟨⟨a0, n0⟩, hu⟩ := Option.isSome_iff_exists.1 hu
      obtain ⟨_, hu, _⟩ := slcOf_spec hu
      refine ⟨cmp_run lam (by simp only [AV.conc]; rw [guard_pure (by simp) (by simp)]; rfl) (by rintro op (rfl | rfl) <;> simp [binOp, AV.conc]) (r := true) ?_ e, cmpB e⟩
      exact equal_run_succ fun d => by simp [Op.equalIn, run_underlying hu, AV.conc]
    · cases e
  · rename_i k i p m a s len cap
    split at e
    · rename_i hu
      obtain ⟨⟨a0, n0⟩, hu⟩ := Option.isSome_iff_exists.1 hu
      obtain ⟨_, hu, _⟩ := slcOf_spec hu
      split at e
      · rename_i hcs
        simp only [AV.ok] at hx
        have hne : lam k i ≠ none := by
          rcases hcs with h | h
          · exact (hx.2.2.2.1 h).2
          · exact hx.2.2.2.2 h
        cases hq : lam k i with
        | none => exact absurd hq hne
        | some q =>
          refine ⟨cmp_run lam (by simp only [AV.conc, slcV, hq]; rw [guard_pure (by simp) (by simp)]; rfl) (by rintro op (rfl | rfl) <;> simp [binOp, AV.conc, slcV, hq]) (r := false) ?_ e, cmpB e⟩
          exact equal_run_succ fun d => by simp [Op.equalIn, run_underlying hu, AV.conc, slcV, hq]
      · cases e
    · cases e
  · cases e

end

end Go.Y
