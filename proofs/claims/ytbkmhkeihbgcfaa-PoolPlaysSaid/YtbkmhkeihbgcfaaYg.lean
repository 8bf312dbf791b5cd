/-
  Each operation that looks at values, or at blocks, is the machine's own: the rest.
-/
import Derived.Test.YtbkmhkeihbgcfaaYf
import Derived.WideKeyRuns
set_option linter.unusedVariables false
set_option linter.unusedSimpArgs false
namespace Go.Y
open RowKit

theorem un_run {P : Program} {w : World} {op : UnOp} {x v : AV} (lam : Lam) (e : unA op x = some v) : (Op.unary op (x.conc lam)).run P w = .ok (v.conc lam) w ∧ (∀ n, v.ok lam n) ∧ v.isTup = false := by
  unfold unA at e
  split at e <;> first | (cases e; exact ⟨by simp [Op.unary, Op.intArith, AV.conc], fun n => by simp [AV.ok], rfl⟩) | cases e

theorem bytesOf_spec (lam : Lam) : ∀ {l : List AV} {s : List UInt8}, bytesOf l = some s → l = s.map encB
  | [], s, h => by cases h; rfl
  | v :: r, s, h => by
    unfold bytesOf at h
    split at h
    · cases h; contradiction
    · rename_i n r' heq
      cases heq
      split at h
      · rename_i s' hs'
        split at h
        · rename_i hn
          cases h
          rw [bytesOf_spec lam hs', List.map_cons]
          congr 1
          unfold encB
          have : ((UInt8.ofNat n.toNat).toNat : Int) = n := by
            rw [UInt8.toNat_ofNat']; omega
          rw [this]
        · cases h
      · cases h
    · cases h

section
variable {P : Program} {N : Nat} {D : Nat → Prop} {T : Sl} {H : Hp} {n : Nat} {tmps : Array Value} {w : World} {lam : Lam}

/-- The cells of a slice's elements. -/
theorem elems_cells (hH : HSit N D lam H n w) {x : AV} {l : List AV} (hx : x.ok lam n) (h : elemsA x H = some l) :
    okL lam n l ∧ okT l ∧ ((x = .nils ∧ l = []) ∨ ∃ k i p sz a s len cap, x = .slc k i p sz a s len cap ∧ l.length = len ∧ okR sz l ∧
      (sizeL l = 0 ∨ ∃ b o c ty fr, lam k i = some (b, o) ∧ w.heap[b]? = some (.cells c ty fr) ∧ a = s ∧
        ∃ pre post, c.toList = pre ++ l.flatMap (cellsA lam) ++ post ∧ pre.length = o + (offP p + s * sz))) := by
  unfold elemsA at h
  split at h
  · rename_i k i p sz a s len cap
    unfold elemsC at h
    split at h
    · rename_i sz' rows hr
      split at h
      · rename_i hsz
        subst hsz
        split at h
        · rename_i hle
          cases h
          unfold elemsT at hr
          split at hr
          · rename_i e he
            split at hr
            · rename_i u hu
              obtain ⟨hok, hc⟩ := tree_cells hH he hu
              obtain ⟨pre, post, h1, h2, h3⟩ := getP_spec lam p hok hr
              simp only [AV.ok] at h3
              have hmin : min len (rows.length - s) = len := by rcases hle with h | h <;> omega
              refine ⟨okL_take (okL_drop h3.1 s) len, okT_take (okT_drop h3.2.2 s) len, .inr ⟨k, i, p, sz', a, s, len, cap, rfl, by simp only [List.length_take, List.length_drop]; exact hmin, okR_take (okR_drop h3.2.1 s) len, ?_⟩⟩
              have hsz : sizeL ((rows.drop s).take len) = len * sz' := by
                rw [sizeL_rep (okR_take (okR_drop h3.2.1 s) len)]; congr 1; simp only [List.length_take, List.length_drop]; exact hmin
              by_cases h0 : len * sz' = 0
              · left; omega
              · right
                have hle : s + len ≤ rows.length := by
                  rcases hle with h | h
                  · exact h
                  · subst h; simp at h0
                rcases hc with ⟨_, hz⟩ | ⟨b, o, c, ty, fr, hlam, hheap, ho, hpre⟩
                · exfalso
                  have := congrArg List.length h1
                  simp only [List.length_append, cells_length, AV.size] at this
                  have h5 : sizeL rows = rows.length * sz' := sizeL_rep h3.2.1
                  have h6 : len * sz' ≤ rows.length * sz' := Nat.mul_le_mul_right _ (by omega)
                  omega
                · simp only [AV.ok] at hx
                  have hcap : cap ≠ 0 := by
                    intro e0
                    have : len = 0 := by omega
                    subst this; simp at h0
                  refine ⟨b, o, c, ty, fr, hlam, hheap, (hx.2.2.2.1 hcap).1, ?_⟩
                  obtain ⟨rest, hrest⟩ := hpre
                  have hrows : rows = rows.take s ++ ((rows.drop s).take len ++ (rows.drop s).drop len) := by
                    rw [List.take_append_drop, List.take_append_drop]
                  have hflat : rows.flatMap (cellsA lam) = (rows.take s).flatMap (cellsA lam) ++ ((rows.drop s).take len).flatMap (cellsA lam) ++ ((rows.drop s).drop len).flatMap (cellsA lam) := by
                    conv => lhs; rw [hrows]
                    simp
                  refine ⟨c.toList.take o ++ pre ++ (rows.take s).flatMap (cellsA lam), ((rows.drop s).drop len).flatMap (cellsA lam) ++ post ++ rest, ?_, ?_⟩
                  · conv => lhs; rw [← List.take_append_drop o c.toList, ← hrest, h1, cells_rows, hflat]
                    simp
                  · simp only [List.length_append, List.length_take, h2, cellsL_length]
                    rw [sizeL_rep (okR_take h3.2.1 s), List.length_take]
                    have e1 : min s rows.length = s := by omega
                    have e2 : min o c.toList.length = o := by simp; omega
                    rw [e1, e2]; omega
            · cases hr
          · cases hr
        · cases h
      · cases h
    · cases h
  · cases h
    exact ⟨by simp [okL], by simp [okT], .inl ⟨rfl, rfl⟩⟩
  · cases h

theorem load_mid {b : Nat} {c : Array Value} {ty : TypeId} {fr : Nat × Nat} {pre mid post : List Value} (hb : w.heap[b]? = some (.cells c ty fr)) (hc : c.toList = pre ++ mid ++ post) :
    (loadCells ⟨b, pre.length, none⟩ mid.length).run P w = .ok mid.toArray w := by
  refine run_loadCells_list (P := P) w ⟨b, pre.length, none⟩ mid (fun j v hj => ?_)
  rw [add_addr]
  have : c.toList[pre.length + j]? = some v := by
    rw [hc, List.append_assoc, List.getElem?_append_right (by omega), List.getElem?_append_left (by have := (List.getElem?_eq_some_iff.1 hj).1; omega)]
    rw [show pre.length + j - pre.length = j by omega]; exact hj
  simpa [World.cell?, hb] using this

theorem bytes_fold (f : Value → ByteArray → Sem (ForInStep ByteArray)) (hf : ∀ (b : UInt8) (r : ByteArray), f (.int .u8 b.toNat) r = pure (ForInStep.yield (r.push b))) :
    ∀ (s : List UInt8) (acc : ByteArray), (forIn (m := Sem) (s.map fun b => Value.int .u8 b.toNat) acc f).run P w = .ok ⟨acc.data ++ s.toArray⟩ w
  | [], acc => by simp
  | b :: s, acc => by
    rw [List.map_cons, List.forIn_cons]
    have := bytes_fold f hf s (acc.push b)
    simp only [Sem.run_bind, hf, Sem.run_pure, Result.andThen_ok]
    rw [this]
    congr 2
    simp [ByteArray.push]

theorem enc_flat (lam : Lam) (s : List UInt8) : (s.map encB).flatMap (cellsA lam) = s.map fun b => Value.int .u8 b.toNat := by
  rw [List.flatMap_map]
  have : ∀ b : UInt8, cellsA lam (encB b) = [Value.int .u8 b.toNat] := fun b => by
    unfold encB; rw [cells_leaf lam rfl]; simp [AV.conc]
  induction s with
  | nil => rfl
  | cons b s ih => rw [List.flatMap_cons, this, ih]; rfl

theorem bytesToString_run {x : Option Addr} {len cap : Nat} {s : List UInt8} (hx : x = none → s = [])
    (h : ∀ a, x = some a → (loadCells a len).run P w = .ok (s.map fun b => Value.int .u8 b.toNat).toArray w) :
    (Conv.bytesToString (.slice x len cap)).run P w = .ok (.string ⟨s.toArray⟩) w := by
  cases x with
  | none => rw [hx rfl]; rfl
  | some a =>
    simp only [Conv.bytesToString, Sem.run_bind, h a rfl, Result.andThen_ok]
    simp only [List.forIn_toArray]
    rw [bytes_fold _ (fun b r => by simp)]
    simp only [Result.andThen_ok, Sem.run_pure]
    congr 2
    simp

theorem conv_run (h : TRel lam n T tmps) (hH : HSit N D lam H n w) {src dst : TypeId} {x v : AV} (hx : x.ok lam n) (e : convA P src dst x H = some v) :
    (convert src dst (x.conc lam)).run P w = .ok (v.conc lam) w ∧ v.ok lam n ∧ v.isTup = false := by
  have hstr : ∀ {x : AV}, x.ok lam n → (x = .nils ∨ ∃ k i p m a s len cap, x = .slc k i p m a s len cap) →
      (match isByteSlc P src, isStrTy P dst with
        | true, true => match elemsA x H with
          | some l => (bytesOf l).map AV.str
          | none => none
        | _, _ => none) = some v → (convert src dst (x.conc lam)).run P w = .ok (v.conc lam) w ∧ v.ok lam n ∧ v.isTup = false := by
    intro x hx hsh e
    split at e
    · rename_i h1 h2
      split at e
      · rename_i l hl
        obtain ⟨s, hs, rfl⟩ := Option.map_eq_some_iff.1 e
        refine ⟨?_, by simp [AV.ok], rfl⟩
        have hu2 : P.underlying dst = some .string := by
          unfold isStrTy at h2
          split at h2
          · assumption
          · cases h2
        obtain ⟨el, hu1, hue⟩ : ∃ el, P.underlying src = some (.slice el) ∧ P.underlying el = some (.int .u8) := by
          unfold isByteSlc at h1
          split at h1
          · rename_i el hu
            split at h1
            · exact ⟨el, hu, by assumption⟩
            · cases h1
          · cases h1
        have hb := bytesOf_spec lam hs
        obtain ⟨_, _, hcells⟩ := elems_cells hH hx hl
        have hflat : l.flatMap (cellsA lam) = s.map fun b => Value.int .u8 b.toNat := by rw [hb]; exact enc_flat lam s
        have hconv : ∀ x : Value, (convert src dst x).run P w = (Conv.bytesToString x).run P w ∨ ∀ o l c, x ≠ .slice o l c := by
          intro x
          cases x <;> first | (left; simp [convert, run_underlying hu1, run_underlying hu2, run_underlying hue]; done) | (right; simp)
        have hsl : ∀ (o : Option Addr) (ln cp : Nat), (o = none → s = []) → (∀ a, o = some a → (loadCells a ln).run P w = .ok (s.map fun b => Value.int .u8 b.toNat).toArray w) →
            (convert src dst (.slice o ln cp)).run P w = .ok ((AV.str s).conc lam) w := by
          intro o ln cp h1 h2
          rcases hconv (.slice o ln cp) with h3 | h3
          · rw [h3, bytesToString_run h1 h2]; simp [AV.conc]
          · exact absurd rfl (h3 _ _ _)
        rcases hcells with ⟨rfl, rfl⟩ | ⟨k, i, p, sz, a, st, len, cap, rfl, hlen, hR, hc⟩
        · have : s = [] := by simpa using hb.symm
          subst this
          simp only [AV.conc] at hsl ⊢
          exact hsl none 0 0 (fun _ => trivial) (fun a e => by cases e)
        · have hnil : sizeL l = 0 → s = [] := by
            intro h0
            cases s with
            | nil => rfl
            | cons c s => rw [hb] at h0; simp [sizeL, encB, AV.size] at h0
          simp only [AV.conc] at hsl ⊢
          rcases hc with h0 | ⟨b, o, c, ty, fr, hlam, hheap, has, pre, post, h1, h2⟩
          · have hs0 := hnil h0
            subst hs0
            have hl0 : len = 0 := by rw [← hlen, hb]; rfl
            subst hl0
            cases hq : lam k i with
            | none => simp only [slcV]; exact hsl none 0 cap (fun _ => rfl) (fun a e => by cases e)
            | some q =>
              simp only [slcV]
              refine hsl _ 0 cap (fun _ => rfl) (fun a e => ?_)
              simp [loadCells, loadCellsFrom]
          · rw [hlam]
            simp only [slcV]
            refine hsl _ len cap (fun e => by cases e) (fun a' e => ?_)
            cases e
            have hm := load_mid (P := P) hheap (by rw [h1])
            rw [hflat, List.length_map] at hm
            have hsl : s.length = len := by rw [← hlen, hb, List.length_map]
            have hsz : s = [] ∨ sz = 1 := by
              cases s with
              | nil => exact .inl rfl
              | cons c s => right; rw [hb] at hR; simp only [List.map_cons, okR] at hR; exact hR.1.symm
            rw [hsl, h2, show o + (offP p + st * sz) = o + (offP p + a * sz) by rw [has]] at hm
            exact hm
      · cases e
    · cases e
  unfold convA at e
  split at e
  · rename_i k m
    split at e
    · rename_i kk hs hd
      cases e
      have hd' : P.underlying dst = some (.int kk) := by
        unfold intOf at hd
        split at hd
        · rename_i k' hu; cases hd; exact hu
        · cases hd
      obtain ⟨d, hs'⟩ := Option.isSome_iff_exists.1 hs
      exact ⟨by simp [convert, run_underlying hs', run_underlying hd', Conv.intToInt, AV.conc], by simp [AV.ok], rfl⟩
    · cases e
  · exact hstr hx (.inr ⟨_, _, _, _, _, _, _, _, rfl⟩) e
  · exact hstr hx (.inl rfl) e
  · cases e

end

end Go.Y

/-
  Maps: keys, and looks, are the machine's own.
-/
set_option linter.unusedVariables false
set_option linter.unusedSimpArgs false
namespace Go.Y
open RowKit

section
variable {P : Program} {w : World}

theorem keyL_cells (lam : Lam) : ∀ {l : List AV} {is : List Int}, keyL l = some is → l.flatMap (cellsA lam) = is.map (Value.int .i64)
  | [], is, h => by simp [keyL] at h; subst h; rfl
  | v :: r, is, h => by
    unfold keyL at h
    split at h
    · rename_i a l hl
      cases h
      rw [List.flatMap_cons, cells_leaf lam rfl, keyL_cells lam hl]; rfl
    · cases h
theorem isI64_spec {t : TypeId} (h : isI64 P t = true) : P.underlying t = some (.int .i64) := by
  unfold isI64 at h
  split at h
  · assumption
  · cases h
/-- What a key looks like to the machine. -/
def keyV (q : Bool × Nat) (l : List Int) : Value := match q.1 with
  | false => .int .i64 (l.headD 0)
  | true => .agg (l.map (Value.int .i64)).toArray
theorem keyO_spec (lam : Lam) {q : Bool × Nat} {x : AV} {l : List Int} (h : keyO (some q) x = some l) : x.conc lam = keyV q l ∧ (q.1 = false → l.length = 1) ∧ (q.1 = true → l.length = q.2) := by
  obtain ⟨b, m⟩ := q
  unfold keyO at h
  split at h
  · rename_i a e; cases e; cases h; exact ⟨rfl, fun _ => rfl, fun h => by cases h⟩
  · rename_i m' l' e
    cases e
    unfold keyM at h
    split at h
    · rename_i is hl
      split at h
      · rename_i hlen
        cases h
        exact ⟨by rw [conc_agg, keyL_cells lam hl]; rfl, fun h => (by cases h), fun _ => hlen⟩
      · cases h
    · cases h
  · rename_i m' sz l' e
    cases e
    unfold keyM at h
    split at h
    · rename_i is hl
      split at h
      · rename_i hlen
        cases h
        exact ⟨by rw [conc_rows, keyL_cells lam hl]; rfl, fun h => (by cases h), fun _ => hlen⟩
      · cases h
    · cases h
  · cases h
/-- What a type of keys looks like. -/
inductive KeyS' (P : Program) (t : TypeId) : Bool × Nat → Prop
  | int (h : P.underlying t = some (.int .i64)) : KeyS' P t (false, 1)
  | str (fs : Array Field) (h : P.underlying t = some (.struct fs)) (h1 : ∀ f, f ∈ fs.toList → f.name ≠ "_" ∧ P.underlying f.type = some (.int .i64) ∧ lay P f.type = some (false, 1)) (h2 : fs.toList.map (·.offset) = List.range fs.size) (h3 : P.stoodInHeld t = false) : KeyS' P t (true, fs.size)
  | arr (m : Nat) (e : TypeId) (h : P.underlying t = some (.array m e)) (h1 : P.underlying e = some (.int .i64)) (h2 : lay P e = some (false, 1)) : KeyS' P t (true, m)
theorem keyT_spec {t : TypeId} {q : Bool × Nat} (h : keyT P t = some q) : KeyS' P t q := by
  unfold keyT at h
  split at h
  · rename_i hu; cases h; exact .int hu
  · rename_i fs hu
    split at h
    · rename_i hc
      cases h
      simp only [Bool.and_eq_true, Bool.not_eq_true', List.all_eq_true, bne_iff_ne, ne_eq, beq_iff_eq] at hc
      exact .str fs hu (fun f hf => ⟨(hc.1.1 f hf).1.1, isI64_spec (hc.1.1 f hf).1.2, (hc.1.1 f hf).2⟩) hc.1.2 hc.2
    · cases h
  · rename_i m e hu
    split at h
    · rename_i hc
      cases h
      simp only [Bool.and_eq_true, beq_iff_eq] at hc
      exact .arr m e hu (isI64_spec hc.1) hc.2
    · cases h
  · cases h
theorem check_int {em : Bool} {n : Nat} {t : TypeId} {a : Int} (hu : P.underlying t = some (.int .i64)) : (Instr.checkKey em (n + 1) t (.int .i64 a)).run P w = .ok () w := by
  simp [Instr.checkKey, run_underlying hu]
theorem keyV_part {l : List Int} {off : Nat} (h : off < l.length) : partF false 1 (l.map (Value.int .i64)).toArray.toList off = some (.int .i64 (l.getD off 0)) := by
  simp only [partF, List.toList_toArray, List.getElem?_map, List.getElem?_eq_getElem h, Option.map_some, List.getD_eq_getElem?_getD, Option.getD_some]
theorem checkKey_run {em : Bool} {t : TypeId} {q : Bool × Nat} {l : List Int} (ht : KeyS' P t q) (h1 : q.1 = false → l.length = 1) (h2 : q.1 = true → l.length = q.2) : (Instr.checkKey em 10000 t (keyV q l)).run P w = .ok () w := by
  cases ht with
  | int hu => exact check_int (n := 9999) hu
  | str fs hu g1 g2 g3 =>
    have hl : l.length = fs.size := h2 rfl
    have hoff : ∀ f, f ∈ fs.toList → f.offset < l.length := fun f hf => by
      have : f.offset ∈ fs.toList.map (·.offset) := List.mem_map_of_mem hf
      rw [g2, List.mem_range] at this; omega
    show (Instr.checkKey em (9998 + 1 + 1) t (.agg _)).run P w = _
    rw [Instr.checkKey]
    simp only [Sem.run_bind, run_underlying hu, Result.andThen_ok]
    rw [← Array.forIn_toList]
    generalize fs.toList = L at g1 hoff
    induction L with
    | nil => simp
    | cons f L ih =>
      obtain ⟨k1, k2, k3⟩ := g1 f (by simp)
      have p1 := part_run (w := w) k3 (keyV_part (hoff f (by simp)))
      simp only [List.forIn_cons, Sem.run_bind, k1, ne_eq, not_false_eq_true, if_true, Result.andThen_ok, p1, check_int k2, Sem.run_pure]
      exact ih (fun y hy => g1 y (by simp [hy])) (fun y hy => hoff y (by simp [hy]))
  | arr m e hu g1 g2 =>
    have hl : l.length = m := h2 rfl
    obtain ⟨i, hi, hc⟩ := lay_info g2
    show (Instr.checkKey em (9998 + 1 + 1) t (.agg _)).run P w = _
    rw [Instr.checkKey]
    simp only [Sem.run_bind, run_underlying hu, Result.andThen_ok]
    simp only [Std.Legacy.Range.forIn_eq_forIn_range', Std.Legacy.Range.size, Nat.sub_zero, Nat.add_one_sub_one, Nat.div_one]
    have hin : ∀ j, j ∈ List.range' 0 m → j < l.length := fun j hj => by rw [List.mem_range'_1] at hj; omega
    generalize List.range' 0 m = L at hin
    induction L with
    | nil => simp
    | cons j L ih =>
      have p1 := part_run (w := w) g2 (keyV_part (hin j (by simp)))
      have hs : (sizeOf e).run P w = .ok 1 w := by rw [run_sizeOf w hi, hc]
      simp only [List.forIn_cons, Sem.run_bind, hs, Result.andThen_ok, Nat.mul_one, p1, check_int g1, Sem.run_pure]
      exact ih (fun y hy => hin y (by simp [hy]))

/-! ### Keys that are alike -/
theorem eqD_int {d : Nat} {t : TypeId} {a b : Int} (hu : P.underlying t = some (.int .i64)) : eqD P (d + 1) t (.int .i64 a) (.int .i64 b) = some (a == b) := by
  unfold eqD; simp [hu]
theorem drop_get {l : List Int} {i : Nat} (h : i < l.length) : l.drop i = l.getD i 0 :: l.drop (i + 1) := by
  rw [List.drop_eq_getElem_cons h, List.getD_eq_getElem?_getD, List.getElem?_eq_getElem h]; rfl
theorem equal_key {t : TypeId} {q : Bool × Nat} {l m : List Int} (ht : KeyS' P t q) (h1 : q.1 = false → l.length = 1) (h2 : q.1 = true → l.length = q.2) (g1 : q.1 = false → m.length = 1) (g2 : q.1 = true → m.length = q.2) :
    (Op.equal t (keyV q l) (keyV q m)).run P w = .ok (l == m) w := by
  refine eqD_run 12 9988 t _ _ _ ?_
  cases ht with
  | int hu =>
    have e1 := h1 rfl
    have e2 := g1 rfl
    obtain ⟨a, rfl⟩ := List.length_eq_one_iff.1 e1
    obtain ⟨b, rfl⟩ := List.length_eq_one_iff.1 e2
    show eqD P (11 + 1) t (.int .i64 a) (.int .i64 b) = _
    rw [eqD_int hu]
    congr 1
    rw [Bool.eq_iff_iff]; simp
  | str fs hu k1 k2 k3 =>
    have e1 : l.length = fs.size := h2 rfl
    have e2 : m.length = fs.size := g2 rfl
    show eqD P 12 t (.agg _) (.agg _) = _
    unfold eqD
    simp only [hu, k3, Bool.false_eq_true, if_false]
    have key : ∀ (L : List Field) (i : Nat), (∀ f, f ∈ L → f.name ≠ "_" ∧ P.underlying f.type = some (.int .i64) ∧ lay P f.type = some (false, 1)) → L.map (·.offset) = List.range' i L.length → i + L.length = l.length →
        L.foldr (fun f r => if f.name == "_" then none else
          match lay P f.type with
          | some (a, n) =>
            match partF a n (l.map (Value.int .i64)).toArray.toList f.offset, partF a n (m.map (Value.int .i64)).toArray.toList f.offset with
            | some u, some v =>
              match eqD P 11 f.type u v, r with
              | some p, some q => some (p && q)
              | _, _ => none
            | _, _ => none
          | none => none) (some true) = some (l.drop i == m.drop i) := by
      intro L
      induction L with
      | nil =>
        intro i _ _ hi
        simp at hi
        simp [List.drop_of_length_le (by omega : l.length ≤ i), List.drop_of_length_le (by omega : m.length ≤ i)]
      | cons f L ih =>
        intro i hL ho hi
        simp only [List.map_cons, List.length_cons, List.range'_succ, List.cons.injEq] at ho
        simp only [List.length_cons] at hi
        obtain ⟨n1, n2, n3⟩ := hL f (by simp)
        have := ih (i + 1) (fun g hg => hL g (by simp [hg])) ho.2 (by omega)
        rw [List.foldr_cons, this]
        have nb : (f.name == "_") = false := by simpa using n1
        simp only [nb, Bool.false_eq_true, if_false, n3, ho.1, keyV_part (show i < l.length by omega), keyV_part (show i < m.length by omega), eqD_int n2]
        rw [drop_get (show i < l.length by omega), drop_get (show i < m.length by omega)]
        simp
    exact key fs.toList 0 k1 (by rw [k2, List.range_eq_range']; simp) (by simp [e1])
  | arr n e hu k1 k2 =>
    have e1 : l.length = n := h2 rfl
    have e2 : m.length = n := g2 rfl
    show eqD P 12 t (.agg _) (.agg _) = _
    unfold eqD
    simp only [hu, k2]
    have key : ∀ (k i : Nat), i + k = n →
        (List.range' i k).foldr (fun i r =>
          match partF false 1 (l.map (Value.int .i64)).toArray.toList (i * 1), partF false 1 (m.map (Value.int .i64)).toArray.toList (i * 1) with
          | some u, some v =>
            match eqD P 11 e u v, r with
            | some p, some q => some (p && q)
            | _, _ => none
          | _, _ => none) (some true) = some (l.drop i == m.drop i) := by
      intro k
      induction k with
      | zero => intro i hi; simp [List.drop_of_length_le (by omega : l.length ≤ i), List.drop_of_length_le (by omega : m.length ≤ i)]
      | succ k ih =>
        intro i hi
        rw [List.range'_succ, List.foldr_cons, ih (i + 1) (by omega)]
        simp only [Nat.mul_one, keyV_part (show i < l.length by omega), keyV_part (show i < m.length by omega), eqD_int k1]
        rw [drop_get (show i < l.length by omega), drop_get (show i < m.length by omega)]
        simp
    rw [List.range_eq_range']
    exact key n 0 (by omega)

/-! ### Where a key is -/
theorem keyzB_cons {kt : Option (Bool × Nat)} {k v : AV} {r : List (AV × AV)} (h : keyzB kt ((k, v) :: r) = true) : (∃ l, keyO kt k = some l) ∧ keyzB kt r = true := by
  simp only [keyzB, Bool.and_eq_true, Option.isSome_iff_exists] at h; exact h
theorem findKey_run (lam : Lam) {t : TypeId} {q : Bool × Nat} {l : List Int} (ht : KeyS' P t q) (h1 : q.1 = false → l.length = 1) (h2 : q.1 = true → l.length = q.2) {m : List (AV × AV)} {es : List MapEntry} (hk : keyzB (some q) m = true)
    (he : es.map (fun e => (e.key, e.val)) = m.map fun q => (q.1.conc lam, q.2.conc lam)) :
    (Instr.findKey t (keyV q l) es).run P w = .ok ((findI (some q) l m 0).map fun p => (p.1, p.2.conc lam)) w := by
  have asks : ∀ (m : List (AV × AV)) (es : List MapEntry) (i : Nat), keyzB (some q) m = true → es.map (fun e => (e.key, e.val)) = m.map (fun q => (q.1.conc lam, q.2.conc lam)) →
      (Instr.findAsking t (keyV q l) es i).run P w = .ok ((findI (some q) l m i).map fun p => (p.1, p.2.conc lam)) w := by
    intro m
    induction m with
    | nil => intro es i _ he; cases es with
      | nil => simp [Instr.findAsking, findI]
      | cons e es => simp at he
    | cons x m ih =>
      intro es i hk he
      obtain ⟨k, v⟩ := x
      cases es with
      | nil => simp at he
      | cons e es =>
        simp only [List.map_cons, List.cons.injEq, Prod.mk.injEq] at he
        obtain ⟨⟨l2, hl2⟩, hk2⟩ := keyzB_cons hk
        obtain ⟨c1, c2, c3⟩ := keyO_spec lam hl2
        have heq := equal_key (w := w) ht h1 h2 c2 c3
        rw [← c1, ← he.1.1] at heq
        rw [Instr.findAsking, findI, hl2]
        simp only [Sem.run_bind, heq, Result.andThen_ok]
        by_cases hll : l = l2
        · subst hll
          simp [he.1.2]
        · have hb : (l == l2) = false := by simpa using hll
          rw [hb, if_neg (fun h => hll (Option.some.inj h).symm)]
          exact ih es (i + 1) hk2 he.2
  cases ht with
  | int hu =>
    have h3 := h1 rfl
    obtain ⟨a, rfl⟩ := List.length_eq_one_iff.1 h3
    refine MapKept.run_findKey hu ?_
    have nows : ∀ (m : List (AV × AV)) (es : List MapEntry) (i : Nat), keyzB (some (false, 1)) m = true → es.map (fun e => (e.key, e.val)) = m.map (fun q => (q.1.conc lam, q.2.conc lam)) →
        Instr.findNow (.int .i64) (.int .i64 a) es i = some ((findI (some (false, 1)) [a] m i).map fun p => (p.1, p.2.conc lam)) := by
      intro m
      induction m with
      | nil => intro es i _ he; cases es with
        | nil => simp [Instr.findNow, findI]
        | cons e es => simp at he
      | cons x m ih =>
        intro es i hk he
        obtain ⟨k, v⟩ := x
        cases es with
        | nil => simp at he
        | cons e es =>
          simp only [List.map_cons, List.cons.injEq, Prod.mk.injEq] at he
          obtain ⟨⟨l2, hl2⟩, hk2⟩ := keyzB_cons hk
          obtain ⟨c1, c2, c3⟩ := keyO_spec lam hl2
          obtain ⟨b, rfl⟩ := List.length_eq_one_iff.1 (c2 rfl)
          have e1 : e.key = .int .i64 b := by rw [he.1.1, c1]; rfl
          rw [Instr.findNow, findI, hl2, e1]
          simp only [Instr.sameNow, if_true]
          by_cases hll : a = b
          · subst hll; simp [he.1.2]
          · have hb : (a == b) = false := by simpa using hll
            rw [hb, if_neg (fun h => hll (List.cons.inj (Option.some.inj h)).1.symm)]
            exact ih es (i + 1) hk2 he.2
    exact nows m es 0 hk he
  | str fs hu k1 k2 k3 => rw [run_findKey_eq w (by simp [hu])]; exact asks m es 0 hk he
  | arr n e hu k1 k2 => rw [run_findKey_eq w (by simp [hu])]; exact asks m es 0 hk he
theorem findI_mem {kt : Option (Bool × Nat)} {l : List Int} : ∀ {m : List (AV × AV)} {i j : Nat} {v : AV}, findI kt l m i = some (j, v) → ∃ k, i ≤ j ∧ m[j - i]? = some (k, v) ∧ keyO kt k = some l
  | [], i, j, v, h => by simp [findI] at h
  | (k, u) :: r, i, j, v, h => by
    unfold findI at h
    split at h
    · rename_i hk
      cases h
      exact ⟨k, Nat.le_refl _, by simp, hk⟩
    · obtain ⟨k', h1, h2, h3⟩ := findI_mem h
      refine ⟨k', by omega, ?_, h3⟩
      rw [show j - i = (j - (i + 1)) + 1 by omega, List.getElem?_cons_succ]; exact h2

/-! ### Looks -/
theorem mapE_has {N : Nat} {D : Nat → Prop} {lam : Lam} {H : Hp} {n : Nat} (hH : HSit N D lam H n w) {k : Nat} {m : List (AV × AV)} (h : mapE (hget k H) = some m) :
    (∀ x y, (x, y) ∈ m → x.ok lam n ∧ y.ok lam n) ∧ (∃ e, hget k H = some e ∧ e.writes = true) ∧ ∃ b o es clock, lam k 0 = some (b, o) ∧ w.heap[b]? = some (.map es clock) ∧ MapOk es clock ∧ es.toList.map (fun e => (e.key, e.val)) = m.map fun q => (q.1.conc lam, q.2.conc lam) := by
  unfold mapE at h
  split at h
  · rename_i m' hk
    cases h
    obtain ⟨h1, h2⟩ := hH.has _ _ (hget_mem hk)
    exact ⟨h1, ⟨_, hk, rfl⟩, h2⟩
  · rename_i s m' hk
    cases h
    obtain ⟨h1, b, o, h2, h3, h4, h5⟩ := hH.has _ _ (hget_mem hk)
    exact ⟨h1, ⟨_, hk, rfl⟩, b, o, _, _, h2, h3, h4, h5⟩
  · cases h
theorem getMap_run {r : Nat} {es : Array MapEntry} {clock : Nat} (hb : w.heap[r]? = some (.map es clock)) : (getObj r).run P w = .ok (.map es clock) w := by
  simp [getObj, Sem.run, hb]
theorem mapKT_spec {t : TypeId} {q : Bool × Nat} (h : mapKT P t = some q) : ∃ k e, P.underlying t = some (.map k e) ∧ KeyS' P k q ∧ mapZ P t = zeroA P e := by
  unfold mapKT at h
  split at h
  · rename_i k e hu; exact ⟨k, e, hu, keyT_spec h, by unfold mapZ; rw [hu]⟩
  · cases h
theorem lookC_some {kt : Option (Bool × Nat)} {z : Option AV} {m : Option (List (AV × AV))} {l : Option (List Int)} {ok : Bool} {v : AV} (h : lookC kt z m l ok = some v) : ∃ z' m' l', z = some z' ∧ m = some m' ∧ l = some l' ∧ keyzB kt m' = true ∧ v = lookOut ok z' (findI kt l' m' 0) := by
  unfold lookC at h
  split at h
  · rename_i z' m' l'
    split at h
    · rename_i hk; cases h; exact ⟨z', m', l', rfl, rfl, rfl, hk, rfl⟩
    · cases h
  · cases h
theorem look_run {N : Nat} {D : Nat → Prop} {lam : Lam} {H : Hp} {n : Nat} (hH : HSit N D lam H n w) {t : TypeId} {x k v : AV} {ok : Bool} (h : lookA P t x k ok H = some v) :
    (Instr.lookup t (x.conc lam) (k.conc lam) ok).run P w = .ok (v.conc lam) w ∧ v.ok lam n := by
  obtain ⟨z, m, l, hz, hm, hl, hkb, rfl⟩ := lookC_some h
  cases hq : mapKT P t with
  | none => rw [hq] at hl; simp [keyO] at hl
  | some q =>
    obtain ⟨kt, et, hu, hS, hz'⟩ := mapKT_spec hq
    rw [hq] at hl hkb
    obtain ⟨c1, c2, c3⟩ := keyO_spec lam hl
    rw [hz'] at hz
    obtain ⟨z1, z2⟩ := zeroA_spec (w := w) lam n hz
    have out : ∀ (es : Array MapEntry), (∀ x y, (x, y) ∈ m → x.ok lam n ∧ y.ok lam n) → es.toList.map (fun e => (e.key, e.val)) = m.map (fun q => (q.1.conc lam, q.2.conc lam)) →
        (Instr.checkKey es.isEmpty 10000 kt (k.conc lam)).run P w = .ok () w ∧ (Instr.findKey kt (k.conc lam) es.toList).run P w = .ok ((findI (some q) l m 0).map fun p => (p.1, p.2.conc lam)) w ∧ ∀ p, findI (some q) l m 0 = some p → p.2.ok lam n := by
      intro es hok he
      have hf := findKey_run (w := w) (P := P) lam hS c2 c3 hkb he
      rw [← c1] at hf
      have hc := checkKey_run (w := w) (em := es.isEmpty) hS c2 c3
      rw [← c1] at hc
      refine ⟨hc, hf, fun p hp => ?_⟩
      obtain ⟨k', _, hm', _⟩ := findI_mem (j := p.1) (v := p.2) hp
      exact (hok k' p.2 (List.mem_of_getElem? hm')).2
    have fin : ∀ (es : Array MapEntry) (s : Sem Value), (s.run P w = ((do
          Instr.checkKey es.isEmpty 10000 kt (k.conc lam)
          let r ← Instr.findKey kt (k.conc lam) es.toList
          pure r : Sem (Option (Nat × Value))).run P w).andThen fun r w1 => (match r with
            | some (_, v) => pure (if ok then .tuple #[v, .bool true] else v)
            | none => do
              let z ← zeroValue et
              pure (if ok then .tuple #[z, .bool false] else z) : Sem Value).run P w1) → (∀ x y, (x, y) ∈ m → x.ok lam n ∧ y.ok lam n) → es.toList.map (fun e => (e.key, e.val)) = m.map (fun q => (q.1.conc lam, q.2.conc lam)) →
        s.run P w = .ok ((lookOut ok z (findI (some q) l m 0)).conc lam) w ∧ (lookOut ok z (findI (some q) l m 0)).ok lam n := by
      intro es s hs hok he
      obtain ⟨hc, hf, hv⟩ := out es hok he
      rw [hs]
      simp only [Sem.run_bind, hc, Result.andThen_ok, hf, Sem.run_pure]
      cases hfi : findI (some q) l m 0 with
      | none =>
        simp only [Option.map_none, Sem.run_bind, z1, Result.andThen_ok, Sem.run_pure]
        cases ok with
        | true => exact ⟨by simp [lookOut, AV.conc, concL], by simp [lookOut, AV.ok, okL, z2]⟩
        | false => exact ⟨by simp [lookOut], by simpa [lookOut] using z2⟩
      | some p =>
        have hv := hv p hfi
        obtain ⟨j, v⟩ := p
        simp only [Option.map_some, Sem.run_pure]
        cases ok with
        | true => exact ⟨by simp [lookOut, AV.conc, concL], by simp only [lookOut, if_true, AV.ok, okL, and_true]; exact hv⟩
        | false => exact ⟨by simp [lookOut], by simpa [lookOut] using hv⟩
    unfold mapC at hm
    split at hm
    · rename_i kk
      obtain ⟨g1, _, b, o, es, clock, g2, g3, g4, g5⟩ := mapE_has hH hm
      refine fin es _ ?_ g1 g5
      obtain ⟨hc, hf, hv⟩ := out es g1 g5
      simp only [AV.conc, g2, mapV, Instr.lookup, Sem.run_bind, run_underlying hu, Result.andThen_ok, getMap_run g3, Sem.run_pure, hc, hf]
      cases findI (some q) l m 0 with
      | none => simp only [Option.map_none, Sem.run_bind, z1, Result.andThen_ok, Sem.run_pure]
      | some p => simp only [Option.map_some, Sem.run_bind, Result.andThen_ok, Sem.run_pure]
    · cases hm
      refine fin #[] _ ?_ (fun x y h => by cases h) rfl
      obtain ⟨hc, hf, hv⟩ := out #[] (fun x y h => by cases h) rfl
      simp only [AV.conc, Instr.lookup, Sem.run_bind, run_underlying hu, Result.andThen_ok, Sem.run_pure, hc, hf]
      simp only [findI, Option.map_none, Sem.run_bind, z1, Result.andThen_ok, Sem.run_pure]
    · cases hm
end

end Go.Y
