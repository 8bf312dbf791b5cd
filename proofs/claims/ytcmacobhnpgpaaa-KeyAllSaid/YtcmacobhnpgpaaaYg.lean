/-
  Each operation that looks at values, or at blocks, is the machine's own: the rest.
-/
import Derived.Test.YtcmacobhnpgpaaaYf
set_option linter.unusedVariables false
set_option linter.unusedSimpArgs false
namespace Go.Y
open RowKit

theorem un_run {P : Program} {w : World} {op : UnOp} {x v : AV} (lam : Lam) (e : unA op x = some v) : (Op.unary op (x.conc lam)).run P w = .ok (v.conc lam) w ∧ (∀ n, v.ok lam n) ∧ v.isTup = false := by
  unfold unA at e
  split at e <;> first | (cases e; exact ⟨by simp [Op.unary, Op.intArith, AV.conc], fun n => by simp [AV.ok], rfl⟩) | cases e

theorem bytesOf_spec (lam : Lam) : ∀ {l : List AV} {s : List UInt8}, bytesOf l = some s → l = s.map encB
  | [], s, h => by cases h; rfl
  | v :: r, s, h => by
    unfold bytesOf at h
    split at h
    · cases h; contradiction
    · rename_i n r' heq
      cases heq
      split at h
      · rename_i s' hs'
        split at h
        · rename_i hn
          cases h
          rw [bytesOf_spec lam hs', List.map_cons]
          congr 1
          unfold encB
          have : ((UInt8.ofNat n.toNat).toNat : Int) = n := by
            rw [UInt8.toNat_ofNat']; omega
          rw [this]
        · cases h
      · cases h
    · cases h

section
variable {P : Program} {N : Nat} {D : Nat → Prop} {T : Sl} {H : Hp} {n : Nat} {tmps : Array Value} {w : World} {lam : Lam}

/-- The cells of a slice's elements. -/
theorem elems_cells (hH : HSit N D lam H n w) {x : AV} {l : List AV} (hx : x.ok lam n) (h : elemsA x H = some l) :
    okL lam n l ∧ okT l ∧ ((x = .nils ∧ l = []) ∨ ∃ k i p sz a s len cap, x = .slc k i p sz a s len cap ∧ l.length = len ∧ okR sz l ∧
      (sizeL l = 0 ∨ ∃ b o c ty fr, lam k i = some (b, o) ∧ w.heap[b]? = some (.cells c ty fr) ∧ a = s ∧
        ∃ pre post, c.toList = pre ++ l.flatMap (cellsA lam) ++ post ∧ pre.length = o + (offP p + s * sz))) := by
  unfold elemsA at h
  split at h
  · rename_i k i p sz a s len cap
    unfold elemsC at h
    split at h
    · rename_i sz' rows hr
      split at h
      · rename_i hsz
        subst hsz
        split at h
        · rename_i hle
          cases h
          unfold elemsT at hr
          split at hr
          · rename_i e he
            split at hr
            · rename_i u hu
              obtain ⟨hok, hc⟩ := tree_cells hH he hu
              obtain ⟨pre, post, h1, h2, h3⟩ := getP_spec lam p hok hr
              simp only [AV.ok] at h3
              have hmin : min len (rows.length - s) = len := by rcases hle with h | h <;> omega
              refine ⟨okL_take (okL_drop h3.1 s) len, okT_take (okT_drop h3.2.2 s) len, .inr ⟨k, i, p, sz', a, s, len, cap, rfl, by simp only [List.length_take, List.length_drop]; exact hmin, okR_take (okR_drop h3.2.1 s) len, ?_⟩⟩
              have hsz : sizeL ((rows.drop s).take len) = len * sz' := by
                rw [sizeL_rep (okR_take (okR_drop h3.2.1 s) len)]; congr 1; simp only [List.length_take, List.length_drop]; exact hmin
              by_cases h0 : len * sz' = 0
              · left; omega
              · right
                have hle : s + len ≤ rows.length := by
                  rcases hle with h | h
                  · exact h
                  · subst h; simp at h0
                rcases hc with ⟨_, hz⟩ | ⟨b, o, c, ty, fr, hlam, hheap, ho, hpre⟩
                · exfalso
                  have := congrArg List.length h1
                  simp only [List.length_append, cells_length, AV.size] at this
                  have h5 : sizeL rows = rows.length * sz' := sizeL_rep h3.2.1
                  have h6 : len * sz' ≤ rows.length * sz' := Nat.mul_le_mul_right _ (by omega)
                  omega
                · simp only [AV.ok] at hx
                  have hcap : cap ≠ 0 := by
                    intro e0
                    have : len = 0 := by omega
                    subst this; simp at h0
                  refine ⟨b, o, c, ty, fr, hlam, hheap, (hx.2.2.2.1 hcap).1, ?_⟩
                  obtain ⟨rest, hrest⟩ := hpre
                  have hrows : rows = rows.take s ++ ((rows.drop s).take len ++ (rows.drop s).drop len) := by
                    rw [List.take_append_drop, List.take_append_drop]
                  have hflat : rows.flatMap (cellsA lam) = (rows.take s).flatMap (cellsA lam) ++ ((rows.drop s).take len).flatMap (cellsA lam) ++ ((rows.drop s).drop len).flatMap (cellsA lam) := by
                    conv => lhs; rw [hrows]
                    simp
                  refine ⟨c.toList.take o ++ pre ++ (rows.take s).flatMap (cellsA lam), ((rows.drop s).drop len).flatMap (cellsA lam) ++ post ++ rest, ?_, ?_⟩
                  · conv => lhs; rw [← List.take_append_drop o c.toList, ← hrest, h1, cells_rows, hflat]
                    simp
                  · simp only [List.length_append, List.length_take, h2, cellsL_length]
                    rw [sizeL_rep (okR_take h3.2.1 s), List.length_take]
                    have e1 : min s rows.length = s := by omega
                    have e2 : min o c.toList.length = o := by simp; omega
                    rw [e1, e2]; omega
            · cases hr
          · cases hr
        · cases h
      · cases h
    · cases h
  · cases h
    exact ⟨by simp [okL], by simp [okT], .inl ⟨rfl, rfl⟩⟩
  · cases h

theorem load_mid {b : Nat} {c : Array Value} {ty : TypeId} {fr : Nat × Nat} {pre mid post : List Value} (hb : w.heap[b]? = some (.cells c ty fr)) (hc : c.toList = pre ++ mid ++ post) :
    (loadCells ⟨b, pre.length, none⟩ mid.length).run P w = .ok mid.toArray w := by
  refine run_loadCells_list (P := P) w ⟨b, pre.length, none⟩ mid (fun j v hj => ?_)
  rw [add_addr]
  have : c.toList[pre.length + j]? = some v := by
    rw [hc, List.append_assoc, List.getElem?_append_right (by omega), List.getElem?_append_left (by have := (List.getElem?_eq_some_iff.1 hj).1; omega)]
    rw [show pre.length + j - pre.length = j by omega]; exact hj
  simpa [World.cell?, hb] using this

theorem bytes_fold (f : Value → ByteArray → Sem (ForInStep ByteArray)) (hf : ∀ (b : UInt8) (r : ByteArray), f (.int .u8 b.toNat) r = pure (ForInStep.yield (r.push b))) :
    ∀ (s : List UInt8) (acc : ByteArray), (forIn (m := Sem) (s.map fun b => Value.int .u8 b.toNat) acc f).run P w = .ok ⟨acc.data ++ s.toArray⟩ w
  | [], acc => by simp
  | b :: s, acc => by
    rw [List.map_cons, List.forIn_cons]
    have := bytes_fold f hf s (acc.push b)
    simp only [Sem.run_bind, hf, Sem.run_pure, Result.andThen_ok]
    rw [this]
    congr 2
    simp [ByteArray.push]

theorem enc_flat (lam : Lam) (s : List UInt8) : (s.map encB).flatMap (cellsA lam) = s.map fun b => Value.int .u8 b.toNat := by
  rw [List.flatMap_map]
  have : ∀ b : UInt8, cellsA lam (encB b) = [Value.int .u8 b.toNat] := fun b => by
    unfold encB; rw [cells_leaf lam rfl]; simp [AV.conc]
  induction s with
  | nil => rfl
  | cons b s ih => rw [List.flatMap_cons, this, ih]; rfl

theorem bytesToString_run {x : Option Addr} {len cap : Nat} {s : List UInt8} (hx : x = none → s = [])
    (h : ∀ a, x = some a → (loadCells a len).run P w = .ok (s.map fun b => Value.int .u8 b.toNat).toArray w) :
    (Conv.bytesToString (.slice x len cap)).run P w = .ok (.string ⟨s.toArray⟩) w := by
  cases x with
  | none => rw [hx rfl]; rfl
  | some a =>
    simp only [Conv.bytesToString, Sem.run_bind, h a rfl, Result.andThen_ok]
    simp only [List.forIn_toArray]
    rw [bytes_fold _ (fun b r => by simp)]
    simp only [Result.andThen_ok, Sem.run_pure]
    congr 2
    simp

theorem conv_run (h : TRel lam n T tmps) (hH : HSit N D lam H n w) {src dst : TypeId} {x v : AV} (hx : x.ok lam n) (e : convA P src dst x H = some v) :
    (convert src dst (x.conc lam)).run P w = .ok (v.conc lam) w ∧ v.ok lam n ∧ v.isTup = false := by
  have hstr : ∀ {x : AV}, x.ok lam n → (x = .nils ∨ ∃ k i p m a s len cap, x = .slc k i p m a s len cap) →
      (match isByteSlc P src, isStrTy P dst with
        | true, true => match elemsA x H with
          | some l => (bytesOf l).map AV.str
          | none => none
        | _, _ => none) = some v → (convert src dst (x.conc lam)).run P w = .ok (v.conc lam) w ∧ v.ok lam n ∧ v.isTup = false := by
    intro x hx hsh e
    split at e
    · rename_i h1 h2
      split at e
      · rename_i l hl
        obtain ⟨s, hs, rfl⟩ := Option.map_eq_some_iff.1 e
        refine ⟨?_, by simp [AV.ok], rfl⟩
        have hu2 : P.underlying dst = some .string := by
          unfold isStrTy at h2
          split at h2
          · assumption
          · cases h2
        obtain ⟨el, hu1, hue⟩ : ∃ el, P.underlying src = some (.slice el) ∧ P.underlying el = some (.int .u8) := by
          unfold isByteSlc at h1
          split at h1
          · rename_i el hu
            split at h1
            · exact ⟨el, hu, by assumption⟩
            · cases h1
          · cases h1
        have hb := bytesOf_spec lam hs
        obtain ⟨_, _, hcells⟩ := elems_cells hH hx hl
        have hflat : l.flatMap (cellsA lam) = s.map fun b => Value.int .u8 b.toNat := by rw [hb]; exact enc_flat lam s
        have hconv : ∀ x : Value, (convert src dst x).run P w = (Conv.bytesToString x).run P w ∨ ∀ o l c, x ≠ .slice o l c := by
          intro x
          cases x <;> first | (left; simp [convert, run_underlying hu1, run_underlying hu2, run_underlying hue]; done) | (right; simp)
        have hsl : ∀ (o : Option Addr) (ln cp : Nat), (o = none → s = []) → (∀ a, o = some a → (loadCells a ln).run P w = .ok (s.map fun b => Value.int .u8 b.toNat).toArray w) →
            (convert src dst (.slice o ln cp)).run P w = .ok ((AV.str s).conc lam) w := by
          intro o ln cp h1 h2
          rcases hconv (.slice o ln cp) with h3 | h3
          · rw [h3, bytesToString_run h1 h2]; simp [AV.conc]
          · exact absurd rfl (h3 _ _ _)
        rcases hcells with ⟨rfl, rfl⟩ | ⟨k, i, p, sz, a, st, len, cap, rfl, hlen, hR, hc⟩
        · have : s = [] := by simpa using hb.symm
          subst this
          simp only [AV.conc] at hsl ⊢
          exact hsl none 0 0 (fun _ => trivial) (fun a e => by cases e)
        · have hnil : sizeL l = 0 → s = [] := by
            intro h0
            cases s with
            | nil => rfl
            | cons c s => rw [hb] at h0; simp [sizeL, encB, AV.size] at h0
          simp only [AV.conc] at hsl ⊢
          rcases hc with h0 | ⟨b, o, c, ty, fr, hlam, hheap, has, pre, post, h1, h2⟩
          · have hs0 := hnil h0
            subst hs0
            have hl0 : len = 0 := by rw [← hlen, hb]; rfl
            subst hl0
            cases hq : lam k i with
            | none => simp only [slcV]; exact hsl none 0 cap (fun _ => rfl) (fun a e => by cases e)
            | some q =>
              simp only [slcV]
              refine hsl _ 0 cap (fun _ => rfl) (fun a e => ?_)
              simp [loadCells, loadCellsFrom]
          · rw [hlam]
            simp only [slcV]
            refine hsl _ len cap (fun e => by cases e) (fun a' e => ?_)
            cases e
            have hm := load_mid (P := P) hheap (by rw [h1])
            rw [hflat, List.length_map] at hm
            have hsl : s.length = len := by rw [← hlen, hb, List.length_map]
            have hsz : s = [] ∨ sz = 1 := by
              cases s with
              | nil => exact .inl rfl
              | cons c s => right; rw [hb] at hR; simp only [List.map_cons, okR] at hR; exact hR.1.symm
            rw [hsl, h2, show o + (offP p + st * sz) = o + (offP p + a * sz) by rw [has]] at hm
            exact hm
      · cases e
    · cases e
  unfold convA at e
  split at e
  · rename_i k m
    split at e
    · rename_i kk hs hd
      cases e
      have hd' : P.underlying dst = some (.int kk) := by
        unfold intOf at hd
        split at hd
        · rename_i k' hu; cases hd; exact hu
        · cases hd
      obtain ⟨d, hs'⟩ := Option.isSome_iff_exists.1 hs
      exact ⟨by simp [convert, run_underlying hs', run_underlying hd', Conv.intToInt, AV.conc], by simp [AV.ok], rfl⟩
    · cases e
  · exact hstr hx (.inr ⟨_, _, _, _, _, _, _, _, rfl⟩) e
  · exact hstr hx (.inl rfl) e
  · cases e

end

end Go.Y
