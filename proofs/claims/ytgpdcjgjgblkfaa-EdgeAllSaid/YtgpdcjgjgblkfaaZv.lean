/-
  The evaluator with forgetting: behind each region only the slots that are looked at later are kept.
-/
import Derived.Test.YtgpdcjgjgblkfaaZf
set_option linter.unusedVariables false
set_option linter.unusedSimpArgs false
namespace Go.Z
open RowKit

/-- Only some slots are kept. -/
def trimT : List Nat → (Nat → TV) → Nat → TV
  | [], _ => fun _ => .bad
  | a :: l, T => upd (trimT l T) a (T a)
def trimS : Option (List Nat) → St → St
  | none, st => st
  | some l, ⟨T, L, H⟩ => ⟨trimT l T, L, H⟩
def lookL (id : Nat) : List (Nat × List Nat) → Option (List Nat)
  | [] => none
  | (j, l) :: r => if id = j then some l else lookL id r

def evT (cx : Cx) (lv : List (Nat × List Nat)) (nt : Nat) : Code → St → (Ex → St → Prop) → Prop
  | .region id ops draw, st, K => ev cx nt (.region id ops draw) st (fun e st' => K e (trimS (lookL id lv) st'))
  | .skip, st, K => K .normal st
  | .seq a b, st, K => evT cx lv nt a st (thenK (fun st' => evT cx lv nt b st' K) K)
  | .cond c a b, st, K => evCond (st.get c) (evT cx lv nt a st K) (evT cx lv nt b st K)
  | .block id c, st, K => evT cx lv nt c st (blockK id K)
  | .exit id, st, K => K (.exit id) st
  | .ret, st, K => K .ret st
  | c, st, K => awp cx.P nt c st K

theorem trimT_or : ∀ (l : List Nat) (T : Nat → TV) (t : Nat), trimT l T t = T t ∨ trimT l T t = .bad
  | [], T, t => .inr rfl
  | a :: l, T, t => by
    show (if t = a then T a else trimT l T t) = T t ∨ (if t = a then T a else trimT l T t) = .bad
    by_cases h : t = a
    · rw [if_pos h, h]; exact .inl rfl
    · rw [if_neg h]; exact trimT_or l T t

theorem Rel.less {N : Nat} {D E : Nat → Prop} {T T' : Nat → TV} {L : Nat → Option (List Value)} {H : List (Nat × Blk)} {tmps : Array Value} {w : World} {lam : Nat → Nat}
    (h : Rel N D E ⟨T, L, H⟩ tmps w lam) (hT : ∀ t, T' t = T t ∨ T' t = .bad) : Rel N D E ⟨T', L, H⟩ tmps w lam := by
  refine ⟨fun t => ?_, fun t s off e => ?_, h.loc, h.linj, h.blk, h.nd, h.apart⟩
  · have := h.tmp t
    rcases hT t with e | e
    · simp only [e]; exact this
    · simp only [e]; trivial
  · rcases hT t with e' | e'
    · exact h.known t s off (by rw [← e]; exact e'.symm)
    · simp only at e; rw [e'] at e; cases e

theorem Sit.trim {N : Nat} {D E : Nat → Prop} {nt : Nat} {st : St} {tmps : Array Value} {rs : List Nat} {w : World} {lam : Nat → Nat} (h : Sit N D E nt st tmps rs w lam) (l : Option (List Nat)) :
    Sit N D E nt (trimS l st) tmps rs w lam := by
  cases l with
  | none => exact h
  | some l =>
    obtain ⟨T, L, H⟩ := st
    exact ⟨h.rel.less (trimT_or l T), h.size, h.nt, h.marks, h.once⟩

theorem awp_trim {P : Program} {nt : Nat} {c : Code} {st : St} {K : Ex → St → Prop} {l : Option (List Nat)} (h : awp P nt c st (fun e st' => K e (trimS l st'))) : awp P nt c st K := by
  intro N D E b k cs tmps rs w lam hs
  obtain ⟨e, st', tmps', rs', w', lam', hK, hS, hU, hA⟩ := h N D E b k cs tmps rs w lam hs
  exact ⟨e, trimS l st', tmps', rs', w', lam', hK, hS.trim l, hU, hA⟩

/-- What is known may be less. -/
theorem awp_less {P : Program} {nt : Nat} {c : Code} {T T' : Nat → TV} {L : Nat → Option (List Value)} {H : List (Nat × Blk)} {K : Ex → St → Prop} (hT : ∀ t, T' t = T t ∨ T' t = .bad)
    (h : awp P nt c ⟨T', L, H⟩ K) : awp P nt c ⟨T, L, H⟩ K := by
  intro N D E b k cs tmps rs w lam hs
  exact h N D E b k cs tmps rs w lam ⟨hs.rel.less hT, hs.size, hs.nt, hs.marks, hs.once⟩

theorem evT_sound {cx : Cx} {lv : List (Nat × List Nat)} {nt : Nat} : ∀ (c : Code) (st : St) (K : Ex → St → Prop), okc cx nt c = true → evT cx lv nt c st K → awp cx.P nt c st K := by
  intro c
  induction c with
  | region id ops draw =>
    intro st K hok h
    exact awp_trim (ev_sound _ st _ hok h)
  | skip =>
    intro st K hok h
    exact ev_sound .skip st K hok h
  | seq x y ihx ihy =>
    intro st K hok h
    simp only [okc, Bool.and_eq_true] at hok
    refine awp_seq (awp_mono (ihx st _ hok.1 h) ?_)
    intro e st' hk
    cases e with
    | normal => exact ihy st' K hok.2 hk
    | exit id => exact hk
    | ret => exact hk
  | cond c x y ihx ihy =>
    intro st K hok h
    simp only [okc, Bool.and_eq_true] at hok
    simp only [evT] at h
    unfold evCond at h
    split at h
    · rename_i t ht
      intro N D E b k cs tmps rs w lam hs
      have hv := hs.rel.val ht
      cases t with
      | true =>
        rw [if_pos rfl] at h
        obtain ⟨e, st', tmps', rs', w', lam', hK, hS, hU, hA⟩ := ihx st K hok.1 h N D E b k cs tmps rs w lam hs
        exact ⟨e, st', tmps', rs', w', lam', hK, hS, hU, .of_steps (.one (st_cond hv)) hA⟩
      | false =>
        rw [if_neg (by simp)] at h
        obtain ⟨e, st', tmps', rs', w', lam', hK, hS, hU, hA⟩ := ihy st K hok.2 h N D E b k cs tmps rs w lam hs
        exact ⟨e, st', tmps', rs', w', lam', hK, hS, hU, .of_steps (.one (st_cond hv)) hA⟩
    · exact h.elim
  | block id c ih =>
    intro st K hok h
    exact awp_block (ih st _ hok h)
  | exit id =>
    intro st K hok h
    exact ev_sound (.exit id) st K hok h
  | ret =>
    intro st K hok h
    exact ev_sound .ret st K hok h
  | _ => intro st K _ h; exact h

theorem callT_of {cx : Cx} {lv : List (Nat × List Nat)} {f : FuncId} {fn : Func} {c : Code} {args : List Value} {H : List (Nat × Blk)} {Q : Value → List (Nat × Blk) → Prop}
    (hf : cx.P.funcs[f]? = some fn) (hb : fn.body = some c) (hn : (fn.name == "runtime.NumGoroutine") = false) (hok : okc cx fn.ntmps c = true) (hsz : args.length ≤ fn.ntmps)
    (h : evT cx lv fn.ntmps c (St.init args H) (fin cx.P fn.results.toList Q)) : callF cx.P f args H Q :=
  callF_awp hf hb hn hsz (evT_sound c _ _ hok h)
end Go.Z
