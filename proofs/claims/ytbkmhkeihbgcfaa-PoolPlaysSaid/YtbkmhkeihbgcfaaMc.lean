/-
  Loops over functions: the rules.
-/
import Derived.Test.YtbkmhkeihbgcfaaMb
set_option linter.unusedVariables false
set_option linter.unusedSimpArgs false
namespace Go.Y

/-- A round, where its loop is known. -/
def RndG (cx : Cx) (fn nt : Nat) (ps : List Nat) (as bd : Code) (x : Option Ent) (L : Nat) (args : List AV) (H : Hp) (n : Nat) (Q : AV → Hp → Nat → Prop) : Prop :=
  match x with
  | some (.lp r) => r.fn = fn ∧ r.nt = nt ∧ r.ps = ps ∧ r.assign = as ∧ r.body = bd ∧ args.length = ps.length ∧ Ev cx ⟨nt, n, some L, fn⟩ as ⟨putPs ps args r.T, H, n⟩ (.bgn L bd (.rnd L Q))
  | _ => False
theorem rndG_some {cx : Cx} {fn nt : Nat} {ps : List Nat} {as bd : Code} {L : Nat} {args : List AV} {H : Hp} {n : Nat} {Q : AV → Hp → Nat → Prop} {T : Sl} {s : LState} :
    RndG cx fn nt ps as bd (some (.lp ⟨fn, nt, T, ps, as, bd, s⟩)) L args H n Q = (args.length = ps.length ∧ Ev cx ⟨nt, n, some L, fn⟩ as ⟨putPs ps args T, H, n⟩ (.bgn L bd (.rnd L Q))) := by
  simp [RndG]

theorem round_go {cx : Cx} (hpu : PuOk cx) {fn nt : Nat} {ps : List Nat} {as bd : Code} (hps : ps.all (fun p => decide (p < nt)) = true) (h1 : okc cx nt as = true) (h2 : okc cx nt bd = true) {L : Nat} {args : List AV} {H : Hp} {n : Nat} {Q : AV → Hp → Nat → Prop}
    (h : RndG cx fn nt ps as bd (hget L H) L args H n Q) : roundA cx.P L args H n Q := by
  unfold RndG at h
  split at h
  · rename_i r hr
    obtain ⟨rfl, rfl, rfl, rfl, rfl, hlen, h⟩ := h
    exact roundA_ev hpu hr hlen hps h1 h2 h
  · exact h.elim

/-- What is owed behind a loop over a function. -/
def RanH (cx : Cx) (fx : Fx) (T : Sl) (k : Kd) (n : Nat) (H : Hp) (x : Option Ent) : Prop :=
  match x with
  | some (.lp r) => match r.st with
    | .ready => Nx cx fx .nrm ⟨T, H, n⟩ k
    | .done (.exit i) => Nx cx fx (.exi i) ⟨T, H, n⟩ k
    | .done .ret => Nx cx fx .ret ⟨T, H, n⟩ k
    | _ => False
  | _ => False
def RanK (cx : Cx) (fx : Fx) (L : Nat) (T : Sl) (k : Kd) (v : AV) (H : Hp) (n : Nat) : Prop := RanH cx fx T k n (hdel L H) (hget L H)

section
variable {cx : Cx} {fx : Fx} {k : Kd} {T T' : Sl} {H : Hp} {n L fn nt : Nat} {ps : List Nat} {as bd : Code}
theorem ranK_eq (v : AV) : RanK cx fx L T k v H n = RanH cx fx T k n (hdel L H) (hget L H) := rfl
theorem ranH_ready : RanH cx fx T k n H (some (.lp ⟨fn, nt, T', ps, as, bd, .ready⟩)) = Nx cx fx .nrm ⟨T, H, n⟩ k := rfl
theorem ranH_exit (i : Nat) : RanH cx fx T k n H (some (.lp ⟨fn, nt, T', ps, as, bd, .done (.exit i)⟩)) = Nx cx fx (.exi i) ⟨T, H, n⟩ k := rfl
theorem ranH_ret : RanH cx fx T k n H (some (.lp ⟨fn, nt, T', ps, as, bd, .done .ret⟩)) = Nx cx fx .ret ⟨T, H, n⟩ k := rfl

/-- Is a frame no round, or the round of a loop that the heap tells of. -/
def arO (x : Option Ent) : Prop :=
  match x with
  | some (.lp _) => True
  | _ => False
def arF (rd : Option Nat) (H : Hp) : Prop :=
  match rd with
  | none => True
  | some L => arO (hget L H)
theorem arF_none : arF none H = True := rfl
theorem arF_some (L : Nat) : arF (some L) H = arO (hget L H) := rfl
theorem arO_some (r : LRec) : arO (some (.lp r)) = True := rfl

def RanO (P : Program) (cx : Cx) (fx : Fx) (ps : List Nat) (as bd : Code) (T : Sl) (H : Hp) (n : Nat) (k : Kd) (x : Option AV) : Prop :=
  match x with
  | some (.fn (.func g) first captured) => callA P g (first ++ [.yld n] ++ captured) ((n, .lp ⟨fx.f, fx.nt, T, ps, as, bd, .ready⟩) :: H) (n + 1) (RanK cx fx n T k)
  | _ => False
theorem ranO_some {P : Program} (g : FuncId) (n0 : Nat) (rd : Option Nat) (f : FuncId) (first captured : List AV) : RanO P cx ⟨nt, n0, rd, f⟩ ps as bd T H n k (some (.fn (.func g) first captured)) =
    callA P g (first ++ [.yld n] ++ captured) ((n, .lp ⟨f, nt, T, ps, as, bd, .ready⟩) :: H) (n + 1) (RanK cx ⟨nt, n0, rd, f⟩ n T k) := rfl
theorem roundS_eq (kt : Kt) (args : List AV) : RoundS cx fx kt L args H n = roundA cx.P L args H n (FinK cx fx kt) := rfl

/-- **A loop over a function**: the rounds' rule comes as a premise. -/
theorem ran_go {P : Program} (hP : cx.P = P) {f : Operand} (har : arF fx.rd H)
    (h : (∀ (L : Nat) (args : List AV) (H : Hp) (n : Nat) (Q : AV → Hp → Nat → Prop), RndG cx fx.f fx.nt ps as bd (hget L H) L args H n Q → roundA P L args H n Q) → RanO P cx fx ps as bd T H n k (getO T f)) :
    RanS cx fx f ps.toArray as bd ⟨T, H, n⟩ k := by
  subst hP
  intro hpu hok
  simp only [okc, Bool.and_eq_true] at hok
  obtain ⟨⟨hps, h1⟩, h2⟩ := hok
  have h := h (fun L args H n Q hg => round_go hpu (by simpa using hps) h1 h2 hg)
  unfold RanO at h
  split at h
  · rename_i g first captured hf
    refine awp_rangeFunc hf ?_ (callA_mono h (fun v H2 n2 hq => ?_))
    · unfold arF at har
      unfold around
      split at har
      · rename_i e; rw [e]; trivial
      · rename_i L e
        rw [e]
        unfold arO at har
        split at har
        · rename_i r hr; exact ⟨r, hr⟩
        · exact har.elim
    · unfold RanK RanH at hq
      unfold ranK
      split at hq
      · rename_i r hr
        refine ⟨r, hr, ?_⟩
        split at hq
        · rename_i e; rw [e]; exact hq
        · rename_i i e; rw [e]; exact awp_exit hq
        · rename_i e; rw [e]; exact awp_ret hq
        · exact hq.elim
      · exact hq.elim
  · exact h.elim
end

end Go.Y
