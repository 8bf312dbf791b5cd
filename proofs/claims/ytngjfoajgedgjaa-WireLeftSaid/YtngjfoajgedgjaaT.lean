/-
  The flat struct types of the seat, as structures (written by mty.py off the translation).
-/
import Derived.Test.YtngjfoajgedgjaaYz
import Derived.Test.YtngjfoajgedgjaaMz
import Derived.Test.YtngjfoajgedgjaaLb
set_option linter.unusedVariables false
set_option linter.unusedSimpArgs false
set_option maxRecDepth 10000
namespace Go.Proofs.Ytngjfoajgedgjaa
open Go.Y
structure TIns where
  op : Int
  d : Int
  a : Int
  b : Int
  n : Int
  deriving Inhabited
def eIns (a : TIns) : AV := .agg [.int .u8 a.op, .int .u8 a.d, .int .u8 a.a, .int .u8 a.b, .int .i64 a.n]
theorem eIns_eq (a : TIns) : eIns a = .agg [.int .u8 a.op, .int .u8 a.d, .int .u8 a.a, .int .u8 a.b, .int .i64 a.n] := rfl
def wIns (a : TIns) : Prop := (0 ≤ a.op ∧ a.op ≤ 255) ∧ (0 ≤ a.d ∧ a.d ≤ 255) ∧ (0 ≤ a.a ∧ a.a ≤ 255) ∧ (0 ≤ a.b ∧ a.b ≤ 255) ∧ (-9223372036854775808 ≤ a.n ∧ a.n ≤ 9223372036854775807)
theorem eIns_size (a : TIns) : (eIns a).size = 5 := rfl
theorem eIns_tup (a : TIns) : (eIns a).isTup = false := rfl
theorem eIns_flat (a : TIns) : flatB (eIns a) = true := rfl
theorem eIns_ok (a : TIns) (lam : Lam) (n : Nat) : (eIns a).ok lam n := by
  simp [eIns, AV.ok, okL, okR, okT, AV.isTup, AV.size, sizeL]
theorem lIns_ren (τ : Nat → Nat) (l : List TIns) : renL τ (l.map eIns) = l.map eIns := renL_maps eIns_flat τ l
theorem eIns_ren (τ : Nat → Nat) (a : TIns) : (eIns a).ren τ = eIns a := ren_flat τ (eIns_flat a)
theorem ofIns {cs : List Value} (h : Flat [some .u8, some .u8, some .u8, some .u8, some .i64] cs) : ∃ a : TIns, wIns a ∧ ∀ lam, cellsA lam (eIns a) = cs := by
  obtain ⟨x0, r0, rfl, k0, h⟩ := h
  obtain ⟨x1, r1, rfl, k1, h⟩ := h
  obtain ⟨x2, r2, rfl, k2, h⟩ := h
  obtain ⟨x3, r3, rfl, k3, h⟩ := h
  obtain ⟨x4, r4, rfl, k4, h⟩ := h
  cases h
  have k0 := has_u8 k0
  have k1 := has_u8 k1
  have k2 := has_u8 k2
  have k3 := has_u8 k3
  have k4 := has_i64 k4
  exact ⟨⟨x0, x1, x2, x3, x4⟩, by simp [wIns, *], fun lam => rfl⟩
end Go.Proofs.Ytngjfoajgedgjaa
