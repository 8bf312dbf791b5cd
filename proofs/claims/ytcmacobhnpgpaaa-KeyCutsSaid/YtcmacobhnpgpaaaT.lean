/-
  The flat struct types of the seat, as structures (written by mty.py off the translation).
-/
import Derived.Test.YtcmacobhnpgpaaaYz
import Derived.Test.YtcmacobhnpgpaaaMz
import Derived.Test.YtcmacobhnpgpaaaLb
set_option linter.unusedVariables false
set_option linter.unusedSimpArgs false
set_option maxRecDepth 10000
namespace Go.Proofs.Ytcmacobhnpgpaaa
open Go.Y
structure TKey where
  z : Int
  draw : Int
  tri : Int
  part : Int
  deriving Inhabited
def eKey (a : TKey) : AV := .agg [.int .i64 a.z, .int .i64 a.draw, .int .i64 a.tri, .int .i64 a.part]
theorem eKey_eq (a : TKey) : eKey a = .agg [.int .i64 a.z, .int .i64 a.draw, .int .i64 a.tri, .int .i64 a.part] := rfl
def wKey (a : TKey) : Prop := (-9223372036854775808 ≤ a.z ∧ a.z ≤ 9223372036854775807) ∧ (-9223372036854775808 ≤ a.draw ∧ a.draw ≤ 9223372036854775807) ∧ (-9223372036854775808 ≤ a.tri ∧ a.tri ≤ 9223372036854775807) ∧ (-9223372036854775808 ≤ a.part ∧ a.part ≤ 9223372036854775807)
theorem eKey_size (a : TKey) : (eKey a).size = 4 := rfl
theorem eKey_tup (a : TKey) : (eKey a).isTup = false := rfl
theorem eKey_flat (a : TKey) : flatB (eKey a) = true := rfl
theorem eKey_ok (a : TKey) (lam : Lam) (n : Nat) : (eKey a).ok lam n := by
  simp [eKey, AV.ok, okL, okR, okT, AV.isTup, AV.size, sizeL]
theorem lKey_ren (τ : Nat → Nat) (l : List TKey) : renL τ (l.map eKey) = l.map eKey := renL_maps eKey_flat τ l
theorem eKey_ren (τ : Nat → Nat) (a : TKey) : (eKey a).ren τ = eKey a := ren_flat τ (eKey_flat a)
theorem ofKey {cs : List Value} (h : Flat [some .i64, some .i64, some .i64, some .i64] cs) : ∃ a : TKey, wKey a ∧ ∀ lam, cellsA lam (eKey a) = cs := by
  obtain ⟨x0, r0, rfl, k0, h⟩ := h
  obtain ⟨x1, r1, rfl, k1, h⟩ := h
  obtain ⟨x2, r2, rfl, k2, h⟩ := h
  obtain ⟨x3, r3, rfl, k3, h⟩ := h
  cases h
  have k0 := has_i64 k0
  have k1 := has_i64 k1
  have k2 := has_i64 k2
  have k3 := has_i64 k3
  exact ⟨⟨x0, x1, x2, x3⟩, by simp [wKey, *], fun lam => rfl⟩
structure TColour where
  r : Int
  g : Int
  b : Int
  a : Int
  deriving Inhabited
def eColour (a : TColour) : AV := .agg [.int .u8 a.r, .int .u8 a.g, .int .u8 a.b, .int .u8 a.a]
theorem eColour_eq (a : TColour) : eColour a = .agg [.int .u8 a.r, .int .u8 a.g, .int .u8 a.b, .int .u8 a.a] := rfl
def wColour (a : TColour) : Prop := (0 ≤ a.r ∧ a.r ≤ 255) ∧ (0 ≤ a.g ∧ a.g ≤ 255) ∧ (0 ≤ a.b ∧ a.b ≤ 255) ∧ (0 ≤ a.a ∧ a.a ≤ 255)
theorem eColour_size (a : TColour) : (eColour a).size = 4 := rfl
theorem eColour_tup (a : TColour) : (eColour a).isTup = false := rfl
theorem eColour_flat (a : TColour) : flatB (eColour a) = true := rfl
theorem eColour_ok (a : TColour) (lam : Lam) (n : Nat) : (eColour a).ok lam n := by
  simp [eColour, AV.ok, okL, okR, okT, AV.isTup, AV.size, sizeL]
theorem lColour_ren (τ : Nat → Nat) (l : List TColour) : renL τ (l.map eColour) = l.map eColour := renL_maps eColour_flat τ l
theorem eColour_ren (τ : Nat → Nat) (a : TColour) : (eColour a).ren τ = eColour a := ren_flat τ (eColour_flat a)
theorem ofColour {cs : List Value} (h : Flat [some .u8, some .u8, some .u8, some .u8] cs) : ∃ a : TColour, wColour a ∧ ∀ lam, cellsA lam (eColour a) = cs := by
  obtain ⟨x0, r0, rfl, k0, h⟩ := h
  obtain ⟨x1, r1, rfl, k1, h⟩ := h
  obtain ⟨x2, r2, rfl, k2, h⟩ := h
  obtain ⟨x3, r3, rfl, k3, h⟩ := h
  cases h
  have k0 := has_u8 k0
  have k1 := has_u8 k1
  have k2 := has_u8 k2
  have k3 := has_u8 k3
  exact ⟨⟨x0, x1, x2, x3⟩, by simp [wColour, *], fun lam => rfl⟩
structure TFrag where
  x : Int
  y : Int
  mask : Int
  key : TKey
  c : TColour
  deriving Inhabited
def eFrag (a : TFrag) : AV := .agg [.int .i64 a.x, .int .i64 a.y, .int .u8 a.mask, eKey a.key, eColour a.c]
theorem eFrag_eq (a : TFrag) : eFrag a = .agg [.int .i64 a.x, .int .i64 a.y, .int .u8 a.mask, eKey a.key, eColour a.c] := rfl
def wFrag (a : TFrag) : Prop := (-9223372036854775808 ≤ a.x ∧ a.x ≤ 9223372036854775807) ∧ (-9223372036854775808 ≤ a.y ∧ a.y ≤ 9223372036854775807) ∧ (0 ≤ a.mask ∧ a.mask ≤ 255) ∧ wKey a.key ∧ wColour a.c
theorem eFrag_size (a : TFrag) : (eFrag a).size = 11 := rfl
theorem eFrag_tup (a : TFrag) : (eFrag a).isTup = false := rfl
theorem eFrag_flat (a : TFrag) : flatB (eFrag a) = true := rfl
theorem eFrag_ok (a : TFrag) (lam : Lam) (n : Nat) : (eFrag a).ok lam n := by
  simp [eFrag, eKey, eColour, AV.ok, okL, okR, okT, AV.isTup, AV.size, sizeL]
theorem lFrag_ren (τ : Nat → Nat) (l : List TFrag) : renL τ (l.map eFrag) = l.map eFrag := renL_maps eFrag_flat τ l
theorem eFrag_ren (τ : Nat → Nat) (a : TFrag) : (eFrag a).ren τ = eFrag a := ren_flat τ (eFrag_flat a)
theorem ofFrag {cs : List Value} (h : Flat [some .i64, some .i64, some .u8, some .i64, some .i64, some .i64, some .i64, some .u8, some .u8, some .u8, some .u8] cs) : ∃ a : TFrag, wFrag a ∧ ∀ lam, cellsA lam (eFrag a) = cs := by
  obtain ⟨x0, r0, rfl, k0, h⟩ := h
  obtain ⟨x1, r1, rfl, k1, h⟩ := h
  obtain ⟨x2, r2, rfl, k2, h⟩ := h
  obtain ⟨x3, r3, rfl, k3, h⟩ := h
  obtain ⟨x4, r4, rfl, k4, h⟩ := h
  obtain ⟨x5, r5, rfl, k5, h⟩ := h
  obtain ⟨x6, r6, rfl, k6, h⟩ := h
  obtain ⟨x7, r7, rfl, k7, h⟩ := h
  obtain ⟨x8, r8, rfl, k8, h⟩ := h
  obtain ⟨x9, r9, rfl, k9, h⟩ := h
  obtain ⟨x10, r10, rfl, k10, h⟩ := h
  cases h
  have k0 := has_i64 k0
  have k1 := has_i64 k1
  have k2 := has_u8 k2
  have k3 := has_i64 k3
  have k4 := has_i64 k4
  have k5 := has_i64 k5
  have k6 := has_i64 k6
  have k7 := has_u8 k7
  have k8 := has_u8 k8
  have k9 := has_u8 k9
  have k10 := has_u8 k10
  exact ⟨⟨x0, x1, x2, ⟨x3, x4, x5, x6⟩, ⟨x7, x8, x9, x10⟩⟩, by simp [wFrag, wKey, wColour, *], fun lam => rfl⟩
structure TPeelpixel where
  x : Int
  y : Int
  deriving Inhabited
def ePeelpixel (a : TPeelpixel) : AV := .agg [.int .i64 a.x, .int .i64 a.y]
theorem ePeelpixel_eq (a : TPeelpixel) : ePeelpixel a = .agg [.int .i64 a.x, .int .i64 a.y] := rfl
def wPeelpixel (a : TPeelpixel) : Prop := (-9223372036854775808 ≤ a.x ∧ a.x ≤ 9223372036854775807) ∧ (-9223372036854775808 ≤ a.y ∧ a.y ≤ 9223372036854775807)
theorem ePeelpixel_size (a : TPeelpixel) : (ePeelpixel a).size = 2 := rfl
theorem ePeelpixel_tup (a : TPeelpixel) : (ePeelpixel a).isTup = false := rfl
theorem ePeelpixel_flat (a : TPeelpixel) : flatB (ePeelpixel a) = true := rfl
theorem ePeelpixel_ok (a : TPeelpixel) (lam : Lam) (n : Nat) : (ePeelpixel a).ok lam n := by
  simp [ePeelpixel, AV.ok, okL, okR, okT, AV.isTup, AV.size, sizeL]
theorem lPeelpixel_ren (τ : Nat → Nat) (l : List TPeelpixel) : renL τ (l.map ePeelpixel) = l.map ePeelpixel := renL_maps ePeelpixel_flat τ l
theorem ePeelpixel_ren (τ : Nat → Nat) (a : TPeelpixel) : (ePeelpixel a).ren τ = ePeelpixel a := ren_flat τ (ePeelpixel_flat a)
theorem ofPeelpixel {cs : List Value} (h : Flat [some .i64, some .i64] cs) : ∃ a : TPeelpixel, wPeelpixel a ∧ ∀ lam, cellsA lam (ePeelpixel a) = cs := by
  obtain ⟨x0, r0, rfl, k0, h⟩ := h
  obtain ⟨x1, r1, rfl, k1, h⟩ := h
  cases h
  have k0 := has_i64 k0
  have k1 := has_i64 k1
  exact ⟨⟨x0, x1⟩, by simp [wPeelpixel, *], fun lam => rfl⟩
structure TPeellast where
  is : Bool
  k : TKey
  deriving Inhabited
def ePeellast (a : TPeellast) : AV := .agg [.bool a.is, eKey a.k]
theorem ePeellast_eq (a : TPeellast) : ePeellast a = .agg [.bool a.is, eKey a.k] := rfl
def wPeellast (a : TPeellast) : Prop := wKey a.k
theorem ePeellast_size (a : TPeellast) : (ePeellast a).size = 5 := rfl
theorem ePeellast_tup (a : TPeellast) : (ePeellast a).isTup = false := rfl
theorem ePeellast_flat (a : TPeellast) : flatB (ePeellast a) = true := rfl
theorem ePeellast_ok (a : TPeellast) (lam : Lam) (n : Nat) : (ePeellast a).ok lam n := by
  simp [ePeellast, eKey, AV.ok, okL, okR, okT, AV.isTup, AV.size, sizeL]
theorem lPeellast_ren (τ : Nat → Nat) (l : List TPeellast) : renL τ (l.map ePeellast) = l.map ePeellast := renL_maps ePeellast_flat τ l
theorem ePeellast_ren (τ : Nat → Nat) (a : TPeellast) : (ePeellast a).ren τ = ePeellast a := ren_flat τ (ePeellast_flat a)
theorem ofPeellast {cs : List Value} (h : Flat [none, some .i64, some .i64, some .i64, some .i64] cs) : ∃ a : TPeellast, wPeellast a ∧ ∀ lam, cellsA lam (ePeellast a) = cs := by
  obtain ⟨x0, r0, rfl, h⟩ := h
  obtain ⟨x1, r1, rfl, k1, h⟩ := h
  obtain ⟨x2, r2, rfl, k2, h⟩ := h
  obtain ⟨x3, r3, rfl, k3, h⟩ := h
  obtain ⟨x4, r4, rfl, k4, h⟩ := h
  cases h
  have k1 := has_i64 k1
  have k2 := has_i64 k2
  have k3 := has_i64 k3
  have k4 := has_i64 k4
  exact ⟨⟨x0, ⟨x1, x2, x3, x4⟩⟩, by simp [wPeellast, wKey, *], fun lam => rfl⟩
end Go.Proofs.Ytcmacobhnpgpaaa
