/-
  The flat struct types of the seat, as structures (written by mty.py off the translation).
-/
import Derived.Test.YtimolomjpmkbiaaYz
import Derived.Test.YtimolomjpmkbiaaMz
import Derived.Test.YtimolomjpmkbiaaLb
set_option linter.unusedVariables false
set_option linter.unusedSimpArgs false
set_option maxRecDepth 10000
namespace Go.Proofs.Ytimolomjpmkbiaa
open Go.Y
structure TPoint where
  x : Int
  y : Int
  z : Int
  a0 : Int
  a1 : Int
  a2 : Int
  a3 : Int
  deriving Inhabited
def ePoint (a : TPoint) : AV := .agg [.int .i64 a.x, .int .i64 a.y, .int .i64 a.z, .rows 1 [.int .i64 a.a0, .int .i64 a.a1, .int .i64 a.a2, .int .i64 a.a3]]
theorem ePoint_eq (a : TPoint) : ePoint a = .agg [.int .i64 a.x, .int .i64 a.y, .int .i64 a.z, .rows 1 [.int .i64 a.a0, .int .i64 a.a1, .int .i64 a.a2, .int .i64 a.a3]] := rfl
def wPoint (a : TPoint) : Prop := (-9223372036854775808 ≤ a.x ∧ a.x ≤ 9223372036854775807) ∧ (-9223372036854775808 ≤ a.y ∧ a.y ≤ 9223372036854775807) ∧ (-9223372036854775808 ≤ a.z ∧ a.z ≤ 9223372036854775807) ∧ (-9223372036854775808 ≤ a.a0 ∧ a.a0 ≤ 9223372036854775807) ∧ (-9223372036854775808 ≤ a.a1 ∧ a.a1 ≤ 9223372036854775807) ∧ (-9223372036854775808 ≤ a.a2 ∧ a.a2 ≤ 9223372036854775807) ∧ (-9223372036854775808 ≤ a.a3 ∧ a.a3 ≤ 9223372036854775807)
theorem ePoint_size (a : TPoint) : (ePoint a).size = 7 := rfl
theorem ePoint_tup (a : TPoint) : (ePoint a).isTup = false := rfl
theorem ePoint_flat (a : TPoint) : flatB (ePoint a) = true := rfl
theorem ePoint_ok (a : TPoint) (lam : Lam) (n : Nat) : (ePoint a).ok lam n := by
  simp [ePoint, AV.ok, okL, okR, okT, AV.isTup, AV.size, sizeL]
theorem lPoint_ren (τ : Nat → Nat) (l : List TPoint) : renL τ (l.map ePoint) = l.map ePoint := renL_maps ePoint_flat τ l
theorem ePoint_ren (τ : Nat → Nat) (a : TPoint) : (ePoint a).ren τ = ePoint a := ren_flat τ (ePoint_flat a)
theorem ofPoint {cs : List Value} (h : Flat [some .i64, some .i64, some .i64, some .i64, some .i64, some .i64, some .i64] cs) : ∃ a : TPoint, wPoint a ∧ ∀ lam, cellsA lam (ePoint a) = cs := by
  obtain ⟨x0, r0, rfl, k0, h⟩ := h
  obtain ⟨x1, r1, rfl, k1, h⟩ := h
  obtain ⟨x2, r2, rfl, k2, h⟩ := h
  obtain ⟨x3, r3, rfl, k3, h⟩ := h
  obtain ⟨x4, r4, rfl, k4, h⟩ := h
  obtain ⟨x5, r5, rfl, k5, h⟩ := h
  obtain ⟨x6, r6, rfl, k6, h⟩ := h
  cases h
  have k0 := has_i64 k0
  have k1 := has_i64 k1
  have k2 := has_i64 k2
  have k3 := has_i64 k3
  have k4 := has_i64 k4
  have k5 := has_i64 k5
  have k6 := has_i64 k6
  exact ⟨⟨x0, x1, x2, x3, x4, x5, x6⟩, by simp [wPoint, *], fun lam => rfl⟩
structure TKey where
  z : Int
  draw : Int
  tri : Int
  part : Int
  deriving Inhabited
def eKey (a : TKey) : AV := .agg [.int .i64 a.z, .int .i64 a.draw, .int .i64 a.tri, .int .i64 a.part]
theorem eKey_eq (a : TKey) : eKey a = .agg [.int .i64 a.z, .int .i64 a.draw, .int .i64 a.tri, .int .i64 a.part] := rfl
def wKey (a : TKey) : Prop := (-9223372036854775808 ≤ a.z ∧ a.z ≤ 9223372036854775807) ∧ (-9223372036854775808 ≤ a.draw ∧ a.draw ≤ 9223372036854775807) ∧ (-9223372036854775808 ≤ a.tri ∧ a.tri ≤ 9223372036854775807) ∧ (-9223372036854775808 ≤ a.part ∧ a.part ≤ 9223372036854775807)
theorem eKey_size (a : TKey) : (eKey a).size = 4 := rfl
theorem eKey_tup (a : TKey) : (eKey a).isTup = false := rfl
theorem eKey_flat (a : TKey) : flatB (eKey a) = true := rfl
theorem eKey_ok (a : TKey) (lam : Lam) (n : Nat) : (eKey a).ok lam n := by
  simp [eKey, AV.ok, okL, okR, okT, AV.isTup, AV.size, sizeL]
theorem lKey_ren (τ : Nat → Nat) (l : List TKey) : renL τ (l.map eKey) = l.map eKey := renL_maps eKey_flat τ l
theorem eKey_ren (τ : Nat → Nat) (a : TKey) : (eKey a).ren τ = eKey a := ren_flat τ (eKey_flat a)
theorem ofKey {cs : List Value} (h : Flat [some .i64, some .i64, some .i64, some .i64] cs) : ∃ a : TKey, wKey a ∧ ∀ lam, cellsA lam (eKey a) = cs := by
  obtain ⟨x0, r0, rfl, k0, h⟩ := h
  obtain ⟨x1, r1, rfl, k1, h⟩ := h
  obtain ⟨x2, r2, rfl, k2, h⟩ := h
  obtain ⟨x3, r3, rfl, k3, h⟩ := h
  cases h
  have k0 := has_i64 k0
  have k1 := has_i64 k1
  have k2 := has_i64 k2
  have k3 := has_i64 k3
  exact ⟨⟨x0, x1, x2, x3⟩, by simp [wKey, *], fun lam => rfl⟩
structure TColour where
  r : Int
  g : Int
  b : Int
  a : Int
  deriving Inhabited
def eColour (a : TColour) : AV := .agg [.int .u8 a.r, .int .u8 a.g, .int .u8 a.b, .int .u8 a.a]
theorem eColour_eq (a : TColour) : eColour a = .agg [.int .u8 a.r, .int .u8 a.g, .int .u8 a.b, .int .u8 a.a] := rfl
def wColour (a : TColour) : Prop := (0 ≤ a.r ∧ a.r ≤ 255) ∧ (0 ≤ a.g ∧ a.g ≤ 255) ∧ (0 ≤ a.b ∧ a.b ≤ 255) ∧ (0 ≤ a.a ∧ a.a ≤ 255)
theorem eColour_size (a : TColour) : (eColour a).size = 4 := rfl
theorem eColour_tup (a : TColour) : (eColour a).isTup = false := rfl
theorem eColour_flat (a : TColour) : flatB (eColour a) = true := rfl
theorem eColour_ok (a : TColour) (lam : Lam) (n : Nat) : (eColour a).ok lam n := by
  simp [eColour, AV.ok, okL, okR, okT, AV.isTup, AV.size, sizeL]
theorem lColour_ren (τ : Nat → Nat) (l : List TColour) : renL τ (l.map eColour) = l.map eColour := renL_maps eColour_flat τ l
theorem eColour_ren (τ : Nat → Nat) (a : TColour) : (eColour a).ren τ = eColour a := ren_flat τ (eColour_flat a)
theorem ofColour {cs : List Value} (h : Flat [some .u8, some .u8, some .u8, some .u8] cs) : ∃ a : TColour, wColour a ∧ ∀ lam, cellsA lam (eColour a) = cs := by
  obtain ⟨x0, r0, rfl, k0, h⟩ := h
  obtain ⟨x1, r1, rfl, k1, h⟩ := h
  obtain ⟨x2, r2, rfl, k2, h⟩ := h
  obtain ⟨x3, r3, rfl, k3, h⟩ := h
  cases h
  have k0 := has_u8 k0
  have k1 := has_u8 k1
  have k2 := has_u8 k2
  have k3 := has_u8 k3
  exact ⟨⟨x0, x1, x2, x3⟩, by simp [wColour, *], fun lam => rfl⟩
structure TFrag where
  x : Int
  y : Int
  mask : Int
  key : TKey
  c : TColour
  deriving Inhabited
def eFrag (a : TFrag) : AV := .agg [.int .i64 a.x, .int .i64 a.y, .int .u8 a.mask, eKey a.key, eColour a.c]
theorem eFrag_eq (a : TFrag) : eFrag a = .agg [.int .i64 a.x, .int .i64 a.y, .int .u8 a.mask, eKey a.key, eColour a.c] := rfl
def wFrag (a : TFrag) : Prop := (-9223372036854775808 ≤ a.x ∧ a.x ≤ 9223372036854775807) ∧ (-9223372036854775808 ≤ a.y ∧ a.y ≤ 9223372036854775807) ∧ (0 ≤ a.mask ∧ a.mask ≤ 255) ∧ wKey a.key ∧ wColour a.c
theorem eFrag_size (a : TFrag) : (eFrag a).size = 11 := rfl
theorem eFrag_tup (a : TFrag) : (eFrag a).isTup = false := rfl
theorem eFrag_flat (a : TFrag) : flatB (eFrag a) = true := rfl
theorem eFrag_ok (a : TFrag) (lam : Lam) (n : Nat) : (eFrag a).ok lam n := by
  simp [eFrag, eKey, eColour, AV.ok, okL, okR, okT, AV.isTup, AV.size, sizeL]
theorem lFrag_ren (τ : Nat → Nat) (l : List TFrag) : renL τ (l.map eFrag) = l.map eFrag := renL_maps eFrag_flat τ l
theorem eFrag_ren (τ : Nat → Nat) (a : TFrag) : (eFrag a).ren τ = eFrag a := ren_flat τ (eFrag_flat a)
theorem ofFrag {cs : List Value} (h : Flat [some .i64, some .i64, some .u8, some .i64, some .i64, some .i64, some .i64, some .u8, some .u8, some .u8, some .u8] cs) : ∃ a : TFrag, wFrag a ∧ ∀ lam, cellsA lam (eFrag a) = cs := by
  obtain ⟨x0, r0, rfl, k0, h⟩ := h
  obtain ⟨x1, r1, rfl, k1, h⟩ := h
  obtain ⟨x2, r2, rfl, k2, h⟩ := h
  obtain ⟨x3, r3, rfl, k3, h⟩ := h
  obtain ⟨x4, r4, rfl, k4, h⟩ := h
  obtain ⟨x5, r5, rfl, k5, h⟩ := h
  obtain ⟨x6, r6, rfl, k6, h⟩ := h
  obtain ⟨x7, r7, rfl, k7, h⟩ := h
  obtain ⟨x8, r8, rfl, k8, h⟩ := h
  obtain ⟨x9, r9, rfl, k9, h⟩ := h
  obtain ⟨x10, r10, rfl, k10, h⟩ := h
  cases h
  have k0 := has_i64 k0
  have k1 := has_i64 k1
  have k2 := has_u8 k2
  have k3 := has_i64 k3
  have k4 := has_i64 k4
  have k5 := has_i64 k5
  have k6 := has_i64 k6
  have k7 := has_u8 k7
  have k8 := has_u8 k8
  have k9 := has_u8 k9
  have k10 := has_u8 k10
  exact ⟨⟨x0, x1, x2, ⟨x3, x4, x5, x6⟩, ⟨x7, x8, x9, x10⟩⟩, by simp [wFrag, wKey, wColour, *], fun lam => rfl⟩
structure TBase where
  is : Bool
  key : TKey
  c : TColour
  deriving Inhabited
def eBase (a : TBase) : AV := .agg [.bool a.is, eKey a.key, eColour a.c]
theorem eBase_eq (a : TBase) : eBase a = .agg [.bool a.is, eKey a.key, eColour a.c] := rfl
def wBase (a : TBase) : Prop := wKey a.key ∧ wColour a.c
theorem eBase_size (a : TBase) : (eBase a).size = 9 := rfl
theorem eBase_tup (a : TBase) : (eBase a).isTup = false := rfl
theorem eBase_flat (a : TBase) : flatB (eBase a) = true := rfl
theorem eBase_ok (a : TBase) (lam : Lam) (n : Nat) : (eBase a).ok lam n := by
  simp [eBase, eKey, eColour, AV.ok, okL, okR, okT, AV.isTup, AV.size, sizeL]
theorem lBase_ren (τ : Nat → Nat) (l : List TBase) : renL τ (l.map eBase) = l.map eBase := renL_maps eBase_flat τ l
theorem eBase_ren (τ : Nat → Nat) (a : TBase) : (eBase a).ren τ = eBase a := ren_flat τ (eBase_flat a)
theorem ofBase {cs : List Value} (h : Flat [none, some .i64, some .i64, some .i64, some .i64, some .u8, some .u8, some .u8, some .u8] cs) : ∃ a : TBase, wBase a ∧ ∀ lam, cellsA lam (eBase a) = cs := by
  obtain ⟨x0, r0, rfl, h⟩ := h
  obtain ⟨x1, r1, rfl, k1, h⟩ := h
  obtain ⟨x2, r2, rfl, k2, h⟩ := h
  obtain ⟨x3, r3, rfl, k3, h⟩ := h
  obtain ⟨x4, r4, rfl, k4, h⟩ := h
  obtain ⟨x5, r5, rfl, k5, h⟩ := h
  obtain ⟨x6, r6, rfl, k6, h⟩ := h
  obtain ⟨x7, r7, rfl, k7, h⟩ := h
  obtain ⟨x8, r8, rfl, k8, h⟩ := h
  cases h
  have k1 := has_i64 k1
  have k2 := has_i64 k2
  have k3 := has_i64 k3
  have k4 := has_i64 k4
  have k5 := has_u8 k5
  have k6 := has_u8 k6
  have k7 := has_u8 k7
  have k8 := has_u8 k8
  exact ⟨⟨x0, ⟨x1, x2, x3, x4⟩, ⟨x5, x6, x7, x8⟩⟩, by simp [wBase, wKey, wColour, *], fun lam => rfl⟩
structure TPrepasspixel where
  x : Int
  y : Int
  deriving Inhabited
def ePrepasspixel (a : TPrepasspixel) : AV := .agg [.int .i64 a.x, .int .i64 a.y]
theorem ePrepasspixel_eq (a : TPrepasspixel) : ePrepasspixel a = .agg [.int .i64 a.x, .int .i64 a.y] := rfl
def wPrepasspixel (a : TPrepasspixel) : Prop := (-9223372036854775808 ≤ a.x ∧ a.x ≤ 9223372036854775807) ∧ (-9223372036854775808 ≤ a.y ∧ a.y ≤ 9223372036854775807)
theorem ePrepasspixel_size (a : TPrepasspixel) : (ePrepasspixel a).size = 2 := rfl
theorem ePrepasspixel_tup (a : TPrepasspixel) : (ePrepasspixel a).isTup = false := rfl
theorem ePrepasspixel_flat (a : TPrepasspixel) : flatB (ePrepasspixel a) = true := rfl
theorem ePrepasspixel_ok (a : TPrepasspixel) (lam : Lam) (n : Nat) : (ePrepasspixel a).ok lam n := by
  simp [ePrepasspixel, AV.ok, okL, okR, okT, AV.isTup, AV.size, sizeL]
theorem lPrepasspixel_ren (τ : Nat → Nat) (l : List TPrepasspixel) : renL τ (l.map ePrepasspixel) = l.map ePrepasspixel := renL_maps ePrepasspixel_flat τ l
theorem ePrepasspixel_ren (τ : Nat → Nat) (a : TPrepasspixel) : (ePrepasspixel a).ren τ = ePrepasspixel a := ren_flat τ (ePrepasspixel_flat a)
theorem ofPrepasspixel {cs : List Value} (h : Flat [some .i64, some .i64] cs) : ∃ a : TPrepasspixel, wPrepasspixel a ∧ ∀ lam, cellsA lam (ePrepasspixel a) = cs := by
  obtain ⟨x0, r0, rfl, k0, h⟩ := h
  obtain ⟨x1, r1, rfl, k1, h⟩ := h
  cases h
  have k0 := has_i64 k0
  have k1 := has_i64 k1
  exact ⟨⟨x0, x1⟩, by simp [wPrepasspixel, *], fun lam => rfl⟩
end Go.Proofs.Ytimolomjpmkbiaa
