/-
  The flat struct types of the seat, as structures (written by mty.py off the translation).
-/
import Derived.Test.YtbkmhkeihbgcfaaYz
import Derived.Test.YtbkmhkeihbgcfaaMz
import Derived.Test.YtbkmhkeihbgcfaaLb
set_option linter.unusedVariables false
set_option linter.unusedSimpArgs false
set_option maxRecDepth 10000
namespace Go.Proofs.Ytbkmhkeihbgcfaa
open Go.Y
structure T17Op where
  kind : Int
  n : Int
  x : Int
  deriving Inhabited
def e17Op (a : T17Op) : AV := .agg [.int .u8 a.kind, .int .u8 a.n, .int .i64 a.x]
theorem e17Op_eq (a : T17Op) : e17Op a = .agg [.int .u8 a.kind, .int .u8 a.n, .int .i64 a.x] := rfl
def w17Op (a : T17Op) : Prop := (0 ≤ a.kind ∧ a.kind ≤ 255) ∧ (0 ≤ a.n ∧ a.n ≤ 255) ∧ (-9223372036854775808 ≤ a.x ∧ a.x ≤ 9223372036854775807)
theorem e17Op_size (a : T17Op) : (e17Op a).size = 3 := rfl
theorem e17Op_tup (a : T17Op) : (e17Op a).isTup = false := rfl
theorem e17Op_flat (a : T17Op) : flatB (e17Op a) = true := rfl
theorem e17Op_ok (a : T17Op) (lam : Lam) (n : Nat) : (e17Op a).ok lam n := by
  simp [e17Op, AV.ok, okL, okR, okT, AV.isTup, AV.size, sizeL]
theorem l17Op_ren (τ : Nat → Nat) (l : List T17Op) : renL τ (l.map e17Op) = l.map e17Op := renL_maps e17Op_flat τ l
theorem e17Op_ren (τ : Nat → Nat) (a : T17Op) : (e17Op a).ren τ = e17Op a := ren_flat τ (e17Op_flat a)
theorem of17Op {cs : List Value} (h : Flat [some .u8, some .u8, some .i64] cs) : ∃ a : T17Op, w17Op a ∧ ∀ lam, cellsA lam (e17Op a) = cs := by
  obtain ⟨x0, r0, rfl, k0, h⟩ := h
  obtain ⟨x1, r1, rfl, k1, h⟩ := h
  obtain ⟨x2, r2, rfl, k2, h⟩ := h
  cases h
  have k0 := has_u8 k0
  have k1 := has_u8 k1
  have k2 := has_i64 k2
  exact ⟨⟨x0, x1, x2⟩, by simp [w17Op, *], fun lam => rfl⟩
structure TKey where
  z : Int
  draw : Int
  tri : Int
  part : Int
  deriving Inhabited
def eKey (a : TKey) : AV := .agg [.int .i64 a.z, .int .i64 a.draw, .int .i64 a.tri, .int .i64 a.part]
theorem eKey_eq (a : TKey) : eKey a = .agg [.int .i64 a.z, .int .i64 a.draw, .int .i64 a.tri, .int .i64 a.part] := rfl
def wKey (a : TKey) : Prop := (-9223372036854775808 ≤ a.z ∧ a.z ≤ 9223372036854775807) ∧ (-9223372036854775808 ≤ a.draw ∧ a.draw ≤ 9223372036854775807) ∧ (-9223372036854775808 ≤ a.tri ∧ a.tri ≤ 9223372036854775807) ∧ (-9223372036854775808 ≤ a.part ∧ a.part ≤ 9223372036854775807)
theorem eKey_size (a : TKey) : (eKey a).size = 4 := rfl
theorem eKey_tup (a : TKey) : (eKey a).isTup = false := rfl
theorem eKey_flat (a : TKey) : flatB (eKey a) = true := rfl
theorem eKey_ok (a : TKey) (lam : Lam) (n : Nat) : (eKey a).ok lam n := by
  simp [eKey, AV.ok, okL, okR, okT, AV.isTup, AV.size, sizeL]
theorem lKey_ren (τ : Nat → Nat) (l : List TKey) : renL τ (l.map eKey) = l.map eKey := renL_maps eKey_flat τ l
theorem eKey_ren (τ : Nat → Nat) (a : TKey) : (eKey a).ren τ = eKey a := ren_flat τ (eKey_flat a)
theorem ofKey {cs : List Value} (h : Flat [some .i64, some .i64, some .i64, some .i64] cs) : ∃ a : TKey, wKey a ∧ ∀ lam, cellsA lam (eKey a) = cs := by
  obtain ⟨x0, r0, rfl, k0, h⟩ := h
  obtain ⟨x1, r1, rfl, k1, h⟩ := h
  obtain ⟨x2, r2, rfl, k2, h⟩ := h
  obtain ⟨x3, r3, rfl, k3, h⟩ := h
  cases h
  have k0 := has_i64 k0
  have k1 := has_i64 k1
  have k2 := has_i64 k2
  have k3 := has_i64 k3
  exact ⟨⟨x0, x1, x2, x3⟩, by simp [wKey, *], fun lam => rfl⟩
structure TColour where
  r : Int
  g : Int
  b : Int
  a : Int
  deriving Inhabited
def eColour (a : TColour) : AV := .agg [.int .u8 a.r, .int .u8 a.g, .int .u8 a.b, .int .u8 a.a]
theorem eColour_eq (a : TColour) : eColour a = .agg [.int .u8 a.r, .int .u8 a.g, .int .u8 a.b, .int .u8 a.a] := rfl
def wColour (a : TColour) : Prop := (0 ≤ a.r ∧ a.r ≤ 255) ∧ (0 ≤ a.g ∧ a.g ≤ 255) ∧ (0 ≤ a.b ∧ a.b ≤ 255) ∧ (0 ≤ a.a ∧ a.a ≤ 255)
theorem eColour_size (a : TColour) : (eColour a).size = 4 := rfl
theorem eColour_tup (a : TColour) : (eColour a).isTup = false := rfl
theorem eColour_flat (a : TColour) : flatB (eColour a) = true := rfl
theorem eColour_ok (a : TColour) (lam : Lam) (n : Nat) : (eColour a).ok lam n := by
  simp [eColour, AV.ok, okL, okR, okT, AV.isTup, AV.size, sizeL]
theorem lColour_ren (τ : Nat → Nat) (l : List TColour) : renL τ (l.map eColour) = l.map eColour := renL_maps eColour_flat τ l
theorem eColour_ren (τ : Nat → Nat) (a : TColour) : (eColour a).ren τ = eColour a := ren_flat τ (eColour_flat a)
theorem ofColour {cs : List Value} (h : Flat [some .u8, some .u8, some .u8, some .u8] cs) : ∃ a : TColour, wColour a ∧ ∀ lam, cellsA lam (eColour a) = cs := by
  obtain ⟨x0, r0, rfl, k0, h⟩ := h
  obtain ⟨x1, r1, rfl, k1, h⟩ := h
  obtain ⟨x2, r2, rfl, k2, h⟩ := h
  obtain ⟨x3, r3, rfl, k3, h⟩ := h
  cases h
  have k0 := has_u8 k0
  have k1 := has_u8 k1
  have k2 := has_u8 k2
  have k3 := has_u8 k3
  exact ⟨⟨x0, x1, x2, x3⟩, by simp [wColour, *], fun lam => rfl⟩
structure TFrag where
  x : Int
  y : Int
  mask : Int
  key : TKey
  c : TColour
  deriving Inhabited
def eFrag (a : TFrag) : AV := .agg [.int .i64 a.x, .int .i64 a.y, .int .u8 a.mask, eKey a.key, eColour a.c]
theorem eFrag_eq (a : TFrag) : eFrag a = .agg [.int .i64 a.x, .int .i64 a.y, .int .u8 a.mask, eKey a.key, eColour a.c] := rfl
def wFrag (a : TFrag) : Prop := (-9223372036854775808 ≤ a.x ∧ a.x ≤ 9223372036854775807) ∧ (-9223372036854775808 ≤ a.y ∧ a.y ≤ 9223372036854775807) ∧ (0 ≤ a.mask ∧ a.mask ≤ 255) ∧ wKey a.key ∧ wColour a.c
theorem eFrag_size (a : TFrag) : (eFrag a).size = 11 := rfl
theorem eFrag_tup (a : TFrag) : (eFrag a).isTup = false := rfl
theorem eFrag_flat (a : TFrag) : flatB (eFrag a) = true := rfl
theorem eFrag_ok (a : TFrag) (lam : Lam) (n : Nat) : (eFrag a).ok lam n := by
  simp [eFrag, eKey, eColour, AV.ok, okL, okR, okT, AV.isTup, AV.size, sizeL]
theorem lFrag_ren (τ : Nat → Nat) (l : List TFrag) : renL τ (l.map eFrag) = l.map eFrag := renL_maps eFrag_flat τ l
theorem eFrag_ren (τ : Nat → Nat) (a : TFrag) : (eFrag a).ren τ = eFrag a := ren_flat τ (eFrag_flat a)
theorem ofFrag {cs : List Value} (h : Flat [some .i64, some .i64, some .u8, some .i64, some .i64, some .i64, some .i64, some .u8, some .u8, some .u8, some .u8] cs) : ∃ a : TFrag, wFrag a ∧ ∀ lam, cellsA lam (eFrag a) = cs := by
  obtain ⟨x0, r0, rfl, k0, h⟩ := h
  obtain ⟨x1, r1, rfl, k1, h⟩ := h
  obtain ⟨x2, r2, rfl, k2, h⟩ := h
  obtain ⟨x3, r3, rfl, k3, h⟩ := h
  obtain ⟨x4, r4, rfl, k4, h⟩ := h
  obtain ⟨x5, r5, rfl, k5, h⟩ := h
  obtain ⟨x6, r6, rfl, k6, h⟩ := h
  obtain ⟨x7, r7, rfl, k7, h⟩ := h
  obtain ⟨x8, r8, rfl, k8, h⟩ := h
  obtain ⟨x9, r9, rfl, k9, h⟩ := h
  obtain ⟨x10, r10, rfl, k10, h⟩ := h
  cases h
  have k0 := has_i64 k0
  have k1 := has_i64 k1
  have k2 := has_u8 k2
  have k3 := has_i64 k3
  have k4 := has_i64 k4
  have k5 := has_i64 k5
  have k6 := has_i64 k6
  have k7 := has_u8 k7
  have k8 := has_u8 k8
  have k9 := has_u8 k9
  have k10 := has_u8 k10
  exact ⟨⟨x0, x1, x2, ⟨x3, x4, x5, x6⟩, ⟨x7, x8, x9, x10⟩⟩, by simp [wFrag, wKey, wColour, *], fun lam => rfl⟩
structure T19Op where
  kind : Int
  f : TFrag
  deriving Inhabited
def e19Op (a : T19Op) : AV := .agg [.int .u8 a.kind, eFrag a.f]
theorem e19Op_eq (a : T19Op) : e19Op a = .agg [.int .u8 a.kind, eFrag a.f] := rfl
def w19Op (a : T19Op) : Prop := (0 ≤ a.kind ∧ a.kind ≤ 255) ∧ wFrag a.f
theorem e19Op_size (a : T19Op) : (e19Op a).size = 12 := rfl
theorem e19Op_tup (a : T19Op) : (e19Op a).isTup = false := rfl
theorem e19Op_flat (a : T19Op) : flatB (e19Op a) = true := rfl
theorem e19Op_ok (a : T19Op) (lam : Lam) (n : Nat) : (e19Op a).ok lam n := by
  simp [e19Op, eFrag, eKey, eColour, AV.ok, okL, okR, okT, AV.isTup, AV.size, sizeL]
theorem l19Op_ren (τ : Nat → Nat) (l : List T19Op) : renL τ (l.map e19Op) = l.map e19Op := renL_maps e19Op_flat τ l
theorem e19Op_ren (τ : Nat → Nat) (a : T19Op) : (e19Op a).ren τ = e19Op a := ren_flat τ (e19Op_flat a)
theorem of19Op {cs : List Value} (h : Flat [some .u8, some .i64, some .i64, some .u8, some .i64, some .i64, some .i64, some .i64, some .u8, some .u8, some .u8, some .u8] cs) : ∃ a : T19Op, w19Op a ∧ ∀ lam, cellsA lam (e19Op a) = cs := by
  obtain ⟨x0, r0, rfl, k0, h⟩ := h
  obtain ⟨x1, r1, rfl, k1, h⟩ := h
  obtain ⟨x2, r2, rfl, k2, h⟩ := h
  obtain ⟨x3, r3, rfl, k3, h⟩ := h
  obtain ⟨x4, r4, rfl, k4, h⟩ := h
  obtain ⟨x5, r5, rfl, k5, h⟩ := h
  obtain ⟨x6, r6, rfl, k6, h⟩ := h
  obtain ⟨x7, r7, rfl, k7, h⟩ := h
  obtain ⟨x8, r8, rfl, k8, h⟩ := h
  obtain ⟨x9, r9, rfl, k9, h⟩ := h
  obtain ⟨x10, r10, rfl, k10, h⟩ := h
  obtain ⟨x11, r11, rfl, k11, h⟩ := h
  cases h
  have k0 := has_u8 k0
  have k1 := has_i64 k1
  have k2 := has_i64 k2
  have k3 := has_u8 k3
  have k4 := has_i64 k4
  have k5 := has_i64 k5
  have k6 := has_i64 k6
  have k7 := has_i64 k7
  have k8 := has_u8 k8
  have k9 := has_u8 k9
  have k10 := has_u8 k10
  have k11 := has_u8 k11
  exact ⟨⟨x0, ⟨x1, x2, x3, ⟨x4, x5, x6, x7⟩, ⟨x8, x9, x10, x11⟩⟩⟩, by simp [w19Op, wFrag, wKey, wColour, *], fun lam => rfl⟩
structure TAbuffertile where
  x0 : Int
  y0 : Int
  x1 : Int
  y1 : Int
  deriving Inhabited
def eAbuffertile (a : TAbuffertile) : AV := .agg [.int .i64 a.x0, .int .i64 a.y0, .int .i64 a.x1, .int .i64 a.y1]
theorem eAbuffertile_eq (a : TAbuffertile) : eAbuffertile a = .agg [.int .i64 a.x0, .int .i64 a.y0, .int .i64 a.x1, .int .i64 a.y1] := rfl
def wAbuffertile (a : TAbuffertile) : Prop := (-9223372036854775808 ≤ a.x0 ∧ a.x0 ≤ 9223372036854775807) ∧ (-9223372036854775808 ≤ a.y0 ∧ a.y0 ≤ 9223372036854775807) ∧ (-9223372036854775808 ≤ a.x1 ∧ a.x1 ≤ 9223372036854775807) ∧ (-9223372036854775808 ≤ a.y1 ∧ a.y1 ≤ 9223372036854775807)
theorem eAbuffertile_size (a : TAbuffertile) : (eAbuffertile a).size = 4 := rfl
theorem eAbuffertile_tup (a : TAbuffertile) : (eAbuffertile a).isTup = false := rfl
theorem eAbuffertile_flat (a : TAbuffertile) : flatB (eAbuffertile a) = true := rfl
theorem eAbuffertile_ok (a : TAbuffertile) (lam : Lam) (n : Nat) : (eAbuffertile a).ok lam n := by
  simp [eAbuffertile, AV.ok, okL, okR, okT, AV.isTup, AV.size, sizeL]
theorem lAbuffertile_ren (τ : Nat → Nat) (l : List TAbuffertile) : renL τ (l.map eAbuffertile) = l.map eAbuffertile := renL_maps eAbuffertile_flat τ l
theorem eAbuffertile_ren (τ : Nat → Nat) (a : TAbuffertile) : (eAbuffertile a).ren τ = eAbuffertile a := ren_flat τ (eAbuffertile_flat a)
theorem ofAbuffertile {cs : List Value} (h : Flat [some .i64, some .i64, some .i64, some .i64] cs) : ∃ a : TAbuffertile, wAbuffertile a ∧ ∀ lam, cellsA lam (eAbuffertile a) = cs := by
  obtain ⟨x0, r0, rfl, k0, h⟩ := h
  obtain ⟨x1, r1, rfl, k1, h⟩ := h
  obtain ⟨x2, r2, rfl, k2, h⟩ := h
  obtain ⟨x3, r3, rfl, k3, h⟩ := h
  cases h
  have k0 := has_i64 k0
  have k1 := has_i64 k1
  have k2 := has_i64 k2
  have k3 := has_i64 k3
  exact ⟨⟨x0, x1, x2, x3⟩, by simp [wAbuffertile, *], fun lam => rfl⟩
end Go.Proofs.Ytbkmhkeihbgcfaa
