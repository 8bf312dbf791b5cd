/-
  No cell of these rows narrows 'for every input' (looked for: loops, veiled, ifaces, maps, wideKeys, modest, calm, conditions, laid).
  DERIVED. THE GIVEN ROWS OF THIS SEAT. 10 by the template 'for every input the law returns true; each argument reads behind the call as it read before'; 0 by the template 'total and deterministic' (their statements: YtcmacobhnpgpaaaTotals.lean).
  GIVEN WITH THE SEED: the statements are not yours to turn. If you find one false, say at which input.
  Laid BY PROGRAM, IN A SANDBOX (cutbox-rows.mjs): the forced cells as the released guide's own fill.sh prints them over the translation 1284a64b1dfffcfe… (all of the seat's roots in one cut). By AI agents, Wed Nov 11 2026. No macro, syntax, notation, axiom, sorry.
-/
import Derived.Test.YtcmacobhnpgpaaaChecked
import GoSem.Claim
import GoSem.ClaimJoined
import GoSem.ClaimMapViews
import Derived.JoinedTies
import Derived.KernelRfl
namespace Go.Proofs.Ytcmacobhnpgpaaa
/- THE CELL 'sum', in the pinned program and in every row, IS THE sha256 OF THE DUMP (.gsa) THAT YtcmacobhnpgpaaaProg.lean LOADS. Nothing in Lean hashes anything: it is a label: what it is worth is what the hold of that sum in a sandbox is worth. -/
noncomputable def Try.pinned : Pinned := { name := "ytcmacobhnpgpaaa", sum := "1284a64b1dfffcfe6f2fd75d9a6c06a23a1faddf53741286a9c140227cedb191", checked := Try.checked }
namespace Rows
def none {H : Type} : Left H := { results := [], args := [] }

/-- 'glazierlaw16.KeyOrder': WHATEVER THE INPUT: true; the input reads as it did. -/
def keyOrderSpec : ChangeSpec := { name := "keyOrder", fn := fun _ => fun
  | [d] => { results := [.lit (.bool true)], args := [d] }
  | _ => none }
def keyOrderRow : OpenClaim := { program := "ytcmacobhnpgpaaa", sum := "1284a64b1dfffcfe6f2fd75d9a6c06a23a1faddf53741286a9c140227cedb191", func := "glazier/glazierlaw16.KeyOrder", spec := "keyOrder", inPlace := ["slices.overlaps[glazier/api.Frag]"], unfollowed := true, recurses := true, plainKeys := false, apart := false }
def KeyOrderSaid : Prop := keyOrderRow.holds Try.pinned (OpenSpec.ofChange keyOrderSpec)

/-- ITS FALSE NEIGHBOUR: 'it returns false'. Refute it at one input. -/
def keyOrderWrong : ChangeSpec := { name := "keyOrder", fn := fun _ => fun
  | [d] => { results := [.lit (.bool false)], args := [d] }
  | _ => none }
def KeyOrderWrongFalsely : Prop := keyOrderRow.holds Try.pinned (OpenSpec.ofChange keyOrderWrong)

/-- 'glazierlaw16.KeyTurns': WHATEVER THE INPUT: true; the input reads as it did. -/
def keyTurnsSpec : ChangeSpec := { name := "keyTurns", fn := fun _ => fun
  | [d1, d2] => { results := [.lit (.bool true)], args := [d1, d2] }
  | _ => none }
def keyTurnsRow : OpenClaim := { program := "ytcmacobhnpgpaaa", sum := "1284a64b1dfffcfe6f2fd75d9a6c06a23a1faddf53741286a9c140227cedb191", func := "glazier/glazierlaw16.KeyTurns", spec := "keyTurns", inPlace := ["slices.overlaps[glazier/api.Frag]"], unfollowed := true, recurses := true, plainKeys := false, apart := false }
def KeyTurnsSaid : Prop := keyTurnsRow.holds Try.pinned (OpenSpec.ofChange keyTurnsSpec)

/-- ITS FALSE NEIGHBOUR: 'it returns false'. Refute it at one input. -/
def keyTurnsWrong : ChangeSpec := { name := "keyTurns", fn := fun _ => fun
  | [d1, d2] => { results := [.lit (.bool false)], args := [d1, d2] }
  | _ => none }
def KeyTurnsWrongFalsely : Prop := keyTurnsRow.holds Try.pinned (OpenSpec.ofChange keyTurnsWrong)

/-- 'glazierlaw16.KeyFields': WHATEVER THE INPUT: true; the input reads as it did. -/
def keyFieldsSpec : ChangeSpec := { name := "keyFields", fn := fun _ => fun
  | [d1, d2] => { results := [.lit (.bool true)], args := [d1, d2] }
  | _ => none }
def keyFieldsRow : OpenClaim := { program := "ytcmacobhnpgpaaa", sum := "1284a64b1dfffcfe6f2fd75d9a6c06a23a1faddf53741286a9c140227cedb191", func := "glazier/glazierlaw16.KeyFields", spec := "keyFields", inPlace := ["slices.overlaps[glazier/api.Frag]"], unfollowed := true, recurses := true, plainKeys := false, apart := false }
def KeyFieldsSaid : Prop := keyFieldsRow.holds Try.pinned (OpenSpec.ofChange keyFieldsSpec)

/-- ITS FALSE NEIGHBOUR: 'it returns false'. Refute it at one input. -/
def keyFieldsWrong : ChangeSpec := { name := "keyFields", fn := fun _ => fun
  | [d1, d2] => { results := [.lit (.bool false)], args := [d1, d2] }
  | _ => none }
def KeyFieldsWrongFalsely : Prop := keyFieldsRow.holds Try.pinned (OpenSpec.ofChange keyFieldsWrong)

/-- 'glazierlaw16.KeyLeft': WHATEVER THE INPUT: true; the input reads as it did. -/
def keyLeftSpec : ChangeSpec := { name := "keyLeft", fn := fun _ => fun
  | [d1, d2] => { results := [.lit (.bool true)], args := [d1, d2] }
  | _ => none }
def keyLeftRow : OpenClaim := { program := "ytcmacobhnpgpaaa", sum := "1284a64b1dfffcfe6f2fd75d9a6c06a23a1faddf53741286a9c140227cedb191", func := "glazier/glazierlaw16.KeyLeft", spec := "keyLeft", inPlace := ["slices.overlaps[glazier/api.Frag]"], unfollowed := true, recurses := true, plainKeys := false, apart := false }
def KeyLeftSaid : Prop := keyLeftRow.holds Try.pinned (OpenSpec.ofChange keyLeftSpec)

/-- ITS FALSE NEIGHBOUR: 'it returns false'. Refute it at one input. -/
def keyLeftWrong : ChangeSpec := { name := "keyLeft", fn := fun _ => fun
  | [d1, d2] => { results := [.lit (.bool false)], args := [d1, d2] }
  | _ => none }
def KeyLeftWrongFalsely : Prop := keyLeftRow.holds Try.pinned (OpenSpec.ofChange keyLeftWrong)

/-- 'glazierlaw16.KeyCuts': WHATEVER THE INPUT: true; the input reads as it did. -/
def keyCutsSpec : ChangeSpec := { name := "keyCuts", fn := fun _ => fun
  | [d1, d2] => { results := [.lit (.bool true)], args := [d1, d2] }
  | _ => none }
def keyCutsRow : OpenClaim := { program := "ytcmacobhnpgpaaa", sum := "1284a64b1dfffcfe6f2fd75d9a6c06a23a1faddf53741286a9c140227cedb191", func := "glazier/glazierlaw16.KeyCuts", spec := "keyCuts", inPlace := ["slices.overlaps[glazier/api.Frag]"], unfollowed := true, recurses := true, plainKeys := false, apart := false }
def KeyCutsSaid : Prop := keyCutsRow.holds Try.pinned (OpenSpec.ofChange keyCutsSpec)

/-- ITS FALSE NEIGHBOUR: 'it returns false'. Refute it at one input. -/
def keyCutsWrong : ChangeSpec := { name := "keyCuts", fn := fun _ => fun
  | [d1, d2] => { results := [.lit (.bool false)], args := [d1, d2] }
  | _ => none }
def KeyCutsWrongFalsely : Prop := keyCutsRow.holds Try.pinned (OpenSpec.ofChange keyCutsWrong)

/-- 'glazierlaw16.KeyAll': WHATEVER THE INPUT: true; the input reads as it did. -/
def keyAllSpec : ChangeSpec := { name := "keyAll", fn := fun _ => fun
  | [d1, d2, d3] => { results := [.lit (.bool true)], args := [d1, d2, d3] }
  | _ => none }
def keyAllRow : OpenClaim := { program := "ytcmacobhnpgpaaa", sum := "1284a64b1dfffcfe6f2fd75d9a6c06a23a1faddf53741286a9c140227cedb191", func := "glazier/glazierlaw16.KeyAll", spec := "keyAll", inPlace := ["slices.overlaps[glazier/api.Frag]"], unfollowed := true, recurses := true, plainKeys := false, apart := false }
def KeyAllSaid : Prop := keyAllRow.holds Try.pinned (OpenSpec.ofChange keyAllSpec)

/-- ITS FALSE NEIGHBOUR: 'it returns false'. Refute it at one input. -/
def keyAllWrong : ChangeSpec := { name := "keyAll", fn := fun _ => fun
  | [d1, d2, d3] => { results := [.lit (.bool false)], args := [d1, d2, d3] }
  | _ => none }
def KeyAllWrongFalsely : Prop := keyAllRow.holds Try.pinned (OpenSpec.ofChange keyAllWrong)

/-- 'glazierlaw21.PeelAll': WHATEVER THE INPUT: true; the input reads as it did. -/
def peelAllSpec : ChangeSpec := { name := "peelAll", fn := fun _ => fun
  | [d1, d2, d3] => { results := [.lit (.bool true)], args := [d1, d2, d3] }
  | _ => none }
def peelAllRow : OpenClaim := { program := "ytcmacobhnpgpaaa", sum := "1284a64b1dfffcfe6f2fd75d9a6c06a23a1faddf53741286a9c140227cedb191", func := "glazier/glazierlaw21.PeelAll", spec := "peelAll", inPlace := ["slices.overlaps[glazier/api.Frag]"], unfollowed := true, recurses := true, plainKeys := false, apart := false }
def PeelAllSaid : Prop := peelAllRow.holds Try.pinned (OpenSpec.ofChange peelAllSpec)

/-- ITS FALSE NEIGHBOUR: 'it returns false'. Refute it at one input. -/
def peelAllWrong : ChangeSpec := { name := "peelAll", fn := fun _ => fun
  | [d1, d2, d3] => { results := [.lit (.bool false)], args := [d1, d2, d3] }
  | _ => none }
def PeelAllWrongFalsely : Prop := peelAllRow.holds Try.pinned (OpenSpec.ofChange peelAllWrong)

/-- 'glazierlaw21.PeelWhole': WHATEVER THE INPUT: true; the input reads as it did. -/
def peelWholeSpec : ChangeSpec := { name := "peelWhole", fn := fun _ => fun
  | [d1, d2] => { results := [.lit (.bool true)], args := [d1, d2] }
  | _ => none }
def peelWholeRow : OpenClaim := { program := "ytcmacobhnpgpaaa", sum := "1284a64b1dfffcfe6f2fd75d9a6c06a23a1faddf53741286a9c140227cedb191", func := "glazier/glazierlaw21.PeelWhole", spec := "peelWhole", inPlace := ["slices.overlaps[glazier/api.Frag]"], unfollowed := true, recurses := true, plainKeys := false, apart := false }
def PeelWholeSaid : Prop := peelWholeRow.holds Try.pinned (OpenSpec.ofChange peelWholeSpec)

/-- ITS FALSE NEIGHBOUR: 'it returns false'. Refute it at one input. -/
def peelWholeWrong : ChangeSpec := { name := "peelWhole", fn := fun _ => fun
  | [d1, d2] => { results := [.lit (.bool false)], args := [d1, d2] }
  | _ => none }
def PeelWholeWrongFalsely : Prop := peelWholeRow.holds Try.pinned (OpenSpec.ofChange peelWholeWrong)

/-- 'glazierlaw21.PeelTurns': WHATEVER THE INPUT: true; the input reads as it did. -/
def peelTurnsSpec : ChangeSpec := { name := "peelTurns", fn := fun _ => fun
  | [d1, d2, d3] => { results := [.lit (.bool true)], args := [d1, d2, d3] }
  | _ => none }
def peelTurnsRow : OpenClaim := { program := "ytcmacobhnpgpaaa", sum := "1284a64b1dfffcfe6f2fd75d9a6c06a23a1faddf53741286a9c140227cedb191", func := "glazier/glazierlaw21.PeelTurns", spec := "peelTurns", inPlace := ["slices.overlaps[glazier/api.Frag]"], unfollowed := true, recurses := true, plainKeys := false, apart := false }
def PeelTurnsSaid : Prop := peelTurnsRow.holds Try.pinned (OpenSpec.ofChange peelTurnsSpec)

/-- ITS FALSE NEIGHBOUR: 'it returns false'. Refute it at one input. -/
def peelTurnsWrong : ChangeSpec := { name := "peelTurns", fn := fun _ => fun
  | [d1, d2, d3] => { results := [.lit (.bool false)], args := [d1, d2, d3] }
  | _ => none }
def PeelTurnsWrongFalsely : Prop := peelTurnsRow.holds Try.pinned (OpenSpec.ofChange peelTurnsWrong)

/-- 'glazierlaw21.PeelLimits': WHATEVER THE INPUT: true; the input reads as it did. -/
def peelLimitsSpec : ChangeSpec := { name := "peelLimits", fn := fun _ => fun
  | [d1, d2] => { results := [.lit (.bool true)], args := [d1, d2] }
  | _ => none }
def peelLimitsRow : OpenClaim := { program := "ytcmacobhnpgpaaa", sum := "1284a64b1dfffcfe6f2fd75d9a6c06a23a1faddf53741286a9c140227cedb191", func := "glazier/glazierlaw21.PeelLimits", spec := "peelLimits", inPlace := ["slices.overlaps[glazier/api.Frag]"], unfollowed := true, recurses := true, plainKeys := false, apart := false }
def PeelLimitsSaid : Prop := peelLimitsRow.holds Try.pinned (OpenSpec.ofChange peelLimitsSpec)

/-- ITS FALSE NEIGHBOUR: 'it returns false'. Refute it at one input. -/
def peelLimitsWrong : ChangeSpec := { name := "peelLimits", fn := fun _ => fun
  | [d1, d2] => { results := [.lit (.bool false)], args := [d1, d2] }
  | _ => none }
def PeelLimitsWrongFalsely : Prop := peelLimitsRow.holds Try.pinned (OpenSpec.ofChange peelLimitsWrong)

/- THE SECOND FORM. 'bulk': how many values and letters a reading holds, each counted each time it is reached (what is shared counts as often as it is met; a slice's spare places count too). A statement '..UptoSaid' is the law's where the arguments, and the package variables that the reading takes, are together of bulk at most 1048576: NARROWER than '..Said'. Prove '..Said' where nothing that the law and all that it calls make is longer than what came in: it says more and counts as full. Else prove '..UptoSaid'. A law counts once. -/
mutual
def uptoBulk {H : Type} : DataW H → Nat
  | .lit (.string bytes) => bytes.length + 1
  | .lit _ => 1
  | .nil => 1
  | .ptr d => uptoBulk d + 1
  | .slice elems spare => uptoBulkAll elems + uptoBulkAll spare + 1
  | .agg parts => uptoBulkAll parts + 1
  | .iface _ d => uptoBulk d + 1
  | .map entries => uptoBulkEntries entries + 1
  | .held _ => 1
def uptoBulkAll {H : Type} : List (DataW H) → Nat
  | [] => 0
  | d :: r => uptoBulk d + uptoBulkAll r
def uptoBulkEntries {H : Type} : List (Lit × DataW H) → Nat
  | [] => 0
  | x :: r => uptoBulkEntry x + uptoBulkEntries r
def uptoBulkEntry {H : Type} : Lit × DataW H → Nat
  | (.string bytes, d) => bytes.length + uptoBulk d + 1
  | (_, d) => uptoBulk d + 1
 end
def uptoSmall : (H : Type) → List (DataW H) → Bool := fun _ ds => decide (uptoBulkAll ds ≤ 1048576)
def OpenSpec.upto (s : _root_.Go.ChangeSpec) : _root_.Go.OpenSpec := { _root_.Go.OpenSpec.ofChange s with cond := some uptoSmall }

/-- 'glazierlaw16.KeyOrder', WHERE WHAT IT READS IS OF BULK AT MOST 1048576: true; the input reads as it did. -/
def keyOrderUptoRow : OpenClaim := { program := "ytcmacobhnpgpaaa", sum := "1284a64b1dfffcfe6f2fd75d9a6c06a23a1faddf53741286a9c140227cedb191", func := "glazier/glazierlaw16.KeyOrder", spec := "keyOrder", inPlace := ["slices.overlaps[glazier/api.Frag]"], unfollowed := true, recurses := true, plainKeys := false, apart := false, narrowed := true }
def KeyOrderUptoSaid : Prop := keyOrderUptoRow.holds Try.pinned (OpenSpec.upto keyOrderSpec)

/-- 'glazierlaw16.KeyTurns', WHERE WHAT IT READS IS OF BULK AT MOST 1048576: true; the input reads as it did. -/
def keyTurnsUptoRow : OpenClaim := { program := "ytcmacobhnpgpaaa", sum := "1284a64b1dfffcfe6f2fd75d9a6c06a23a1faddf53741286a9c140227cedb191", func := "glazier/glazierlaw16.KeyTurns", spec := "keyTurns", inPlace := ["slices.overlaps[glazier/api.Frag]"], unfollowed := true, recurses := true, plainKeys := false, apart := false, narrowed := true }
def KeyTurnsUptoSaid : Prop := keyTurnsUptoRow.holds Try.pinned (OpenSpec.upto keyTurnsSpec)

/-- 'glazierlaw16.KeyFields', WHERE WHAT IT READS IS OF BULK AT MOST 1048576: true; the input reads as it did. -/
def keyFieldsUptoRow : OpenClaim := { program := "ytcmacobhnpgpaaa", sum := "1284a64b1dfffcfe6f2fd75d9a6c06a23a1faddf53741286a9c140227cedb191", func := "glazier/glazierlaw16.KeyFields", spec := "keyFields", inPlace := ["slices.overlaps[glazier/api.Frag]"], unfollowed := true, recurses := true, plainKeys := false, apart := false, narrowed := true }
def KeyFieldsUptoSaid : Prop := keyFieldsUptoRow.holds Try.pinned (OpenSpec.upto keyFieldsSpec)

/-- 'glazierlaw16.KeyLeft', WHERE WHAT IT READS IS OF BULK AT MOST 1048576: true; the input reads as it did. -/
def keyLeftUptoRow : OpenClaim := { program := "ytcmacobhnpgpaaa", sum := "1284a64b1dfffcfe6f2fd75d9a6c06a23a1faddf53741286a9c140227cedb191", func := "glazier/glazierlaw16.KeyLeft", spec := "keyLeft", inPlace := ["slices.overlaps[glazier/api.Frag]"], unfollowed := true, recurses := true, plainKeys := false, apart := false, narrowed := true }
def KeyLeftUptoSaid : Prop := keyLeftUptoRow.holds Try.pinned (OpenSpec.upto keyLeftSpec)

/-- 'glazierlaw16.KeyCuts', WHERE WHAT IT READS IS OF BULK AT MOST 1048576: true; the input reads as it did. -/
def keyCutsUptoRow : OpenClaim := { program := "ytcmacobhnpgpaaa", sum := "1284a64b1dfffcfe6f2fd75d9a6c06a23a1faddf53741286a9c140227cedb191", func := "glazier/glazierlaw16.KeyCuts", spec := "keyCuts", inPlace := ["slices.overlaps[glazier/api.Frag]"], unfollowed := true, recurses := true, plainKeys := false, apart := false, narrowed := true }
def KeyCutsUptoSaid : Prop := keyCutsUptoRow.holds Try.pinned (OpenSpec.upto keyCutsSpec)

/-- 'glazierlaw16.KeyAll', WHERE WHAT IT READS IS OF BULK AT MOST 1048576: true; the input reads as it did. -/
def keyAllUptoRow : OpenClaim := { program := "ytcmacobhnpgpaaa", sum := "1284a64b1dfffcfe6f2fd75d9a6c06a23a1faddf53741286a9c140227cedb191", func := "glazier/glazierlaw16.KeyAll", spec := "keyAll", inPlace := ["slices.overlaps[glazier/api.Frag]"], unfollowed := true, recurses := true, plainKeys := false, apart := false, narrowed := true }
def KeyAllUptoSaid : Prop := keyAllUptoRow.holds Try.pinned (OpenSpec.upto keyAllSpec)

/-- 'glazierlaw21.PeelAll', WHERE WHAT IT READS IS OF BULK AT MOST 1048576: true; the input reads as it did. -/
def peelAllUptoRow : OpenClaim := { program := "ytcmacobhnpgpaaa", sum := "1284a64b1dfffcfe6f2fd75d9a6c06a23a1faddf53741286a9c140227cedb191", func := "glazier/glazierlaw21.PeelAll", spec := "peelAll", inPlace := ["slices.overlaps[glazier/api.Frag]"], unfollowed := true, recurses := true, plainKeys := false, apart := false, narrowed := true }
def PeelAllUptoSaid : Prop := peelAllUptoRow.holds Try.pinned (OpenSpec.upto peelAllSpec)

/-- 'glazierlaw21.PeelWhole', WHERE WHAT IT READS IS OF BULK AT MOST 1048576: true; the input reads as it did. -/
def peelWholeUptoRow : OpenClaim := { program := "ytcmacobhnpgpaaa", sum := "1284a64b1dfffcfe6f2fd75d9a6c06a23a1faddf53741286a9c140227cedb191", func := "glazier/glazierlaw21.PeelWhole", spec := "peelWhole", inPlace := ["slices.overlaps[glazier/api.Frag]"], unfollowed := true, recurses := true, plainKeys := false, apart := false, narrowed := true }
def PeelWholeUptoSaid : Prop := peelWholeUptoRow.holds Try.pinned (OpenSpec.upto peelWholeSpec)

/-- 'glazierlaw21.PeelTurns', WHERE WHAT IT READS IS OF BULK AT MOST 1048576: true; the input reads as it did. -/
def peelTurnsUptoRow : OpenClaim := { program := "ytcmacobhnpgpaaa", sum := "1284a64b1dfffcfe6f2fd75d9a6c06a23a1faddf53741286a9c140227cedb191", func := "glazier/glazierlaw21.PeelTurns", spec := "peelTurns", inPlace := ["slices.overlaps[glazier/api.Frag]"], unfollowed := true, recurses := true, plainKeys := false, apart := false, narrowed := true }
def PeelTurnsUptoSaid : Prop := peelTurnsUptoRow.holds Try.pinned (OpenSpec.upto peelTurnsSpec)

/-- 'glazierlaw21.PeelLimits', WHERE WHAT IT READS IS OF BULK AT MOST 1048576: true; the input reads as it did. -/
def peelLimitsUptoRow : OpenClaim := { program := "ytcmacobhnpgpaaa", sum := "1284a64b1dfffcfe6f2fd75d9a6c06a23a1faddf53741286a9c140227cedb191", func := "glazier/glazierlaw21.PeelLimits", spec := "peelLimits", inPlace := ["slices.overlaps[glazier/api.Frag]"], unfollowed := true, recurses := true, plainKeys := false, apart := false, narrowed := true }
def PeelLimitsUptoSaid : Prop := peelLimitsUptoRow.holds Try.pinned (OpenSpec.upto peelLimitsSpec)

end Rows
end Go.Proofs.Ytcmacobhnpgpaaa
