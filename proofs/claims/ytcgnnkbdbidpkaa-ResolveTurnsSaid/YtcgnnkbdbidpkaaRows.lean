/-
  No cell of these rows narrows 'for every input' (looked for: loops, veiled, ifaces, maps, wideKeys, modest, calm, conditions, laid).
  DERIVED. THE GIVEN ROWS OF THIS SEAT. 9 by the template 'for every input the law returns true; each argument reads behind the call as it read before'; 0 by the template 'total and deterministic' (their statements: YtcgnnkbdbidpkaaTotals.lean).
  GIVEN WITH THE SEED: the statements are not yours to turn. If you find one false, say at which input.
  Laid BY PROGRAM, IN A SANDBOX (cutbox-rows.mjs): the forced cells as the released guide's own fill.sh prints them over the translation 35a7770380096723… (all of the seat's roots in one cut). By AI agents, Wed Nov 11 2026. No macro, syntax, notation, axiom, sorry.
-/
import Derived.Test.YtcgnnkbdbidpkaaChecked
import GoSem.Claim
import GoSem.ClaimJoined
import GoSem.ClaimMapViews
import Derived.JoinedTies
import Derived.KernelRfl
namespace Go.Proofs.Ytcgnnkbdbidpkaa
/- THE CELL 'sum', in the pinned program and in every row, IS THE sha256 OF THE DUMP (.gsa) THAT YtcgnnkbdbidpkaaProg.lean LOADS. Nothing in Lean hashes anything: it is a label: what it is worth is what the hold of that sum in a sandbox is worth. -/
noncomputable def Try.pinned : Pinned := { name := "ytcgnnkbdbidpkaa", sum := "35a77703800967232121282bdcd8da2e56048f04d016a943fc94fc62a1a4b345", checked := Try.checked }
namespace Rows
def none {H : Type} : Left H := { results := [], args := [] }

/-- 'glazierlaw02.ColourFolds': WHATEVER THE INPUT: true; the input reads as it did. -/
def colourFoldsSpec : ChangeSpec := { name := "colourFolds", fn := fun _ => fun
  | [d1, d2, d3] => { results := [.lit (.bool true)], args := [d1, d2, d3] }
  | _ => none }
def colourFoldsRow : OpenClaim := { program := "ytcgnnkbdbidpkaa", sum := "35a77703800967232121282bdcd8da2e56048f04d016a943fc94fc62a1a4b345", func := "glazier/glazierlaw02.ColourFolds", spec := "colourFolds", unfollowed := true, recurses := true, apart := false }
def ColourFoldsSaid : Prop := colourFoldsRow.holds Try.pinned (OpenSpec.ofChange colourFoldsSpec)

/-- ITS FALSE NEIGHBOUR: 'it returns false'. Refute it at one input. -/
def colourFoldsWrong : ChangeSpec := { name := "colourFolds", fn := fun _ => fun
  | [d1, d2, d3] => { results := [.lit (.bool false)], args := [d1, d2, d3] }
  | _ => none }
def ColourFoldsWrongFalsely : Prop := colourFoldsRow.holds Try.pinned (OpenSpec.ofChange colourFoldsWrong)

/-- 'glazierlaw02.ColourHides': WHATEVER THE INPUT: true; the input reads as it did. -/
def colourHidesSpec : ChangeSpec := { name := "colourHides", fn := fun _ => fun
  | [d1, d2, d3] => { results := [.lit (.bool true)], args := [d1, d2, d3] }
  | _ => none }
def colourHidesRow : OpenClaim := { program := "ytcgnnkbdbidpkaa", sum := "35a77703800967232121282bdcd8da2e56048f04d016a943fc94fc62a1a4b345", func := "glazier/glazierlaw02.ColourHides", spec := "colourHides", unfollowed := true, recurses := true, apart := false }
def ColourHidesSaid : Prop := colourHidesRow.holds Try.pinned (OpenSpec.ofChange colourHidesSpec)

/-- ITS FALSE NEIGHBOUR: 'it returns false'. Refute it at one input. -/
def colourHidesWrong : ChangeSpec := { name := "colourHides", fn := fun _ => fun
  | [d1, d2, d3] => { results := [.lit (.bool false)], args := [d1, d2, d3] }
  | _ => none }
def ColourHidesWrongFalsely : Prop := colourHidesRow.holds Try.pinned (OpenSpec.ofChange colourHidesWrong)

/-- 'glazierlaw02.ColourRight': WHATEVER THE INPUT: true; the input reads as it did. -/
def colourRightSpec : ChangeSpec := { name := "colourRight", fn := fun _ => fun
  | [d] => { results := [.lit (.bool true)], args := [d] }
  | _ => none }
def colourRightRow : OpenClaim := { program := "ytcgnnkbdbidpkaa", sum := "35a77703800967232121282bdcd8da2e56048f04d016a943fc94fc62a1a4b345", func := "glazier/glazierlaw02.ColourRight", spec := "colourRight", unfollowed := true, recurses := true, apart := false }
def ColourRightSaid : Prop := colourRightRow.holds Try.pinned (OpenSpec.ofChange colourRightSpec)

/-- ITS FALSE NEIGHBOUR: 'it returns false'. Refute it at one input. -/
def colourRightWrong : ChangeSpec := { name := "colourRight", fn := fun _ => fun
  | [d] => { results := [.lit (.bool false)], args := [d] }
  | _ => none }
def ColourRightWrongFalsely : Prop := colourRightRow.holds Try.pinned (OpenSpec.ofChange colourRightWrong)

/-- 'glazierlaw02.ColourAll': WHATEVER THE INPUT: true; the input reads as it did. -/
def colourAllSpec : ChangeSpec := { name := "colourAll", fn := fun _ => fun
  | [d1, d2, d3] => { results := [.lit (.bool true)], args := [d1, d2, d3] }
  | _ => none }
def colourAllRow : OpenClaim := { program := "ytcgnnkbdbidpkaa", sum := "35a77703800967232121282bdcd8da2e56048f04d016a943fc94fc62a1a4b345", func := "glazier/glazierlaw02.ColourAll", spec := "colourAll", unfollowed := true, recurses := true, apart := false }
def ColourAllSaid : Prop := colourAllRow.holds Try.pinned (OpenSpec.ofChange colourAllSpec)

/-- ITS FALSE NEIGHBOUR: 'it returns false'. Refute it at one input. -/
def colourAllWrong : ChangeSpec := { name := "colourAll", fn := fun _ => fun
  | [d1, d2, d3] => { results := [.lit (.bool false)], args := [d1, d2, d3] }
  | _ => none }
def ColourAllWrongFalsely : Prop := colourAllRow.holds Try.pinned (OpenSpec.ofChange colourAllWrong)

/-- 'glazierlaw20.ResolveAll': WHATEVER THE INPUT: true; the input reads as it did. -/
def resolveAllSpec : ChangeSpec := { name := "resolveAll", fn := fun _ => fun
  | [d1, d2, d3] => { results := [.lit (.bool true)], args := [d1, d2, d3] }
  | _ => none }
def resolveAllRow : OpenClaim := { program := "ytcgnnkbdbidpkaa", sum := "35a77703800967232121282bdcd8da2e56048f04d016a943fc94fc62a1a4b345", func := "glazier/glazierlaw20.ResolveAll", spec := "resolveAll", unfollowed := true, recurses := true, apart := false }
def ResolveAllSaid : Prop := resolveAllRow.holds Try.pinned (OpenSpec.ofChange resolveAllSpec)

/-- ITS FALSE NEIGHBOUR: 'it returns false'. Refute it at one input. -/
def resolveAllWrong : ChangeSpec := { name := "resolveAll", fn := fun _ => fun
  | [d1, d2, d3] => { results := [.lit (.bool false)], args := [d1, d2, d3] }
  | _ => none }
def ResolveAllWrongFalsely : Prop := resolveAllRow.holds Try.pinned (OpenSpec.ofChange resolveAllWrong)

/-- 'glazierlaw20.ResolveApart': WHATEVER THE INPUT: true; the input reads as it did. -/
def resolveApartSpec : ChangeSpec := { name := "resolveApart", fn := fun _ => fun
  | [d1, d2, d3] => { results := [.lit (.bool true)], args := [d1, d2, d3] }
  | _ => none }
def resolveApartRow : OpenClaim := { program := "ytcgnnkbdbidpkaa", sum := "35a77703800967232121282bdcd8da2e56048f04d016a943fc94fc62a1a4b345", func := "glazier/glazierlaw20.ResolveApart", spec := "resolveApart", unfollowed := true, recurses := true, apart := false }
def ResolveApartSaid : Prop := resolveApartRow.holds Try.pinned (OpenSpec.ofChange resolveApartSpec)

/-- ITS FALSE NEIGHBOUR: 'it returns false'. Refute it at one input. -/
def resolveApartWrong : ChangeSpec := { name := "resolveApart", fn := fun _ => fun
  | [d1, d2, d3] => { results := [.lit (.bool false)], args := [d1, d2, d3] }
  | _ => none }
def ResolveApartWrongFalsely : Prop := resolveApartRow.holds Try.pinned (OpenSpec.ofChange resolveApartWrong)

/-- 'glazierlaw20.ResolveHides': WHATEVER THE INPUT: true; the input reads as it did. -/
def resolveHidesSpec : ChangeSpec := { name := "resolveHides", fn := fun _ => fun
  | [d1, d2, d3] => { results := [.lit (.bool true)], args := [d1, d2, d3] }
  | _ => none }
def resolveHidesRow : OpenClaim := { program := "ytcgnnkbdbidpkaa", sum := "35a77703800967232121282bdcd8da2e56048f04d016a943fc94fc62a1a4b345", func := "glazier/glazierlaw20.ResolveHides", spec := "resolveHides", unfollowed := true, recurses := true, apart := false }
def ResolveHidesSaid : Prop := resolveHidesRow.holds Try.pinned (OpenSpec.ofChange resolveHidesSpec)

/-- ITS FALSE NEIGHBOUR: 'it returns false'. Refute it at one input. -/
def resolveHidesWrong : ChangeSpec := { name := "resolveHides", fn := fun _ => fun
  | [d1, d2, d3] => { results := [.lit (.bool false)], args := [d1, d2, d3] }
  | _ => none }
def ResolveHidesWrongFalsely : Prop := resolveHidesRow.holds Try.pinned (OpenSpec.ofChange resolveHidesWrong)

/-- 'glazierlaw20.ResolveSplits': WHATEVER THE INPUT: true; the input reads as it did. -/
def resolveSplitsSpec : ChangeSpec := { name := "resolveSplits", fn := fun _ => fun
  | [d1, d2] => { results := [.lit (.bool true)], args := [d1, d2] }
  | _ => none }
def resolveSplitsRow : OpenClaim := { program := "ytcgnnkbdbidpkaa", sum := "35a77703800967232121282bdcd8da2e56048f04d016a943fc94fc62a1a4b345", func := "glazier/glazierlaw20.ResolveSplits", spec := "resolveSplits", unfollowed := true, recurses := true, apart := false }
def ResolveSplitsSaid : Prop := resolveSplitsRow.holds Try.pinned (OpenSpec.ofChange resolveSplitsSpec)

/-- ITS FALSE NEIGHBOUR: 'it returns false'. Refute it at one input. -/
def resolveSplitsWrong : ChangeSpec := { name := "resolveSplits", fn := fun _ => fun
  | [d1, d2] => { results := [.lit (.bool false)], args := [d1, d2] }
  | _ => none }
def ResolveSplitsWrongFalsely : Prop := resolveSplitsRow.holds Try.pinned (OpenSpec.ofChange resolveSplitsWrong)

/-- 'glazierlaw20.ResolveTurns': WHATEVER THE INPUT: true; the input reads as it did. -/
def resolveTurnsSpec : ChangeSpec := { name := "resolveTurns", fn := fun _ => fun
  | [d1, d2, d3] => { results := [.lit (.bool true)], args := [d1, d2, d3] }
  | _ => none }
def resolveTurnsRow : OpenClaim := { program := "ytcgnnkbdbidpkaa", sum := "35a77703800967232121282bdcd8da2e56048f04d016a943fc94fc62a1a4b345", func := "glazier/glazierlaw20.ResolveTurns", spec := "resolveTurns", unfollowed := true, recurses := true, apart := false }
def ResolveTurnsSaid : Prop := resolveTurnsRow.holds Try.pinned (OpenSpec.ofChange resolveTurnsSpec)

/-- ITS FALSE NEIGHBOUR: 'it returns false'. Refute it at one input. -/
def resolveTurnsWrong : ChangeSpec := { name := "resolveTurns", fn := fun _ => fun
  | [d1, d2, d3] => { results := [.lit (.bool false)], args := [d1, d2, d3] }
  | _ => none }
def ResolveTurnsWrongFalsely : Prop := resolveTurnsRow.holds Try.pinned (OpenSpec.ofChange resolveTurnsWrong)

/- THE SECOND FORM. 'bulk': how many values and letters a reading holds, each counted each time it is reached (what is shared counts as often as it is met; a slice's spare places count too). A statement '..UptoSaid' is the law's where the arguments, and the package variables that the reading takes, are together of bulk at most 1048576: NARROWER than '..Said'. Prove '..Said' where nothing that the law and all that it calls make is longer than what came in: it says more and counts as full. Else prove '..UptoSaid'. A law counts once. -/
mutual
def uptoBulk {H : Type} : DataW H → Nat
  | .lit (.string bytes) => bytes.length + 1
  | .lit _ => 1
  | .nil => 1
  | .ptr d => uptoBulk d + 1
  | .slice elems spare => uptoBulkAll elems + uptoBulkAll spare + 1
  | .agg parts => uptoBulkAll parts + 1
  | .iface _ d => uptoBulk d + 1
  | .map entries => uptoBulkEntries entries + 1
  | .held _ => 1
def uptoBulkAll {H : Type} : List (DataW H) → Nat
  | [] => 0
  | d :: r => uptoBulk d + uptoBulkAll r
def uptoBulkEntries {H : Type} : List (Lit × DataW H) → Nat
  | [] => 0
  | x :: r => uptoBulkEntry x + uptoBulkEntries r
def uptoBulkEntry {H : Type} : Lit × DataW H → Nat
  | (.string bytes, d) => bytes.length + uptoBulk d + 1
  | (_, d) => uptoBulk d + 1
 end
def uptoSmall : (H : Type) → List (DataW H) → Bool := fun _ ds => decide (uptoBulkAll ds ≤ 1048576)
def OpenSpec.upto (s : _root_.Go.ChangeSpec) : _root_.Go.OpenSpec := { _root_.Go.OpenSpec.ofChange s with cond := some uptoSmall }

/-- 'glazierlaw02.ColourFolds', WHERE WHAT IT READS IS OF BULK AT MOST 1048576: true; the input reads as it did. -/
def colourFoldsUptoRow : OpenClaim := { program := "ytcgnnkbdbidpkaa", sum := "35a77703800967232121282bdcd8da2e56048f04d016a943fc94fc62a1a4b345", func := "glazier/glazierlaw02.ColourFolds", spec := "colourFolds", unfollowed := true, recurses := true, apart := false, narrowed := true }
def ColourFoldsUptoSaid : Prop := colourFoldsUptoRow.holds Try.pinned (OpenSpec.upto colourFoldsSpec)

/-- 'glazierlaw02.ColourHides', WHERE WHAT IT READS IS OF BULK AT MOST 1048576: true; the input reads as it did. -/
def colourHidesUptoRow : OpenClaim := { program := "ytcgnnkbdbidpkaa", sum := "35a77703800967232121282bdcd8da2e56048f04d016a943fc94fc62a1a4b345", func := "glazier/glazierlaw02.ColourHides", spec := "colourHides", unfollowed := true, recurses := true, apart := false, narrowed := true }
def ColourHidesUptoSaid : Prop := colourHidesUptoRow.holds Try.pinned (OpenSpec.upto colourHidesSpec)

/-- 'glazierlaw02.ColourRight', WHERE WHAT IT READS IS OF BULK AT MOST 1048576: true; the input reads as it did. -/
def colourRightUptoRow : OpenClaim := { program := "ytcgnnkbdbidpkaa", sum := "35a77703800967232121282bdcd8da2e56048f04d016a943fc94fc62a1a4b345", func := "glazier/glazierlaw02.ColourRight", spec := "colourRight", unfollowed := true, recurses := true, apart := false, narrowed := true }
def ColourRightUptoSaid : Prop := colourRightUptoRow.holds Try.pinned (OpenSpec.upto colourRightSpec)

/-- 'glazierlaw02.ColourAll', WHERE WHAT IT READS IS OF BULK AT MOST 1048576: true; the input reads as it did. -/
def colourAllUptoRow : OpenClaim := { program := "ytcgnnkbdbidpkaa", sum := "35a77703800967232121282bdcd8da2e56048f04d016a943fc94fc62a1a4b345", func := "glazier/glazierlaw02.ColourAll", spec := "colourAll", unfollowed := true, recurses := true, apart := false, narrowed := true }
def ColourAllUptoSaid : Prop := colourAllUptoRow.holds Try.pinned (OpenSpec.upto colourAllSpec)

/-- 'glazierlaw20.ResolveAll', WHERE WHAT IT READS IS OF BULK AT MOST 1048576: true; the input reads as it did. -/
def resolveAllUptoRow : OpenClaim := { program := "ytcgnnkbdbidpkaa", sum := "35a77703800967232121282bdcd8da2e56048f04d016a943fc94fc62a1a4b345", func := "glazier/glazierlaw20.ResolveAll", spec := "resolveAll", unfollowed := true, recurses := true, apart := false, narrowed := true }
def ResolveAllUptoSaid : Prop := resolveAllUptoRow.holds Try.pinned (OpenSpec.upto resolveAllSpec)

/-- 'glazierlaw20.ResolveApart', WHERE WHAT IT READS IS OF BULK AT MOST 1048576: true; the input reads as it did. -/
def resolveApartUptoRow : OpenClaim := { program := "ytcgnnkbdbidpkaa", sum := "35a77703800967232121282bdcd8da2e56048f04d016a943fc94fc62a1a4b345", func := "glazier/glazierlaw20.ResolveApart", spec := "resolveApart", unfollowed := true, recurses := true, apart := false, narrowed := true }
def ResolveApartUptoSaid : Prop := resolveApartUptoRow.holds Try.pinned (OpenSpec.upto resolveApartSpec)

/-- 'glazierlaw20.ResolveHides', WHERE WHAT IT READS IS OF BULK AT MOST 1048576: true; the input reads as it did. -/
def resolveHidesUptoRow : OpenClaim := { program := "ytcgnnkbdbidpkaa", sum := "35a77703800967232121282bdcd8da2e56048f04d016a943fc94fc62a1a4b345", func := "glazier/glazierlaw20.ResolveHides", spec := "resolveHides", unfollowed := true, recurses := true, apart := false, narrowed := true }
def ResolveHidesUptoSaid : Prop := resolveHidesUptoRow.holds Try.pinned (OpenSpec.upto resolveHidesSpec)

/-- 'glazierlaw20.ResolveSplits', WHERE WHAT IT READS IS OF BULK AT MOST 1048576: true; the input reads as it did. -/
def resolveSplitsUptoRow : OpenClaim := { program := "ytcgnnkbdbidpkaa", sum := "35a77703800967232121282bdcd8da2e56048f04d016a943fc94fc62a1a4b345", func := "glazier/glazierlaw20.ResolveSplits", spec := "resolveSplits", unfollowed := true, recurses := true, apart := false, narrowed := true }
def ResolveSplitsUptoSaid : Prop := resolveSplitsUptoRow.holds Try.pinned (OpenSpec.upto resolveSplitsSpec)

/-- 'glazierlaw20.ResolveTurns', WHERE WHAT IT READS IS OF BULK AT MOST 1048576: true; the input reads as it did. -/
def resolveTurnsUptoRow : OpenClaim := { program := "ytcgnnkbdbidpkaa", sum := "35a77703800967232121282bdcd8da2e56048f04d016a943fc94fc62a1a4b345", func := "glazier/glazierlaw20.ResolveTurns", spec := "resolveTurns", unfollowed := true, recurses := true, apart := false, narrowed := true }
def ResolveTurnsUptoSaid : Prop := resolveTurnsUptoRow.holds Try.pinned (OpenSpec.upto resolveTurnsSpec)

end Rows
end Go.Proofs.Ytcgnnkbdbidpkaa
