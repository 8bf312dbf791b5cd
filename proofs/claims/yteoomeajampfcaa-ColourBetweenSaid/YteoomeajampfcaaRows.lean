/-
  No cell of these rows narrows 'for every input' (looked for: loops, veiled, ifaces, maps, wideKeys, modest, calm, conditions, laid).
  DERIVED. THE GIVEN ROWS OF THIS SEAT. 6 by the template 'for every input the law returns true; each argument reads behind the call as it read before'; 0 by the template 'total and deterministic' (their statements: YteoomeajampfcaaTotals.lean).
  GIVEN WITH THE SEED: the statements are not yours to turn. If you find one false, say at which input.
  Laid BY PROGRAM, IN A SANDBOX (cutbox-rows.mjs): the forced cells as the released guide's own fill.sh prints them over the translation 6e662a47c7575749… (all of the seat's roots in one cut). By AI agents, Wed Nov 11 2026. No macro, syntax, notation, axiom, sorry.
-/
import Derived.Test.YteoomeajampfcaaChecked
import GoSem.Claim
import GoSem.ClaimJoined
import GoSem.ClaimMapViews
import Derived.JoinedTies
import Derived.KernelRfl
namespace Go.Proofs.Yteoomeajampfcaa
/- THE CELL 'sum', in the pinned program and in every row, IS THE sha256 OF THE DUMP (.gsa) THAT YteoomeajampfcaaProg.lean LOADS. Nothing in Lean hashes anything: it is a label: what it is worth is what the hold of that sum in a sandbox is worth. -/
noncomputable def Try.pinned : Pinned := { name := "yteoomeajampfcaa", sum := "6e662a47c7575749188a293a45afb2550d48a97bfa08a95f6722c1db61effd3a", checked := Try.checked }
namespace Rows
def none {H : Type} : Left H := { results := [], args := [] }

/-- 'glazierlaw02.ColourBetween': WHATEVER THE INPUT: true; the input reads as it did. -/
def colourBetweenSpec : ChangeSpec := { name := "colourBetween", fn := fun _ => fun
  | [d1, d2, d3] => { results := [.lit (.bool true)], args := [d1, d2, d3] }
  | _ => none }
def colourBetweenRow : OpenClaim := { program := "yteoomeajampfcaa", sum := "6e662a47c7575749188a293a45afb2550d48a97bfa08a95f6722c1db61effd3a", func := "glazier/glazierlaw02.ColourBetween", spec := "colourBetween", unfollowed := true, recurses := true, apart := false }
def ColourBetweenSaid : Prop := colourBetweenRow.holds Try.pinned (OpenSpec.ofChange colourBetweenSpec)

/-- ITS FALSE NEIGHBOUR: 'it returns false'. Refute it at one input. -/
def colourBetweenWrong : ChangeSpec := { name := "colourBetween", fn := fun _ => fun
  | [d1, d2, d3] => { results := [.lit (.bool false)], args := [d1, d2, d3] }
  | _ => none }
def ColourBetweenWrongFalsely : Prop := colourBetweenRow.holds Try.pinned (OpenSpec.ofChange colourBetweenWrong)

/-- 'glazierlaw02.ColourPre': WHATEVER THE INPUT: true; the input reads as it did. -/
def colourPreSpec : ChangeSpec := { name := "colourPre", fn := fun _ => fun
  | [d1, d2] => { results := [.lit (.bool true)], args := [d1, d2] }
  | _ => none }
def colourPreRow : OpenClaim := { program := "yteoomeajampfcaa", sum := "6e662a47c7575749188a293a45afb2550d48a97bfa08a95f6722c1db61effd3a", func := "glazier/glazierlaw02.ColourPre", spec := "colourPre", unfollowed := true, recurses := true, apart := false }
def ColourPreSaid : Prop := colourPreRow.holds Try.pinned (OpenSpec.ofChange colourPreSpec)

/-- ITS FALSE NEIGHBOUR: 'it returns false'. Refute it at one input. -/
def colourPreWrong : ChangeSpec := { name := "colourPre", fn := fun _ => fun
  | [d1, d2] => { results := [.lit (.bool false)], args := [d1, d2] }
  | _ => none }
def ColourPreWrongFalsely : Prop := colourPreRow.holds Try.pinned (OpenSpec.ofChange colourPreWrong)

/-- 'glazierlaw02.ColourFolds': WHATEVER THE INPUT: true; the input reads as it did. -/
def colourFoldsSpec : ChangeSpec := { name := "colourFolds", fn := fun _ => fun
  | [d1, d2, d3] => { results := [.lit (.bool true)], args := [d1, d2, d3] }
  | _ => none }
def colourFoldsRow : OpenClaim := { program := "yteoomeajampfcaa", sum := "6e662a47c7575749188a293a45afb2550d48a97bfa08a95f6722c1db61effd3a", func := "glazier/glazierlaw02.ColourFolds", spec := "colourFolds", unfollowed := true, recurses := true, apart := false }
def ColourFoldsSaid : Prop := colourFoldsRow.holds Try.pinned (OpenSpec.ofChange colourFoldsSpec)

/-- ITS FALSE NEIGHBOUR: 'it returns false'. Refute it at one input. -/
def colourFoldsWrong : ChangeSpec := { name := "colourFolds", fn := fun _ => fun
  | [d1, d2, d3] => { results := [.lit (.bool false)], args := [d1, d2, d3] }
  | _ => none }
def ColourFoldsWrongFalsely : Prop := colourFoldsRow.holds Try.pinned (OpenSpec.ofChange colourFoldsWrong)

/-- 'glazierlaw02.ColourHides': WHATEVER THE INPUT: true; the input reads as it did. -/
def colourHidesSpec : ChangeSpec := { name := "colourHides", fn := fun _ => fun
  | [d1, d2, d3] => { results := [.lit (.bool true)], args := [d1, d2, d3] }
  | _ => none }
def colourHidesRow : OpenClaim := { program := "yteoomeajampfcaa", sum := "6e662a47c7575749188a293a45afb2550d48a97bfa08a95f6722c1db61effd3a", func := "glazier/glazierlaw02.ColourHides", spec := "colourHides", unfollowed := true, recurses := true, apart := false }
def ColourHidesSaid : Prop := colourHidesRow.holds Try.pinned (OpenSpec.ofChange colourHidesSpec)

/-- ITS FALSE NEIGHBOUR: 'it returns false'. Refute it at one input. -/
def colourHidesWrong : ChangeSpec := { name := "colourHides", fn := fun _ => fun
  | [d1, d2, d3] => { results := [.lit (.bool false)], args := [d1, d2, d3] }
  | _ => none }
def ColourHidesWrongFalsely : Prop := colourHidesRow.holds Try.pinned (OpenSpec.ofChange colourHidesWrong)

/-- 'glazierlaw02.ColourRight': WHATEVER THE INPUT: true; the input reads as it did. -/
def colourRightSpec : ChangeSpec := { name := "colourRight", fn := fun _ => fun
  | [d] => { results := [.lit (.bool true)], args := [d] }
  | _ => none }
def colourRightRow : OpenClaim := { program := "yteoomeajampfcaa", sum := "6e662a47c7575749188a293a45afb2550d48a97bfa08a95f6722c1db61effd3a", func := "glazier/glazierlaw02.ColourRight", spec := "colourRight", unfollowed := true, recurses := true, apart := false }
def ColourRightSaid : Prop := colourRightRow.holds Try.pinned (OpenSpec.ofChange colourRightSpec)

/-- ITS FALSE NEIGHBOUR: 'it returns false'. Refute it at one input. -/
def colourRightWrong : ChangeSpec := { name := "colourRight", fn := fun _ => fun
  | [d] => { results := [.lit (.bool false)], args := [d] }
  | _ => none }
def ColourRightWrongFalsely : Prop := colourRightRow.holds Try.pinned (OpenSpec.ofChange colourRightWrong)

/-- 'glazierlaw02.ColourAll': WHATEVER THE INPUT: true; the input reads as it did. -/
def colourAllSpec : ChangeSpec := { name := "colourAll", fn := fun _ => fun
  | [d1, d2, d3] => { results := [.lit (.bool true)], args := [d1, d2, d3] }
  | _ => none }
def colourAllRow : OpenClaim := { program := "yteoomeajampfcaa", sum := "6e662a47c7575749188a293a45afb2550d48a97bfa08a95f6722c1db61effd3a", func := "glazier/glazierlaw02.ColourAll", spec := "colourAll", unfollowed := true, recurses := true, apart := false }
def ColourAllSaid : Prop := colourAllRow.holds Try.pinned (OpenSpec.ofChange colourAllSpec)

/-- ITS FALSE NEIGHBOUR: 'it returns false'. Refute it at one input. -/
def colourAllWrong : ChangeSpec := { name := "colourAll", fn := fun _ => fun
  | [d1, d2, d3] => { results := [.lit (.bool false)], args := [d1, d2, d3] }
  | _ => none }
def ColourAllWrongFalsely : Prop := colourAllRow.holds Try.pinned (OpenSpec.ofChange colourAllWrong)

/- THE SECOND FORM. 'bulk': how many values and letters a reading holds, each counted each time it is reached (what is shared counts as often as it is met; a slice's spare places count too). A statement '..UptoSaid' is the law's where the arguments, and the package variables that the reading takes, are together of bulk at most 1048576: NARROWER than '..Said'. Prove '..Said' where nothing that the law and all that it calls make is longer than what came in: it says more and counts as full. Else prove '..UptoSaid'. A law counts once. -/
mutual
def uptoBulk {H : Type} : DataW H → Nat
  | .lit (.string bytes) => bytes.length + 1
  | .lit _ => 1
  | .nil => 1
  | .ptr d => uptoBulk d + 1
  | .slice elems spare => uptoBulkAll elems + uptoBulkAll spare + 1
  | .agg parts => uptoBulkAll parts + 1
  | .iface _ d => uptoBulk d + 1
  | .map entries => uptoBulkEntries entries + 1
  | .held _ => 1
def uptoBulkAll {H : Type} : List (DataW H) → Nat
  | [] => 0
  | d :: r => uptoBulk d + uptoBulkAll r
def uptoBulkEntries {H : Type} : List (Lit × DataW H) → Nat
  | [] => 0
  | x :: r => uptoBulkEntry x + uptoBulkEntries r
def uptoBulkEntry {H : Type} : Lit × DataW H → Nat
  | (.string bytes, d) => bytes.length + uptoBulk d + 1
  | (_, d) => uptoBulk d + 1
 end
def uptoSmall : (H : Type) → List (DataW H) → Bool := fun _ ds => decide (uptoBulkAll ds ≤ 1048576)
def OpenSpec.upto (s : _root_.Go.ChangeSpec) : _root_.Go.OpenSpec := { _root_.Go.OpenSpec.ofChange s with cond := some uptoSmall }

/-- 'glazierlaw02.ColourBetween', WHERE WHAT IT READS IS OF BULK AT MOST 1048576: true; the input reads as it did. -/
def colourBetweenUptoRow : OpenClaim := { program := "yteoomeajampfcaa", sum := "6e662a47c7575749188a293a45afb2550d48a97bfa08a95f6722c1db61effd3a", func := "glazier/glazierlaw02.ColourBetween", spec := "colourBetween", unfollowed := true, recurses := true, apart := false, narrowed := true }
def ColourBetweenUptoSaid : Prop := colourBetweenUptoRow.holds Try.pinned (OpenSpec.upto colourBetweenSpec)

/-- 'glazierlaw02.ColourPre', WHERE WHAT IT READS IS OF BULK AT MOST 1048576: true; the input reads as it did. -/
def colourPreUptoRow : OpenClaim := { program := "yteoomeajampfcaa", sum := "6e662a47c7575749188a293a45afb2550d48a97bfa08a95f6722c1db61effd3a", func := "glazier/glazierlaw02.ColourPre", spec := "colourPre", unfollowed := true, recurses := true, apart := false, narrowed := true }
def ColourPreUptoSaid : Prop := colourPreUptoRow.holds Try.pinned (OpenSpec.upto colourPreSpec)

/-- 'glazierlaw02.ColourFolds', WHERE WHAT IT READS IS OF BULK AT MOST 1048576: true; the input reads as it did. -/
def colourFoldsUptoRow : OpenClaim := { program := "yteoomeajampfcaa", sum := "6e662a47c7575749188a293a45afb2550d48a97bfa08a95f6722c1db61effd3a", func := "glazier/glazierlaw02.ColourFolds", spec := "colourFolds", unfollowed := true, recurses := true, apart := false, narrowed := true }
def ColourFoldsUptoSaid : Prop := colourFoldsUptoRow.holds Try.pinned (OpenSpec.upto colourFoldsSpec)

/-- 'glazierlaw02.ColourHides', WHERE WHAT IT READS IS OF BULK AT MOST 1048576: true; the input reads as it did. -/
def colourHidesUptoRow : OpenClaim := { program := "yteoomeajampfcaa", sum := "6e662a47c7575749188a293a45afb2550d48a97bfa08a95f6722c1db61effd3a", func := "glazier/glazierlaw02.ColourHides", spec := "colourHides", unfollowed := true, recurses := true, apart := false, narrowed := true }
def ColourHidesUptoSaid : Prop := colourHidesUptoRow.holds Try.pinned (OpenSpec.upto colourHidesSpec)

/-- 'glazierlaw02.ColourRight', WHERE WHAT IT READS IS OF BULK AT MOST 1048576: true; the input reads as it did. -/
def colourRightUptoRow : OpenClaim := { program := "yteoomeajampfcaa", sum := "6e662a47c7575749188a293a45afb2550d48a97bfa08a95f6722c1db61effd3a", func := "glazier/glazierlaw02.ColourRight", spec := "colourRight", unfollowed := true, recurses := true, apart := false, narrowed := true }
def ColourRightUptoSaid : Prop := colourRightUptoRow.holds Try.pinned (OpenSpec.upto colourRightSpec)

/-- 'glazierlaw02.ColourAll', WHERE WHAT IT READS IS OF BULK AT MOST 1048576: true; the input reads as it did. -/
def colourAllUptoRow : OpenClaim := { program := "yteoomeajampfcaa", sum := "6e662a47c7575749188a293a45afb2550d48a97bfa08a95f6722c1db61effd3a", func := "glazier/glazierlaw02.ColourAll", spec := "colourAll", unfollowed := true, recurses := true, apart := false, narrowed := true }
def ColourAllUptoSaid : Prop := colourAllUptoRow.holds Try.pinned (OpenSpec.upto colourAllSpec)

end Rows
end Go.Proofs.Yteoomeajampfcaa
