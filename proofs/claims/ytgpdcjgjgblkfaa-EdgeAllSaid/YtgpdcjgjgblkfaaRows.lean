/-
  No cell of these rows narrows 'for every input' (looked for: loops, veiled, ifaces, maps, wideKeys, modest, calm, conditions, laid).
  DERIVED. THE GIVEN ROWS OF THIS SEAT. 6 by the template 'for every input the law returns true; each argument reads behind the call as it read before'; 0 by the template 'total and deterministic' (their statements: YtgpdcjgjgblkfaaTotals.lean).
  GIVEN WITH THE SEED: the statements are not yours to turn. If you find one false, say at which input.
  Laid BY PROGRAM, IN A SANDBOX (cutbox-rows.mjs): the forced cells as the released guide's own fill.sh prints them over the translation 5e28d3762f7138df… (all of the seat's roots in one cut). By AI agents, Wed Nov 11 2026. No macro, syntax, notation, axiom, sorry.
-/
import Derived.Test.YtgpdcjgjgblkfaaChecked
import GoSem.Claim
import GoSem.ClaimJoined
import GoSem.ClaimMapViews
import Derived.JoinedTies
import Derived.KernelRfl
namespace Go.Proofs.Ytgpdcjgjgblkfaa
/- THE CELL 'sum', in the pinned program and in every row, IS THE sha256 OF THE DUMP (.gsa) THAT YtgpdcjgjgblkfaaProg.lean LOADS. Nothing in Lean hashes anything: it is a label: what it is worth is what the hold of that sum in a sandbox is worth. -/
noncomputable def Try.pinned : Pinned := { name := "ytgpdcjgjgblkfaa", sum := "5e28d3762f7138df9d3cc26bff4661eab2902bcf9fa1c1a7be59ea6825f8c4a9", checked := Try.checked }
namespace Rows
def none {H : Type} : Left H := { results := [], args := [] }

/-- 'glazierlaw07.EdgeOnce': WHATEVER THE INPUT: true; the input reads as it did. -/
def edgeOnceSpec : ChangeSpec := { name := "edgeOnce", fn := fun _ => fun
  | [d1, d2, d3] => { results := [.lit (.bool true)], args := [d1, d2, d3] }
  | _ => none }
def edgeOnceRow : OpenClaim := { program := "ytgpdcjgjgblkfaa", sum := "5e28d3762f7138df9d3cc26bff4661eab2902bcf9fa1c1a7be59ea6825f8c4a9", func := "glazier/glazierlaw07.EdgeOnce", spec := "edgeOnce", apart := false }
def EdgeOnceSaid : Prop := edgeOnceRow.holds Try.pinned (OpenSpec.ofChange edgeOnceSpec)

/-- ITS FALSE NEIGHBOUR: 'it returns false'. Refute it at one input. -/
def edgeOnceWrong : ChangeSpec := { name := "edgeOnce", fn := fun _ => fun
  | [d1, d2, d3] => { results := [.lit (.bool false)], args := [d1, d2, d3] }
  | _ => none }
def EdgeOnceWrongFalsely : Prop := edgeOnceRow.holds Try.pinned (OpenSpec.ofChange edgeOnceWrong)

/-- 'glazierlaw07.EdgeMoves': WHATEVER THE INPUT: true; the input reads as it did. -/
def edgeMovesSpec : ChangeSpec := { name := "edgeMoves", fn := fun _ => fun
  | [d1, d2, d3] => { results := [.lit (.bool true)], args := [d1, d2, d3] }
  | _ => none }
def edgeMovesRow : OpenClaim := { program := "ytgpdcjgjgblkfaa", sum := "5e28d3762f7138df9d3cc26bff4661eab2902bcf9fa1c1a7be59ea6825f8c4a9", func := "glazier/glazierlaw07.EdgeMoves", spec := "edgeMoves", apart := false }
def EdgeMovesSaid : Prop := edgeMovesRow.holds Try.pinned (OpenSpec.ofChange edgeMovesSpec)

/-- ITS FALSE NEIGHBOUR: 'it returns false'. Refute it at one input. -/
def edgeMovesWrong : ChangeSpec := { name := "edgeMoves", fn := fun _ => fun
  | [d1, d2, d3] => { results := [.lit (.bool false)], args := [d1, d2, d3] }
  | _ => none }
def EdgeMovesWrongFalsely : Prop := edgeMovesRow.holds Try.pinned (OpenSpec.ofChange edgeMovesWrong)

/-- 'glazierlaw07.EdgeSum': WHATEVER THE INPUT: true; the input reads as it did. -/
def edgeSumSpec : ChangeSpec := { name := "edgeSum", fn := fun _ => fun
  | [d1, d2] => { results := [.lit (.bool true)], args := [d1, d2] }
  | _ => none }
def edgeSumRow : OpenClaim := { program := "ytgpdcjgjgblkfaa", sum := "5e28d3762f7138df9d3cc26bff4661eab2902bcf9fa1c1a7be59ea6825f8c4a9", func := "glazier/glazierlaw07.EdgeSum", spec := "edgeSum", apart := false }
def EdgeSumSaid : Prop := edgeSumRow.holds Try.pinned (OpenSpec.ofChange edgeSumSpec)

/-- ITS FALSE NEIGHBOUR: 'it returns false'. Refute it at one input. -/
def edgeSumWrong : ChangeSpec := { name := "edgeSum", fn := fun _ => fun
  | [d1, d2] => { results := [.lit (.bool false)], args := [d1, d2] }
  | _ => none }
def EdgeSumWrongFalsely : Prop := edgeSumRow.holds Try.pinned (OpenSpec.ofChange edgeSumWrong)

/-- 'glazierlaw07.EdgeAll': WHATEVER THE INPUT: true; the input reads as it did. -/
def edgeAllSpec : ChangeSpec := { name := "edgeAll", fn := fun _ => fun
  | [d1, d2] => { results := [.lit (.bool true)], args := [d1, d2] }
  | _ => none }
def edgeAllRow : OpenClaim := { program := "ytgpdcjgjgblkfaa", sum := "5e28d3762f7138df9d3cc26bff4661eab2902bcf9fa1c1a7be59ea6825f8c4a9", func := "glazier/glazierlaw07.EdgeAll", spec := "edgeAll", apart := false }
def EdgeAllSaid : Prop := edgeAllRow.holds Try.pinned (OpenSpec.ofChange edgeAllSpec)

/-- ITS FALSE NEIGHBOUR: 'it returns false'. Refute it at one input. -/
def edgeAllWrong : ChangeSpec := { name := "edgeAll", fn := fun _ => fun
  | [d1, d2] => { results := [.lit (.bool false)], args := [d1, d2] }
  | _ => none }
def EdgeAllWrongFalsely : Prop := edgeAllRow.holds Try.pinned (OpenSpec.ofChange edgeAllWrong)

/-- 'glazierlaw07.EdgeTurns': WHATEVER THE INPUT: true; the input reads as it did. -/
def edgeTurnsSpec : ChangeSpec := { name := "edgeTurns", fn := fun _ => fun
  | [d1, d2] => { results := [.lit (.bool true)], args := [d1, d2] }
  | _ => none }
def edgeTurnsRow : OpenClaim := { program := "ytgpdcjgjgblkfaa", sum := "5e28d3762f7138df9d3cc26bff4661eab2902bcf9fa1c1a7be59ea6825f8c4a9", func := "glazier/glazierlaw07.EdgeTurns", spec := "edgeTurns", apart := false }
def EdgeTurnsSaid : Prop := edgeTurnsRow.holds Try.pinned (OpenSpec.ofChange edgeTurnsSpec)

/-- ITS FALSE NEIGHBOUR: 'it returns false'. Refute it at one input. -/
def edgeTurnsWrong : ChangeSpec := { name := "edgeTurns", fn := fun _ => fun
  | [d1, d2] => { results := [.lit (.bool false)], args := [d1, d2] }
  | _ => none }
def EdgeTurnsWrongFalsely : Prop := edgeTurnsRow.holds Try.pinned (OpenSpec.ofChange edgeTurnsWrong)

/-- 'glazierlaw07.EdgeShares': WHATEVER THE INPUT: true; the input reads as it did. -/
def edgeSharesSpec : ChangeSpec := { name := "edgeShares", fn := fun _ => fun
  | [d] => { results := [.lit (.bool true)], args := [d] }
  | _ => none }
def edgeSharesRow : OpenClaim := { program := "ytgpdcjgjgblkfaa", sum := "5e28d3762f7138df9d3cc26bff4661eab2902bcf9fa1c1a7be59ea6825f8c4a9", func := "glazier/glazierlaw07.EdgeShares", spec := "edgeShares", apart := false }
def EdgeSharesSaid : Prop := edgeSharesRow.holds Try.pinned (OpenSpec.ofChange edgeSharesSpec)

/-- ITS FALSE NEIGHBOUR: 'it returns false'. Refute it at one input. -/
def edgeSharesWrong : ChangeSpec := { name := "edgeShares", fn := fun _ => fun
  | [d] => { results := [.lit (.bool false)], args := [d] }
  | _ => none }
def EdgeSharesWrongFalsely : Prop := edgeSharesRow.holds Try.pinned (OpenSpec.ofChange edgeSharesWrong)

/- THE SECOND FORM. 'bulk': how many values and letters a reading holds, each counted each time it is reached (what is shared counts as often as it is met; a slice's spare places count too). A statement '..UptoSaid' is the law's where the arguments, and the package variables that the reading takes, are together of bulk at most 1048576: NARROWER than '..Said'. Prove '..Said' where nothing that the law and all that it calls make is longer than what came in: it says more and counts as full. Else prove '..UptoSaid'. A law counts once. -/
mutual
def uptoBulk {H : Type} : DataW H → Nat
  | .lit (.string bytes) => bytes.length + 1
  | .lit _ => 1
  | .nil => 1
  | .ptr d => uptoBulk d + 1
  | .slice elems spare => uptoBulkAll elems + uptoBulkAll spare + 1
  | .agg parts => uptoBulkAll parts + 1
  | .iface _ d => uptoBulk d + 1
  | .map entries => uptoBulkEntries entries + 1
  | .held _ => 1
def uptoBulkAll {H : Type} : List (DataW H) → Nat
  | [] => 0
  | d :: r => uptoBulk d + uptoBulkAll r
def uptoBulkEntries {H : Type} : List (Lit × DataW H) → Nat
  | [] => 0
  | x :: r => uptoBulkEntry x + uptoBulkEntries r
def uptoBulkEntry {H : Type} : Lit × DataW H → Nat
  | (.string bytes, d) => bytes.length + uptoBulk d + 1
  | (_, d) => uptoBulk d + 1
 end
def uptoSmall : (H : Type) → List (DataW H) → Bool := fun _ ds => decide (uptoBulkAll ds ≤ 1048576)
def OpenSpec.upto (s : _root_.Go.ChangeSpec) : _root_.Go.OpenSpec := { _root_.Go.OpenSpec.ofChange s with cond := some uptoSmall }

/-- 'glazierlaw07.EdgeOnce', WHERE WHAT IT READS IS OF BULK AT MOST 1048576: true; the input reads as it did. -/
def edgeOnceUptoRow : OpenClaim := { program := "ytgpdcjgjgblkfaa", sum := "5e28d3762f7138df9d3cc26bff4661eab2902bcf9fa1c1a7be59ea6825f8c4a9", func := "glazier/glazierlaw07.EdgeOnce", spec := "edgeOnce", apart := false, narrowed := true }
def EdgeOnceUptoSaid : Prop := edgeOnceUptoRow.holds Try.pinned (OpenSpec.upto edgeOnceSpec)

/-- 'glazierlaw07.EdgeMoves', WHERE WHAT IT READS IS OF BULK AT MOST 1048576: true; the input reads as it did. -/
def edgeMovesUptoRow : OpenClaim := { program := "ytgpdcjgjgblkfaa", sum := "5e28d3762f7138df9d3cc26bff4661eab2902bcf9fa1c1a7be59ea6825f8c4a9", func := "glazier/glazierlaw07.EdgeMoves", spec := "edgeMoves", apart := false, narrowed := true }
def EdgeMovesUptoSaid : Prop := edgeMovesUptoRow.holds Try.pinned (OpenSpec.upto edgeMovesSpec)

/-- 'glazierlaw07.EdgeSum', WHERE WHAT IT READS IS OF BULK AT MOST 1048576: true; the input reads as it did. -/
def edgeSumUptoRow : OpenClaim := { program := "ytgpdcjgjgblkfaa", sum := "5e28d3762f7138df9d3cc26bff4661eab2902bcf9fa1c1a7be59ea6825f8c4a9", func := "glazier/glazierlaw07.EdgeSum", spec := "edgeSum", apart := false, narrowed := true }
def EdgeSumUptoSaid : Prop := edgeSumUptoRow.holds Try.pinned (OpenSpec.upto edgeSumSpec)

/-- 'glazierlaw07.EdgeAll', WHERE WHAT IT READS IS OF BULK AT MOST 1048576: true; the input reads as it did. -/
def edgeAllUptoRow : OpenClaim := { program := "ytgpdcjgjgblkfaa", sum := "5e28d3762f7138df9d3cc26bff4661eab2902bcf9fa1c1a7be59ea6825f8c4a9", func := "glazier/glazierlaw07.EdgeAll", spec := "edgeAll", apart := false, narrowed := true }
def EdgeAllUptoSaid : Prop := edgeAllUptoRow.holds Try.pinned (OpenSpec.upto edgeAllSpec)

/-- 'glazierlaw07.EdgeTurns', WHERE WHAT IT READS IS OF BULK AT MOST 1048576: true; the input reads as it did. -/
def edgeTurnsUptoRow : OpenClaim := { program := "ytgpdcjgjgblkfaa", sum := "5e28d3762f7138df9d3cc26bff4661eab2902bcf9fa1c1a7be59ea6825f8c4a9", func := "glazier/glazierlaw07.EdgeTurns", spec := "edgeTurns", apart := false, narrowed := true }
def EdgeTurnsUptoSaid : Prop := edgeTurnsUptoRow.holds Try.pinned (OpenSpec.upto edgeTurnsSpec)

/-- 'glazierlaw07.EdgeShares', WHERE WHAT IT READS IS OF BULK AT MOST 1048576: true; the input reads as it did. -/
def edgeSharesUptoRow : OpenClaim := { program := "ytgpdcjgjgblkfaa", sum := "5e28d3762f7138df9d3cc26bff4661eab2902bcf9fa1c1a7be59ea6825f8c4a9", func := "glazier/glazierlaw07.EdgeShares", spec := "edgeShares", apart := false, narrowed := true }
def EdgeSharesUptoSaid : Prop := edgeSharesUptoRow.holds Try.pinned (OpenSpec.upto edgeSharesSpec)

end Rows
end Go.Proofs.Ytgpdcjgjgblkfaa
