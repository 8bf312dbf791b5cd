/-
  No cell of these rows narrows 'for every input' (looked for: loops, veiled, ifaces, maps, wideKeys, modest, calm, conditions, laid).
  DERIVED. THE GIVEN ROWS OF THIS SEAT. 10 by the template 'for every input the law returns true; each argument reads behind the call as it read before'; 0 by the template 'total and deterministic' (their statements: YtbkmhkeihbgcfaaTotals.lean).
  GIVEN WITH THE SEED: the statements are not yours to turn. If you find one false, say at which input.
  Laid BY PROGRAM, IN A SANDBOX (cutbox-rows.mjs): the forced cells as the released guide's own fill.sh prints them over the translation 5d2843a13ccd0c22… (all of the seat's roots in one cut). By AI agents, Wed Nov 11 2026. No macro, syntax, notation, axiom, sorry.
-/
import Derived.Test.YtbkmhkeihbgcfaaChecked
import GoSem.Claim
import GoSem.ClaimJoined
import GoSem.ClaimMapViews
import Derived.JoinedTies
import Derived.KernelRfl
namespace Go.Proofs.Ytbkmhkeihbgcfaa
/- THE CELL 'sum', in the pinned program and in every row, IS THE sha256 OF THE DUMP (.gsa) THAT YtbkmhkeihbgcfaaProg.lean LOADS. Nothing in Lean hashes anything: it is a label: what it is worth is what the hold of that sum in a sandbox is worth. -/
noncomputable def Try.pinned : Pinned := { name := "ytbkmhkeihbgcfaa", sum := "5d2843a13ccd0c2248a90c23630087e60a7a507bb4061752a773026d64216a5c", checked := Try.checked }
namespace Rows
def none {H : Type} : Left H := { results := [], args := [] }

/-- 'glazierlaw17.PoolWithin': WHATEVER THE INPUT: true; the input reads as it did. -/
def poolWithinSpec : ChangeSpec := { name := "poolWithin", fn := fun _ => fun
  | [d] => { results := [.lit (.bool true)], args := [d] }
  | _ => none }
def poolWithinRow : OpenClaim := { program := "ytbkmhkeihbgcfaa", sum := "5d2843a13ccd0c2248a90c23630087e60a7a507bb4061752a773026d64216a5c", func := "glazier/glazierlaw17.PoolWithin", spec := "poolWithin", unfollowed := true, recurses := true, plainKeys := false, apart := false }
def PoolWithinSaid : Prop := poolWithinRow.holds Try.pinned (OpenSpec.ofChange poolWithinSpec)

/-- ITS FALSE NEIGHBOUR: 'it returns false'. Refute it at one input. -/
def poolWithinWrong : ChangeSpec := { name := "poolWithin", fn := fun _ => fun
  | [d] => { results := [.lit (.bool false)], args := [d] }
  | _ => none }
def PoolWithinWrongFalsely : Prop := poolWithinRow.holds Try.pinned (OpenSpec.ofChange poolWithinWrong)

/-- 'glazierlaw17.PoolApart': WHATEVER THE INPUT: true; the input reads as it did. -/
def poolApartSpec : ChangeSpec := { name := "poolApart", fn := fun _ => fun
  | [d1, d2, d3] => { results := [.lit (.bool true)], args := [d1, d2, d3] }
  | _ => none }
def poolApartRow : OpenClaim := { program := "ytbkmhkeihbgcfaa", sum := "5d2843a13ccd0c2248a90c23630087e60a7a507bb4061752a773026d64216a5c", func := "glazier/glazierlaw17.PoolApart", spec := "poolApart", unfollowed := true, recurses := true, plainKeys := false, apart := false }
def PoolApartSaid : Prop := poolApartRow.holds Try.pinned (OpenSpec.ofChange poolApartSpec)

/-- ITS FALSE NEIGHBOUR: 'it returns false'. Refute it at one input. -/
def poolApartWrong : ChangeSpec := { name := "poolApart", fn := fun _ => fun
  | [d1, d2, d3] => { results := [.lit (.bool false)], args := [d1, d2, d3] }
  | _ => none }
def PoolApartWrongFalsely : Prop := poolApartRow.holds Try.pinned (OpenSpec.ofChange poolApartWrong)

/-- 'glazierlaw17.PoolRoom': WHATEVER THE INPUT: true; the input reads as it did. -/
def poolRoomSpec : ChangeSpec := { name := "poolRoom", fn := fun _ => fun
  | [d1, d2] => { results := [.lit (.bool true)], args := [d1, d2] }
  | _ => none }
def poolRoomRow : OpenClaim := { program := "ytbkmhkeihbgcfaa", sum := "5d2843a13ccd0c2248a90c23630087e60a7a507bb4061752a773026d64216a5c", func := "glazier/glazierlaw17.PoolRoom", spec := "poolRoom", unfollowed := true, recurses := true, plainKeys := false, apart := false }
def PoolRoomSaid : Prop := poolRoomRow.holds Try.pinned (OpenSpec.ofChange poolRoomSpec)

/-- ITS FALSE NEIGHBOUR: 'it returns false'. Refute it at one input. -/
def poolRoomWrong : ChangeSpec := { name := "poolRoom", fn := fun _ => fun
  | [d1, d2] => { results := [.lit (.bool false)], args := [d1, d2] }
  | _ => none }
def PoolRoomWrongFalsely : Prop := poolRoomRow.holds Try.pinned (OpenSpec.ofChange poolRoomWrong)

/-- 'glazierlaw17.PoolSets': WHATEVER THE INPUT: true; the input reads as it did. -/
def poolSetsSpec : ChangeSpec := { name := "poolSets", fn := fun _ => fun
  | [d1, d2, d3] => { results := [.lit (.bool true)], args := [d1, d2, d3] }
  | _ => none }
def poolSetsRow : OpenClaim := { program := "ytbkmhkeihbgcfaa", sum := "5d2843a13ccd0c2248a90c23630087e60a7a507bb4061752a773026d64216a5c", func := "glazier/glazierlaw17.PoolSets", spec := "poolSets", unfollowed := true, recurses := true, plainKeys := false, apart := false }
def PoolSetsSaid : Prop := poolSetsRow.holds Try.pinned (OpenSpec.ofChange poolSetsSpec)

/-- ITS FALSE NEIGHBOUR: 'it returns false'. Refute it at one input. -/
def poolSetsWrong : ChangeSpec := { name := "poolSets", fn := fun _ => fun
  | [d1, d2, d3] => { results := [.lit (.bool false)], args := [d1, d2, d3] }
  | _ => none }
def PoolSetsWrongFalsely : Prop := poolSetsRow.holds Try.pinned (OpenSpec.ofChange poolSetsWrong)

/-- 'glazierlaw17.PoolPlays': WHATEVER THE INPUT: true; the input reads as it did. -/
def poolPlaysSpec : ChangeSpec := { name := "poolPlays", fn := fun _ => fun
  | [d1, d2] => { results := [.lit (.bool true)], args := [d1, d2] }
  | _ => none }
def poolPlaysRow : OpenClaim := { program := "ytbkmhkeihbgcfaa", sum := "5d2843a13ccd0c2248a90c23630087e60a7a507bb4061752a773026d64216a5c", func := "glazier/glazierlaw17.PoolPlays", spec := "poolPlays", unfollowed := true, recurses := true, plainKeys := false, apart := false }
def PoolPlaysSaid : Prop := poolPlaysRow.holds Try.pinned (OpenSpec.ofChange poolPlaysSpec)

/-- ITS FALSE NEIGHBOUR: 'it returns false'. Refute it at one input. -/
def poolPlaysWrong : ChangeSpec := { name := "poolPlays", fn := fun _ => fun
  | [d1, d2] => { results := [.lit (.bool false)], args := [d1, d2] }
  | _ => none }
def PoolPlaysWrongFalsely : Prop := poolPlaysRow.holds Try.pinned (OpenSpec.ofChange poolPlaysWrong)

/-- 'glazierlaw19.AbufferTurns': WHATEVER THE INPUT: true; the input reads as it did. -/
def abufferTurnsSpec : ChangeSpec := { name := "abufferTurns", fn := fun _ => fun
  | [d1, d2] => { results := [.lit (.bool true)], args := [d1, d2] }
  | _ => none }
def abufferTurnsRow : OpenClaim := { program := "ytbkmhkeihbgcfaa", sum := "5d2843a13ccd0c2248a90c23630087e60a7a507bb4061752a773026d64216a5c", func := "glazier/glazierlaw19.AbufferTurns", spec := "abufferTurns", inPlace := ["slices.overlaps[glazier/api.Frag]"], unfollowed := true, recurses := true, plainKeys := false, apart := false }
def AbufferTurnsSaid : Prop := abufferTurnsRow.holds Try.pinned (OpenSpec.ofChange abufferTurnsSpec)

/-- ITS FALSE NEIGHBOUR: 'it returns false'. Refute it at one input. -/
def abufferTurnsWrong : ChangeSpec := { name := "abufferTurns", fn := fun _ => fun
  | [d1, d2] => { results := [.lit (.bool false)], args := [d1, d2] }
  | _ => none }
def AbufferTurnsWrongFalsely : Prop := abufferTurnsRow.holds Try.pinned (OpenSpec.ofChange abufferTurnsWrong)

/-- 'glazierlaw19.AbufferPixels': WHATEVER THE INPUT: true; the input reads as it did. -/
def abufferPixelsSpec : ChangeSpec := { name := "abufferPixels", fn := fun _ => fun
  | [d1, d2, d3] => { results := [.lit (.bool true)], args := [d1, d2, d3] }
  | _ => none }
def abufferPixelsRow : OpenClaim := { program := "ytbkmhkeihbgcfaa", sum := "5d2843a13ccd0c2248a90c23630087e60a7a507bb4061752a773026d64216a5c", func := "glazier/glazierlaw19.AbufferPixels", spec := "abufferPixels", inPlace := ["slices.overlaps[glazier/api.Frag]"], unfollowed := true, recurses := true, plainKeys := false, apart := false }
def AbufferPixelsSaid : Prop := abufferPixelsRow.holds Try.pinned (OpenSpec.ofChange abufferPixelsSpec)

/-- ITS FALSE NEIGHBOUR: 'it returns false'. Refute it at one input. -/
def abufferPixelsWrong : ChangeSpec := { name := "abufferPixels", fn := fun _ => fun
  | [d1, d2, d3] => { results := [.lit (.bool false)], args := [d1, d2, d3] }
  | _ => none }
def AbufferPixelsWrongFalsely : Prop := abufferPixelsRow.holds Try.pinned (OpenSpec.ofChange abufferPixelsWrong)

/-- 'glazierlaw19.AbufferMore': WHATEVER THE INPUT: true; the input reads as it did. -/
def abufferMoreSpec : ChangeSpec := { name := "abufferMore", fn := fun _ => fun
  | [d] => { results := [.lit (.bool true)], args := [d] }
  | _ => none }
def abufferMoreRow : OpenClaim := { program := "ytbkmhkeihbgcfaa", sum := "5d2843a13ccd0c2248a90c23630087e60a7a507bb4061752a773026d64216a5c", func := "glazier/glazierlaw19.AbufferMore", spec := "abufferMore", inPlace := ["slices.overlaps[glazier/api.Frag]"], unfollowed := true, recurses := true, plainKeys := false, apart := false }
def AbufferMoreSaid : Prop := abufferMoreRow.holds Try.pinned (OpenSpec.ofChange abufferMoreSpec)

/-- ITS FALSE NEIGHBOUR: 'it returns false'. Refute it at one input. -/
def abufferMoreWrong : ChangeSpec := { name := "abufferMore", fn := fun _ => fun
  | [d] => { results := [.lit (.bool false)], args := [d] }
  | _ => none }
def AbufferMoreWrongFalsely : Prop := abufferMoreRow.holds Try.pinned (OpenSpec.ofChange abufferMoreWrong)

/-- 'glazierlaw19.AbufferPlays': WHATEVER THE INPUT: true; the input reads as it did. -/
def abufferPlaysSpec : ChangeSpec := { name := "abufferPlays", fn := fun _ => fun
  | [d1, d2, d3] => { results := [.lit (.bool true)], args := [d1, d2, d3] }
  | _ => none }
def abufferPlaysRow : OpenClaim := { program := "ytbkmhkeihbgcfaa", sum := "5d2843a13ccd0c2248a90c23630087e60a7a507bb4061752a773026d64216a5c", func := "glazier/glazierlaw19.AbufferPlays", spec := "abufferPlays", inPlace := ["slices.overlaps[glazier/api.Frag]"], unfollowed := true, recurses := true, plainKeys := false, apart := false }
def AbufferPlaysSaid : Prop := abufferPlaysRow.holds Try.pinned (OpenSpec.ofChange abufferPlaysSpec)

/-- ITS FALSE NEIGHBOUR: 'it returns false'. Refute it at one input. -/
def abufferPlaysWrong : ChangeSpec := { name := "abufferPlays", fn := fun _ => fun
  | [d1, d2, d3] => { results := [.lit (.bool false)], args := [d1, d2, d3] }
  | _ => none }
def AbufferPlaysWrongFalsely : Prop := abufferPlaysRow.holds Try.pinned (OpenSpec.ofChange abufferPlaysWrong)

/-- 'glazierlaw19.AbufferOver': WHATEVER THE INPUT: true; the input reads as it did. -/
def abufferOverSpec : ChangeSpec := { name := "abufferOver", fn := fun _ => fun
  | [d1, d2] => { results := [.lit (.bool true)], args := [d1, d2] }
  | _ => none }
def abufferOverRow : OpenClaim := { program := "ytbkmhkeihbgcfaa", sum := "5d2843a13ccd0c2248a90c23630087e60a7a507bb4061752a773026d64216a5c", func := "glazier/glazierlaw19.AbufferOver", spec := "abufferOver", inPlace := ["slices.overlaps[glazier/api.Frag]"], unfollowed := true, recurses := true, plainKeys := false, apart := false }
def AbufferOverSaid : Prop := abufferOverRow.holds Try.pinned (OpenSpec.ofChange abufferOverSpec)

/-- ITS FALSE NEIGHBOUR: 'it returns false'. Refute it at one input. -/
def abufferOverWrong : ChangeSpec := { name := "abufferOver", fn := fun _ => fun
  | [d1, d2] => { results := [.lit (.bool false)], args := [d1, d2] }
  | _ => none }
def AbufferOverWrongFalsely : Prop := abufferOverRow.holds Try.pinned (OpenSpec.ofChange abufferOverWrong)

/- THE SECOND FORM. 'bulk': how many values and letters a reading holds, each counted each time it is reached (what is shared counts as often as it is met; a slice's spare places count too). A statement '..UptoSaid' is the law's where the arguments, and the package variables that the reading takes, are together of bulk at most 1048576: NARROWER than '..Said'. Prove '..Said' where nothing that the law and all that it calls make is longer than what came in: it says more and counts as full. Else prove '..UptoSaid'. A law counts once. -/
mutual
def uptoBulk {H : Type} : DataW H → Nat
  | .lit (.string bytes) => bytes.length + 1
  | .lit _ => 1
  | .nil => 1
  | .ptr d => uptoBulk d + 1
  | .slice elems spare => uptoBulkAll elems + uptoBulkAll spare + 1
  | .agg parts => uptoBulkAll parts + 1
  | .iface _ d => uptoBulk d + 1
  | .map entries => uptoBulkEntries entries + 1
  | .held _ => 1
def uptoBulkAll {H : Type} : List (DataW H) → Nat
  | [] => 0
  | d :: r => uptoBulk d + uptoBulkAll r
def uptoBulkEntries {H : Type} : List (Lit × DataW H) → Nat
  | [] => 0
  | x :: r => uptoBulkEntry x + uptoBulkEntries r
def uptoBulkEntry {H : Type} : Lit × DataW H → Nat
  | (.string bytes, d) => bytes.length + uptoBulk d + 1
  | (_, d) => uptoBulk d + 1
 end
def uptoSmall : (H : Type) → List (DataW H) → Bool := fun _ ds => decide (uptoBulkAll ds ≤ 1048576)
def OpenSpec.upto (s : _root_.Go.ChangeSpec) : _root_.Go.OpenSpec := { _root_.Go.OpenSpec.ofChange s with cond := some uptoSmall }

/-- 'glazierlaw17.PoolWithin', WHERE WHAT IT READS IS OF BULK AT MOST 1048576: true; the input reads as it did. -/
def poolWithinUptoRow : OpenClaim := { program := "ytbkmhkeihbgcfaa", sum := "5d2843a13ccd0c2248a90c23630087e60a7a507bb4061752a773026d64216a5c", func := "glazier/glazierlaw17.PoolWithin", spec := "poolWithin", unfollowed := true, recurses := true, plainKeys := false, apart := false, narrowed := true }
def PoolWithinUptoSaid : Prop := poolWithinUptoRow.holds Try.pinned (OpenSpec.upto poolWithinSpec)

/-- 'glazierlaw17.PoolApart', WHERE WHAT IT READS IS OF BULK AT MOST 1048576: true; the input reads as it did. -/
def poolApartUptoRow : OpenClaim := { program := "ytbkmhkeihbgcfaa", sum := "5d2843a13ccd0c2248a90c23630087e60a7a507bb4061752a773026d64216a5c", func := "glazier/glazierlaw17.PoolApart", spec := "poolApart", unfollowed := true, recurses := true, plainKeys := false, apart := false, narrowed := true }
def PoolApartUptoSaid : Prop := poolApartUptoRow.holds Try.pinned (OpenSpec.upto poolApartSpec)

/-- 'glazierlaw17.PoolRoom', WHERE WHAT IT READS IS OF BULK AT MOST 1048576: true; the input reads as it did. -/
def poolRoomUptoRow : OpenClaim := { program := "ytbkmhkeihbgcfaa", sum := "5d2843a13ccd0c2248a90c23630087e60a7a507bb4061752a773026d64216a5c", func := "glazier/glazierlaw17.PoolRoom", spec := "poolRoom", unfollowed := true, recurses := true, plainKeys := false, apart := false, narrowed := true }
def PoolRoomUptoSaid : Prop := poolRoomUptoRow.holds Try.pinned (OpenSpec.upto poolRoomSpec)

/-- 'glazierlaw17.PoolSets', WHERE WHAT IT READS IS OF BULK AT MOST 1048576: true; the input reads as it did. -/
def poolSetsUptoRow : OpenClaim := { program := "ytbkmhkeihbgcfaa", sum := "5d2843a13ccd0c2248a90c23630087e60a7a507bb4061752a773026d64216a5c", func := "glazier/glazierlaw17.PoolSets", spec := "poolSets", unfollowed := true, recurses := true, plainKeys := false, apart := false, narrowed := true }
def PoolSetsUptoSaid : Prop := poolSetsUptoRow.holds Try.pinned (OpenSpec.upto poolSetsSpec)

/-- 'glazierlaw17.PoolPlays', WHERE WHAT IT READS IS OF BULK AT MOST 1048576: true; the input reads as it did. -/
def poolPlaysUptoRow : OpenClaim := { program := "ytbkmhkeihbgcfaa", sum := "5d2843a13ccd0c2248a90c23630087e60a7a507bb4061752a773026d64216a5c", func := "glazier/glazierlaw17.PoolPlays", spec := "poolPlays", unfollowed := true, recurses := true, plainKeys := false, apart := false, narrowed := true }
def PoolPlaysUptoSaid : Prop := poolPlaysUptoRow.holds Try.pinned (OpenSpec.upto poolPlaysSpec)

/-- 'glazierlaw19.AbufferTurns', WHERE WHAT IT READS IS OF BULK AT MOST 1048576: true; the input reads as it did. -/
def abufferTurnsUptoRow : OpenClaim := { program := "ytbkmhkeihbgcfaa", sum := "5d2843a13ccd0c2248a90c23630087e60a7a507bb4061752a773026d64216a5c", func := "glazier/glazierlaw19.AbufferTurns", spec := "abufferTurns", inPlace := ["slices.overlaps[glazier/api.Frag]"], unfollowed := true, recurses := true, plainKeys := false, apart := false, narrowed := true }
def AbufferTurnsUptoSaid : Prop := abufferTurnsUptoRow.holds Try.pinned (OpenSpec.upto abufferTurnsSpec)

/-- 'glazierlaw19.AbufferPixels', WHERE WHAT IT READS IS OF BULK AT MOST 1048576: true; the input reads as it did. -/
def abufferPixelsUptoRow : OpenClaim := { program := "ytbkmhkeihbgcfaa", sum := "5d2843a13ccd0c2248a90c23630087e60a7a507bb4061752a773026d64216a5c", func := "glazier/glazierlaw19.AbufferPixels", spec := "abufferPixels", inPlace := ["slices.overlaps[glazier/api.Frag]"], unfollowed := true, recurses := true, plainKeys := false, apart := false, narrowed := true }
def AbufferPixelsUptoSaid : Prop := abufferPixelsUptoRow.holds Try.pinned (OpenSpec.upto abufferPixelsSpec)

/-- 'glazierlaw19.AbufferMore', WHERE WHAT IT READS IS OF BULK AT MOST 1048576: true; the input reads as it did. -/
def abufferMoreUptoRow : OpenClaim := { program := "ytbkmhkeihbgcfaa", sum := "5d2843a13ccd0c2248a90c23630087e60a7a507bb4061752a773026d64216a5c", func := "glazier/glazierlaw19.AbufferMore", spec := "abufferMore", inPlace := ["slices.overlaps[glazier/api.Frag]"], unfollowed := true, recurses := true, plainKeys := false, apart := false, narrowed := true }
def AbufferMoreUptoSaid : Prop := abufferMoreUptoRow.holds Try.pinned (OpenSpec.upto abufferMoreSpec)

/-- 'glazierlaw19.AbufferPlays', WHERE WHAT IT READS IS OF BULK AT MOST 1048576: true; the input reads as it did. -/
def abufferPlaysUptoRow : OpenClaim := { program := "ytbkmhkeihbgcfaa", sum := "5d2843a13ccd0c2248a90c23630087e60a7a507bb4061752a773026d64216a5c", func := "glazier/glazierlaw19.AbufferPlays", spec := "abufferPlays", inPlace := ["slices.overlaps[glazier/api.Frag]"], unfollowed := true, recurses := true, plainKeys := false, apart := false, narrowed := true }
def AbufferPlaysUptoSaid : Prop := abufferPlaysUptoRow.holds Try.pinned (OpenSpec.upto abufferPlaysSpec)

/-- 'glazierlaw19.AbufferOver', WHERE WHAT IT READS IS OF BULK AT MOST 1048576: true; the input reads as it did. -/
def abufferOverUptoRow : OpenClaim := { program := "ytbkmhkeihbgcfaa", sum := "5d2843a13ccd0c2248a90c23630087e60a7a507bb4061752a773026d64216a5c", func := "glazier/glazierlaw19.AbufferOver", spec := "abufferOver", inPlace := ["slices.overlaps[glazier/api.Frag]"], unfollowed := true, recurses := true, plainKeys := false, apart := false, narrowed := true }
def AbufferOverUptoSaid : Prop := abufferOverUptoRow.holds Try.pinned (OpenSpec.upto abufferOverSpec)

end Rows
end Go.Proofs.Ytbkmhkeihbgcfaa
