/-
  No cell of these rows narrows 'for every input' (looked for: loops, veiled, ifaces, maps, wideKeys, modest, calm, conditions, laid).
  DERIVED. THE GIVEN ROWS OF THIS SEAT. 11 by the template 'for every input the law returns true; each argument reads behind the call as it read before'; 0 by the template 'total and deterministic' (their statements: YtimolomjpmkbiaaTotals.lean).
  GIVEN WITH THE SEED: the statements are not yours to turn. If you find one false, say at which input.
  Laid BY PROGRAM, IN A SANDBOX (cutbox-rows.mjs): the forced cells as the released guide's own fill.sh prints them over the translation e61946d96d5537ac… (all of the seat's roots in one cut). By AI agents, Wed Nov 11 2026. No macro, syntax, notation, axiom, sorry.
-/
import Derived.Test.YtimolomjpmkbiaaChecked
import GoSem.Claim
import GoSem.ClaimJoined
import GoSem.ClaimMapViews
import Derived.JoinedTies
import Derived.KernelRfl
namespace Go.Proofs.Ytimolomjpmkbiaa
/- THE CELL 'sum', in the pinned program and in every row, IS THE sha256 OF THE DUMP (.gsa) THAT YtimolomjpmkbiaaProg.lean LOADS. Nothing in Lean hashes anything: it is a label: what it is worth is what the hold of that sum in a sandbox is worth. -/
noncomputable def Try.pinned : Pinned := { name := "ytimolomjpmkbiaa", sum := "e61946d96d5537acb057d96c4547059ad5a57e737e74369d25dfcb49115fccae", checked := Try.checked }
namespace Rows
def none {H : Type} : Left H := { results := [], args := [] }

/-- 'glazierlaw07.EdgeOnce': WHATEVER THE INPUT: true; the input reads as it did. -/
def edgeOnceSpec : ChangeSpec := { name := "edgeOnce", fn := fun _ => fun
  | [d1, d2, d3] => { results := [.lit (.bool true)], args := [d1, d2, d3] }
  | _ => none }
def edgeOnceRow : OpenClaim := { program := "ytimolomjpmkbiaa", sum := "e61946d96d5537acb057d96c4547059ad5a57e737e74369d25dfcb49115fccae", func := "glazier/glazierlaw07.EdgeOnce", spec := "edgeOnce", plainKeys := false, apart := false }
def EdgeOnceSaid : Prop := edgeOnceRow.holds Try.pinned (OpenSpec.ofChange edgeOnceSpec)

/-- ITS FALSE NEIGHBOUR: 'it returns false'. Refute it at one input. -/
def edgeOnceWrong : ChangeSpec := { name := "edgeOnce", fn := fun _ => fun
  | [d1, d2, d3] => { results := [.lit (.bool false)], args := [d1, d2, d3] }
  | _ => none }
def EdgeOnceWrongFalsely : Prop := edgeOnceRow.holds Try.pinned (OpenSpec.ofChange edgeOnceWrong)

/-- 'glazierlaw07.EdgeShares': WHATEVER THE INPUT: true; the input reads as it did. -/
def edgeSharesSpec : ChangeSpec := { name := "edgeShares", fn := fun _ => fun
  | [d] => { results := [.lit (.bool true)], args := [d] }
  | _ => none }
def edgeSharesRow : OpenClaim := { program := "ytimolomjpmkbiaa", sum := "e61946d96d5537acb057d96c4547059ad5a57e737e74369d25dfcb49115fccae", func := "glazier/glazierlaw07.EdgeShares", spec := "edgeShares", plainKeys := false, apart := false }
def EdgeSharesSaid : Prop := edgeSharesRow.holds Try.pinned (OpenSpec.ofChange edgeSharesSpec)

/-- ITS FALSE NEIGHBOUR: 'it returns false'. Refute it at one input. -/
def edgeSharesWrong : ChangeSpec := { name := "edgeShares", fn := fun _ => fun
  | [d] => { results := [.lit (.bool false)], args := [d] }
  | _ => none }
def EdgeSharesWrongFalsely : Prop := edgeSharesRow.holds Try.pinned (OpenSpec.ofChange edgeSharesWrong)

/-- 'glazierlaw08.CoverAll': WHATEVER THE INPUT: true; the input reads as it did. -/
def coverAllSpec : ChangeSpec := { name := "coverAll", fn := fun _ => fun
  | [d1, d2, d3] => { results := [.lit (.bool true)], args := [d1, d2, d3] }
  | _ => none }
def coverAllRow : OpenClaim := { program := "ytimolomjpmkbiaa", sum := "e61946d96d5537acb057d96c4547059ad5a57e737e74369d25dfcb49115fccae", func := "glazier/glazierlaw08.CoverAll", spec := "coverAll", unfollowed := true, recurses := true, plainKeys := false, apart := false }
def CoverAllSaid : Prop := coverAllRow.holds Try.pinned (OpenSpec.ofChange coverAllSpec)

/-- ITS FALSE NEIGHBOUR: 'it returns false'. Refute it at one input. -/
def coverAllWrong : ChangeSpec := { name := "coverAll", fn := fun _ => fun
  | [d1, d2, d3] => { results := [.lit (.bool false)], args := [d1, d2, d3] }
  | _ => none }
def CoverAllWrongFalsely : Prop := coverAllRow.holds Try.pinned (OpenSpec.ofChange coverAllWrong)

/-- 'glazierlaw08.CoverOnce': WHATEVER THE INPUT: true; the input reads as it did. -/
def coverOnceSpec : ChangeSpec := { name := "coverOnce", fn := fun _ => fun
  | [d1, d2] => { results := [.lit (.bool true)], args := [d1, d2] }
  | _ => none }
def coverOnceRow : OpenClaim := { program := "ytimolomjpmkbiaa", sum := "e61946d96d5537acb057d96c4547059ad5a57e737e74369d25dfcb49115fccae", func := "glazier/glazierlaw08.CoverOnce", spec := "coverOnce", unfollowed := true, recurses := true, plainKeys := false, apart := false }
def CoverOnceSaid : Prop := coverOnceRow.holds Try.pinned (OpenSpec.ofChange coverOnceSpec)

/-- ITS FALSE NEIGHBOUR: 'it returns false'. Refute it at one input. -/
def coverOnceWrong : ChangeSpec := { name := "coverOnce", fn := fun _ => fun
  | [d1, d2] => { results := [.lit (.bool false)], args := [d1, d2] }
  | _ => none }
def CoverOnceWrongFalsely : Prop := coverOnceRow.holds Try.pinned (OpenSpec.ofChange coverOnceWrong)

/-- 'glazierlaw08.CoverBits': WHATEVER THE INPUT: true; the input reads as it did. -/
def coverBitsSpec : ChangeSpec := { name := "coverBits", fn := fun _ => fun
  | [d1, d2, d3] => { results := [.lit (.bool true)], args := [d1, d2, d3] }
  | _ => none }
def coverBitsRow : OpenClaim := { program := "ytimolomjpmkbiaa", sum := "e61946d96d5537acb057d96c4547059ad5a57e737e74369d25dfcb49115fccae", func := "glazier/glazierlaw08.CoverBits", spec := "coverBits", unfollowed := true, recurses := true, plainKeys := false, apart := false }
def CoverBitsSaid : Prop := coverBitsRow.holds Try.pinned (OpenSpec.ofChange coverBitsSpec)

/-- ITS FALSE NEIGHBOUR: 'it returns false'. Refute it at one input. -/
def coverBitsWrong : ChangeSpec := { name := "coverBits", fn := fun _ => fun
  | [d1, d2, d3] => { results := [.lit (.bool false)], args := [d1, d2, d3] }
  | _ => none }
def CoverBitsWrongFalsely : Prop := coverBitsRow.holds Try.pinned (OpenSpec.ofChange coverBitsWrong)

/-- 'glazierlaw08.CoverFan': WHATEVER THE INPUT: true; the input reads as it did. -/
def coverFanSpec : ChangeSpec := { name := "coverFan", fn := fun _ => fun
  | [d1, d2, d3] => { results := [.lit (.bool true)], args := [d1, d2, d3] }
  | _ => none }
def coverFanRow : OpenClaim := { program := "ytimolomjpmkbiaa", sum := "e61946d96d5537acb057d96c4547059ad5a57e737e74369d25dfcb49115fccae", func := "glazier/glazierlaw08.CoverFan", spec := "coverFan", unfollowed := true, recurses := true, plainKeys := false, apart := false }
def CoverFanSaid : Prop := coverFanRow.holds Try.pinned (OpenSpec.ofChange coverFanSpec)

/-- ITS FALSE NEIGHBOUR: 'it returns false'. Refute it at one input. -/
def coverFanWrong : ChangeSpec := { name := "coverFan", fn := fun _ => fun
  | [d1, d2, d3] => { results := [.lit (.bool false)], args := [d1, d2, d3] }
  | _ => none }
def CoverFanWrongFalsely : Prop := coverFanRow.holds Try.pinned (OpenSpec.ofChange coverFanWrong)

/-- 'glazierlaw18.PrepassCulls': WHATEVER THE INPUT: true; the input reads as it did. -/
def prepassCullsSpec : ChangeSpec := { name := "prepassCulls", fn := fun _ => fun
  | [d1, d2] => { results := [.lit (.bool true)], args := [d1, d2] }
  | _ => none }
def prepassCullsRow : OpenClaim := { program := "ytimolomjpmkbiaa", sum := "e61946d96d5537acb057d96c4547059ad5a57e737e74369d25dfcb49115fccae", func := "glazier/glazierlaw18.PrepassCulls", spec := "prepassCulls", unfollowed := true, recurses := true, plainKeys := false, apart := false }
def PrepassCullsSaid : Prop := prepassCullsRow.holds Try.pinned (OpenSpec.ofChange prepassCullsSpec)

/-- ITS FALSE NEIGHBOUR: 'it returns false'. Refute it at one input. -/
def prepassCullsWrong : ChangeSpec := { name := "prepassCulls", fn := fun _ => fun
  | [d1, d2] => { results := [.lit (.bool false)], args := [d1, d2] }
  | _ => none }
def PrepassCullsWrongFalsely : Prop := prepassCullsRow.holds Try.pinned (OpenSpec.ofChange prepassCullsWrong)

/-- 'glazierlaw18.PrepassAll': WHATEVER THE INPUT: true; the input reads as it did. -/
def prepassAllSpec : ChangeSpec := { name := "prepassAll", fn := fun _ => fun
  | [d1, d2, d3] => { results := [.lit (.bool true)], args := [d1, d2, d3] }
  | _ => none }
def prepassAllRow : OpenClaim := { program := "ytimolomjpmkbiaa", sum := "e61946d96d5537acb057d96c4547059ad5a57e737e74369d25dfcb49115fccae", func := "glazier/glazierlaw18.PrepassAll", spec := "prepassAll", unfollowed := true, recurses := true, plainKeys := false, apart := false }
def PrepassAllSaid : Prop := prepassAllRow.holds Try.pinned (OpenSpec.ofChange prepassAllSpec)

/-- ITS FALSE NEIGHBOUR: 'it returns false'. Refute it at one input. -/
def prepassAllWrong : ChangeSpec := { name := "prepassAll", fn := fun _ => fun
  | [d1, d2, d3] => { results := [.lit (.bool false)], args := [d1, d2, d3] }
  | _ => none }
def PrepassAllWrongFalsely : Prop := prepassAllRow.holds Try.pinned (OpenSpec.ofChange prepassAllWrong)

/-- 'glazierlaw18.PrepassTurns': WHATEVER THE INPUT: true; the input reads as it did. -/
def prepassTurnsSpec : ChangeSpec := { name := "prepassTurns", fn := fun _ => fun
  | [d1, d2] => { results := [.lit (.bool true)], args := [d1, d2] }
  | _ => none }
def prepassTurnsRow : OpenClaim := { program := "ytimolomjpmkbiaa", sum := "e61946d96d5537acb057d96c4547059ad5a57e737e74369d25dfcb49115fccae", func := "glazier/glazierlaw18.PrepassTurns", spec := "prepassTurns", unfollowed := true, recurses := true, plainKeys := false, apart := false }
def PrepassTurnsSaid : Prop := prepassTurnsRow.holds Try.pinned (OpenSpec.ofChange prepassTurnsSpec)

/-- ITS FALSE NEIGHBOUR: 'it returns false'. Refute it at one input. -/
def prepassTurnsWrong : ChangeSpec := { name := "prepassTurns", fn := fun _ => fun
  | [d1, d2] => { results := [.lit (.bool false)], args := [d1, d2] }
  | _ => none }
def PrepassTurnsWrongFalsely : Prop := prepassTurnsRow.holds Try.pinned (OpenSpec.ofChange prepassTurnsWrong)

/-- 'glazierlaw18.PrepassNearest': WHATEVER THE INPUT: true; the input reads as it did. -/
def prepassNearestSpec : ChangeSpec := { name := "prepassNearest", fn := fun _ => fun
  | [d] => { results := [.lit (.bool true)], args := [d] }
  | _ => none }
def prepassNearestRow : OpenClaim := { program := "ytimolomjpmkbiaa", sum := "e61946d96d5537acb057d96c4547059ad5a57e737e74369d25dfcb49115fccae", func := "glazier/glazierlaw18.PrepassNearest", spec := "prepassNearest", unfollowed := true, recurses := true, plainKeys := false, apart := false }
def PrepassNearestSaid : Prop := prepassNearestRow.holds Try.pinned (OpenSpec.ofChange prepassNearestSpec)

/-- ITS FALSE NEIGHBOUR: 'it returns false'. Refute it at one input. -/
def prepassNearestWrong : ChangeSpec := { name := "prepassNearest", fn := fun _ => fun
  | [d] => { results := [.lit (.bool false)], args := [d] }
  | _ => none }
def PrepassNearestWrongFalsely : Prop := prepassNearestRow.holds Try.pinned (OpenSpec.ofChange prepassNearestWrong)

/-- 'glazierlaw18.PrepassSplits': WHATEVER THE INPUT: true; the input reads as it did. -/
def prepassSplitsSpec : ChangeSpec := { name := "prepassSplits", fn := fun _ => fun
  | [d1, d2] => { results := [.lit (.bool true)], args := [d1, d2] }
  | _ => none }
def prepassSplitsRow : OpenClaim := { program := "ytimolomjpmkbiaa", sum := "e61946d96d5537acb057d96c4547059ad5a57e737e74369d25dfcb49115fccae", func := "glazier/glazierlaw18.PrepassSplits", spec := "prepassSplits", unfollowed := true, recurses := true, plainKeys := false, apart := false }
def PrepassSplitsSaid : Prop := prepassSplitsRow.holds Try.pinned (OpenSpec.ofChange prepassSplitsSpec)

/-- ITS FALSE NEIGHBOUR: 'it returns false'. Refute it at one input. -/
def prepassSplitsWrong : ChangeSpec := { name := "prepassSplits", fn := fun _ => fun
  | [d1, d2] => { results := [.lit (.bool false)], args := [d1, d2] }
  | _ => none }
def PrepassSplitsWrongFalsely : Prop := prepassSplitsRow.holds Try.pinned (OpenSpec.ofChange prepassSplitsWrong)

/- THE SECOND FORM. 'bulk': how many values and letters a reading holds, each counted each time it is reached (what is shared counts as often as it is met; a slice's spare places count too). A statement '..UptoSaid' is the law's where the arguments, and the package variables that the reading takes, are together of bulk at most 1048576: NARROWER than '..Said'. Prove '..Said' where nothing that the law and all that it calls make is longer than what came in: it says more and counts as full. Else prove '..UptoSaid'. A law counts once. -/
mutual
def uptoBulk {H : Type} : DataW H → Nat
  | .lit (.string bytes) => bytes.length + 1
  | .lit _ => 1
  | .nil => 1
  | .ptr d => uptoBulk d + 1
  | .slice elems spare => uptoBulkAll elems + uptoBulkAll spare + 1
  | .agg parts => uptoBulkAll parts + 1
  | .iface _ d => uptoBulk d + 1
  | .map entries => uptoBulkEntries entries + 1
  | .held _ => 1
def uptoBulkAll {H : Type} : List (DataW H) → Nat
  | [] => 0
  | d :: r => uptoBulk d + uptoBulkAll r
def uptoBulkEntries {H : Type} : List (Lit × DataW H) → Nat
  | [] => 0
  | x :: r => uptoBulkEntry x + uptoBulkEntries r
def uptoBulkEntry {H : Type} : Lit × DataW H → Nat
  | (.string bytes, d) => bytes.length + uptoBulk d + 1
  | (_, d) => uptoBulk d + 1
 end
def uptoSmall : (H : Type) → List (DataW H) → Bool := fun _ ds => decide (uptoBulkAll ds ≤ 1048576)
def OpenSpec.upto (s : _root_.Go.ChangeSpec) : _root_.Go.OpenSpec := { _root_.Go.OpenSpec.ofChange s with cond := some uptoSmall }

/-- 'glazierlaw07.EdgeOnce', WHERE WHAT IT READS IS OF BULK AT MOST 1048576: true; the input reads as it did. -/
def edgeOnceUptoRow : OpenClaim := { program := "ytimolomjpmkbiaa", sum := "e61946d96d5537acb057d96c4547059ad5a57e737e74369d25dfcb49115fccae", func := "glazier/glazierlaw07.EdgeOnce", spec := "edgeOnce", plainKeys := false, apart := false, narrowed := true }
def EdgeOnceUptoSaid : Prop := edgeOnceUptoRow.holds Try.pinned (OpenSpec.upto edgeOnceSpec)

/-- 'glazierlaw07.EdgeShares', WHERE WHAT IT READS IS OF BULK AT MOST 1048576: true; the input reads as it did. -/
def edgeSharesUptoRow : OpenClaim := { program := "ytimolomjpmkbiaa", sum := "e61946d96d5537acb057d96c4547059ad5a57e737e74369d25dfcb49115fccae", func := "glazier/glazierlaw07.EdgeShares", spec := "edgeShares", plainKeys := false, apart := false, narrowed := true }
def EdgeSharesUptoSaid : Prop := edgeSharesUptoRow.holds Try.pinned (OpenSpec.upto edgeSharesSpec)

/-- 'glazierlaw08.CoverAll', WHERE WHAT IT READS IS OF BULK AT MOST 1048576: true; the input reads as it did. -/
def coverAllUptoRow : OpenClaim := { program := "ytimolomjpmkbiaa", sum := "e61946d96d5537acb057d96c4547059ad5a57e737e74369d25dfcb49115fccae", func := "glazier/glazierlaw08.CoverAll", spec := "coverAll", unfollowed := true, recurses := true, plainKeys := false, apart := false, narrowed := true }
def CoverAllUptoSaid : Prop := coverAllUptoRow.holds Try.pinned (OpenSpec.upto coverAllSpec)

/-- 'glazierlaw08.CoverOnce', WHERE WHAT IT READS IS OF BULK AT MOST 1048576: true; the input reads as it did. -/
def coverOnceUptoRow : OpenClaim := { program := "ytimolomjpmkbiaa", sum := "e61946d96d5537acb057d96c4547059ad5a57e737e74369d25dfcb49115fccae", func := "glazier/glazierlaw08.CoverOnce", spec := "coverOnce", unfollowed := true, recurses := true, plainKeys := false, apart := false, narrowed := true }
def CoverOnceUptoSaid : Prop := coverOnceUptoRow.holds Try.pinned (OpenSpec.upto coverOnceSpec)

/-- 'glazierlaw08.CoverBits', WHERE WHAT IT READS IS OF BULK AT MOST 1048576: true; the input reads as it did. -/
def coverBitsUptoRow : OpenClaim := { program := "ytimolomjpmkbiaa", sum := "e61946d96d5537acb057d96c4547059ad5a57e737e74369d25dfcb49115fccae", func := "glazier/glazierlaw08.CoverBits", spec := "coverBits", unfollowed := true, recurses := true, plainKeys := false, apart := false, narrowed := true }
def CoverBitsUptoSaid : Prop := coverBitsUptoRow.holds Try.pinned (OpenSpec.upto coverBitsSpec)

/-- 'glazierlaw08.CoverFan', WHERE WHAT IT READS IS OF BULK AT MOST 1048576: true; the input reads as it did. -/
def coverFanUptoRow : OpenClaim := { program := "ytimolomjpmkbiaa", sum := "e61946d96d5537acb057d96c4547059ad5a57e737e74369d25dfcb49115fccae", func := "glazier/glazierlaw08.CoverFan", spec := "coverFan", unfollowed := true, recurses := true, plainKeys := false, apart := false, narrowed := true }
def CoverFanUptoSaid : Prop := coverFanUptoRow.holds Try.pinned (OpenSpec.upto coverFanSpec)

/-- 'glazierlaw18.PrepassCulls', WHERE WHAT IT READS IS OF BULK AT MOST 1048576: true; the input reads as it did. -/
def prepassCullsUptoRow : OpenClaim := { program := "ytimolomjpmkbiaa", sum := "e61946d96d5537acb057d96c4547059ad5a57e737e74369d25dfcb49115fccae", func := "glazier/glazierlaw18.PrepassCulls", spec := "prepassCulls", unfollowed := true, recurses := true, plainKeys := false, apart := false, narrowed := true }
def PrepassCullsUptoSaid : Prop := prepassCullsUptoRow.holds Try.pinned (OpenSpec.upto prepassCullsSpec)

/-- 'glazierlaw18.PrepassAll', WHERE WHAT IT READS IS OF BULK AT MOST 1048576: true; the input reads as it did. -/
def prepassAllUptoRow : OpenClaim := { program := "ytimolomjpmkbiaa", sum := "e61946d96d5537acb057d96c4547059ad5a57e737e74369d25dfcb49115fccae", func := "glazier/glazierlaw18.PrepassAll", spec := "prepassAll", unfollowed := true, recurses := true, plainKeys := false, apart := false, narrowed := true }
def PrepassAllUptoSaid : Prop := prepassAllUptoRow.holds Try.pinned (OpenSpec.upto prepassAllSpec)

/-- 'glazierlaw18.PrepassTurns', WHERE WHAT IT READS IS OF BULK AT MOST 1048576: true; the input reads as it did. -/
def prepassTurnsUptoRow : OpenClaim := { program := "ytimolomjpmkbiaa", sum := "e61946d96d5537acb057d96c4547059ad5a57e737e74369d25dfcb49115fccae", func := "glazier/glazierlaw18.PrepassTurns", spec := "prepassTurns", unfollowed := true, recurses := true, plainKeys := false, apart := false, narrowed := true }
def PrepassTurnsUptoSaid : Prop := prepassTurnsUptoRow.holds Try.pinned (OpenSpec.upto prepassTurnsSpec)

/-- 'glazierlaw18.PrepassNearest', WHERE WHAT IT READS IS OF BULK AT MOST 1048576: true; the input reads as it did. -/
def prepassNearestUptoRow : OpenClaim := { program := "ytimolomjpmkbiaa", sum := "e61946d96d5537acb057d96c4547059ad5a57e737e74369d25dfcb49115fccae", func := "glazier/glazierlaw18.PrepassNearest", spec := "prepassNearest", unfollowed := true, recurses := true, plainKeys := false, apart := false, narrowed := true }
def PrepassNearestUptoSaid : Prop := prepassNearestUptoRow.holds Try.pinned (OpenSpec.upto prepassNearestSpec)

/-- 'glazierlaw18.PrepassSplits', WHERE WHAT IT READS IS OF BULK AT MOST 1048576: true; the input reads as it did. -/
def prepassSplitsUptoRow : OpenClaim := { program := "ytimolomjpmkbiaa", sum := "e61946d96d5537acb057d96c4547059ad5a57e737e74369d25dfcb49115fccae", func := "glazier/glazierlaw18.PrepassSplits", spec := "prepassSplits", unfollowed := true, recurses := true, plainKeys := false, apart := false, narrowed := true }
def PrepassSplitsUptoSaid : Prop := prepassSplitsUptoRow.holds Try.pinned (OpenSpec.upto prepassSplitsSpec)

end Rows
end Go.Proofs.Ytimolomjpmkbiaa
