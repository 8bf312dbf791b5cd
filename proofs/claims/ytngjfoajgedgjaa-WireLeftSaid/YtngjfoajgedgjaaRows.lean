/-
  No cell of these rows narrows 'for every input' (looked for: loops, veiled, ifaces, maps, wideKeys, modest, calm, conditions, laid).
  DERIVED. THE GIVEN ROWS OF THIS SEAT. 12 by the template 'for every input the law returns true; each argument reads behind the call as it read before'; 0 by the template 'total and deterministic' (their statements: YtngjfoajgedgjaaTotals.lean).
  GIVEN WITH THE SEED: the statements are not yours to turn. If you find one false, say at which input.
  Laid BY PROGRAM, IN A SANDBOX (cutbox-rows.mjs): the forced cells as the released guide's own fill.sh prints them over the translation 7ad20065c1f8405b… (all of the seat's roots in one cut). By AI agents, Wed Nov 11 2026. No macro, syntax, notation, axiom, sorry.
-/
import Derived.Test.YtngjfoajgedgjaaChecked
import GoSem.Claim
import GoSem.ClaimJoined
import GoSem.ClaimMapViews
import Derived.JoinedTies
import Derived.KernelRfl
namespace Go.Proofs.Ytngjfoajgedgjaa
/- THE CELL 'sum', in the pinned program and in every row, IS THE sha256 OF THE DUMP (.gsa) THAT YtngjfoajgedgjaaProg.lean LOADS. Nothing in Lean hashes anything: it is a label: what it is worth is what the hold of that sum in a sandbox is worth. -/
noncomputable def Try.pinned : Pinned := { name := "ytngjfoajgedgjaa", sum := "7ad20065c1f8405b225d88d23091824ddc312a8ffb942df19df59881a5d92507", checked := Try.checked }
namespace Rows
def none {H : Type} : Left H := { results := [], args := [] }

/-- 'glazierlaw12.CodeRefuses': WHATEVER THE INPUT: true; the input reads as it did. -/
def codeRefusesSpec : ChangeSpec := { name := "codeRefuses", fn := fun _ => fun
  | [d1, d2, d3] => { results := [.lit (.bool true)], args := [d1, d2, d3] }
  | _ => none }
def codeRefusesRow : OpenClaim := { program := "ytngjfoajgedgjaa", sum := "7ad20065c1f8405b225d88d23091824ddc312a8ffb942df19df59881a5d92507", func := "glazier/glazierlaw12.CodeRefuses", spec := "codeRefuses", apart := false }
def CodeRefusesSaid : Prop := codeRefusesRow.holds Try.pinned (OpenSpec.ofChange codeRefusesSpec)

/-- ITS FALSE NEIGHBOUR: 'it returns false'. Refute it at one input. -/
def codeRefusesWrong : ChangeSpec := { name := "codeRefuses", fn := fun _ => fun
  | [d1, d2, d3] => { results := [.lit (.bool false)], args := [d1, d2, d3] }
  | _ => none }
def CodeRefusesWrongFalsely : Prop := codeRefusesRow.holds Try.pinned (OpenSpec.ofChange codeRefusesWrong)

/-- 'glazierlaw12.CodeForward': WHATEVER THE INPUT: true; the input reads as it did. -/
def codeForwardSpec : ChangeSpec := { name := "codeForward", fn := fun _ => fun
  | [d1, d2] => { results := [.lit (.bool true)], args := [d1, d2] }
  | _ => none }
def codeForwardRow : OpenClaim := { program := "ytngjfoajgedgjaa", sum := "7ad20065c1f8405b225d88d23091824ddc312a8ffb942df19df59881a5d92507", func := "glazier/glazierlaw12.CodeForward", spec := "codeForward", apart := false }
def CodeForwardSaid : Prop := codeForwardRow.holds Try.pinned (OpenSpec.ofChange codeForwardSpec)

/-- ITS FALSE NEIGHBOUR: 'it returns false'. Refute it at one input. -/
def codeForwardWrong : ChangeSpec := { name := "codeForward", fn := fun _ => fun
  | [d1, d2] => { results := [.lit (.bool false)], args := [d1, d2] }
  | _ => none }
def CodeForwardWrongFalsely : Prop := codeForwardRow.holds Try.pinned (OpenSpec.ofChange codeForwardWrong)

/-- 'glazierlaw12.CodeJumps': WHATEVER THE INPUT: true; the input reads as it did. -/
def codeJumpsSpec : ChangeSpec := { name := "codeJumps", fn := fun _ => fun
  | [d1, d2, d3] => { results := [.lit (.bool true)], args := [d1, d2, d3] }
  | _ => none }
def codeJumpsRow : OpenClaim := { program := "ytngjfoajgedgjaa", sum := "7ad20065c1f8405b225d88d23091824ddc312a8ffb942df19df59881a5d92507", func := "glazier/glazierlaw12.CodeJumps", spec := "codeJumps", apart := false }
def CodeJumpsSaid : Prop := codeJumpsRow.holds Try.pinned (OpenSpec.ofChange codeJumpsSpec)

/-- ITS FALSE NEIGHBOUR: 'it returns false'. Refute it at one input. -/
def codeJumpsWrong : ChangeSpec := { name := "codeJumps", fn := fun _ => fun
  | [d1, d2, d3] => { results := [.lit (.bool false)], args := [d1, d2, d3] }
  | _ => none }
def CodeJumpsWrongFalsely : Prop := codeJumpsRow.holds Try.pinned (OpenSpec.ofChange codeJumpsWrong)

/-- 'glazierlaw12.CodeJoins': WHATEVER THE INPUT: true; the input reads as it did. -/
def codeJoinsSpec : ChangeSpec := { name := "codeJoins", fn := fun _ => fun
  | [d] => { results := [.lit (.bool true)], args := [d] }
  | _ => none }
def codeJoinsRow : OpenClaim := { program := "ytngjfoajgedgjaa", sum := "7ad20065c1f8405b225d88d23091824ddc312a8ffb942df19df59881a5d92507", func := "glazier/glazierlaw12.CodeJoins", spec := "codeJoins", unfollowed := true, recurses := true, apart := false }
def CodeJoinsSaid : Prop := codeJoinsRow.holds Try.pinned (OpenSpec.ofChange codeJoinsSpec)

/-- ITS FALSE NEIGHBOUR: 'it returns false'. Refute it at one input. -/
def codeJoinsWrong : ChangeSpec := { name := "codeJoins", fn := fun _ => fun
  | [d] => { results := [.lit (.bool false)], args := [d] }
  | _ => none }
def CodeJoinsWrongFalsely : Prop := codeJoinsRow.holds Try.pinned (OpenSpec.ofChange codeJoinsWrong)

/-- 'glazierlaw12.CodeOps': WHATEVER THE INPUT: true; the input reads as it did. -/
def codeOpsSpec : ChangeSpec := { name := "codeOps", fn := fun _ => fun
  | [d1, d2] => { results := [.lit (.bool true)], args := [d1, d2] }
  | _ => none }
def codeOpsRow : OpenClaim := { program := "ytngjfoajgedgjaa", sum := "7ad20065c1f8405b225d88d23091824ddc312a8ffb942df19df59881a5d92507", func := "glazier/glazierlaw12.CodeOps", spec := "codeOps", unfollowed := true, recurses := true, apart := false }
def CodeOpsSaid : Prop := codeOpsRow.holds Try.pinned (OpenSpec.ofChange codeOpsSpec)

/-- ITS FALSE NEIGHBOUR: 'it returns false'. Refute it at one input. -/
def codeOpsWrong : ChangeSpec := { name := "codeOps", fn := fun _ => fun
  | [d1, d2] => { results := [.lit (.bool false)], args := [d1, d2] }
  | _ => none }
def CodeOpsWrongFalsely : Prop := codeOpsRow.holds Try.pinned (OpenSpec.ofChange codeOpsWrong)

/-- 'glazierlaw03.WireLeft': WHATEVER THE INPUT: true; the input reads as it did. -/
def wireLeftSpec : ChangeSpec := { name := "wireLeft", fn := fun _ => fun
  | [d1, d2] => { results := [.lit (.bool true)], args := [d1, d2] }
  | _ => none }
def wireLeftRow : OpenClaim := { program := "ytngjfoajgedgjaa", sum := "7ad20065c1f8405b225d88d23091824ddc312a8ffb942df19df59881a5d92507", func := "glazier/glazierlaw03.WireLeft", spec := "wireLeft", unfollowed := true, recurses := true, apart := false }
def WireLeftSaid : Prop := wireLeftRow.holds Try.pinned (OpenSpec.ofChange wireLeftSpec)

/-- ITS FALSE NEIGHBOUR: 'it returns false'. Refute it at one input. -/
def wireLeftWrong : ChangeSpec := { name := "wireLeft", fn := fun _ => fun
  | [d1, d2] => { results := [.lit (.bool false)], args := [d1, d2] }
  | _ => none }
def WireLeftWrongFalsely : Prop := wireLeftRow.holds Try.pinned (OpenSpec.ofChange wireLeftWrong)

/-- 'glazierlaw03.WireJoins': WHATEVER THE INPUT: true; the input reads as it did. -/
def wireJoinsSpec : ChangeSpec := { name := "wireJoins", fn := fun _ => fun
  | [d1, d2] => { results := [.lit (.bool true)], args := [d1, d2] }
  | _ => none }
def wireJoinsRow : OpenClaim := { program := "ytngjfoajgedgjaa", sum := "7ad20065c1f8405b225d88d23091824ddc312a8ffb942df19df59881a5d92507", func := "glazier/glazierlaw03.WireJoins", spec := "wireJoins", unfollowed := true, recurses := true, apart := false }
def WireJoinsSaid : Prop := wireJoinsRow.holds Try.pinned (OpenSpec.ofChange wireJoinsSpec)

/-- ITS FALSE NEIGHBOUR: 'it returns false'. Refute it at one input. -/
def wireJoinsWrong : ChangeSpec := { name := "wireJoins", fn := fun _ => fun
  | [d1, d2] => { results := [.lit (.bool false)], args := [d1, d2] }
  | _ => none }
def WireJoinsWrongFalsely : Prop := wireJoinsRow.holds Try.pinned (OpenSpec.ofChange wireJoinsWrong)

/-- 'glazierlaw03.WireSigns': WHATEVER THE INPUT: true; the input reads as it did. -/
def wireSignsSpec : ChangeSpec := { name := "wireSigns", fn := fun _ => fun
  | [d] => { results := [.lit (.bool true)], args := [d] }
  | _ => none }
def wireSignsRow : OpenClaim := { program := "ytngjfoajgedgjaa", sum := "7ad20065c1f8405b225d88d23091824ddc312a8ffb942df19df59881a5d92507", func := "glazier/glazierlaw03.WireSigns", spec := "wireSigns", unfollowed := true, recurses := true, apart := false }
def WireSignsSaid : Prop := wireSignsRow.holds Try.pinned (OpenSpec.ofChange wireSignsSpec)

/-- ITS FALSE NEIGHBOUR: 'it returns false'. Refute it at one input. -/
def wireSignsWrong : ChangeSpec := { name := "wireSigns", fn := fun _ => fun
  | [d] => { results := [.lit (.bool false)], args := [d] }
  | _ => none }
def WireSignsWrongFalsely : Prop := wireSignsRow.holds Try.pinned (OpenSpec.ofChange wireSignsWrong)

/-- 'glazierlaw12.CodeAll': WHATEVER THE INPUT: true; the input reads as it did. -/
def codeAllSpec : ChangeSpec := { name := "codeAll", fn := fun _ => fun
  | [d1, d2, d3] => { results := [.lit (.bool true)], args := [d1, d2, d3] }
  | _ => none }
def codeAllRow : OpenClaim := { program := "ytngjfoajgedgjaa", sum := "7ad20065c1f8405b225d88d23091824ddc312a8ffb942df19df59881a5d92507", func := "glazier/glazierlaw12.CodeAll", spec := "codeAll", unfollowed := true, recurses := true, apart := false }
def CodeAllSaid : Prop := codeAllRow.holds Try.pinned (OpenSpec.ofChange codeAllSpec)

/-- ITS FALSE NEIGHBOUR: 'it returns false'. Refute it at one input. -/
def codeAllWrong : ChangeSpec := { name := "codeAll", fn := fun _ => fun
  | [d1, d2, d3] => { results := [.lit (.bool false)], args := [d1, d2, d3] }
  | _ => none }
def CodeAllWrongFalsely : Prop := codeAllRow.holds Try.pinned (OpenSpec.ofChange codeAllWrong)

/-- 'glazierlaw03.WireAll': WHATEVER THE INPUT: true; the input reads as it did. -/
def wireAllSpec : ChangeSpec := { name := "wireAll", fn := fun _ => fun
  | [d1, d2] => { results := [.lit (.bool true)], args := [d1, d2] }
  | _ => none }
def wireAllRow : OpenClaim := { program := "ytngjfoajgedgjaa", sum := "7ad20065c1f8405b225d88d23091824ddc312a8ffb942df19df59881a5d92507", func := "glazier/glazierlaw03.WireAll", spec := "wireAll", unfollowed := true, recurses := true, apart := false }
def WireAllSaid : Prop := wireAllRow.holds Try.pinned (OpenSpec.ofChange wireAllSpec)

/-- ITS FALSE NEIGHBOUR: 'it returns false'. Refute it at one input. -/
def wireAllWrong : ChangeSpec := { name := "wireAll", fn := fun _ => fun
  | [d1, d2] => { results := [.lit (.bool false)], args := [d1, d2] }
  | _ => none }
def WireAllWrongFalsely : Prop := wireAllRow.holds Try.pinned (OpenSpec.ofChange wireAllWrong)

/-- 'glazierlaw03.WireBack': WHATEVER THE INPUT: true; the input reads as it did. -/
def wireBackSpec : ChangeSpec := { name := "wireBack", fn := fun _ => fun
  | [d1, d2] => { results := [.lit (.bool true)], args := [d1, d2] }
  | _ => none }
def wireBackRow : OpenClaim := { program := "ytngjfoajgedgjaa", sum := "7ad20065c1f8405b225d88d23091824ddc312a8ffb942df19df59881a5d92507", func := "glazier/glazierlaw03.WireBack", spec := "wireBack", unfollowed := true, recurses := true, apart := false }
def WireBackSaid : Prop := wireBackRow.holds Try.pinned (OpenSpec.ofChange wireBackSpec)

/-- ITS FALSE NEIGHBOUR: 'it returns false'. Refute it at one input. -/
def wireBackWrong : ChangeSpec := { name := "wireBack", fn := fun _ => fun
  | [d1, d2] => { results := [.lit (.bool false)], args := [d1, d2] }
  | _ => none }
def WireBackWrongFalsely : Prop := wireBackRow.holds Try.pinned (OpenSpec.ofChange wireBackWrong)

/-- 'glazierlaw03.WireOne': WHATEVER THE INPUT: true; the input reads as it did. -/
def wireOneSpec : ChangeSpec := { name := "wireOne", fn := fun _ => fun
  | [d1, d2] => { results := [.lit (.bool true)], args := [d1, d2] }
  | _ => none }
def wireOneRow : OpenClaim := { program := "ytngjfoajgedgjaa", sum := "7ad20065c1f8405b225d88d23091824ddc312a8ffb942df19df59881a5d92507", func := "glazier/glazierlaw03.WireOne", spec := "wireOne", unfollowed := true, recurses := true, apart := false }
def WireOneSaid : Prop := wireOneRow.holds Try.pinned (OpenSpec.ofChange wireOneSpec)

/-- ITS FALSE NEIGHBOUR: 'it returns false'. Refute it at one input. -/
def wireOneWrong : ChangeSpec := { name := "wireOne", fn := fun _ => fun
  | [d1, d2] => { results := [.lit (.bool false)], args := [d1, d2] }
  | _ => none }
def WireOneWrongFalsely : Prop := wireOneRow.holds Try.pinned (OpenSpec.ofChange wireOneWrong)

/- THE SECOND FORM. 'bulk': how many values and letters a reading holds, each counted each time it is reached (what is shared counts as often as it is met; a slice's spare places count too). A statement '..UptoSaid' is the law's where the arguments, and the package variables that the reading takes, are together of bulk at most 1048576: NARROWER than '..Said'. Prove '..Said' where nothing that the law and all that it calls make is longer than what came in: it says more and counts as full. Else prove '..UptoSaid'. A law counts once. -/
mutual
def uptoBulk {H : Type} : DataW H → Nat
  | .lit (.string bytes) => bytes.length + 1
  | .lit _ => 1
  | .nil => 1
  | .ptr d => uptoBulk d + 1
  | .slice elems spare => uptoBulkAll elems + uptoBulkAll spare + 1
  | .agg parts => uptoBulkAll parts + 1
  | .iface _ d => uptoBulk d + 1
  | .map entries => uptoBulkEntries entries + 1
  | .held _ => 1
def uptoBulkAll {H : Type} : List (DataW H) → Nat
  | [] => 0
  | d :: r => uptoBulk d + uptoBulkAll r
def uptoBulkEntries {H : Type} : List (Lit × DataW H) → Nat
  | [] => 0
  | x :: r => uptoBulkEntry x + uptoBulkEntries r
def uptoBulkEntry {H : Type} : Lit × DataW H → Nat
  | (.string bytes, d) => bytes.length + uptoBulk d + 1
  | (_, d) => uptoBulk d + 1
 end
def uptoSmall : (H : Type) → List (DataW H) → Bool := fun _ ds => decide (uptoBulkAll ds ≤ 1048576)
def OpenSpec.upto (s : _root_.Go.ChangeSpec) : _root_.Go.OpenSpec := { _root_.Go.OpenSpec.ofChange s with cond := some uptoSmall }

/-- 'glazierlaw12.CodeRefuses', WHERE WHAT IT READS IS OF BULK AT MOST 1048576: true; the input reads as it did. -/
def codeRefusesUptoRow : OpenClaim := { program := "ytngjfoajgedgjaa", sum := "7ad20065c1f8405b225d88d23091824ddc312a8ffb942df19df59881a5d92507", func := "glazier/glazierlaw12.CodeRefuses", spec := "codeRefuses", apart := false, narrowed := true }
def CodeRefusesUptoSaid : Prop := codeRefusesUptoRow.holds Try.pinned (OpenSpec.upto codeRefusesSpec)

/-- 'glazierlaw12.CodeForward', WHERE WHAT IT READS IS OF BULK AT MOST 1048576: true; the input reads as it did. -/
def codeForwardUptoRow : OpenClaim := { program := "ytngjfoajgedgjaa", sum := "7ad20065c1f8405b225d88d23091824ddc312a8ffb942df19df59881a5d92507", func := "glazier/glazierlaw12.CodeForward", spec := "codeForward", apart := false, narrowed := true }
def CodeForwardUptoSaid : Prop := codeForwardUptoRow.holds Try.pinned (OpenSpec.upto codeForwardSpec)

/-- 'glazierlaw12.CodeJumps', WHERE WHAT IT READS IS OF BULK AT MOST 1048576: true; the input reads as it did. -/
def codeJumpsUptoRow : OpenClaim := { program := "ytngjfoajgedgjaa", sum := "7ad20065c1f8405b225d88d23091824ddc312a8ffb942df19df59881a5d92507", func := "glazier/glazierlaw12.CodeJumps", spec := "codeJumps", apart := false, narrowed := true }
def CodeJumpsUptoSaid : Prop := codeJumpsUptoRow.holds Try.pinned (OpenSpec.upto codeJumpsSpec)

/-- 'glazierlaw12.CodeJoins', WHERE WHAT IT READS IS OF BULK AT MOST 1048576: true; the input reads as it did. -/
def codeJoinsUptoRow : OpenClaim := { program := "ytngjfoajgedgjaa", sum := "7ad20065c1f8405b225d88d23091824ddc312a8ffb942df19df59881a5d92507", func := "glazier/glazierlaw12.CodeJoins", spec := "codeJoins", unfollowed := true, recurses := true, apart := false, narrowed := true }
def CodeJoinsUptoSaid : Prop := codeJoinsUptoRow.holds Try.pinned (OpenSpec.upto codeJoinsSpec)

/-- 'glazierlaw12.CodeOps', WHERE WHAT IT READS IS OF BULK AT MOST 1048576: true; the input reads as it did. -/
def codeOpsUptoRow : OpenClaim := { program := "ytngjfoajgedgjaa", sum := "7ad20065c1f8405b225d88d23091824ddc312a8ffb942df19df59881a5d92507", func := "glazier/glazierlaw12.CodeOps", spec := "codeOps", unfollowed := true, recurses := true, apart := false, narrowed := true }
def CodeOpsUptoSaid : Prop := codeOpsUptoRow.holds Try.pinned (OpenSpec.upto codeOpsSpec)

/-- 'glazierlaw03.WireLeft', WHERE WHAT IT READS IS OF BULK AT MOST 1048576: true; the input reads as it did. -/
def wireLeftUptoRow : OpenClaim := { program := "ytngjfoajgedgjaa", sum := "7ad20065c1f8405b225d88d23091824ddc312a8ffb942df19df59881a5d92507", func := "glazier/glazierlaw03.WireLeft", spec := "wireLeft", unfollowed := true, recurses := true, apart := false, narrowed := true }
def WireLeftUptoSaid : Prop := wireLeftUptoRow.holds Try.pinned (OpenSpec.upto wireLeftSpec)

/-- 'glazierlaw03.WireJoins', WHERE WHAT IT READS IS OF BULK AT MOST 1048576: true; the input reads as it did. -/
def wireJoinsUptoRow : OpenClaim := { program := "ytngjfoajgedgjaa", sum := "7ad20065c1f8405b225d88d23091824ddc312a8ffb942df19df59881a5d92507", func := "glazier/glazierlaw03.WireJoins", spec := "wireJoins", unfollowed := true, recurses := true, apart := false, narrowed := true }
def WireJoinsUptoSaid : Prop := wireJoinsUptoRow.holds Try.pinned (OpenSpec.upto wireJoinsSpec)

/-- 'glazierlaw03.WireSigns', WHERE WHAT IT READS IS OF BULK AT MOST 1048576: true; the input reads as it did. -/
def wireSignsUptoRow : OpenClaim := { program := "ytngjfoajgedgjaa", sum := "7ad20065c1f8405b225d88d23091824ddc312a8ffb942df19df59881a5d92507", func := "glazier/glazierlaw03.WireSigns", spec := "wireSigns", unfollowed := true, recurses := true, apart := false, narrowed := true }
def WireSignsUptoSaid : Prop := wireSignsUptoRow.holds Try.pinned (OpenSpec.upto wireSignsSpec)

/-- 'glazierlaw12.CodeAll', WHERE WHAT IT READS IS OF BULK AT MOST 1048576: true; the input reads as it did. -/
def codeAllUptoRow : OpenClaim := { program := "ytngjfoajgedgjaa", sum := "7ad20065c1f8405b225d88d23091824ddc312a8ffb942df19df59881a5d92507", func := "glazier/glazierlaw12.CodeAll", spec := "codeAll", unfollowed := true, recurses := true, apart := false, narrowed := true }
def CodeAllUptoSaid : Prop := codeAllUptoRow.holds Try.pinned (OpenSpec.upto codeAllSpec)

/-- 'glazierlaw03.WireAll', WHERE WHAT IT READS IS OF BULK AT MOST 1048576: true; the input reads as it did. -/
def wireAllUptoRow : OpenClaim := { program := "ytngjfoajgedgjaa", sum := "7ad20065c1f8405b225d88d23091824ddc312a8ffb942df19df59881a5d92507", func := "glazier/glazierlaw03.WireAll", spec := "wireAll", unfollowed := true, recurses := true, apart := false, narrowed := true }
def WireAllUptoSaid : Prop := wireAllUptoRow.holds Try.pinned (OpenSpec.upto wireAllSpec)

/-- 'glazierlaw03.WireBack', WHERE WHAT IT READS IS OF BULK AT MOST 1048576: true; the input reads as it did. -/
def wireBackUptoRow : OpenClaim := { program := "ytngjfoajgedgjaa", sum := "7ad20065c1f8405b225d88d23091824ddc312a8ffb942df19df59881a5d92507", func := "glazier/glazierlaw03.WireBack", spec := "wireBack", unfollowed := true, recurses := true, apart := false, narrowed := true }
def WireBackUptoSaid : Prop := wireBackUptoRow.holds Try.pinned (OpenSpec.upto wireBackSpec)

/-- 'glazierlaw03.WireOne', WHERE WHAT IT READS IS OF BULK AT MOST 1048576: true; the input reads as it did. -/
def wireOneUptoRow : OpenClaim := { program := "ytngjfoajgedgjaa", sum := "7ad20065c1f8405b225d88d23091824ddc312a8ffb942df19df59881a5d92507", func := "glazier/glazierlaw03.WireOne", spec := "wireOne", unfollowed := true, recurses := true, apart := false, narrowed := true }
def WireOneUptoSaid : Prop := wireOneUptoRow.holds Try.pinned (OpenSpec.upto wireOneSpec)

end Rows
end Go.Proofs.Ytngjfoajgedgjaa
