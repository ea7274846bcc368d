/-
  NARROWER THAN 'FOR EVERY INPUT', by the rows' own cells (each row's printed sentence says how): GraphComponents: loops · GraphDominators: loops · GraphLoops: loops · GraphTurns: loops · GraphCuts: loops · GraphChecks: loops · GraphPaths: loops · GraphHeads: loops · GraphOrders: loops.
  DERIVED. THE GIVEN ROWS OF THIS SEAT. 10 by the template 'for every input the law returns true; each argument reads behind the call as it read before'; 0 by the template 'total and deterministic' (their statements: YtngfoinceakgdaaTotals.lean).
  GIVEN WITH THE SEED: the statements are not yours to turn. If you find one false, say at which input.
  Laid BY PROGRAM, IN A SANDBOX (cutbox-rows.mjs): the forced cells as the released guide's own fill.sh prints them over the translation 22a694e35392cd50… (all of the seat's roots in one cut). By AI agents, Wed Nov 11 2026. No macro, syntax, notation, axiom, sorry.
-/
import Derived.Test.YtngfoinceakgdaaChecked
import GoSem.Claim
import GoSem.ClaimJoined
import GoSem.ClaimMapViews
import Derived.JoinedTies
import Derived.KernelRfl
namespace Go.Proofs.Ytngfoinceakgdaa
/- THE CELL 'sum', in the pinned program and in every row, IS THE sha256 OF THE DUMP (.gsa) THAT YtngfoinceakgdaaProg.lean LOADS. Nothing in Lean hashes anything: it is a label: what it is worth is what the hold of that sum in a sandbox is worth. -/
noncomputable def Try.pinned : Pinned := { name := "ytngfoinceakgdaa", sum := "22a694e35392cd500e94aa37fdd3803aac9b256b2fdde95284575de86c9ebedc", checked := Try.checked }
namespace Rows
def none {H : Type} : Left H := { results := [], args := [] }

/-- 'surveyorlaw16.GraphComponents': WHATEVER THE INPUT: true; the input reads as it did. -/
def graphComponentsSpec : ChangeSpec := { name := "graphComponents", fn := fun _ => fun
  | [d] => { results := [.lit (.bool true)], args := [d] }
  | _ => none }
def graphComponentsRow : OpenClaim := { program := "ytngfoinceakgdaa", sum := "22a694e35392cd500e94aa37fdd3803aac9b256b2fdde95284575de86c9ebedc", func := "surveyor/surveyorlaw16.GraphComponents", spec := "graphComponents", unfollowed := true, recurses := true, loops := true, apart := false }
def GraphComponentsSaid : Prop := graphComponentsRow.holds Try.pinned (OpenSpec.ofChange graphComponentsSpec)

/-- ITS FALSE NEIGHBOUR: 'it returns false'. Refute it at one input. -/
def graphComponentsWrong : ChangeSpec := { name := "graphComponents", fn := fun _ => fun
  | [d] => { results := [.lit (.bool false)], args := [d] }
  | _ => none }
def GraphComponentsWrongFalsely : Prop := graphComponentsRow.holds Try.pinned (OpenSpec.ofChange graphComponentsWrong)

/-- 'surveyorlaw16.GraphDominators': WHATEVER THE INPUT: true; the input reads as it did. -/
def graphDominatorsSpec : ChangeSpec := { name := "graphDominators", fn := fun _ => fun
  | [d] => { results := [.lit (.bool true)], args := [d] }
  | _ => none }
def graphDominatorsRow : OpenClaim := { program := "ytngfoinceakgdaa", sum := "22a694e35392cd500e94aa37fdd3803aac9b256b2fdde95284575de86c9ebedc", func := "surveyor/surveyorlaw16.GraphDominators", spec := "graphDominators", unfollowed := true, recurses := true, loops := true, apart := false }
def GraphDominatorsSaid : Prop := graphDominatorsRow.holds Try.pinned (OpenSpec.ofChange graphDominatorsSpec)

/-- ITS FALSE NEIGHBOUR: 'it returns false'. Refute it at one input. -/
def graphDominatorsWrong : ChangeSpec := { name := "graphDominators", fn := fun _ => fun
  | [d] => { results := [.lit (.bool false)], args := [d] }
  | _ => none }
def GraphDominatorsWrongFalsely : Prop := graphDominatorsRow.holds Try.pinned (OpenSpec.ofChange graphDominatorsWrong)

/-- 'surveyorlaw16.GraphLoops': WHATEVER THE INPUT: true; the input reads as it did. -/
def graphLoopsSpec : ChangeSpec := { name := "graphLoops", fn := fun _ => fun
  | [d] => { results := [.lit (.bool true)], args := [d] }
  | _ => none }
def graphLoopsRow : OpenClaim := { program := "ytngfoinceakgdaa", sum := "22a694e35392cd500e94aa37fdd3803aac9b256b2fdde95284575de86c9ebedc", func := "surveyor/surveyorlaw16.GraphLoops", spec := "graphLoops", unfollowed := true, recurses := true, loops := true, apart := false }
def GraphLoopsSaid : Prop := graphLoopsRow.holds Try.pinned (OpenSpec.ofChange graphLoopsSpec)

/-- ITS FALSE NEIGHBOUR: 'it returns false'. Refute it at one input. -/
def graphLoopsWrong : ChangeSpec := { name := "graphLoops", fn := fun _ => fun
  | [d] => { results := [.lit (.bool false)], args := [d] }
  | _ => none }
def GraphLoopsWrongFalsely : Prop := graphLoopsRow.holds Try.pinned (OpenSpec.ofChange graphLoopsWrong)

/-- 'surveyorlaw16.GraphTurns': WHATEVER THE INPUT: true; the input reads as it did. -/
def graphTurnsSpec : ChangeSpec := { name := "graphTurns", fn := fun _ => fun
  | [d] => { results := [.lit (.bool true)], args := [d] }
  | _ => none }
def graphTurnsRow : OpenClaim := { program := "ytngfoinceakgdaa", sum := "22a694e35392cd500e94aa37fdd3803aac9b256b2fdde95284575de86c9ebedc", func := "surveyor/surveyorlaw16.GraphTurns", spec := "graphTurns", unfollowed := true, recurses := true, loops := true, apart := false }
def GraphTurnsSaid : Prop := graphTurnsRow.holds Try.pinned (OpenSpec.ofChange graphTurnsSpec)

/-- ITS FALSE NEIGHBOUR: 'it returns false'. Refute it at one input. -/
def graphTurnsWrong : ChangeSpec := { name := "graphTurns", fn := fun _ => fun
  | [d] => { results := [.lit (.bool false)], args := [d] }
  | _ => none }
def GraphTurnsWrongFalsely : Prop := graphTurnsRow.holds Try.pinned (OpenSpec.ofChange graphTurnsWrong)

/-- 'surveyorlaw16.GraphLimits': WHATEVER THE INPUT: true; the input reads as it did. -/
def graphLimitsSpec : ChangeSpec := { name := "graphLimits", fn := fun _ => fun
  | [d1, d2] => { results := [.lit (.bool true)], args := [d1, d2] }
  | _ => none }
def graphLimitsRow : OpenClaim := { program := "ytngfoinceakgdaa", sum := "22a694e35392cd500e94aa37fdd3803aac9b256b2fdde95284575de86c9ebedc", func := "surveyor/surveyorlaw16.GraphLimits", spec := "graphLimits", unfollowed := true, recurses := true, apart := false }
def GraphLimitsSaid : Prop := graphLimitsRow.holds Try.pinned (OpenSpec.ofChange graphLimitsSpec)

/-- ITS FALSE NEIGHBOUR: 'it returns false'. Refute it at one input. -/
def graphLimitsWrong : ChangeSpec := { name := "graphLimits", fn := fun _ => fun
  | [d1, d2] => { results := [.lit (.bool false)], args := [d1, d2] }
  | _ => none }
def GraphLimitsWrongFalsely : Prop := graphLimitsRow.holds Try.pinned (OpenSpec.ofChange graphLimitsWrong)

/-- 'surveyorlaw16.GraphCuts': WHATEVER THE INPUT: true; the input reads as it did. -/
def graphCutsSpec : ChangeSpec := { name := "graphCuts", fn := fun _ => fun
  | [d1, d2] => { results := [.lit (.bool true)], args := [d1, d2] }
  | _ => none }
def graphCutsRow : OpenClaim := { program := "ytngfoinceakgdaa", sum := "22a694e35392cd500e94aa37fdd3803aac9b256b2fdde95284575de86c9ebedc", func := "surveyor/surveyorlaw16.GraphCuts", spec := "graphCuts", unfollowed := true, recurses := true, loops := true, apart := false }
def GraphCutsSaid : Prop := graphCutsRow.holds Try.pinned (OpenSpec.ofChange graphCutsSpec)

/-- ITS FALSE NEIGHBOUR: 'it returns false'. Refute it at one input. -/
def graphCutsWrong : ChangeSpec := { name := "graphCuts", fn := fun _ => fun
  | [d1, d2] => { results := [.lit (.bool false)], args := [d1, d2] }
  | _ => none }
def GraphCutsWrongFalsely : Prop := graphCutsRow.holds Try.pinned (OpenSpec.ofChange graphCutsWrong)

/-- 'surveyorlaw16.GraphChecks': WHATEVER THE INPUT: true; the input reads as it did. -/
def graphChecksSpec : ChangeSpec := { name := "graphChecks", fn := fun _ => fun
  | [d1, d2] => { results := [.lit (.bool true)], args := [d1, d2] }
  | _ => none }
def graphChecksRow : OpenClaim := { program := "ytngfoinceakgdaa", sum := "22a694e35392cd500e94aa37fdd3803aac9b256b2fdde95284575de86c9ebedc", func := "surveyor/surveyorlaw16.GraphChecks", spec := "graphChecks", unfollowed := true, recurses := true, loops := true, apart := false }
def GraphChecksSaid : Prop := graphChecksRow.holds Try.pinned (OpenSpec.ofChange graphChecksSpec)

/-- ITS FALSE NEIGHBOUR: 'it returns false'. Refute it at one input. -/
def graphChecksWrong : ChangeSpec := { name := "graphChecks", fn := fun _ => fun
  | [d1, d2] => { results := [.lit (.bool false)], args := [d1, d2] }
  | _ => none }
def GraphChecksWrongFalsely : Prop := graphChecksRow.holds Try.pinned (OpenSpec.ofChange graphChecksWrong)

/-- 'surveyorlaw16.GraphPaths': WHATEVER THE INPUT: true; the input reads as it did. -/
def graphPathsSpec : ChangeSpec := { name := "graphPaths", fn := fun _ => fun
  | [d1, d2] => { results := [.lit (.bool true)], args := [d1, d2] }
  | _ => none }
def graphPathsRow : OpenClaim := { program := "ytngfoinceakgdaa", sum := "22a694e35392cd500e94aa37fdd3803aac9b256b2fdde95284575de86c9ebedc", func := "surveyor/surveyorlaw16.GraphPaths", spec := "graphPaths", unfollowed := true, recurses := true, loops := true, apart := false }
def GraphPathsSaid : Prop := graphPathsRow.holds Try.pinned (OpenSpec.ofChange graphPathsSpec)

/-- ITS FALSE NEIGHBOUR: 'it returns false'. Refute it at one input. -/
def graphPathsWrong : ChangeSpec := { name := "graphPaths", fn := fun _ => fun
  | [d1, d2] => { results := [.lit (.bool false)], args := [d1, d2] }
  | _ => none }
def GraphPathsWrongFalsely : Prop := graphPathsRow.holds Try.pinned (OpenSpec.ofChange graphPathsWrong)

/-- 'surveyorlaw16.GraphHeads': WHATEVER THE INPUT: true; the input reads as it did. -/
def graphHeadsSpec : ChangeSpec := { name := "graphHeads", fn := fun _ => fun
  | [d] => { results := [.lit (.bool true)], args := [d] }
  | _ => none }
def graphHeadsRow : OpenClaim := { program := "ytngfoinceakgdaa", sum := "22a694e35392cd500e94aa37fdd3803aac9b256b2fdde95284575de86c9ebedc", func := "surveyor/surveyorlaw16.GraphHeads", spec := "graphHeads", unfollowed := true, recurses := true, loops := true, apart := false }
def GraphHeadsSaid : Prop := graphHeadsRow.holds Try.pinned (OpenSpec.ofChange graphHeadsSpec)

/-- ITS FALSE NEIGHBOUR: 'it returns false'. Refute it at one input. -/
def graphHeadsWrong : ChangeSpec := { name := "graphHeads", fn := fun _ => fun
  | [d] => { results := [.lit (.bool false)], args := [d] }
  | _ => none }
def GraphHeadsWrongFalsely : Prop := graphHeadsRow.holds Try.pinned (OpenSpec.ofChange graphHeadsWrong)

/-- 'surveyorlaw16.GraphOrders': WHATEVER THE INPUT: true; the input reads as it did. -/
def graphOrdersSpec : ChangeSpec := { name := "graphOrders", fn := fun _ => fun
  | [d1, d2, d3] => { results := [.lit (.bool true)], args := [d1, d2, d3] }
  | _ => none }
def graphOrdersRow : OpenClaim := { program := "ytngfoinceakgdaa", sum := "22a694e35392cd500e94aa37fdd3803aac9b256b2fdde95284575de86c9ebedc", func := "surveyor/surveyorlaw16.GraphOrders", spec := "graphOrders", unfollowed := true, recurses := true, loops := true, apart := false }
def GraphOrdersSaid : Prop := graphOrdersRow.holds Try.pinned (OpenSpec.ofChange graphOrdersSpec)

/-- ITS FALSE NEIGHBOUR: 'it returns false'. Refute it at one input. -/
def graphOrdersWrong : ChangeSpec := { name := "graphOrders", fn := fun _ => fun
  | [d1, d2, d3] => { results := [.lit (.bool false)], args := [d1, d2, d3] }
  | _ => none }
def GraphOrdersWrongFalsely : Prop := graphOrdersRow.holds Try.pinned (OpenSpec.ofChange graphOrdersWrong)

/- THE SECOND FORM. 'bulk': how many values and letters a reading holds, each counted each time it is reached (what is shared counts as often as it is met; a slice's spare places count too). A statement '..UptoSaid' is the law's where the arguments, and the package variables that the reading takes, are together of bulk at most 1048576: NARROWER than '..Said'. Prove '..Said' where nothing that the law and all that it calls make is longer than what came in: it says more and counts as full. Else prove '..UptoSaid'. A law counts once. -/
mutual
def uptoBulk {H : Type} : DataW H → Nat
  | .lit (.string bytes) => bytes.length + 1
  | .lit _ => 1
  | .nil => 1
  | .ptr d => uptoBulk d + 1
  | .slice elems spare => uptoBulkAll elems + uptoBulkAll spare + 1
  | .agg parts => uptoBulkAll parts + 1
  | .iface _ d => uptoBulk d + 1
  | .map entries => uptoBulkEntries entries + 1
  | .held _ => 1
def uptoBulkAll {H : Type} : List (DataW H) → Nat
  | [] => 0
  | d :: r => uptoBulk d + uptoBulkAll r
def uptoBulkEntries {H : Type} : List (Lit × DataW H) → Nat
  | [] => 0
  | x :: r => uptoBulkEntry x + uptoBulkEntries r
def uptoBulkEntry {H : Type} : Lit × DataW H → Nat
  | (.string bytes, d) => bytes.length + uptoBulk d + 1
  | (_, d) => uptoBulk d + 1
 end
def uptoSmall : (H : Type) → List (DataW H) → Bool := fun _ ds => decide (uptoBulkAll ds ≤ 1048576)
def OpenSpec.upto (s : _root_.Go.ChangeSpec) : _root_.Go.OpenSpec := { _root_.Go.OpenSpec.ofChange s with cond := some uptoSmall }

/-- 'surveyorlaw16.GraphComponents', WHERE WHAT IT READS IS OF BULK AT MOST 1048576: true; the input reads as it did. -/
def graphComponentsUptoRow : OpenClaim := { program := "ytngfoinceakgdaa", sum := "22a694e35392cd500e94aa37fdd3803aac9b256b2fdde95284575de86c9ebedc", func := "surveyor/surveyorlaw16.GraphComponents", spec := "graphComponents", unfollowed := true, recurses := true, loops := true, apart := false, narrowed := true }
def GraphComponentsUptoSaid : Prop := graphComponentsUptoRow.holds Try.pinned (OpenSpec.upto graphComponentsSpec)

/-- 'surveyorlaw16.GraphDominators', WHERE WHAT IT READS IS OF BULK AT MOST 1048576: true; the input reads as it did. -/
def graphDominatorsUptoRow : OpenClaim := { program := "ytngfoinceakgdaa", sum := "22a694e35392cd500e94aa37fdd3803aac9b256b2fdde95284575de86c9ebedc", func := "surveyor/surveyorlaw16.GraphDominators", spec := "graphDominators", unfollowed := true, recurses := true, loops := true, apart := false, narrowed := true }
def GraphDominatorsUptoSaid : Prop := graphDominatorsUptoRow.holds Try.pinned (OpenSpec.upto graphDominatorsSpec)

/-- 'surveyorlaw16.GraphLoops', WHERE WHAT IT READS IS OF BULK AT MOST 1048576: true; the input reads as it did. -/
def graphLoopsUptoRow : OpenClaim := { program := "ytngfoinceakgdaa", sum := "22a694e35392cd500e94aa37fdd3803aac9b256b2fdde95284575de86c9ebedc", func := "surveyor/surveyorlaw16.GraphLoops", spec := "graphLoops", unfollowed := true, recurses := true, loops := true, apart := false, narrowed := true }
def GraphLoopsUptoSaid : Prop := graphLoopsUptoRow.holds Try.pinned (OpenSpec.upto graphLoopsSpec)

/-- 'surveyorlaw16.GraphTurns', WHERE WHAT IT READS IS OF BULK AT MOST 1048576: true; the input reads as it did. -/
def graphTurnsUptoRow : OpenClaim := { program := "ytngfoinceakgdaa", sum := "22a694e35392cd500e94aa37fdd3803aac9b256b2fdde95284575de86c9ebedc", func := "surveyor/surveyorlaw16.GraphTurns", spec := "graphTurns", unfollowed := true, recurses := true, loops := true, apart := false, narrowed := true }
def GraphTurnsUptoSaid : Prop := graphTurnsUptoRow.holds Try.pinned (OpenSpec.upto graphTurnsSpec)

/-- 'surveyorlaw16.GraphLimits', WHERE WHAT IT READS IS OF BULK AT MOST 1048576: true; the input reads as it did. -/
def graphLimitsUptoRow : OpenClaim := { program := "ytngfoinceakgdaa", sum := "22a694e35392cd500e94aa37fdd3803aac9b256b2fdde95284575de86c9ebedc", func := "surveyor/surveyorlaw16.GraphLimits", spec := "graphLimits", unfollowed := true, recurses := true, apart := false, narrowed := true }
def GraphLimitsUptoSaid : Prop := graphLimitsUptoRow.holds Try.pinned (OpenSpec.upto graphLimitsSpec)

/-- 'surveyorlaw16.GraphCuts', WHERE WHAT IT READS IS OF BULK AT MOST 1048576: true; the input reads as it did. -/
def graphCutsUptoRow : OpenClaim := { program := "ytngfoinceakgdaa", sum := "22a694e35392cd500e94aa37fdd3803aac9b256b2fdde95284575de86c9ebedc", func := "surveyor/surveyorlaw16.GraphCuts", spec := "graphCuts", unfollowed := true, recurses := true, loops := true, apart := false, narrowed := true }
def GraphCutsUptoSaid : Prop := graphCutsUptoRow.holds Try.pinned (OpenSpec.upto graphCutsSpec)

/-- 'surveyorlaw16.GraphChecks', WHERE WHAT IT READS IS OF BULK AT MOST 1048576: true; the input reads as it did. -/
def graphChecksUptoRow : OpenClaim := { program := "ytngfoinceakgdaa", sum := "22a694e35392cd500e94aa37fdd3803aac9b256b2fdde95284575de86c9ebedc", func := "surveyor/surveyorlaw16.GraphChecks", spec := "graphChecks", unfollowed := true, recurses := true, loops := true, apart := false, narrowed := true }
def GraphChecksUptoSaid : Prop := graphChecksUptoRow.holds Try.pinned (OpenSpec.upto graphChecksSpec)

/-- 'surveyorlaw16.GraphPaths', WHERE WHAT IT READS IS OF BULK AT MOST 1048576: true; the input reads as it did. -/
def graphPathsUptoRow : OpenClaim := { program := "ytngfoinceakgdaa", sum := "22a694e35392cd500e94aa37fdd3803aac9b256b2fdde95284575de86c9ebedc", func := "surveyor/surveyorlaw16.GraphPaths", spec := "graphPaths", unfollowed := true, recurses := true, loops := true, apart := false, narrowed := true }
def GraphPathsUptoSaid : Prop := graphPathsUptoRow.holds Try.pinned (OpenSpec.upto graphPathsSpec)

/-- 'surveyorlaw16.GraphHeads', WHERE WHAT IT READS IS OF BULK AT MOST 1048576: true; the input reads as it did. -/
def graphHeadsUptoRow : OpenClaim := { program := "ytngfoinceakgdaa", sum := "22a694e35392cd500e94aa37fdd3803aac9b256b2fdde95284575de86c9ebedc", func := "surveyor/surveyorlaw16.GraphHeads", spec := "graphHeads", unfollowed := true, recurses := true, loops := true, apart := false, narrowed := true }
def GraphHeadsUptoSaid : Prop := graphHeadsUptoRow.holds Try.pinned (OpenSpec.upto graphHeadsSpec)

/-- 'surveyorlaw16.GraphOrders', WHERE WHAT IT READS IS OF BULK AT MOST 1048576: true; the input reads as it did. -/
def graphOrdersUptoRow : OpenClaim := { program := "ytngfoinceakgdaa", sum := "22a694e35392cd500e94aa37fdd3803aac9b256b2fdde95284575de86c9ebedc", func := "surveyor/surveyorlaw16.GraphOrders", spec := "graphOrders", unfollowed := true, recurses := true, loops := true, apart := false, narrowed := true }
def GraphOrdersUptoSaid : Prop := graphOrdersUptoRow.holds Try.pinned (OpenSpec.upto graphOrdersSpec)

end Rows
end Go.Proofs.Ytngfoinceakgdaa
