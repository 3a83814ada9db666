/-
  No cell of these rows narrows 'for every input' (looked for: loops, veiled, ifaces, maps, wideKeys, modest, calm, conditions, laid).
  DERIVED. THE GIVEN ROWS OF THIS SEAT. 11 by the template 'for every input the law returns true; each argument reads behind the call as it read before'; 0 by the template 'total and deterministic' (their statements: YtnhcimhdkdgccaaTotals.lean).
  GIVEN WITH THE SEED: the statements are not yours to turn. If you find one false, say at which input.
  Laid BY PROGRAM, IN A SANDBOX (cutbox-rows.mjs): the forced cells as the released guide's own fill.sh prints them over the translation d013d9253e8138e3… (all of the seat's roots in one cut). By AI agents, Wed Nov 11 2026. No macro, syntax, notation, axiom, sorry.
-/
import Derived.Test.YtnhcimhdkdgccaaChecked
import GoSem.Claim
import GoSem.ClaimJoined
import GoSem.ClaimMapViews
import Derived.JoinedTies
import Derived.KernelRfl
namespace Go.Proofs.Ytnhcimhdkdgccaa
/- THE CELL 'sum', in the pinned program and in every row, IS THE sha256 OF THE DUMP (.gsa) THAT YtnhcimhdkdgccaaProg.lean LOADS. Nothing in Lean hashes anything: it is a label: what it is worth is what the hold of that sum in a sandbox is worth. -/
noncomputable def Try.pinned : Pinned := { name := "ytnhcimhdkdgccaa", sum := "d013d9253e8138e328d5b6dbe317a0220c02b57c1d5dc45b9ad6a210b8d528da", checked := Try.checked }
namespace Rows
def none {H : Type} : Left H := { results := [], args := [] }

/-- 'bywashlaw16.WorkAgain': WHATEVER THE INPUT: true; the input reads as it did. -/
def workAgainSpec : ChangeSpec := { name := "workAgain", fn := fun _ => fun
  | [d1, d2, d3] => { results := [.lit (.bool true)], args := [d1, d2, d3] }
  | _ => none }
def workAgainRow : OpenClaim := { program := "ytnhcimhdkdgccaa", sum := "d013d9253e8138e328d5b6dbe317a0220c02b57c1d5dc45b9ad6a210b8d528da", func := "bywash/bywashlaw16.WorkAgain", spec := "workAgain", unfollowed := true, recurses := true, apart := false }
def WorkAgainSaid : Prop := workAgainRow.holds Try.pinned (OpenSpec.ofChange workAgainSpec)

/-- ITS FALSE NEIGHBOUR: 'it returns false'. Refute it at one input. -/
def workAgainWrong : ChangeSpec := { name := "workAgain", fn := fun _ => fun
  | [d1, d2, d3] => { results := [.lit (.bool false)], args := [d1, d2, d3] }
  | _ => none }
def WorkAgainWrongFalsely : Prop := workAgainRow.holds Try.pinned (OpenSpec.ofChange workAgainWrong)

/-- 'bywashlaw10.GraphOrder': WHATEVER THE INPUT: true; the input reads as it did. -/
def graphOrderSpec : ChangeSpec := { name := "graphOrder", fn := fun _ => fun
  | [d1, d2] => { results := [.lit (.bool true)], args := [d1, d2] }
  | _ => none }
def graphOrderRow : OpenClaim := { program := "ytnhcimhdkdgccaa", sum := "d013d9253e8138e328d5b6dbe317a0220c02b57c1d5dc45b9ad6a210b8d528da", func := "bywash/bywashlaw10.GraphOrder", spec := "graphOrder", unfollowed := true, recurses := true, apart := false }
def GraphOrderSaid : Prop := graphOrderRow.holds Try.pinned (OpenSpec.ofChange graphOrderSpec)

/-- ITS FALSE NEIGHBOUR: 'it returns false'. Refute it at one input. -/
def graphOrderWrong : ChangeSpec := { name := "graphOrder", fn := fun _ => fun
  | [d1, d2] => { results := [.lit (.bool false)], args := [d1, d2] }
  | _ => none }
def GraphOrderWrongFalsely : Prop := graphOrderRow.holds Try.pinned (OpenSpec.ofChange graphOrderWrong)

/-- 'bywashlaw10.GraphWay': WHATEVER THE INPUT: true; the input reads as it did. -/
def graphWaySpec : ChangeSpec := { name := "graphWay", fn := fun _ => fun
  | [d1, d2, d3] => { results := [.lit (.bool true)], args := [d1, d2, d3] }
  | _ => none }
def graphWayRow : OpenClaim := { program := "ytnhcimhdkdgccaa", sum := "d013d9253e8138e328d5b6dbe317a0220c02b57c1d5dc45b9ad6a210b8d528da", func := "bywash/bywashlaw10.GraphWay", spec := "graphWay", unfollowed := true, recurses := true, apart := false }
def GraphWaySaid : Prop := graphWayRow.holds Try.pinned (OpenSpec.ofChange graphWaySpec)

/-- ITS FALSE NEIGHBOUR: 'it returns false'. Refute it at one input. -/
def graphWayWrong : ChangeSpec := { name := "graphWay", fn := fun _ => fun
  | [d1, d2, d3] => { results := [.lit (.bool false)], args := [d1, d2, d3] }
  | _ => none }
def GraphWayWrongFalsely : Prop := graphWayRow.holds Try.pinned (OpenSpec.ofChange graphWayWrong)

/-- 'bywashlaw10.GraphTurned': WHATEVER THE INPUT: true; the input reads as it did. -/
def graphTurnedSpec : ChangeSpec := { name := "graphTurned", fn := fun _ => fun
  | [d1, d2, d3] => { results := [.lit (.bool true)], args := [d1, d2, d3] }
  | _ => none }
def graphTurnedRow : OpenClaim := { program := "ytnhcimhdkdgccaa", sum := "d013d9253e8138e328d5b6dbe317a0220c02b57c1d5dc45b9ad6a210b8d528da", func := "bywash/bywashlaw10.GraphTurned", spec := "graphTurned", unfollowed := true, recurses := true, apart := false }
def GraphTurnedSaid : Prop := graphTurnedRow.holds Try.pinned (OpenSpec.ofChange graphTurnedSpec)

/-- ITS FALSE NEIGHBOUR: 'it returns false'. Refute it at one input. -/
def graphTurnedWrong : ChangeSpec := { name := "graphTurned", fn := fun _ => fun
  | [d1, d2, d3] => { results := [.lit (.bool false)], args := [d1, d2, d3] }
  | _ => none }
def GraphTurnedWrongFalsely : Prop := graphTurnedRow.holds Try.pinned (OpenSpec.ofChange graphTurnedWrong)

/-- 'bywashlaw10.GraphClean': WHATEVER THE INPUT: true; the input reads as it did. -/
def graphCleanSpec : ChangeSpec := { name := "graphClean", fn := fun _ => fun
  | [d1, d2, d3] => { results := [.lit (.bool true)], args := [d1, d2, d3] }
  | _ => none }
def graphCleanRow : OpenClaim := { program := "ytnhcimhdkdgccaa", sum := "d013d9253e8138e328d5b6dbe317a0220c02b57c1d5dc45b9ad6a210b8d528da", func := "bywash/bywashlaw10.GraphClean", spec := "graphClean", unfollowed := true, recurses := true, apart := false }
def GraphCleanSaid : Prop := graphCleanRow.holds Try.pinned (OpenSpec.ofChange graphCleanSpec)

/-- ITS FALSE NEIGHBOUR: 'it returns false'. Refute it at one input. -/
def graphCleanWrong : ChangeSpec := { name := "graphClean", fn := fun _ => fun
  | [d1, d2, d3] => { results := [.lit (.bool false)], args := [d1, d2, d3] }
  | _ => none }
def GraphCleanWrongFalsely : Prop := graphCleanRow.holds Try.pinned (OpenSpec.ofChange graphCleanWrong)

/-- 'bywashlaw16.WorkOrders': WHATEVER THE INPUT: true; the input reads as it did. -/
def workOrdersSpec : ChangeSpec := { name := "workOrders", fn := fun _ => fun
  | [d1, d2, d3] => { results := [.lit (.bool true)], args := [d1, d2, d3] }
  | _ => none }
def workOrdersRow : OpenClaim := { program := "ytnhcimhdkdgccaa", sum := "d013d9253e8138e328d5b6dbe317a0220c02b57c1d5dc45b9ad6a210b8d528da", func := "bywash/bywashlaw16.WorkOrders", spec := "workOrders", unfollowed := true, recurses := true, apart := false }
def WorkOrdersSaid : Prop := workOrdersRow.holds Try.pinned (OpenSpec.ofChange workOrdersSpec)

/-- ITS FALSE NEIGHBOUR: 'it returns false'. Refute it at one input. -/
def workOrdersWrong : ChangeSpec := { name := "workOrders", fn := fun _ => fun
  | [d1, d2, d3] => { results := [.lit (.bool false)], args := [d1, d2, d3] }
  | _ => none }
def WorkOrdersWrongFalsely : Prop := workOrdersRow.holds Try.pinned (OpenSpec.ofChange workOrdersWrong)

/-- 'bywashlaw16.WorkPlays': WHATEVER THE INPUT: true; the input reads as it did. -/
def workPlaysSpec : ChangeSpec := { name := "workPlays", fn := fun _ => fun
  | [d1, d2, d3] => { results := [.lit (.bool true)], args := [d1, d2, d3] }
  | _ => none }
def workPlaysRow : OpenClaim := { program := "ytnhcimhdkdgccaa", sum := "d013d9253e8138e328d5b6dbe317a0220c02b57c1d5dc45b9ad6a210b8d528da", func := "bywash/bywashlaw16.WorkPlays", spec := "workPlays", unfollowed := true, recurses := true, apart := false }
def WorkPlaysSaid : Prop := workPlaysRow.holds Try.pinned (OpenSpec.ofChange workPlaysSpec)

/-- ITS FALSE NEIGHBOUR: 'it returns false'. Refute it at one input. -/
def workPlaysWrong : ChangeSpec := { name := "workPlays", fn := fun _ => fun
  | [d1, d2, d3] => { results := [.lit (.bool false)], args := [d1, d2, d3] }
  | _ => none }
def WorkPlaysWrongFalsely : Prop := workPlaysRow.holds Try.pinned (OpenSpec.ofChange workPlaysWrong)

/-- 'bywashlaw16.WorkNone': WHATEVER THE INPUT: true; the input reads as it did. -/
def workNoneSpec : ChangeSpec := { name := "workNone", fn := fun _ => fun
  | [d] => { results := [.lit (.bool true)], args := [d] }
  | _ => none }
def workNoneRow : OpenClaim := { program := "ytnhcimhdkdgccaa", sum := "d013d9253e8138e328d5b6dbe317a0220c02b57c1d5dc45b9ad6a210b8d528da", func := "bywash/bywashlaw16.WorkNone", spec := "workNone", unfollowed := true, recurses := true, apart := false }
def WorkNoneSaid : Prop := workNoneRow.holds Try.pinned (OpenSpec.ofChange workNoneSpec)

/-- ITS FALSE NEIGHBOUR: 'it returns false'. Refute it at one input. -/
def workNoneWrong : ChangeSpec := { name := "workNone", fn := fun _ => fun
  | [d] => { results := [.lit (.bool false)], args := [d] }
  | _ => none }
def WorkNoneWrongFalsely : Prop := workNoneRow.holds Try.pinned (OpenSpec.ofChange workNoneWrong)

/-- 'bywashlaw16.WorkSorted': WHATEVER THE INPUT: true; the input reads as it did. -/
def workSortedSpec : ChangeSpec := { name := "workSorted", fn := fun _ => fun
  | [d1, d2] => { results := [.lit (.bool true)], args := [d1, d2] }
  | _ => none }
def workSortedRow : OpenClaim := { program := "ytnhcimhdkdgccaa", sum := "d013d9253e8138e328d5b6dbe317a0220c02b57c1d5dc45b9ad6a210b8d528da", func := "bywash/bywashlaw16.WorkSorted", spec := "workSorted", unfollowed := true, recurses := true, apart := false }
def WorkSortedSaid : Prop := workSortedRow.holds Try.pinned (OpenSpec.ofChange workSortedSpec)

/-- ITS FALSE NEIGHBOUR: 'it returns false'. Refute it at one input. -/
def workSortedWrong : ChangeSpec := { name := "workSorted", fn := fun _ => fun
  | [d1, d2] => { results := [.lit (.bool false)], args := [d1, d2] }
  | _ => none }
def WorkSortedWrongFalsely : Prop := workSortedRow.holds Try.pinned (OpenSpec.ofChange workSortedWrong)

/-- 'bywashlaw10.GraphEdges': WHATEVER THE INPUT: true; the input reads as it did. -/
def graphEdgesSpec : ChangeSpec := { name := "graphEdges", fn := fun _ => fun
  | [d1, d2, d3, d4] => { results := [.lit (.bool true)], args := [d1, d2, d3, d4] }
  | _ => none }
def graphEdgesRow : OpenClaim := { program := "ytnhcimhdkdgccaa", sum := "d013d9253e8138e328d5b6dbe317a0220c02b57c1d5dc45b9ad6a210b8d528da", func := "bywash/bywashlaw10.GraphEdges", spec := "graphEdges", inPlace := ["slices.overlaps[int]"], unfollowed := true, recurses := true, apart := false }
def GraphEdgesSaid : Prop := graphEdgesRow.holds Try.pinned (OpenSpec.ofChange graphEdgesSpec)

/-- ITS FALSE NEIGHBOUR: 'it returns false'. Refute it at one input. -/
def graphEdgesWrong : ChangeSpec := { name := "graphEdges", fn := fun _ => fun
  | [d1, d2, d3, d4] => { results := [.lit (.bool false)], args := [d1, d2, d3, d4] }
  | _ => none }
def GraphEdgesWrongFalsely : Prop := graphEdgesRow.holds Try.pinned (OpenSpec.ofChange graphEdgesWrong)

/-- 'bywashlaw10.GraphIs': WHATEVER THE INPUT: true; the input reads as it did. -/
def graphIsSpec : ChangeSpec := { name := "graphIs", fn := fun _ => fun
  | [d1, d2, d3, d4] => { results := [.lit (.bool true)], args := [d1, d2, d3, d4] }
  | _ => none }
def graphIsRow : OpenClaim := { program := "ytnhcimhdkdgccaa", sum := "d013d9253e8138e328d5b6dbe317a0220c02b57c1d5dc45b9ad6a210b8d528da", func := "bywash/bywashlaw10.GraphIs", spec := "graphIs", inPlace := ["slices.overlaps[int]"], unfollowed := true, recurses := true, apart := false }
def GraphIsSaid : Prop := graphIsRow.holds Try.pinned (OpenSpec.ofChange graphIsSpec)

/-- ITS FALSE NEIGHBOUR: 'it returns false'. Refute it at one input. -/
def graphIsWrong : ChangeSpec := { name := "graphIs", fn := fun _ => fun
  | [d1, d2, d3, d4] => { results := [.lit (.bool false)], args := [d1, d2, d3, d4] }
  | _ => none }
def GraphIsWrongFalsely : Prop := graphIsRow.holds Try.pinned (OpenSpec.ofChange graphIsWrong)

/- THE SECOND FORM. 'bulk': how many values and letters a reading holds, each counted each time it is reached (what is shared counts as often as it is met; a slice's spare places count too). A statement '..UptoSaid' is the law's where the arguments, and the package variables that the reading takes, are together of bulk at most 1048576: NARROWER than '..Said'. Prove '..Said' where nothing that the law and all that it calls make is longer than what came in: it says more and counts as full. Else prove '..UptoSaid'. A law counts once. -/
mutual
def uptoBulk {H : Type} : DataW H → Nat
  | .lit (.string bytes) => bytes.length + 1
  | .lit _ => 1
  | .nil => 1
  | .ptr d => uptoBulk d + 1
  | .slice elems spare => uptoBulkAll elems + uptoBulkAll spare + 1
  | .agg parts => uptoBulkAll parts + 1
  | .iface _ d => uptoBulk d + 1
  | .map entries => uptoBulkEntries entries + 1
  | .held _ => 1
def uptoBulkAll {H : Type} : List (DataW H) → Nat
  | [] => 0
  | d :: r => uptoBulk d + uptoBulkAll r
def uptoBulkEntries {H : Type} : List (Lit × DataW H) → Nat
  | [] => 0
  | x :: r => uptoBulkEntry x + uptoBulkEntries r
def uptoBulkEntry {H : Type} : Lit × DataW H → Nat
  | (.string bytes, d) => bytes.length + uptoBulk d + 1
  | (_, d) => uptoBulk d + 1
 end
def uptoSmall : (H : Type) → List (DataW H) → Bool := fun _ ds => decide (uptoBulkAll ds ≤ 1048576)
def OpenSpec.upto (s : _root_.Go.ChangeSpec) : _root_.Go.OpenSpec := { _root_.Go.OpenSpec.ofChange s with cond := some uptoSmall }

/-- 'bywashlaw16.WorkAgain', WHERE WHAT IT READS IS OF BULK AT MOST 1048576: true; the input reads as it did. -/
def workAgainUptoRow : OpenClaim := { program := "ytnhcimhdkdgccaa", sum := "d013d9253e8138e328d5b6dbe317a0220c02b57c1d5dc45b9ad6a210b8d528da", func := "bywash/bywashlaw16.WorkAgain", spec := "workAgain", unfollowed := true, recurses := true, apart := false, narrowed := true }
def WorkAgainUptoSaid : Prop := workAgainUptoRow.holds Try.pinned (OpenSpec.upto workAgainSpec)

/-- 'bywashlaw10.GraphOrder', WHERE WHAT IT READS IS OF BULK AT MOST 1048576: true; the input reads as it did. -/
def graphOrderUptoRow : OpenClaim := { program := "ytnhcimhdkdgccaa", sum := "d013d9253e8138e328d5b6dbe317a0220c02b57c1d5dc45b9ad6a210b8d528da", func := "bywash/bywashlaw10.GraphOrder", spec := "graphOrder", unfollowed := true, recurses := true, apart := false, narrowed := true }
def GraphOrderUptoSaid : Prop := graphOrderUptoRow.holds Try.pinned (OpenSpec.upto graphOrderSpec)

/-- 'bywashlaw10.GraphWay', WHERE WHAT IT READS IS OF BULK AT MOST 1048576: true; the input reads as it did. -/
def graphWayUptoRow : OpenClaim := { program := "ytnhcimhdkdgccaa", sum := "d013d9253e8138e328d5b6dbe317a0220c02b57c1d5dc45b9ad6a210b8d528da", func := "bywash/bywashlaw10.GraphWay", spec := "graphWay", unfollowed := true, recurses := true, apart := false, narrowed := true }
def GraphWayUptoSaid : Prop := graphWayUptoRow.holds Try.pinned (OpenSpec.upto graphWaySpec)

/-- 'bywashlaw10.GraphTurned', WHERE WHAT IT READS IS OF BULK AT MOST 1048576: true; the input reads as it did. -/
def graphTurnedUptoRow : OpenClaim := { program := "ytnhcimhdkdgccaa", sum := "d013d9253e8138e328d5b6dbe317a0220c02b57c1d5dc45b9ad6a210b8d528da", func := "bywash/bywashlaw10.GraphTurned", spec := "graphTurned", unfollowed := true, recurses := true, apart := false, narrowed := true }
def GraphTurnedUptoSaid : Prop := graphTurnedUptoRow.holds Try.pinned (OpenSpec.upto graphTurnedSpec)

/-- 'bywashlaw10.GraphClean', WHERE WHAT IT READS IS OF BULK AT MOST 1048576: true; the input reads as it did. -/
def graphCleanUptoRow : OpenClaim := { program := "ytnhcimhdkdgccaa", sum := "d013d9253e8138e328d5b6dbe317a0220c02b57c1d5dc45b9ad6a210b8d528da", func := "bywash/bywashlaw10.GraphClean", spec := "graphClean", unfollowed := true, recurses := true, apart := false, narrowed := true }
def GraphCleanUptoSaid : Prop := graphCleanUptoRow.holds Try.pinned (OpenSpec.upto graphCleanSpec)

/-- 'bywashlaw16.WorkOrders', WHERE WHAT IT READS IS OF BULK AT MOST 1048576: true; the input reads as it did. -/
def workOrdersUptoRow : OpenClaim := { program := "ytnhcimhdkdgccaa", sum := "d013d9253e8138e328d5b6dbe317a0220c02b57c1d5dc45b9ad6a210b8d528da", func := "bywash/bywashlaw16.WorkOrders", spec := "workOrders", unfollowed := true, recurses := true, apart := false, narrowed := true }
def WorkOrdersUptoSaid : Prop := workOrdersUptoRow.holds Try.pinned (OpenSpec.upto workOrdersSpec)

/-- 'bywashlaw16.WorkPlays', WHERE WHAT IT READS IS OF BULK AT MOST 1048576: true; the input reads as it did. -/
def workPlaysUptoRow : OpenClaim := { program := "ytnhcimhdkdgccaa", sum := "d013d9253e8138e328d5b6dbe317a0220c02b57c1d5dc45b9ad6a210b8d528da", func := "bywash/bywashlaw16.WorkPlays", spec := "workPlays", unfollowed := true, recurses := true, apart := false, narrowed := true }
def WorkPlaysUptoSaid : Prop := workPlaysUptoRow.holds Try.pinned (OpenSpec.upto workPlaysSpec)

/-- 'bywashlaw16.WorkNone', WHERE WHAT IT READS IS OF BULK AT MOST 1048576: true; the input reads as it did. -/
def workNoneUptoRow : OpenClaim := { program := "ytnhcimhdkdgccaa", sum := "d013d9253e8138e328d5b6dbe317a0220c02b57c1d5dc45b9ad6a210b8d528da", func := "bywash/bywashlaw16.WorkNone", spec := "workNone", unfollowed := true, recurses := true, apart := false, narrowed := true }
def WorkNoneUptoSaid : Prop := workNoneUptoRow.holds Try.pinned (OpenSpec.upto workNoneSpec)

/-- 'bywashlaw16.WorkSorted', WHERE WHAT IT READS IS OF BULK AT MOST 1048576: true; the input reads as it did. -/
def workSortedUptoRow : OpenClaim := { program := "ytnhcimhdkdgccaa", sum := "d013d9253e8138e328d5b6dbe317a0220c02b57c1d5dc45b9ad6a210b8d528da", func := "bywash/bywashlaw16.WorkSorted", spec := "workSorted", unfollowed := true, recurses := true, apart := false, narrowed := true }
def WorkSortedUptoSaid : Prop := workSortedUptoRow.holds Try.pinned (OpenSpec.upto workSortedSpec)

/-- 'bywashlaw10.GraphEdges', WHERE WHAT IT READS IS OF BULK AT MOST 1048576: true; the input reads as it did. -/
def graphEdgesUptoRow : OpenClaim := { program := "ytnhcimhdkdgccaa", sum := "d013d9253e8138e328d5b6dbe317a0220c02b57c1d5dc45b9ad6a210b8d528da", func := "bywash/bywashlaw10.GraphEdges", spec := "graphEdges", inPlace := ["slices.overlaps[int]"], unfollowed := true, recurses := true, apart := false, narrowed := true }
def GraphEdgesUptoSaid : Prop := graphEdgesUptoRow.holds Try.pinned (OpenSpec.upto graphEdgesSpec)

/-- 'bywashlaw10.GraphIs', WHERE WHAT IT READS IS OF BULK AT MOST 1048576: true; the input reads as it did. -/
def graphIsUptoRow : OpenClaim := { program := "ytnhcimhdkdgccaa", sum := "d013d9253e8138e328d5b6dbe317a0220c02b57c1d5dc45b9ad6a210b8d528da", func := "bywash/bywashlaw10.GraphIs", spec := "graphIs", inPlace := ["slices.overlaps[int]"], unfollowed := true, recurses := true, apart := false, narrowed := true }
def GraphIsUptoSaid : Prop := graphIsUptoRow.holds Try.pinned (OpenSpec.upto graphIsSpec)

end Rows
end Go.Proofs.Ytnhcimhdkdgccaa
