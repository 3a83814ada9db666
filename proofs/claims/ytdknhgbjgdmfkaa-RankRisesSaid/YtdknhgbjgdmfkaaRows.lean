/-
  No cell of these rows narrows 'for every input' (looked for: loops, veiled, ifaces, maps, wideKeys, modest, calm, conditions, laid).
  DERIVED. THE GIVEN ROWS OF THIS SEAT. 10 by the template 'for every input the law returns true; each argument reads behind the call as it read before'; 0 by the template 'total and deterministic' (their statements: YtdknhgbjgdmfkaaTotals.lean).
  GIVEN WITH THE SEED: the statements are not yours to turn. If you find one false, say at which input.
  Laid BY PROGRAM, IN A SANDBOX (cutbox-rows.mjs): the forced cells as the released guide's own fill.sh prints them over the translation 80d5567998ac8e75… (all of the seat's roots in one cut). By AI agents, Wed Nov 11 2026. No macro, syntax, notation, axiom, sorry.
-/
import Derived.Test.YtdknhgbjgdmfkaaChecked
import GoSem.Claim
import GoSem.ClaimJoined
import GoSem.ClaimMapViews
import Derived.JoinedTies
import Derived.KernelRfl
namespace Go.Proofs.Ytdknhgbjgdmfkaa
/- THE CELL 'sum', in the pinned program and in every row, IS THE sha256 OF THE DUMP (.gsa) THAT YtdknhgbjgdmfkaaProg.lean LOADS. Nothing in Lean hashes anything: it is a label: what it is worth is what the hold of that sum in a sandbox is worth. -/
noncomputable def Try.pinned : Pinned := { name := "ytdknhgbjgdmfkaa", sum := "80d5567998ac8e7553dd8b29062d98716a9a798f8fa6b296a149fe38907e9a8e", checked := Try.checked }
namespace Rows
def none {H : Type} : Left H := { results := [], args := [] }

/-- 'bywashlaw10.GraphIs': WHATEVER THE INPUT: true; the input reads as it did. -/
def graphIsSpec : ChangeSpec := { name := "graphIs", fn := fun _ => fun
  | [d1, d2, d3, d4] => { results := [.lit (.bool true)], args := [d1, d2, d3, d4] }
  | _ => none }
def graphIsRow : OpenClaim := { program := "ytdknhgbjgdmfkaa", sum := "80d5567998ac8e7553dd8b29062d98716a9a798f8fa6b296a149fe38907e9a8e", func := "bywash/bywashlaw10.GraphIs", spec := "graphIs", inPlace := ["slices.overlaps[int]"], unfollowed := true, recurses := true, apart := false }
def GraphIsSaid : Prop := graphIsRow.holds Try.pinned (OpenSpec.ofChange graphIsSpec)

/-- ITS FALSE NEIGHBOUR: 'it returns false'. Refute it at one input. -/
def graphIsWrong : ChangeSpec := { name := "graphIs", fn := fun _ => fun
  | [d1, d2, d3, d4] => { results := [.lit (.bool false)], args := [d1, d2, d3, d4] }
  | _ => none }
def GraphIsWrongFalsely : Prop := graphIsRow.holds Try.pinned (OpenSpec.ofChange graphIsWrong)

/-- 'bywashlaw11.SccParts': WHATEVER THE INPUT: true; the input reads as it did. -/
def sccPartsSpec : ChangeSpec := { name := "sccParts", fn := fun _ => fun
  | [d1, d2, d3] => { results := [.lit (.bool true)], args := [d1, d2, d3] }
  | _ => none }
def sccPartsRow : OpenClaim := { program := "ytdknhgbjgdmfkaa", sum := "80d5567998ac8e7553dd8b29062d98716a9a798f8fa6b296a149fe38907e9a8e", func := "bywash/bywashlaw11.SccParts", spec := "sccParts", unfollowed := true, recurses := true, apart := false }
def SccPartsSaid : Prop := sccPartsRow.holds Try.pinned (OpenSpec.ofChange sccPartsSpec)

/-- ITS FALSE NEIGHBOUR: 'it returns false'. Refute it at one input. -/
def sccPartsWrong : ChangeSpec := { name := "sccParts", fn := fun _ => fun
  | [d1, d2, d3] => { results := [.lit (.bool false)], args := [d1, d2, d3] }
  | _ => none }
def SccPartsWrongFalsely : Prop := sccPartsRow.holds Try.pinned (OpenSpec.ofChange sccPartsWrong)

/-- 'bywashlaw11.SccIs': WHATEVER THE INPUT: true; the input reads as it did. -/
def sccIsSpec : ChangeSpec := { name := "sccIs", fn := fun _ => fun
  | [d] => { results := [.lit (.bool true)], args := [d] }
  | _ => none }
def sccIsRow : OpenClaim := { program := "ytdknhgbjgdmfkaa", sum := "80d5567998ac8e7553dd8b29062d98716a9a798f8fa6b296a149fe38907e9a8e", func := "bywash/bywashlaw11.SccIs", spec := "sccIs", unfollowed := true, recurses := true, apart := false }
def SccIsSaid : Prop := sccIsRow.holds Try.pinned (OpenSpec.ofChange sccIsSpec)

/-- ITS FALSE NEIGHBOUR: 'it returns false'. Refute it at one input. -/
def sccIsWrong : ChangeSpec := { name := "sccIs", fn := fun _ => fun
  | [d] => { results := [.lit (.bool false)], args := [d] }
  | _ => none }
def SccIsWrongFalsely : Prop := sccIsRow.holds Try.pinned (OpenSpec.ofChange sccIsWrong)

/-- 'bywashlaw11.SccShrunk': WHATEVER THE INPUT: true; the input reads as it did. -/
def sccShrunkSpec : ChangeSpec := { name := "sccShrunk", fn := fun _ => fun
  | [d1, d2, d3] => { results := [.lit (.bool true)], args := [d1, d2, d3] }
  | _ => none }
def sccShrunkRow : OpenClaim := { program := "ytdknhgbjgdmfkaa", sum := "80d5567998ac8e7553dd8b29062d98716a9a798f8fa6b296a149fe38907e9a8e", func := "bywash/bywashlaw11.SccShrunk", spec := "sccShrunk", unfollowed := true, recurses := true, apart := false }
def SccShrunkSaid : Prop := sccShrunkRow.holds Try.pinned (OpenSpec.ofChange sccShrunkSpec)

/-- ITS FALSE NEIGHBOUR: 'it returns false'. Refute it at one input. -/
def sccShrunkWrong : ChangeSpec := { name := "sccShrunk", fn := fun _ => fun
  | [d1, d2, d3] => { results := [.lit (.bool false)], args := [d1, d2, d3] }
  | _ => none }
def SccShrunkWrongFalsely : Prop := sccShrunkRow.holds Try.pinned (OpenSpec.ofChange sccShrunkWrong)

/-- 'bywashlaw11.SccTurned': WHATEVER THE INPUT: true; the input reads as it did. -/
def sccTurnedSpec : ChangeSpec := { name := "sccTurned", fn := fun _ => fun
  | [d1, d2, d3] => { results := [.lit (.bool true)], args := [d1, d2, d3] }
  | _ => none }
def sccTurnedRow : OpenClaim := { program := "ytdknhgbjgdmfkaa", sum := "80d5567998ac8e7553dd8b29062d98716a9a798f8fa6b296a149fe38907e9a8e", func := "bywash/bywashlaw11.SccTurned", spec := "sccTurned", inPlace := ["slices.overlaps[int]"], unfollowed := true, recurses := true, apart := false }
def SccTurnedSaid : Prop := sccTurnedRow.holds Try.pinned (OpenSpec.ofChange sccTurnedSpec)

/-- ITS FALSE NEIGHBOUR: 'it returns false'. Refute it at one input. -/
def sccTurnedWrong : ChangeSpec := { name := "sccTurned", fn := fun _ => fun
  | [d1, d2, d3] => { results := [.lit (.bool false)], args := [d1, d2, d3] }
  | _ => none }
def SccTurnedWrongFalsely : Prop := sccTurnedRow.holds Try.pinned (OpenSpec.ofChange sccTurnedWrong)

/-- 'bywashlaw11.SccLoops': WHATEVER THE INPUT: true; the input reads as it did. -/
def sccLoopsSpec : ChangeSpec := { name := "sccLoops", fn := fun _ => fun
  | [d1, d2, d3] => { results := [.lit (.bool true)], args := [d1, d2, d3] }
  | _ => none }
def sccLoopsRow : OpenClaim := { program := "ytdknhgbjgdmfkaa", sum := "80d5567998ac8e7553dd8b29062d98716a9a798f8fa6b296a149fe38907e9a8e", func := "bywash/bywashlaw11.SccLoops", spec := "sccLoops", inPlace := ["slices.overlaps[int]"], unfollowed := true, recurses := true, apart := false }
def SccLoopsSaid : Prop := sccLoopsRow.holds Try.pinned (OpenSpec.ofChange sccLoopsSpec)

/-- ITS FALSE NEIGHBOUR: 'it returns false'. Refute it at one input. -/
def sccLoopsWrong : ChangeSpec := { name := "sccLoops", fn := fun _ => fun
  | [d1, d2, d3] => { results := [.lit (.bool false)], args := [d1, d2, d3] }
  | _ => none }
def SccLoopsWrongFalsely : Prop := sccLoopsRow.holds Try.pinned (OpenSpec.ofChange sccLoopsWrong)

/-- 'bywashlaw12.RankSchedule': WHATEVER THE INPUT: true; the input reads as it did. -/
def rankScheduleSpec : ChangeSpec := { name := "rankSchedule", fn := fun _ => fun
  | [d1, d2] => { results := [.lit (.bool true)], args := [d1, d2] }
  | _ => none }
def rankScheduleRow : OpenClaim := { program := "ytdknhgbjgdmfkaa", sum := "80d5567998ac8e7553dd8b29062d98716a9a798f8fa6b296a149fe38907e9a8e", func := "bywash/bywashlaw12.RankSchedule", spec := "rankSchedule", unfollowed := true, recurses := true, apart := false }
def RankScheduleSaid : Prop := rankScheduleRow.holds Try.pinned (OpenSpec.ofChange rankScheduleSpec)

/-- ITS FALSE NEIGHBOUR: 'it returns false'. Refute it at one input. -/
def rankScheduleWrong : ChangeSpec := { name := "rankSchedule", fn := fun _ => fun
  | [d1, d2] => { results := [.lit (.bool false)], args := [d1, d2] }
  | _ => none }
def RankScheduleWrongFalsely : Prop := rankScheduleRow.holds Try.pinned (OpenSpec.ofChange rankScheduleWrong)

/-- 'bywashlaw12.RankLevels': WHATEVER THE INPUT: true; the input reads as it did. -/
def rankLevelsSpec : ChangeSpec := { name := "rankLevels", fn := fun _ => fun
  | [d] => { results := [.lit (.bool true)], args := [d] }
  | _ => none }
def rankLevelsRow : OpenClaim := { program := "ytdknhgbjgdmfkaa", sum := "80d5567998ac8e7553dd8b29062d98716a9a798f8fa6b296a149fe38907e9a8e", func := "bywash/bywashlaw12.RankLevels", spec := "rankLevels", unfollowed := true, recurses := true, apart := false }
def RankLevelsSaid : Prop := rankLevelsRow.holds Try.pinned (OpenSpec.ofChange rankLevelsSpec)

/-- ITS FALSE NEIGHBOUR: 'it returns false'. Refute it at one input. -/
def rankLevelsWrong : ChangeSpec := { name := "rankLevels", fn := fun _ => fun
  | [d] => { results := [.lit (.bool false)], args := [d] }
  | _ => none }
def RankLevelsWrongFalsely : Prop := rankLevelsRow.holds Try.pinned (OpenSpec.ofChange rankLevelsWrong)

/-- 'bywashlaw12.RankRises': WHATEVER THE INPUT: true; the input reads as it did. -/
def rankRisesSpec : ChangeSpec := { name := "rankRises", fn := fun _ => fun
  | [d1, d2, d3] => { results := [.lit (.bool true)], args := [d1, d2, d3] }
  | _ => none }
def rankRisesRow : OpenClaim := { program := "ytdknhgbjgdmfkaa", sum := "80d5567998ac8e7553dd8b29062d98716a9a798f8fa6b296a149fe38907e9a8e", func := "bywash/bywashlaw12.RankRises", spec := "rankRises", unfollowed := true, recurses := true, apart := false }
def RankRisesSaid : Prop := rankRisesRow.holds Try.pinned (OpenSpec.ofChange rankRisesSpec)

/-- ITS FALSE NEIGHBOUR: 'it returns false'. Refute it at one input. -/
def rankRisesWrong : ChangeSpec := { name := "rankRises", fn := fun _ => fun
  | [d1, d2, d3] => { results := [.lit (.bool false)], args := [d1, d2, d3] }
  | _ => none }
def RankRisesWrongFalsely : Prop := rankRisesRow.holds Try.pinned (OpenSpec.ofChange rankRisesWrong)

/-- 'bywashlaw12.RankEdge': WHATEVER THE INPUT: true; the input reads as it did. -/
def rankEdgeSpec : ChangeSpec := { name := "rankEdge", fn := fun _ => fun
  | [d1, d2, d3] => { results := [.lit (.bool true)], args := [d1, d2, d3] }
  | _ => none }
def rankEdgeRow : OpenClaim := { program := "ytdknhgbjgdmfkaa", sum := "80d5567998ac8e7553dd8b29062d98716a9a798f8fa6b296a149fe38907e9a8e", func := "bywash/bywashlaw12.RankEdge", spec := "rankEdge", inPlace := ["slices.overlaps[int]"], unfollowed := true, recurses := true, apart := false }
def RankEdgeSaid : Prop := rankEdgeRow.holds Try.pinned (OpenSpec.ofChange rankEdgeSpec)

/-- ITS FALSE NEIGHBOUR: 'it returns false'. Refute it at one input. -/
def rankEdgeWrong : ChangeSpec := { name := "rankEdge", fn := fun _ => fun
  | [d1, d2, d3] => { results := [.lit (.bool false)], args := [d1, d2, d3] }
  | _ => none }
def RankEdgeWrongFalsely : Prop := rankEdgeRow.holds Try.pinned (OpenSpec.ofChange rankEdgeWrong)

/- THE SECOND FORM. 'bulk': how many values and letters a reading holds, each counted each time it is reached (what is shared counts as often as it is met; a slice's spare places count too). A statement '..UptoSaid' is the law's where the arguments, and the package variables that the reading takes, are together of bulk at most 1048576: NARROWER than '..Said'. Prove '..Said' where nothing that the law and all that it calls make is longer than what came in: it says more and counts as full. Else prove '..UptoSaid'. A law counts once. -/
mutual
def uptoBulk {H : Type} : DataW H → Nat
  | .lit (.string bytes) => bytes.length + 1
  | .lit _ => 1
  | .nil => 1
  | .ptr d => uptoBulk d + 1
  | .slice elems spare => uptoBulkAll elems + uptoBulkAll spare + 1
  | .agg parts => uptoBulkAll parts + 1
  | .iface _ d => uptoBulk d + 1
  | .map entries => uptoBulkEntries entries + 1
  | .held _ => 1
def uptoBulkAll {H : Type} : List (DataW H) → Nat
  | [] => 0
  | d :: r => uptoBulk d + uptoBulkAll r
def uptoBulkEntries {H : Type} : List (Lit × DataW H) → Nat
  | [] => 0
  | x :: r => uptoBulkEntry x + uptoBulkEntries r
def uptoBulkEntry {H : Type} : Lit × DataW H → Nat
  | (.string bytes, d) => bytes.length + uptoBulk d + 1
  | (_, d) => uptoBulk d + 1
 end
def uptoSmall : (H : Type) → List (DataW H) → Bool := fun _ ds => decide (uptoBulkAll ds ≤ 1048576)
def OpenSpec.upto (s : _root_.Go.ChangeSpec) : _root_.Go.OpenSpec := { _root_.Go.OpenSpec.ofChange s with cond := some uptoSmall }

/-- 'bywashlaw10.GraphIs', WHERE WHAT IT READS IS OF BULK AT MOST 1048576: true; the input reads as it did. -/
def graphIsUptoRow : OpenClaim := { program := "ytdknhgbjgdmfkaa", sum := "80d5567998ac8e7553dd8b29062d98716a9a798f8fa6b296a149fe38907e9a8e", func := "bywash/bywashlaw10.GraphIs", spec := "graphIs", inPlace := ["slices.overlaps[int]"], unfollowed := true, recurses := true, apart := false, narrowed := true }
def GraphIsUptoSaid : Prop := graphIsUptoRow.holds Try.pinned (OpenSpec.upto graphIsSpec)

/-- 'bywashlaw11.SccParts', WHERE WHAT IT READS IS OF BULK AT MOST 1048576: true; the input reads as it did. -/
def sccPartsUptoRow : OpenClaim := { program := "ytdknhgbjgdmfkaa", sum := "80d5567998ac8e7553dd8b29062d98716a9a798f8fa6b296a149fe38907e9a8e", func := "bywash/bywashlaw11.SccParts", spec := "sccParts", unfollowed := true, recurses := true, apart := false, narrowed := true }
def SccPartsUptoSaid : Prop := sccPartsUptoRow.holds Try.pinned (OpenSpec.upto sccPartsSpec)

/-- 'bywashlaw11.SccIs', WHERE WHAT IT READS IS OF BULK AT MOST 1048576: true; the input reads as it did. -/
def sccIsUptoRow : OpenClaim := { program := "ytdknhgbjgdmfkaa", sum := "80d5567998ac8e7553dd8b29062d98716a9a798f8fa6b296a149fe38907e9a8e", func := "bywash/bywashlaw11.SccIs", spec := "sccIs", unfollowed := true, recurses := true, apart := false, narrowed := true }
def SccIsUptoSaid : Prop := sccIsUptoRow.holds Try.pinned (OpenSpec.upto sccIsSpec)

/-- 'bywashlaw11.SccShrunk', WHERE WHAT IT READS IS OF BULK AT MOST 1048576: true; the input reads as it did. -/
def sccShrunkUptoRow : OpenClaim := { program := "ytdknhgbjgdmfkaa", sum := "80d5567998ac8e7553dd8b29062d98716a9a798f8fa6b296a149fe38907e9a8e", func := "bywash/bywashlaw11.SccShrunk", spec := "sccShrunk", unfollowed := true, recurses := true, apart := false, narrowed := true }
def SccShrunkUptoSaid : Prop := sccShrunkUptoRow.holds Try.pinned (OpenSpec.upto sccShrunkSpec)

/-- 'bywashlaw11.SccTurned', WHERE WHAT IT READS IS OF BULK AT MOST 1048576: true; the input reads as it did. -/
def sccTurnedUptoRow : OpenClaim := { program := "ytdknhgbjgdmfkaa", sum := "80d5567998ac8e7553dd8b29062d98716a9a798f8fa6b296a149fe38907e9a8e", func := "bywash/bywashlaw11.SccTurned", spec := "sccTurned", inPlace := ["slices.overlaps[int]"], unfollowed := true, recurses := true, apart := false, narrowed := true }
def SccTurnedUptoSaid : Prop := sccTurnedUptoRow.holds Try.pinned (OpenSpec.upto sccTurnedSpec)

/-- 'bywashlaw11.SccLoops', WHERE WHAT IT READS IS OF BULK AT MOST 1048576: true; the input reads as it did. -/
def sccLoopsUptoRow : OpenClaim := { program := "ytdknhgbjgdmfkaa", sum := "80d5567998ac8e7553dd8b29062d98716a9a798f8fa6b296a149fe38907e9a8e", func := "bywash/bywashlaw11.SccLoops", spec := "sccLoops", inPlace := ["slices.overlaps[int]"], unfollowed := true, recurses := true, apart := false, narrowed := true }
def SccLoopsUptoSaid : Prop := sccLoopsUptoRow.holds Try.pinned (OpenSpec.upto sccLoopsSpec)

/-- 'bywashlaw12.RankSchedule', WHERE WHAT IT READS IS OF BULK AT MOST 1048576: true; the input reads as it did. -/
def rankScheduleUptoRow : OpenClaim := { program := "ytdknhgbjgdmfkaa", sum := "80d5567998ac8e7553dd8b29062d98716a9a798f8fa6b296a149fe38907e9a8e", func := "bywash/bywashlaw12.RankSchedule", spec := "rankSchedule", unfollowed := true, recurses := true, apart := false, narrowed := true }
def RankScheduleUptoSaid : Prop := rankScheduleUptoRow.holds Try.pinned (OpenSpec.upto rankScheduleSpec)

/-- 'bywashlaw12.RankLevels', WHERE WHAT IT READS IS OF BULK AT MOST 1048576: true; the input reads as it did. -/
def rankLevelsUptoRow : OpenClaim := { program := "ytdknhgbjgdmfkaa", sum := "80d5567998ac8e7553dd8b29062d98716a9a798f8fa6b296a149fe38907e9a8e", func := "bywash/bywashlaw12.RankLevels", spec := "rankLevels", unfollowed := true, recurses := true, apart := false, narrowed := true }
def RankLevelsUptoSaid : Prop := rankLevelsUptoRow.holds Try.pinned (OpenSpec.upto rankLevelsSpec)

/-- 'bywashlaw12.RankRises', WHERE WHAT IT READS IS OF BULK AT MOST 1048576: true; the input reads as it did. -/
def rankRisesUptoRow : OpenClaim := { program := "ytdknhgbjgdmfkaa", sum := "80d5567998ac8e7553dd8b29062d98716a9a798f8fa6b296a149fe38907e9a8e", func := "bywash/bywashlaw12.RankRises", spec := "rankRises", unfollowed := true, recurses := true, apart := false, narrowed := true }
def RankRisesUptoSaid : Prop := rankRisesUptoRow.holds Try.pinned (OpenSpec.upto rankRisesSpec)

/-- 'bywashlaw12.RankEdge', WHERE WHAT IT READS IS OF BULK AT MOST 1048576: true; the input reads as it did. -/
def rankEdgeUptoRow : OpenClaim := { program := "ytdknhgbjgdmfkaa", sum := "80d5567998ac8e7553dd8b29062d98716a9a798f8fa6b296a149fe38907e9a8e", func := "bywash/bywashlaw12.RankEdge", spec := "rankEdge", inPlace := ["slices.overlaps[int]"], unfollowed := true, recurses := true, apart := false, narrowed := true }
def RankEdgeUptoSaid : Prop := rankEdgeUptoRow.holds Try.pinned (OpenSpec.upto rankEdgeSpec)

end Rows
end Go.Proofs.Ytdknhgbjgdmfkaa
