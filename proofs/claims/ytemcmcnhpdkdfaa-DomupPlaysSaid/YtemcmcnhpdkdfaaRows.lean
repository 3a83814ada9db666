/-
  No cell of these rows narrows 'for every input' (looked for: loops, veiled, ifaces, maps, wideKeys, modest, calm, conditions, laid).
  DERIVED. THE GIVEN ROWS OF THIS SEAT. 10 by the template 'for every input the law returns true; each argument reads behind the call as it read before'; 0 by the template 'total and deterministic' (their statements: YtemcmcnhpdkdfaaTotals.lean).
  GIVEN WITH THE SEED: the statements are not yours to turn. If you find one false, say at which input.
  Laid BY PROGRAM, IN A SANDBOX (cutbox-rows.mjs): the forced cells as the released guide's own fill.sh prints them over the translation 46e468b3de009ea2… (all of the seat's roots in one cut). By AI agents, Wed Nov 11 2026. No macro, syntax, notation, axiom, sorry.
-/
import Derived.Test.YtemcmcnhpdkdfaaChecked
import GoSem.Claim
import GoSem.ClaimJoined
import GoSem.ClaimMapViews
import Derived.JoinedTies
import Derived.KernelRfl
namespace Go.Proofs.Ytemcmcnhpdkdfaa
/- THE CELL 'sum', in the pinned program and in every row, IS THE sha256 OF THE DUMP (.gsa) THAT YtemcmcnhpdkdfaaProg.lean LOADS. Nothing in Lean hashes anything: it is a label: what it is worth is what the hold of that sum in a sandbox is worth. -/
noncomputable def Try.pinned : Pinned := { name := "ytemcmcnhpdkdfaa", sum := "46e468b3de009ea287966364eaa5b9810049380d19f5370029c68c4672455726", checked := Try.checked }
namespace Rows
def none {H : Type} : Left H := { results := [], args := [] }

/-- 'bywashlaw14.DomCommon': WHATEVER THE INPUT: true; the input reads as it did. -/
def domCommonSpec : ChangeSpec := { name := "domCommon", fn := fun _ => fun
  | [d1, d2, d3, d4] => { results := [.lit (.bool true)], args := [d1, d2, d3, d4] }
  | _ => none }
def domCommonRow : OpenClaim := { program := "ytemcmcnhpdkdfaa", sum := "46e468b3de009ea287966364eaa5b9810049380d19f5370029c68c4672455726", func := "bywash/bywashlaw14.DomCommon", spec := "domCommon", unfollowed := true, recurses := true, apart := false }
def DomCommonSaid : Prop := domCommonRow.holds Try.pinned (OpenSpec.ofChange domCommonSpec)

/-- ITS FALSE NEIGHBOUR: 'it returns false'. Refute it at one input. -/
def domCommonWrong : ChangeSpec := { name := "domCommon", fn := fun _ => fun
  | [d1, d2, d3, d4] => { results := [.lit (.bool false)], args := [d1, d2, d3, d4] }
  | _ => none }
def DomCommonWrongFalsely : Prop := domCommonRow.holds Try.pinned (OpenSpec.ofChange domCommonWrong)

/-- 'bywashlaw14.DomPreds': WHATEVER THE INPUT: true; the input reads as it did. -/
def domPredsSpec : ChangeSpec := { name := "domPreds", fn := fun _ => fun
  | [d1, d2] => { results := [.lit (.bool true)], args := [d1, d2] }
  | _ => none }
def domPredsRow : OpenClaim := { program := "ytemcmcnhpdkdfaa", sum := "46e468b3de009ea287966364eaa5b9810049380d19f5370029c68c4672455726", func := "bywash/bywashlaw14.DomPreds", spec := "domPreds", unfollowed := true, recurses := true, apart := false }
def DomPredsSaid : Prop := domPredsRow.holds Try.pinned (OpenSpec.ofChange domPredsSpec)

/-- ITS FALSE NEIGHBOUR: 'it returns false'. Refute it at one input. -/
def domPredsWrong : ChangeSpec := { name := "domPreds", fn := fun _ => fun
  | [d1, d2] => { results := [.lit (.bool false)], args := [d1, d2] }
  | _ => none }
def DomPredsWrongFalsely : Prop := domPredsRow.holds Try.pinned (OpenSpec.ofChange domPredsWrong)

/-- 'bywashlaw14.DomTells': WHATEVER THE INPUT: true; the input reads as it did. -/
def domTellsSpec : ChangeSpec := { name := "domTells", fn := fun _ => fun
  | [d1, d2, d3] => { results := [.lit (.bool true)], args := [d1, d2, d3] }
  | _ => none }
def domTellsRow : OpenClaim := { program := "ytemcmcnhpdkdfaa", sum := "46e468b3de009ea287966364eaa5b9810049380d19f5370029c68c4672455726", func := "bywash/bywashlaw14.DomTells", spec := "domTells", unfollowed := true, recurses := true, apart := false }
def DomTellsSaid : Prop := domTellsRow.holds Try.pinned (OpenSpec.ofChange domTellsSpec)

/-- ITS FALSE NEIGHBOUR: 'it returns false'. Refute it at one input. -/
def domTellsWrong : ChangeSpec := { name := "domTells", fn := fun _ => fun
  | [d1, d2, d3] => { results := [.lit (.bool false)], args := [d1, d2, d3] }
  | _ => none }
def DomTellsWrongFalsely : Prop := domTellsRow.holds Try.pinned (OpenSpec.ofChange domTellsWrong)

/-- 'bywashlaw14.DomIs': WHATEVER THE INPUT: true; the input reads as it did. -/
def domIsSpec : ChangeSpec := { name := "domIs", fn := fun _ => fun
  | [d1, d2, d3, d4] => { results := [.lit (.bool true)], args := [d1, d2, d3, d4] }
  | _ => none }
def domIsRow : OpenClaim := { program := "ytemcmcnhpdkdfaa", sum := "46e468b3de009ea287966364eaa5b9810049380d19f5370029c68c4672455726", func := "bywash/bywashlaw14.DomIs", spec := "domIs", unfollowed := true, recurses := true, apart := false }
def DomIsSaid : Prop := domIsRow.holds Try.pinned (OpenSpec.ofChange domIsSpec)

/-- ITS FALSE NEIGHBOUR: 'it returns false'. Refute it at one input. -/
def domIsWrong : ChangeSpec := { name := "domIs", fn := fun _ => fun
  | [d1, d2, d3, d4] => { results := [.lit (.bool false)], args := [d1, d2, d3, d4] }
  | _ => none }
def DomIsWrongFalsely : Prop := domIsRow.holds Try.pinned (OpenSpec.ofChange domIsWrong)

/-- 'bywashlaw14.DomTree': WHATEVER THE INPUT: true; the input reads as it did. -/
def domTreeSpec : ChangeSpec := { name := "domTree", fn := fun _ => fun
  | [d1, d2] => { results := [.lit (.bool true)], args := [d1, d2] }
  | _ => none }
def domTreeRow : OpenClaim := { program := "ytemcmcnhpdkdfaa", sum := "46e468b3de009ea287966364eaa5b9810049380d19f5370029c68c4672455726", func := "bywash/bywashlaw14.DomTree", spec := "domTree", unfollowed := true, recurses := true, apart := false }
def DomTreeSaid : Prop := domTreeRow.holds Try.pinned (OpenSpec.ofChange domTreeSpec)

/-- ITS FALSE NEIGHBOUR: 'it returns false'. Refute it at one input. -/
def domTreeWrong : ChangeSpec := { name := "domTree", fn := fun _ => fun
  | [d1, d2] => { results := [.lit (.bool false)], args := [d1, d2] }
  | _ => none }
def DomTreeWrongFalsely : Prop := domTreeRow.holds Try.pinned (OpenSpec.ofChange domTreeWrong)

/-- 'bywashlaw14.DomOne': WHATEVER THE INPUT: true; the input reads as it did. -/
def domOneSpec : ChangeSpec := { name := "domOne", fn := fun _ => fun
  | [d1, d2, d3, d4] => { results := [.lit (.bool true)], args := [d1, d2, d3, d4] }
  | _ => none }
def domOneRow : OpenClaim := { program := "ytemcmcnhpdkdfaa", sum := "46e468b3de009ea287966364eaa5b9810049380d19f5370029c68c4672455726", func := "bywash/bywashlaw14.DomOne", spec := "domOne", unfollowed := true, recurses := true, apart := false }
def DomOneSaid : Prop := domOneRow.holds Try.pinned (OpenSpec.ofChange domOneSpec)

/-- ITS FALSE NEIGHBOUR: 'it returns false'. Refute it at one input. -/
def domOneWrong : ChangeSpec := { name := "domOne", fn := fun _ => fun
  | [d1, d2, d3, d4] => { results := [.lit (.bool false)], args := [d1, d2, d3, d4] }
  | _ => none }
def DomOneWrongFalsely : Prop := domOneRow.holds Try.pinned (OpenSpec.ofChange domOneWrong)

/-- 'bywashlaw15.DomupUnder': WHATEVER THE INPUT: true; the input reads as it did. -/
def domupUnderSpec : ChangeSpec := { name := "domupUnder", fn := fun _ => fun
  | [d1, d2, d3, d4] => { results := [.lit (.bool true)], args := [d1, d2, d3, d4] }
  | _ => none }
def domupUnderRow : OpenClaim := { program := "ytemcmcnhpdkdfaa", sum := "46e468b3de009ea287966364eaa5b9810049380d19f5370029c68c4672455726", func := "bywash/bywashlaw15.DomupUnder", spec := "domupUnder", inPlace := ["slices.overlaps[int]"], unfollowed := true, recurses := true, apart := false }
def DomupUnderSaid : Prop := domupUnderRow.holds Try.pinned (OpenSpec.ofChange domupUnderSpec)

/-- ITS FALSE NEIGHBOUR: 'it returns false'. Refute it at one input. -/
def domupUnderWrong : ChangeSpec := { name := "domupUnder", fn := fun _ => fun
  | [d1, d2, d3, d4] => { results := [.lit (.bool false)], args := [d1, d2, d3, d4] }
  | _ => none }
def DomupUnderWrongFalsely : Prop := domupUnderRow.holds Try.pinned (OpenSpec.ofChange domupUnderWrong)

/-- 'bywashlaw15.DomupBack': WHATEVER THE INPUT: true; the input reads as it did. -/
def domupBackSpec : ChangeSpec := { name := "domupBack", fn := fun _ => fun
  | [d1, d2, d3, d4] => { results := [.lit (.bool true)], args := [d1, d2, d3, d4] }
  | _ => none }
def domupBackRow : OpenClaim := { program := "ytemcmcnhpdkdfaa", sum := "46e468b3de009ea287966364eaa5b9810049380d19f5370029c68c4672455726", func := "bywash/bywashlaw15.DomupBack", spec := "domupBack", inPlace := ["slices.overlaps[int]"], unfollowed := true, recurses := true, apart := false }
def DomupBackSaid : Prop := domupBackRow.holds Try.pinned (OpenSpec.ofChange domupBackSpec)

/-- ITS FALSE NEIGHBOUR: 'it returns false'. Refute it at one input. -/
def domupBackWrong : ChangeSpec := { name := "domupBack", fn := fun _ => fun
  | [d1, d2, d3, d4] => { results := [.lit (.bool false)], args := [d1, d2, d3, d4] }
  | _ => none }
def DomupBackWrongFalsely : Prop := domupBackRow.holds Try.pinned (OpenSpec.ofChange domupBackWrong)

/-- 'bywashlaw15.DomupFound': WHATEVER THE INPUT: true; the input reads as it did. -/
def domupFoundSpec : ChangeSpec := { name := "domupFound", fn := fun _ => fun
  | [d1, d2, d3, d4] => { results := [.lit (.bool true)], args := [d1, d2, d3, d4] }
  | _ => none }
def domupFoundRow : OpenClaim := { program := "ytemcmcnhpdkdfaa", sum := "46e468b3de009ea287966364eaa5b9810049380d19f5370029c68c4672455726", func := "bywash/bywashlaw15.DomupFound", spec := "domupFound", inPlace := ["slices.overlaps[int]"], unfollowed := true, recurses := true, apart := false }
def DomupFoundSaid : Prop := domupFoundRow.holds Try.pinned (OpenSpec.ofChange domupFoundSpec)

/-- ITS FALSE NEIGHBOUR: 'it returns false'. Refute it at one input. -/
def domupFoundWrong : ChangeSpec := { name := "domupFound", fn := fun _ => fun
  | [d1, d2, d3, d4] => { results := [.lit (.bool false)], args := [d1, d2, d3, d4] }
  | _ => none }
def DomupFoundWrongFalsely : Prop := domupFoundRow.holds Try.pinned (OpenSpec.ofChange domupFoundWrong)

/-- 'bywashlaw15.DomupPlays': WHATEVER THE INPUT: true; the input reads as it did. -/
def domupPlaysSpec : ChangeSpec := { name := "domupPlays", fn := fun _ => fun
  | [d1, d2] => { results := [.lit (.bool true)], args := [d1, d2] }
  | _ => none }
def domupPlaysRow : OpenClaim := { program := "ytemcmcnhpdkdfaa", sum := "46e468b3de009ea287966364eaa5b9810049380d19f5370029c68c4672455726", func := "bywash/bywashlaw15.DomupPlays", spec := "domupPlays", inPlace := ["slices.overlaps[int]"], unfollowed := true, recurses := true, apart := false }
def DomupPlaysSaid : Prop := domupPlaysRow.holds Try.pinned (OpenSpec.ofChange domupPlaysSpec)

/-- ITS FALSE NEIGHBOUR: 'it returns false'. Refute it at one input. -/
def domupPlaysWrong : ChangeSpec := { name := "domupPlays", fn := fun _ => fun
  | [d1, d2] => { results := [.lit (.bool false)], args := [d1, d2] }
  | _ => none }
def DomupPlaysWrongFalsely : Prop := domupPlaysRow.holds Try.pinned (OpenSpec.ofChange domupPlaysWrong)

/- THE SECOND FORM. 'bulk': how many values and letters a reading holds, each counted each time it is reached (what is shared counts as often as it is met; a slice's spare places count too). A statement '..UptoSaid' is the law's where the arguments, and the package variables that the reading takes, are together of bulk at most 1048576: NARROWER than '..Said'. Prove '..Said' where nothing that the law and all that it calls make is longer than what came in: it says more and counts as full. Else prove '..UptoSaid'. A law counts once. -/
mutual
def uptoBulk {H : Type} : DataW H → Nat
  | .lit (.string bytes) => bytes.length + 1
  | .lit _ => 1
  | .nil => 1
  | .ptr d => uptoBulk d + 1
  | .slice elems spare => uptoBulkAll elems + uptoBulkAll spare + 1
  | .agg parts => uptoBulkAll parts + 1
  | .iface _ d => uptoBulk d + 1
  | .map entries => uptoBulkEntries entries + 1
  | .held _ => 1
def uptoBulkAll {H : Type} : List (DataW H) → Nat
  | [] => 0
  | d :: r => uptoBulk d + uptoBulkAll r
def uptoBulkEntries {H : Type} : List (Lit × DataW H) → Nat
  | [] => 0
  | x :: r => uptoBulkEntry x + uptoBulkEntries r
def uptoBulkEntry {H : Type} : Lit × DataW H → Nat
  | (.string bytes, d) => bytes.length + uptoBulk d + 1
  | (_, d) => uptoBulk d + 1
 end
def uptoSmall : (H : Type) → List (DataW H) → Bool := fun _ ds => decide (uptoBulkAll ds ≤ 1048576)
def OpenSpec.upto (s : _root_.Go.ChangeSpec) : _root_.Go.OpenSpec := { _root_.Go.OpenSpec.ofChange s with cond := some uptoSmall }

/-- 'bywashlaw14.DomCommon', WHERE WHAT IT READS IS OF BULK AT MOST 1048576: true; the input reads as it did. -/
def domCommonUptoRow : OpenClaim := { program := "ytemcmcnhpdkdfaa", sum := "46e468b3de009ea287966364eaa5b9810049380d19f5370029c68c4672455726", func := "bywash/bywashlaw14.DomCommon", spec := "domCommon", unfollowed := true, recurses := true, apart := false, narrowed := true }
def DomCommonUptoSaid : Prop := domCommonUptoRow.holds Try.pinned (OpenSpec.upto domCommonSpec)

/-- 'bywashlaw14.DomPreds', WHERE WHAT IT READS IS OF BULK AT MOST 1048576: true; the input reads as it did. -/
def domPredsUptoRow : OpenClaim := { program := "ytemcmcnhpdkdfaa", sum := "46e468b3de009ea287966364eaa5b9810049380d19f5370029c68c4672455726", func := "bywash/bywashlaw14.DomPreds", spec := "domPreds", unfollowed := true, recurses := true, apart := false, narrowed := true }
def DomPredsUptoSaid : Prop := domPredsUptoRow.holds Try.pinned (OpenSpec.upto domPredsSpec)

/-- 'bywashlaw14.DomTells', WHERE WHAT IT READS IS OF BULK AT MOST 1048576: true; the input reads as it did. -/
def domTellsUptoRow : OpenClaim := { program := "ytemcmcnhpdkdfaa", sum := "46e468b3de009ea287966364eaa5b9810049380d19f5370029c68c4672455726", func := "bywash/bywashlaw14.DomTells", spec := "domTells", unfollowed := true, recurses := true, apart := false, narrowed := true }
def DomTellsUptoSaid : Prop := domTellsUptoRow.holds Try.pinned (OpenSpec.upto domTellsSpec)

/-- 'bywashlaw14.DomIs', WHERE WHAT IT READS IS OF BULK AT MOST 1048576: true; the input reads as it did. -/
def domIsUptoRow : OpenClaim := { program := "ytemcmcnhpdkdfaa", sum := "46e468b3de009ea287966364eaa5b9810049380d19f5370029c68c4672455726", func := "bywash/bywashlaw14.DomIs", spec := "domIs", unfollowed := true, recurses := true, apart := false, narrowed := true }
def DomIsUptoSaid : Prop := domIsUptoRow.holds Try.pinned (OpenSpec.upto domIsSpec)

/-- 'bywashlaw14.DomTree', WHERE WHAT IT READS IS OF BULK AT MOST 1048576: true; the input reads as it did. -/
def domTreeUptoRow : OpenClaim := { program := "ytemcmcnhpdkdfaa", sum := "46e468b3de009ea287966364eaa5b9810049380d19f5370029c68c4672455726", func := "bywash/bywashlaw14.DomTree", spec := "domTree", unfollowed := true, recurses := true, apart := false, narrowed := true }
def DomTreeUptoSaid : Prop := domTreeUptoRow.holds Try.pinned (OpenSpec.upto domTreeSpec)

/-- 'bywashlaw14.DomOne', WHERE WHAT IT READS IS OF BULK AT MOST 1048576: true; the input reads as it did. -/
def domOneUptoRow : OpenClaim := { program := "ytemcmcnhpdkdfaa", sum := "46e468b3de009ea287966364eaa5b9810049380d19f5370029c68c4672455726", func := "bywash/bywashlaw14.DomOne", spec := "domOne", unfollowed := true, recurses := true, apart := false, narrowed := true }
def DomOneUptoSaid : Prop := domOneUptoRow.holds Try.pinned (OpenSpec.upto domOneSpec)

/-- 'bywashlaw15.DomupUnder', WHERE WHAT IT READS IS OF BULK AT MOST 1048576: true; the input reads as it did. -/
def domupUnderUptoRow : OpenClaim := { program := "ytemcmcnhpdkdfaa", sum := "46e468b3de009ea287966364eaa5b9810049380d19f5370029c68c4672455726", func := "bywash/bywashlaw15.DomupUnder", spec := "domupUnder", inPlace := ["slices.overlaps[int]"], unfollowed := true, recurses := true, apart := false, narrowed := true }
def DomupUnderUptoSaid : Prop := domupUnderUptoRow.holds Try.pinned (OpenSpec.upto domupUnderSpec)

/-- 'bywashlaw15.DomupBack', WHERE WHAT IT READS IS OF BULK AT MOST 1048576: true; the input reads as it did. -/
def domupBackUptoRow : OpenClaim := { program := "ytemcmcnhpdkdfaa", sum := "46e468b3de009ea287966364eaa5b9810049380d19f5370029c68c4672455726", func := "bywash/bywashlaw15.DomupBack", spec := "domupBack", inPlace := ["slices.overlaps[int]"], unfollowed := true, recurses := true, apart := false, narrowed := true }
def DomupBackUptoSaid : Prop := domupBackUptoRow.holds Try.pinned (OpenSpec.upto domupBackSpec)

/-- 'bywashlaw15.DomupFound', WHERE WHAT IT READS IS OF BULK AT MOST 1048576: true; the input reads as it did. -/
def domupFoundUptoRow : OpenClaim := { program := "ytemcmcnhpdkdfaa", sum := "46e468b3de009ea287966364eaa5b9810049380d19f5370029c68c4672455726", func := "bywash/bywashlaw15.DomupFound", spec := "domupFound", inPlace := ["slices.overlaps[int]"], unfollowed := true, recurses := true, apart := false, narrowed := true }
def DomupFoundUptoSaid : Prop := domupFoundUptoRow.holds Try.pinned (OpenSpec.upto domupFoundSpec)

/-- 'bywashlaw15.DomupPlays', WHERE WHAT IT READS IS OF BULK AT MOST 1048576: true; the input reads as it did. -/
def domupPlaysUptoRow : OpenClaim := { program := "ytemcmcnhpdkdfaa", sum := "46e468b3de009ea287966364eaa5b9810049380d19f5370029c68c4672455726", func := "bywash/bywashlaw15.DomupPlays", spec := "domupPlays", inPlace := ["slices.overlaps[int]"], unfollowed := true, recurses := true, apart := false, narrowed := true }
def DomupPlaysUptoSaid : Prop := domupPlaysUptoRow.holds Try.pinned (OpenSpec.upto domupPlaysSpec)

end Rows
end Go.Proofs.Ytemcmcnhpdkdfaa
