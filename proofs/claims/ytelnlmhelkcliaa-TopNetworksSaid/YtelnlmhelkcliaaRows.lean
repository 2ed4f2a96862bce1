/-
  No cell of these rows narrows 'for every input' (looked for: loops, veiled, ifaces, maps, wideKeys, modest, calm, conditions, laid).
  DERIVED. THE GIVEN ROWS OF THIS SEAT. 12 by the template 'for every input the law returns true; each argument reads behind the call as it read before'; 0 by the template 'total and deterministic' (their statements: YtelnlmhelkcliaaTotals.lean).
  GIVEN WITH THE SEED: the statements are not yours to turn. If you find one false, say at which input.
  Laid BY PROGRAM, IN A SANDBOX (cutbox-rows.mjs): the forced cells as the released guide's own fill.sh prints them over the translation 5bf42ab1f0483332… (all of the seat's roots in one cut). By AI agents, Wed Nov 11 2026. No macro, syntax, notation, axiom, sorry.
-/
import Derived.Test.YtelnlmhelkcliaaChecked
import GoSem.Claim
import GoSem.ClaimJoined
import GoSem.ClaimMapViews
import Derived.JoinedTies
import Derived.KernelRfl
namespace Go.Proofs.Ytelnlmhelkcliaa
/- THE CELL 'sum', in the pinned program and in every row, IS THE sha256 OF THE DUMP (.gsa) THAT YtelnlmhelkcliaaProg.lean LOADS. Nothing in Lean hashes anything: it is a label: what it is worth is what the hold of that sum in a sandbox is worth. -/
noncomputable def Try.pinned : Pinned := { name := "ytelnlmhelkcliaa", sum := "5bf42ab1f04833327d919d455803881ac793d3ecb37996539c37ebc2de13cb58", checked := Try.checked }
namespace Rows
def none {H : Type} : Left H := { results := [], args := [] }

/-- 'photonmeshlaw08.BenesThrough': WHATEVER THE INPUT: true; the input reads as it did. -/
def benesThroughSpec : ChangeSpec := { name := "benesThrough", fn := fun _ => fun
  | [d1, d2] => { results := [.lit (.bool true)], args := [d1, d2] }
  | _ => none }
def benesThroughRow : OpenClaim := { program := "ytelnlmhelkcliaa", sum := "5bf42ab1f04833327d919d455803881ac793d3ecb37996539c37ebc2de13cb58", func := "photonmesh/photonmeshlaw08.BenesThrough", spec := "benesThrough", recurses := true, apart := false }
def BenesThroughSaid : Prop := benesThroughRow.holds Try.pinned (OpenSpec.ofChange benesThroughSpec)

/-- ITS FALSE NEIGHBOUR: 'it returns false'. Refute it at one input. -/
def benesThroughWrong : ChangeSpec := { name := "benesThrough", fn := fun _ => fun
  | [d1, d2] => { results := [.lit (.bool false)], args := [d1, d2] }
  | _ => none }
def BenesThroughWrongFalsely : Prop := benesThroughRow.holds Try.pinned (OpenSpec.ofChange benesThroughWrong)

/-- 'photonmeshlaw08.BenesTraces': WHATEVER THE INPUT: true; the input reads as it did. -/
def benesTracesSpec : ChangeSpec := { name := "benesTraces", fn := fun _ => fun
  | [d1, d2, d3] => { results := [.lit (.bool true)], args := [d1, d2, d3] }
  | _ => none }
def benesTracesRow : OpenClaim := { program := "ytelnlmhelkcliaa", sum := "5bf42ab1f04833327d919d455803881ac793d3ecb37996539c37ebc2de13cb58", func := "photonmesh/photonmeshlaw08.BenesTraces", spec := "benesTraces", recurses := true, apart := false }
def BenesTracesSaid : Prop := benesTracesRow.holds Try.pinned (OpenSpec.ofChange benesTracesSpec)

/-- ITS FALSE NEIGHBOUR: 'it returns false'. Refute it at one input. -/
def benesTracesWrong : ChangeSpec := { name := "benesTraces", fn := fun _ => fun
  | [d1, d2, d3] => { results := [.lit (.bool false)], args := [d1, d2, d3] }
  | _ => none }
def BenesTracesWrongFalsely : Prop := benesTracesRow.holds Try.pinned (OpenSpec.ofChange benesTracesWrong)

/-- 'photonmeshlaw08.BenesChanges': WHATEVER THE INPUT: true; the input reads as it did. -/
def benesChangesSpec : ChangeSpec := { name := "benesChanges", fn := fun _ => fun
  | [d1, d2] => { results := [.lit (.bool true)], args := [d1, d2] }
  | _ => none }
def benesChangesRow : OpenClaim := { program := "ytelnlmhelkcliaa", sum := "5bf42ab1f04833327d919d455803881ac793d3ecb37996539c37ebc2de13cb58", func := "photonmesh/photonmeshlaw08.BenesChanges", spec := "benesChanges", recurses := true, apart := false }
def BenesChangesSaid : Prop := benesChangesRow.holds Try.pinned (OpenSpec.ofChange benesChangesSpec)

/-- ITS FALSE NEIGHBOUR: 'it returns false'. Refute it at one input. -/
def benesChangesWrong : ChangeSpec := { name := "benesChanges", fn := fun _ => fun
  | [d1, d2] => { results := [.lit (.bool false)], args := [d1, d2] }
  | _ => none }
def BenesChangesWrongFalsely : Prop := benesChangesRow.holds Try.pinned (OpenSpec.ofChange benesChangesWrong)

/-- 'photonmeshlaw08.BenesSends': WHATEVER THE INPUT: true; the input reads as it did. -/
def benesSendsSpec : ChangeSpec := { name := "benesSends", fn := fun _ => fun
  | [d1, d2] => { results := [.lit (.bool true)], args := [d1, d2] }
  | _ => none }
def benesSendsRow : OpenClaim := { program := "ytelnlmhelkcliaa", sum := "5bf42ab1f04833327d919d455803881ac793d3ecb37996539c37ebc2de13cb58", func := "photonmesh/photonmeshlaw08.BenesSends", spec := "benesSends", recurses := true, apart := false }
def BenesSendsSaid : Prop := benesSendsRow.holds Try.pinned (OpenSpec.ofChange benesSendsSpec)

/-- ITS FALSE NEIGHBOUR: 'it returns false'. Refute it at one input. -/
def benesSendsWrong : ChangeSpec := { name := "benesSends", fn := fun _ => fun
  | [d1, d2] => { results := [.lit (.bool false)], args := [d1, d2] }
  | _ => none }
def BenesSendsWrongFalsely : Prop := benesSendsRow.holds Try.pinned (OpenSpec.ofChange benesSendsWrong)

/-- 'photonmeshlaw08.BenesMirrors': WHATEVER THE INPUT: true; the input reads as it did. -/
def benesMirrorsSpec : ChangeSpec := { name := "benesMirrors", fn := fun _ => fun
  | [d1, d2] => { results := [.lit (.bool true)], args := [d1, d2] }
  | _ => none }
def benesMirrorsRow : OpenClaim := { program := "ytelnlmhelkcliaa", sum := "5bf42ab1f04833327d919d455803881ac793d3ecb37996539c37ebc2de13cb58", func := "photonmesh/photonmeshlaw08.BenesMirrors", spec := "benesMirrors", recurses := true, apart := false }
def BenesMirrorsSaid : Prop := benesMirrorsRow.holds Try.pinned (OpenSpec.ofChange benesMirrorsSpec)

/-- ITS FALSE NEIGHBOUR: 'it returns false'. Refute it at one input. -/
def benesMirrorsWrong : ChangeSpec := { name := "benesMirrors", fn := fun _ => fun
  | [d1, d2] => { results := [.lit (.bool false)], args := [d1, d2] }
  | _ => none }
def BenesMirrorsWrongFalsely : Prop := benesMirrorsRow.holds Try.pinned (OpenSpec.ofChange benesMirrorsWrong)

/-- 'photonmeshlaw08.BenesBack': WHATEVER THE INPUT: true; the input reads as it did. -/
def benesBackSpec : ChangeSpec := { name := "benesBack", fn := fun _ => fun
  | [d1, d2] => { results := [.lit (.bool true)], args := [d1, d2] }
  | _ => none }
def benesBackRow : OpenClaim := { program := "ytelnlmhelkcliaa", sum := "5bf42ab1f04833327d919d455803881ac793d3ecb37996539c37ebc2de13cb58", func := "photonmesh/photonmeshlaw08.BenesBack", spec := "benesBack", recurses := true, apart := false }
def BenesBackSaid : Prop := benesBackRow.holds Try.pinned (OpenSpec.ofChange benesBackSpec)

/-- ITS FALSE NEIGHBOUR: 'it returns false'. Refute it at one input. -/
def benesBackWrong : ChangeSpec := { name := "benesBack", fn := fun _ => fun
  | [d1, d2] => { results := [.lit (.bool false)], args := [d1, d2] }
  | _ => none }
def BenesBackWrongFalsely : Prop := benesBackRow.holds Try.pinned (OpenSpec.ofChange benesBackWrong)

/-- 'photonmeshlaw08.BenesWays': WHATEVER THE INPUT: true; the input reads as it did. -/
def benesWaysSpec : ChangeSpec := { name := "benesWays", fn := fun _ => fun
  | [d1, d2] => { results := [.lit (.bool true)], args := [d1, d2] }
  | _ => none }
def benesWaysRow : OpenClaim := { program := "ytelnlmhelkcliaa", sum := "5bf42ab1f04833327d919d455803881ac793d3ecb37996539c37ebc2de13cb58", func := "photonmesh/photonmeshlaw08.BenesWays", spec := "benesWays", unfollowed := true, recurses := true, apart := false }
def BenesWaysSaid : Prop := benesWaysRow.holds Try.pinned (OpenSpec.ofChange benesWaysSpec)

/-- ITS FALSE NEIGHBOUR: 'it returns false'. Refute it at one input. -/
def benesWaysWrong : ChangeSpec := { name := "benesWays", fn := fun _ => fun
  | [d1, d2] => { results := [.lit (.bool false)], args := [d1, d2] }
  | _ => none }
def BenesWaysWrongFalsely : Prop := benesWaysRow.holds Try.pinned (OpenSpec.ofChange benesWaysWrong)

/-- 'photonmeshlaw08.BenesSums': WHATEVER THE INPUT: true; the input reads as it did. -/
def benesSumsSpec : ChangeSpec := { name := "benesSums", fn := fun _ => fun
  | [d1, d2, d3] => { results := [.lit (.bool true)], args := [d1, d2, d3] }
  | _ => none }
def benesSumsRow : OpenClaim := { program := "ytelnlmhelkcliaa", sum := "5bf42ab1f04833327d919d455803881ac793d3ecb37996539c37ebc2de13cb58", func := "photonmesh/photonmeshlaw08.BenesSums", spec := "benesSums", unfollowed := true, recurses := true, apart := false }
def BenesSumsSaid : Prop := benesSumsRow.holds Try.pinned (OpenSpec.ofChange benesSumsSpec)

/-- ITS FALSE NEIGHBOUR: 'it returns false'. Refute it at one input. -/
def benesSumsWrong : ChangeSpec := { name := "benesSums", fn := fun _ => fun
  | [d1, d2, d3] => { results := [.lit (.bool false)], args := [d1, d2, d3] }
  | _ => none }
def BenesSumsWrongFalsely : Prop := benesSumsRow.holds Try.pinned (OpenSpec.ofChange benesSumsWrong)

/-- 'photonmeshlaw08.BenesSets': WHATEVER THE INPUT: true; the input reads as it did. -/
def benesSetsSpec : ChangeSpec := { name := "benesSets", fn := fun _ => fun
  | [d] => { results := [.lit (.bool true)], args := [d] }
  | _ => none }
def benesSetsRow : OpenClaim := { program := "ytelnlmhelkcliaa", sum := "5bf42ab1f04833327d919d455803881ac793d3ecb37996539c37ebc2de13cb58", func := "photonmesh/photonmeshlaw08.BenesSets", spec := "benesSets", unfollowed := true, recurses := true, apart := false }
def BenesSetsSaid : Prop := benesSetsRow.holds Try.pinned (OpenSpec.ofChange benesSetsSpec)

/-- ITS FALSE NEIGHBOUR: 'it returns false'. Refute it at one input. -/
def benesSetsWrong : ChangeSpec := { name := "benesSets", fn := fun _ => fun
  | [d] => { results := [.lit (.bool false)], args := [d] }
  | _ => none }
def BenesSetsWrongFalsely : Prop := benesSetsRow.holds Try.pinned (OpenSpec.ofChange benesSetsWrong)

/-- 'photonmeshlaw08.BenesAround': WHATEVER THE INPUT: true; the input reads as it did. -/
def benesAroundSpec : ChangeSpec := { name := "benesAround", fn := fun _ => fun
  | [d1, d2] => { results := [.lit (.bool true)], args := [d1, d2] }
  | _ => none }
def benesAroundRow : OpenClaim := { program := "ytelnlmhelkcliaa", sum := "5bf42ab1f04833327d919d455803881ac793d3ecb37996539c37ebc2de13cb58", func := "photonmesh/photonmeshlaw08.BenesAround", spec := "benesAround", unfollowed := true, recurses := true, apart := false }
def BenesAroundSaid : Prop := benesAroundRow.holds Try.pinned (OpenSpec.ofChange benesAroundSpec)

/-- ITS FALSE NEIGHBOUR: 'it returns false'. Refute it at one input. -/
def benesAroundWrong : ChangeSpec := { name := "benesAround", fn := fun _ => fun
  | [d1, d2] => { results := [.lit (.bool false)], args := [d1, d2] }
  | _ => none }
def BenesAroundWrongFalsely : Prop := benesAroundRow.holds Try.pinned (OpenSpec.ofChange benesAroundWrong)

/-- 'photonmeshlaw08.BenesLost': WHATEVER THE INPUT: true; the input reads as it did. -/
def benesLostSpec : ChangeSpec := { name := "benesLost", fn := fun _ => fun
  | [d1, d2] => { results := [.lit (.bool true)], args := [d1, d2] }
  | _ => none }
def benesLostRow : OpenClaim := { program := "ytelnlmhelkcliaa", sum := "5bf42ab1f04833327d919d455803881ac793d3ecb37996539c37ebc2de13cb58", func := "photonmesh/photonmeshlaw08.BenesLost", spec := "benesLost", inPlace := ["slices.overlaps[int]"], unfollowed := true, recurses := true, apart := false }
def BenesLostSaid : Prop := benesLostRow.holds Try.pinned (OpenSpec.ofChange benesLostSpec)

/-- ITS FALSE NEIGHBOUR: 'it returns false'. Refute it at one input. -/
def benesLostWrong : ChangeSpec := { name := "benesLost", fn := fun _ => fun
  | [d1, d2] => { results := [.lit (.bool false)], args := [d1, d2] }
  | _ => none }
def BenesLostWrongFalsely : Prop := benesLostRow.holds Try.pinned (OpenSpec.ofChange benesLostWrong)

/-- 'photonmeshtop.TopNetworks': WHATEVER THE INPUT: true; the input reads as it did. -/
def topNetworksSpec : ChangeSpec := { name := "topNetworks", fn := fun _ => fun
  | [d1, d2] => { results := [.lit (.bool true)], args := [d1, d2] }
  | _ => none }
def topNetworksRow : OpenClaim := { program := "ytelnlmhelkcliaa", sum := "5bf42ab1f04833327d919d455803881ac793d3ecb37996539c37ebc2de13cb58", func := "photonmesh/photonmeshtop.TopNetworks", spec := "topNetworks", inPlace := ["slices.overlaps[int]"], unfollowed := true, recurses := true, apart := false }
def TopNetworksSaid : Prop := topNetworksRow.holds Try.pinned (OpenSpec.ofChange topNetworksSpec)

/-- ITS FALSE NEIGHBOUR: 'it returns false'. Refute it at one input. -/
def topNetworksWrong : ChangeSpec := { name := "topNetworks", fn := fun _ => fun
  | [d1, d2] => { results := [.lit (.bool false)], args := [d1, d2] }
  | _ => none }
def TopNetworksWrongFalsely : Prop := topNetworksRow.holds Try.pinned (OpenSpec.ofChange topNetworksWrong)

/- THE SECOND FORM. 'bulk': how many values and letters a reading holds, each counted each time it is reached (what is shared counts as often as it is met; a slice's spare places count too). A statement '..UptoSaid' is the law's where the arguments, and the package variables that the reading takes, are together of bulk at most 1048576: NARROWER than '..Said'. Prove '..Said' where nothing that the law and all that it calls make is longer than what came in: it says more and counts as full. Else prove '..UptoSaid'. A law counts once. -/
mutual
def uptoBulk {H : Type} : DataW H → Nat
  | .lit (.string bytes) => bytes.length + 1
  | .lit _ => 1
  | .nil => 1
  | .ptr d => uptoBulk d + 1
  | .slice elems spare => uptoBulkAll elems + uptoBulkAll spare + 1
  | .agg parts => uptoBulkAll parts + 1
  | .iface _ d => uptoBulk d + 1
  | .map entries => uptoBulkEntries entries + 1
  | .held _ => 1
def uptoBulkAll {H : Type} : List (DataW H) → Nat
  | [] => 0
  | d :: r => uptoBulk d + uptoBulkAll r
def uptoBulkEntries {H : Type} : List (Lit × DataW H) → Nat
  | [] => 0
  | x :: r => uptoBulkEntry x + uptoBulkEntries r
def uptoBulkEntry {H : Type} : Lit × DataW H → Nat
  | (.string bytes, d) => bytes.length + uptoBulk d + 1
  | (_, d) => uptoBulk d + 1
 end
def uptoSmall : (H : Type) → List (DataW H) → Bool := fun _ ds => decide (uptoBulkAll ds ≤ 1048576)
def OpenSpec.upto (s : _root_.Go.ChangeSpec) : _root_.Go.OpenSpec := { _root_.Go.OpenSpec.ofChange s with cond := some uptoSmall }

/-- 'photonmeshlaw08.BenesThrough', WHERE WHAT IT READS IS OF BULK AT MOST 1048576: true; the input reads as it did. -/
def benesThroughUptoRow : OpenClaim := { program := "ytelnlmhelkcliaa", sum := "5bf42ab1f04833327d919d455803881ac793d3ecb37996539c37ebc2de13cb58", func := "photonmesh/photonmeshlaw08.BenesThrough", spec := "benesThrough", recurses := true, apart := false, narrowed := true }
def BenesThroughUptoSaid : Prop := benesThroughUptoRow.holds Try.pinned (OpenSpec.upto benesThroughSpec)

/-- 'photonmeshlaw08.BenesTraces', WHERE WHAT IT READS IS OF BULK AT MOST 1048576: true; the input reads as it did. -/
def benesTracesUptoRow : OpenClaim := { program := "ytelnlmhelkcliaa", sum := "5bf42ab1f04833327d919d455803881ac793d3ecb37996539c37ebc2de13cb58", func := "photonmesh/photonmeshlaw08.BenesTraces", spec := "benesTraces", recurses := true, apart := false, narrowed := true }
def BenesTracesUptoSaid : Prop := benesTracesUptoRow.holds Try.pinned (OpenSpec.upto benesTracesSpec)

/-- 'photonmeshlaw08.BenesChanges', WHERE WHAT IT READS IS OF BULK AT MOST 1048576: true; the input reads as it did. -/
def benesChangesUptoRow : OpenClaim := { program := "ytelnlmhelkcliaa", sum := "5bf42ab1f04833327d919d455803881ac793d3ecb37996539c37ebc2de13cb58", func := "photonmesh/photonmeshlaw08.BenesChanges", spec := "benesChanges", recurses := true, apart := false, narrowed := true }
def BenesChangesUptoSaid : Prop := benesChangesUptoRow.holds Try.pinned (OpenSpec.upto benesChangesSpec)

/-- 'photonmeshlaw08.BenesSends', WHERE WHAT IT READS IS OF BULK AT MOST 1048576: true; the input reads as it did. -/
def benesSendsUptoRow : OpenClaim := { program := "ytelnlmhelkcliaa", sum := "5bf42ab1f04833327d919d455803881ac793d3ecb37996539c37ebc2de13cb58", func := "photonmesh/photonmeshlaw08.BenesSends", spec := "benesSends", recurses := true, apart := false, narrowed := true }
def BenesSendsUptoSaid : Prop := benesSendsUptoRow.holds Try.pinned (OpenSpec.upto benesSendsSpec)

/-- 'photonmeshlaw08.BenesMirrors', WHERE WHAT IT READS IS OF BULK AT MOST 1048576: true; the input reads as it did. -/
def benesMirrorsUptoRow : OpenClaim := { program := "ytelnlmhelkcliaa", sum := "5bf42ab1f04833327d919d455803881ac793d3ecb37996539c37ebc2de13cb58", func := "photonmesh/photonmeshlaw08.BenesMirrors", spec := "benesMirrors", recurses := true, apart := false, narrowed := true }
def BenesMirrorsUptoSaid : Prop := benesMirrorsUptoRow.holds Try.pinned (OpenSpec.upto benesMirrorsSpec)

/-- 'photonmeshlaw08.BenesBack', WHERE WHAT IT READS IS OF BULK AT MOST 1048576: true; the input reads as it did. -/
def benesBackUptoRow : OpenClaim := { program := "ytelnlmhelkcliaa", sum := "5bf42ab1f04833327d919d455803881ac793d3ecb37996539c37ebc2de13cb58", func := "photonmesh/photonmeshlaw08.BenesBack", spec := "benesBack", recurses := true, apart := false, narrowed := true }
def BenesBackUptoSaid : Prop := benesBackUptoRow.holds Try.pinned (OpenSpec.upto benesBackSpec)

/-- 'photonmeshlaw08.BenesWays', WHERE WHAT IT READS IS OF BULK AT MOST 1048576: true; the input reads as it did. -/
def benesWaysUptoRow : OpenClaim := { program := "ytelnlmhelkcliaa", sum := "5bf42ab1f04833327d919d455803881ac793d3ecb37996539c37ebc2de13cb58", func := "photonmesh/photonmeshlaw08.BenesWays", spec := "benesWays", unfollowed := true, recurses := true, apart := false, narrowed := true }
def BenesWaysUptoSaid : Prop := benesWaysUptoRow.holds Try.pinned (OpenSpec.upto benesWaysSpec)

/-- 'photonmeshlaw08.BenesSums', WHERE WHAT IT READS IS OF BULK AT MOST 1048576: true; the input reads as it did. -/
def benesSumsUptoRow : OpenClaim := { program := "ytelnlmhelkcliaa", sum := "5bf42ab1f04833327d919d455803881ac793d3ecb37996539c37ebc2de13cb58", func := "photonmesh/photonmeshlaw08.BenesSums", spec := "benesSums", unfollowed := true, recurses := true, apart := false, narrowed := true }
def BenesSumsUptoSaid : Prop := benesSumsUptoRow.holds Try.pinned (OpenSpec.upto benesSumsSpec)

/-- 'photonmeshlaw08.BenesSets', WHERE WHAT IT READS IS OF BULK AT MOST 1048576: true; the input reads as it did. -/
def benesSetsUptoRow : OpenClaim := { program := "ytelnlmhelkcliaa", sum := "5bf42ab1f04833327d919d455803881ac793d3ecb37996539c37ebc2de13cb58", func := "photonmesh/photonmeshlaw08.BenesSets", spec := "benesSets", unfollowed := true, recurses := true, apart := false, narrowed := true }
def BenesSetsUptoSaid : Prop := benesSetsUptoRow.holds Try.pinned (OpenSpec.upto benesSetsSpec)

/-- 'photonmeshlaw08.BenesAround', WHERE WHAT IT READS IS OF BULK AT MOST 1048576: true; the input reads as it did. -/
def benesAroundUptoRow : OpenClaim := { program := "ytelnlmhelkcliaa", sum := "5bf42ab1f04833327d919d455803881ac793d3ecb37996539c37ebc2de13cb58", func := "photonmesh/photonmeshlaw08.BenesAround", spec := "benesAround", unfollowed := true, recurses := true, apart := false, narrowed := true }
def BenesAroundUptoSaid : Prop := benesAroundUptoRow.holds Try.pinned (OpenSpec.upto benesAroundSpec)

/-- 'photonmeshlaw08.BenesLost', WHERE WHAT IT READS IS OF BULK AT MOST 1048576: true; the input reads as it did. -/
def benesLostUptoRow : OpenClaim := { program := "ytelnlmhelkcliaa", sum := "5bf42ab1f04833327d919d455803881ac793d3ecb37996539c37ebc2de13cb58", func := "photonmesh/photonmeshlaw08.BenesLost", spec := "benesLost", inPlace := ["slices.overlaps[int]"], unfollowed := true, recurses := true, apart := false, narrowed := true }
def BenesLostUptoSaid : Prop := benesLostUptoRow.holds Try.pinned (OpenSpec.upto benesLostSpec)

/-- 'photonmeshtop.TopNetworks', WHERE WHAT IT READS IS OF BULK AT MOST 1048576: true; the input reads as it did. -/
def topNetworksUptoRow : OpenClaim := { program := "ytelnlmhelkcliaa", sum := "5bf42ab1f04833327d919d455803881ac793d3ecb37996539c37ebc2de13cb58", func := "photonmesh/photonmeshtop.TopNetworks", spec := "topNetworks", inPlace := ["slices.overlaps[int]"], unfollowed := true, recurses := true, apart := false, narrowed := true }
def TopNetworksUptoSaid : Prop := topNetworksUptoRow.holds Try.pinned (OpenSpec.upto topNetworksSpec)

end Rows
end Go.Proofs.Ytelnlmhelkcliaa
