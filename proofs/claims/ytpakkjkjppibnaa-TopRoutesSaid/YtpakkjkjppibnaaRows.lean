/-
  No cell of these rows narrows 'for every input' (looked for: loops, veiled, ifaces, maps, wideKeys, modest, calm, conditions, laid).
  DERIVED. THE GIVEN ROWS OF THIS SEAT. 9 by the template 'for every input the law returns true; each argument reads behind the call as it read before'; 0 by the template 'total and deterministic' (their statements: YtpakkjkjppibnaaTotals.lean).
  GIVEN WITH THE SEED: the statements are not yours to turn. If you find one false, say at which input.
  Laid BY PROGRAM, IN A SANDBOX (cutbox-rows.mjs): the forced cells as the released guide's own fill.sh prints them over the translation 6ed6d036c721d3d1… (all of the seat's roots in one cut). By AI agents, Wed Nov 11 2026. No macro, syntax, notation, axiom, sorry.
-/
import Derived.Test.YtpakkjkjppibnaaChecked
import GoSem.Claim
import GoSem.ClaimJoined
import GoSem.ClaimMapViews
import Derived.JoinedTies
import Derived.KernelRfl
namespace Go.Proofs.Ytpakkjkjppibnaa
/- THE CELL 'sum', in the pinned program and in every row, IS THE sha256 OF THE DUMP (.gsa) THAT YtpakkjkjppibnaaProg.lean LOADS. Nothing in Lean hashes anything: it is a label: what it is worth is what the hold of that sum in a sandbox is worth. -/
noncomputable def Try.pinned : Pinned := { name := "ytpakkjkjppibnaa", sum := "6ed6d036c721d3d1ac388708b1a3551055f51fd35a394b1760e183c5aa8c2639", checked := Try.checked }
namespace Rows
def none {H : Type} : Left H := { results := [], args := [] }

/-- 'photonmeshlaw07.LayoutRoutes': WHATEVER THE INPUT: true; the input reads as it did. -/
def layoutRoutesSpec : ChangeSpec := { name := "layoutRoutes", fn := fun _ => fun
  | [d1, d2, d3] => { results := [.lit (.bool true)], args := [d1, d2, d3] }
  | _ => none }
def layoutRoutesRow : OpenClaim := { program := "ytpakkjkjppibnaa", sum := "6ed6d036c721d3d1ac388708b1a3551055f51fd35a394b1760e183c5aa8c2639", func := "photonmesh/photonmeshlaw07.LayoutRoutes", spec := "layoutRoutes", unfollowed := true, recurses := true, plainKeys := false, apart := false }
def LayoutRoutesSaid : Prop := layoutRoutesRow.holds Try.pinned (OpenSpec.ofChange layoutRoutesSpec)

/-- ITS FALSE NEIGHBOUR: 'it returns false'. Refute it at one input. -/
def layoutRoutesWrong : ChangeSpec := { name := "layoutRoutes", fn := fun _ => fun
  | [d1, d2, d3] => { results := [.lit (.bool false)], args := [d1, d2, d3] }
  | _ => none }
def LayoutRoutesWrongFalsely : Prop := layoutRoutesRow.holds Try.pinned (OpenSpec.ofChange layoutRoutesWrong)

/-- 'photonmeshlaw07.LayoutBlocks': WHATEVER THE INPUT: true; the input reads as it did. -/
def layoutBlocksSpec : ChangeSpec := { name := "layoutBlocks", fn := fun _ => fun
  | [d1, d2, d3] => { results := [.lit (.bool true)], args := [d1, d2, d3] }
  | _ => none }
def layoutBlocksRow : OpenClaim := { program := "ytpakkjkjppibnaa", sum := "6ed6d036c721d3d1ac388708b1a3551055f51fd35a394b1760e183c5aa8c2639", func := "photonmesh/photonmeshlaw07.LayoutBlocks", spec := "layoutBlocks", unfollowed := true, recurses := true, plainKeys := false, apart := false }
def LayoutBlocksSaid : Prop := layoutBlocksRow.holds Try.pinned (OpenSpec.ofChange layoutBlocksSpec)

/-- ITS FALSE NEIGHBOUR: 'it returns false'. Refute it at one input. -/
def layoutBlocksWrong : ChangeSpec := { name := "layoutBlocks", fn := fun _ => fun
  | [d1, d2, d3] => { results := [.lit (.bool false)], args := [d1, d2, d3] }
  | _ => none }
def LayoutBlocksWrongFalsely : Prop := layoutBlocksRow.holds Try.pinned (OpenSpec.ofChange layoutBlocksWrong)

/-- 'photonmeshlaw07.LayoutProofs': WHATEVER THE INPUT: true; the input reads as it did. -/
def layoutProofsSpec : ChangeSpec := { name := "layoutProofs", fn := fun _ => fun
  | [d1, d2, d3] => { results := [.lit (.bool true)], args := [d1, d2, d3] }
  | _ => none }
def layoutProofsRow : OpenClaim := { program := "ytpakkjkjppibnaa", sum := "6ed6d036c721d3d1ac388708b1a3551055f51fd35a394b1760e183c5aa8c2639", func := "photonmesh/photonmeshlaw07.LayoutProofs", spec := "layoutProofs", unfollowed := true, recurses := true, plainKeys := false, apart := false }
def LayoutProofsSaid : Prop := layoutProofsRow.holds Try.pinned (OpenSpec.ofChange layoutProofsSpec)

/-- ITS FALSE NEIGHBOUR: 'it returns false'. Refute it at one input. -/
def layoutProofsWrong : ChangeSpec := { name := "layoutProofs", fn := fun _ => fun
  | [d1, d2, d3] => { results := [.lit (.bool false)], args := [d1, d2, d3] }
  | _ => none }
def LayoutProofsWrongFalsely : Prop := layoutProofsRow.holds Try.pinned (OpenSpec.ofChange layoutProofsWrong)

/-- 'photonmeshlaw07.LayoutBounds': WHATEVER THE INPUT: true; the input reads as it did. -/
def layoutBoundsSpec : ChangeSpec := { name := "layoutBounds", fn := fun _ => fun
  | [d1, d2, d3] => { results := [.lit (.bool true)], args := [d1, d2, d3] }
  | _ => none }
def layoutBoundsRow : OpenClaim := { program := "ytpakkjkjppibnaa", sum := "6ed6d036c721d3d1ac388708b1a3551055f51fd35a394b1760e183c5aa8c2639", func := "photonmesh/photonmeshlaw07.LayoutBounds", spec := "layoutBounds", unfollowed := true, recurses := true, plainKeys := false, apart := false }
def LayoutBoundsSaid : Prop := layoutBoundsRow.holds Try.pinned (OpenSpec.ofChange layoutBoundsSpec)

/-- ITS FALSE NEIGHBOUR: 'it returns false'. Refute it at one input. -/
def layoutBoundsWrong : ChangeSpec := { name := "layoutBounds", fn := fun _ => fun
  | [d1, d2, d3] => { results := [.lit (.bool false)], args := [d1, d2, d3] }
  | _ => none }
def LayoutBoundsWrongFalsely : Prop := layoutBoundsRow.holds Try.pinned (OpenSpec.ofChange layoutBoundsWrong)

/-- 'photonmeshlaw07.LayoutRims': WHATEVER THE INPUT: true; the input reads as it did. -/
def layoutRimsSpec : ChangeSpec := { name := "layoutRims", fn := fun _ => fun
  | [d1, d2, d3, d4, d5] => { results := [.lit (.bool true)], args := [d1, d2, d3, d4, d5] }
  | _ => none }
def layoutRimsRow : OpenClaim := { program := "ytpakkjkjppibnaa", sum := "6ed6d036c721d3d1ac388708b1a3551055f51fd35a394b1760e183c5aa8c2639", func := "photonmesh/photonmeshlaw07.LayoutRims", spec := "layoutRims", unfollowed := true, recurses := true, plainKeys := false, apart := false }
def LayoutRimsSaid : Prop := layoutRimsRow.holds Try.pinned (OpenSpec.ofChange layoutRimsSpec)

/-- ITS FALSE NEIGHBOUR: 'it returns false'. Refute it at one input. -/
def layoutRimsWrong : ChangeSpec := { name := "layoutRims", fn := fun _ => fun
  | [d1, d2, d3, d4, d5] => { results := [.lit (.bool false)], args := [d1, d2, d3, d4, d5] }
  | _ => none }
def LayoutRimsWrongFalsely : Prop := layoutRimsRow.holds Try.pinned (OpenSpec.ofChange layoutRimsWrong)

/-- 'photonmeshlaw07.LayoutCheapest': WHATEVER THE INPUT: true; the input reads as it did. -/
def layoutCheapestSpec : ChangeSpec := { name := "layoutCheapest", fn := fun _ => fun
  | [d1, d2] => { results := [.lit (.bool true)], args := [d1, d2] }
  | _ => none }
def layoutCheapestRow : OpenClaim := { program := "ytpakkjkjppibnaa", sum := "6ed6d036c721d3d1ac388708b1a3551055f51fd35a394b1760e183c5aa8c2639", func := "photonmesh/photonmeshlaw07.LayoutCheapest", spec := "layoutCheapest", unfollowed := true, recurses := true, plainKeys := false, apart := false }
def LayoutCheapestSaid : Prop := layoutCheapestRow.holds Try.pinned (OpenSpec.ofChange layoutCheapestSpec)

/-- ITS FALSE NEIGHBOUR: 'it returns false'. Refute it at one input. -/
def layoutCheapestWrong : ChangeSpec := { name := "layoutCheapest", fn := fun _ => fun
  | [d1, d2] => { results := [.lit (.bool false)], args := [d1, d2] }
  | _ => none }
def LayoutCheapestWrongFalsely : Prop := layoutCheapestRow.holds Try.pinned (OpenSpec.ofChange layoutCheapestWrong)

/-- 'photonmeshlaw07.LayoutLonger': WHATEVER THE INPUT: true; the input reads as it did. -/
def layoutLongerSpec : ChangeSpec := { name := "layoutLonger", fn := fun _ => fun
  | [d1, d2, d3] => { results := [.lit (.bool true)], args := [d1, d2, d3] }
  | _ => none }
def layoutLongerRow : OpenClaim := { program := "ytpakkjkjppibnaa", sum := "6ed6d036c721d3d1ac388708b1a3551055f51fd35a394b1760e183c5aa8c2639", func := "photonmesh/photonmeshlaw07.LayoutLonger", spec := "layoutLonger", inPlace := ["slices.overlaps[photonmesh/api.XY]"], unfollowed := true, recurses := true, plainKeys := false, apart := false }
def LayoutLongerSaid : Prop := layoutLongerRow.holds Try.pinned (OpenSpec.ofChange layoutLongerSpec)

/-- ITS FALSE NEIGHBOUR: 'it returns false'. Refute it at one input. -/
def layoutLongerWrong : ChangeSpec := { name := "layoutLonger", fn := fun _ => fun
  | [d1, d2, d3] => { results := [.lit (.bool false)], args := [d1, d2, d3] }
  | _ => none }
def LayoutLongerWrongFalsely : Prop := layoutLongerRow.holds Try.pinned (OpenSpec.ofChange layoutLongerWrong)

/-- 'photonmeshlaw07.LayoutParity': WHATEVER THE INPUT: true; the input reads as it did. -/
def layoutParitySpec : ChangeSpec := { name := "layoutParity", fn := fun _ => fun
  | [d1, d2, d3] => { results := [.lit (.bool true)], args := [d1, d2, d3] }
  | _ => none }
def layoutParityRow : OpenClaim := { program := "ytpakkjkjppibnaa", sum := "6ed6d036c721d3d1ac388708b1a3551055f51fd35a394b1760e183c5aa8c2639", func := "photonmesh/photonmeshlaw07.LayoutParity", spec := "layoutParity", unfollowed := true, recurses := true, plainKeys := false, apart := false }
def LayoutParitySaid : Prop := layoutParityRow.holds Try.pinned (OpenSpec.ofChange layoutParitySpec)

/-- ITS FALSE NEIGHBOUR: 'it returns false'. Refute it at one input. -/
def layoutParityWrong : ChangeSpec := { name := "layoutParity", fn := fun _ => fun
  | [d1, d2, d3] => { results := [.lit (.bool false)], args := [d1, d2, d3] }
  | _ => none }
def LayoutParityWrongFalsely : Prop := layoutParityRow.holds Try.pinned (OpenSpec.ofChange layoutParityWrong)

/-- 'photonmeshtop.TopRoutes': WHATEVER THE INPUT: true; the input reads as it did. -/
def topRoutesSpec : ChangeSpec := { name := "topRoutes", fn := fun _ => fun
  | [d1, d2, d3] => { results := [.lit (.bool true)], args := [d1, d2, d3] }
  | _ => none }
def topRoutesRow : OpenClaim := { program := "ytpakkjkjppibnaa", sum := "6ed6d036c721d3d1ac388708b1a3551055f51fd35a394b1760e183c5aa8c2639", func := "photonmesh/photonmeshtop.TopRoutes", spec := "topRoutes", inPlace := ["slices.overlaps[photonmesh/api.XY]"], unfollowed := true, recurses := true, plainKeys := false, apart := false }
def TopRoutesSaid : Prop := topRoutesRow.holds Try.pinned (OpenSpec.ofChange topRoutesSpec)

/-- ITS FALSE NEIGHBOUR: 'it returns false'. Refute it at one input. -/
def topRoutesWrong : ChangeSpec := { name := "topRoutes", fn := fun _ => fun
  | [d1, d2, d3] => { results := [.lit (.bool false)], args := [d1, d2, d3] }
  | _ => none }
def TopRoutesWrongFalsely : Prop := topRoutesRow.holds Try.pinned (OpenSpec.ofChange topRoutesWrong)

/- THE SECOND FORM. 'bulk': how many values and letters a reading holds, each counted each time it is reached (what is shared counts as often as it is met; a slice's spare places count too). A statement '..UptoSaid' is the law's where the arguments, and the package variables that the reading takes, are together of bulk at most 1048576: NARROWER than '..Said'. Prove '..Said' where nothing that the law and all that it calls make is longer than what came in: it says more and counts as full. Else prove '..UptoSaid'. A law counts once. -/
mutual
def uptoBulk {H : Type} : DataW H → Nat
  | .lit (.string bytes) => bytes.length + 1
  | .lit _ => 1
  | .nil => 1
  | .ptr d => uptoBulk d + 1
  | .slice elems spare => uptoBulkAll elems + uptoBulkAll spare + 1
  | .agg parts => uptoBulkAll parts + 1
  | .iface _ d => uptoBulk d + 1
  | .map entries => uptoBulkEntries entries + 1
  | .held _ => 1
def uptoBulkAll {H : Type} : List (DataW H) → Nat
  | [] => 0
  | d :: r => uptoBulk d + uptoBulkAll r
def uptoBulkEntries {H : Type} : List (Lit × DataW H) → Nat
  | [] => 0
  | x :: r => uptoBulkEntry x + uptoBulkEntries r
def uptoBulkEntry {H : Type} : Lit × DataW H → Nat
  | (.string bytes, d) => bytes.length + uptoBulk d + 1
  | (_, d) => uptoBulk d + 1
 end
def uptoSmall : (H : Type) → List (DataW H) → Bool := fun _ ds => decide (uptoBulkAll ds ≤ 1048576)
def OpenSpec.upto (s : _root_.Go.ChangeSpec) : _root_.Go.OpenSpec := { _root_.Go.OpenSpec.ofChange s with cond := some uptoSmall }

/-- 'photonmeshlaw07.LayoutRoutes', WHERE WHAT IT READS IS OF BULK AT MOST 1048576: true; the input reads as it did. -/
def layoutRoutesUptoRow : OpenClaim := { program := "ytpakkjkjppibnaa", sum := "6ed6d036c721d3d1ac388708b1a3551055f51fd35a394b1760e183c5aa8c2639", func := "photonmesh/photonmeshlaw07.LayoutRoutes", spec := "layoutRoutes", unfollowed := true, recurses := true, plainKeys := false, apart := false, narrowed := true }
def LayoutRoutesUptoSaid : Prop := layoutRoutesUptoRow.holds Try.pinned (OpenSpec.upto layoutRoutesSpec)

/-- 'photonmeshlaw07.LayoutBlocks', WHERE WHAT IT READS IS OF BULK AT MOST 1048576: true; the input reads as it did. -/
def layoutBlocksUptoRow : OpenClaim := { program := "ytpakkjkjppibnaa", sum := "6ed6d036c721d3d1ac388708b1a3551055f51fd35a394b1760e183c5aa8c2639", func := "photonmesh/photonmeshlaw07.LayoutBlocks", spec := "layoutBlocks", unfollowed := true, recurses := true, plainKeys := false, apart := false, narrowed := true }
def LayoutBlocksUptoSaid : Prop := layoutBlocksUptoRow.holds Try.pinned (OpenSpec.upto layoutBlocksSpec)

/-- 'photonmeshlaw07.LayoutProofs', WHERE WHAT IT READS IS OF BULK AT MOST 1048576: true; the input reads as it did. -/
def layoutProofsUptoRow : OpenClaim := { program := "ytpakkjkjppibnaa", sum := "6ed6d036c721d3d1ac388708b1a3551055f51fd35a394b1760e183c5aa8c2639", func := "photonmesh/photonmeshlaw07.LayoutProofs", spec := "layoutProofs", unfollowed := true, recurses := true, plainKeys := false, apart := false, narrowed := true }
def LayoutProofsUptoSaid : Prop := layoutProofsUptoRow.holds Try.pinned (OpenSpec.upto layoutProofsSpec)

/-- 'photonmeshlaw07.LayoutBounds', WHERE WHAT IT READS IS OF BULK AT MOST 1048576: true; the input reads as it did. -/
def layoutBoundsUptoRow : OpenClaim := { program := "ytpakkjkjppibnaa", sum := "6ed6d036c721d3d1ac388708b1a3551055f51fd35a394b1760e183c5aa8c2639", func := "photonmesh/photonmeshlaw07.LayoutBounds", spec := "layoutBounds", unfollowed := true, recurses := true, plainKeys := false, apart := false, narrowed := true }
def LayoutBoundsUptoSaid : Prop := layoutBoundsUptoRow.holds Try.pinned (OpenSpec.upto layoutBoundsSpec)

/-- 'photonmeshlaw07.LayoutRims', WHERE WHAT IT READS IS OF BULK AT MOST 1048576: true; the input reads as it did. -/
def layoutRimsUptoRow : OpenClaim := { program := "ytpakkjkjppibnaa", sum := "6ed6d036c721d3d1ac388708b1a3551055f51fd35a394b1760e183c5aa8c2639", func := "photonmesh/photonmeshlaw07.LayoutRims", spec := "layoutRims", unfollowed := true, recurses := true, plainKeys := false, apart := false, narrowed := true }
def LayoutRimsUptoSaid : Prop := layoutRimsUptoRow.holds Try.pinned (OpenSpec.upto layoutRimsSpec)

/-- 'photonmeshlaw07.LayoutCheapest', WHERE WHAT IT READS IS OF BULK AT MOST 1048576: true; the input reads as it did. -/
def layoutCheapestUptoRow : OpenClaim := { program := "ytpakkjkjppibnaa", sum := "6ed6d036c721d3d1ac388708b1a3551055f51fd35a394b1760e183c5aa8c2639", func := "photonmesh/photonmeshlaw07.LayoutCheapest", spec := "layoutCheapest", unfollowed := true, recurses := true, plainKeys := false, apart := false, narrowed := true }
def LayoutCheapestUptoSaid : Prop := layoutCheapestUptoRow.holds Try.pinned (OpenSpec.upto layoutCheapestSpec)

/-- 'photonmeshlaw07.LayoutLonger', WHERE WHAT IT READS IS OF BULK AT MOST 1048576: true; the input reads as it did. -/
def layoutLongerUptoRow : OpenClaim := { program := "ytpakkjkjppibnaa", sum := "6ed6d036c721d3d1ac388708b1a3551055f51fd35a394b1760e183c5aa8c2639", func := "photonmesh/photonmeshlaw07.LayoutLonger", spec := "layoutLonger", inPlace := ["slices.overlaps[photonmesh/api.XY]"], unfollowed := true, recurses := true, plainKeys := false, apart := false, narrowed := true }
def LayoutLongerUptoSaid : Prop := layoutLongerUptoRow.holds Try.pinned (OpenSpec.upto layoutLongerSpec)

/-- 'photonmeshlaw07.LayoutParity', WHERE WHAT IT READS IS OF BULK AT MOST 1048576: true; the input reads as it did. -/
def layoutParityUptoRow : OpenClaim := { program := "ytpakkjkjppibnaa", sum := "6ed6d036c721d3d1ac388708b1a3551055f51fd35a394b1760e183c5aa8c2639", func := "photonmesh/photonmeshlaw07.LayoutParity", spec := "layoutParity", unfollowed := true, recurses := true, plainKeys := false, apart := false, narrowed := true }
def LayoutParityUptoSaid : Prop := layoutParityUptoRow.holds Try.pinned (OpenSpec.upto layoutParitySpec)

/-- 'photonmeshtop.TopRoutes', WHERE WHAT IT READS IS OF BULK AT MOST 1048576: true; the input reads as it did. -/
def topRoutesUptoRow : OpenClaim := { program := "ytpakkjkjppibnaa", sum := "6ed6d036c721d3d1ac388708b1a3551055f51fd35a394b1760e183c5aa8c2639", func := "photonmesh/photonmeshtop.TopRoutes", spec := "topRoutes", inPlace := ["slices.overlaps[photonmesh/api.XY]"], unfollowed := true, recurses := true, plainKeys := false, apart := false, narrowed := true }
def TopRoutesUptoSaid : Prop := topRoutesUptoRow.holds Try.pinned (OpenSpec.upto topRoutesSpec)

end Rows
end Go.Proofs.Ytpakkjkjppibnaa
