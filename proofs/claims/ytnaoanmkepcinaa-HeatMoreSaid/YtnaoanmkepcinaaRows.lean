/-
  No cell of these rows narrows 'for every input' (looked for: loops, veiled, ifaces, maps, wideKeys, modest, calm, conditions, laid).
  DERIVED. THE GIVEN ROWS OF THIS SEAT. 11 by the template 'for every input the law returns true; each argument reads behind the call as it read before'; 0 by the template 'total and deterministic' (their statements: YtnaoanmkepcinaaTotals.lean).
  GIVEN WITH THE SEED: the statements are not yours to turn. If you find one false, say at which input.
  Laid BY PROGRAM, IN A SANDBOX (cutbox-rows.mjs): the forced cells as the released guide's own fill.sh prints them over the translation 6b252e64cfd13612… (all of the seat's roots in one cut). By AI agents, Wed Nov 11 2026. No macro, syntax, notation, axiom, sorry.
-/
import Derived.Test.YtnaoanmkepcinaaChecked
import GoSem.Claim
import GoSem.ClaimJoined
import GoSem.ClaimMapViews
import Derived.JoinedTies
import Derived.KernelRfl
namespace Go.Proofs.Ytnaoanmkepcinaa
/- THE CELL 'sum', in the pinned program and in every row, IS THE sha256 OF THE DUMP (.gsa) THAT YtnaoanmkepcinaaProg.lean LOADS. Nothing in Lean hashes anything: it is a label: what it is worth is what the hold of that sum in a sandbox is worth. -/
noncomputable def Try.pinned : Pinned := { name := "ytnaoanmkepcinaa", sum := "6b252e64cfd13612bbe161cc1a12b919c10b96f73b278bbd0f78c087ff5945cc", checked := Try.checked }
namespace Rows
def none {H : Type} : Left H := { results := [], args := [] }

/-- 'photonmeshlaw06.HeatRows': WHATEVER THE INPUT: true; the input reads as it did. -/
def heatRowsSpec : ChangeSpec := { name := "heatRows", fn := fun _ => fun
  | [d1, d2] => { results := [.lit (.bool true)], args := [d1, d2] }
  | _ => none }
def heatRowsRow : OpenClaim := { program := "ytnaoanmkepcinaa", sum := "6b252e64cfd13612bbe161cc1a12b919c10b96f73b278bbd0f78c087ff5945cc", func := "photonmesh/photonmeshlaw06.HeatRows", spec := "heatRows", unfollowed := true, recurses := true, apart := false }
def HeatRowsSaid : Prop := heatRowsRow.holds Try.pinned (OpenSpec.ofChange heatRowsSpec)

/-- ITS FALSE NEIGHBOUR: 'it returns false'. Refute it at one input. -/
def heatRowsWrong : ChangeSpec := { name := "heatRows", fn := fun _ => fun
  | [d1, d2] => { results := [.lit (.bool false)], args := [d1, d2] }
  | _ => none }
def HeatRowsWrongFalsely : Prop := heatRowsRow.holds Try.pinned (OpenSpec.ofChange heatRowsWrong)

/-- 'photonmeshlaw06.HeatPeaks': WHATEVER THE INPUT: true; the input reads as it did. -/
def heatPeaksSpec : ChangeSpec := { name := "heatPeaks", fn := fun _ => fun
  | [d1, d2] => { results := [.lit (.bool true)], args := [d1, d2] }
  | _ => none }
def heatPeaksRow : OpenClaim := { program := "ytnaoanmkepcinaa", sum := "6b252e64cfd13612bbe161cc1a12b919c10b96f73b278bbd0f78c087ff5945cc", func := "photonmesh/photonmeshlaw06.HeatPeaks", spec := "heatPeaks", unfollowed := true, recurses := true, apart := false }
def HeatPeaksSaid : Prop := heatPeaksRow.holds Try.pinned (OpenSpec.ofChange heatPeaksSpec)

/-- ITS FALSE NEIGHBOUR: 'it returns false'. Refute it at one input. -/
def heatPeaksWrong : ChangeSpec := { name := "heatPeaks", fn := fun _ => fun
  | [d1, d2] => { results := [.lit (.bool false)], args := [d1, d2] }
  | _ => none }
def HeatPeaksWrongFalsely : Prop := heatPeaksRow.holds Try.pinned (OpenSpec.ofChange heatPeaksWrong)

/-- 'photonmeshlaw06.HeatSpreads': WHATEVER THE INPUT: true; the input reads as it did. -/
def heatSpreadsSpec : ChangeSpec := { name := "heatSpreads", fn := fun _ => fun
  | [d1, d2, d3] => { results := [.lit (.bool true)], args := [d1, d2, d3] }
  | _ => none }
def heatSpreadsRow : OpenClaim := { program := "ytnaoanmkepcinaa", sum := "6b252e64cfd13612bbe161cc1a12b919c10b96f73b278bbd0f78c087ff5945cc", func := "photonmesh/photonmeshlaw06.HeatSpreads", spec := "heatSpreads", unfollowed := true, recurses := true, apart := false }
def HeatSpreadsSaid : Prop := heatSpreadsRow.holds Try.pinned (OpenSpec.ofChange heatSpreadsSpec)

/-- ITS FALSE NEIGHBOUR: 'it returns false'. Refute it at one input. -/
def heatSpreadsWrong : ChangeSpec := { name := "heatSpreads", fn := fun _ => fun
  | [d1, d2, d3] => { results := [.lit (.bool false)], args := [d1, d2, d3] }
  | _ => none }
def HeatSpreadsWrongFalsely : Prop := heatSpreadsRow.holds Try.pinned (OpenSpec.ofChange heatSpreadsWrong)

/-- 'photonmeshlaw06.HeatSolves': WHATEVER THE INPUT: true; the input reads as it did. -/
def heatSolvesSpec : ChangeSpec := { name := "heatSolves", fn := fun _ => fun
  | [d1, d2] => { results := [.lit (.bool true)], args := [d1, d2] }
  | _ => none }
def heatSolvesRow : OpenClaim := { program := "ytnaoanmkepcinaa", sum := "6b252e64cfd13612bbe161cc1a12b919c10b96f73b278bbd0f78c087ff5945cc", func := "photonmesh/photonmeshlaw06.HeatSolves", spec := "heatSolves", unfollowed := true, recurses := true, apart := false }
def HeatSolvesSaid : Prop := heatSolvesRow.holds Try.pinned (OpenSpec.ofChange heatSolvesSpec)

/-- ITS FALSE NEIGHBOUR: 'it returns false'. Refute it at one input. -/
def heatSolvesWrong : ChangeSpec := { name := "heatSolves", fn := fun _ => fun
  | [d1, d2] => { results := [.lit (.bool false)], args := [d1, d2] }
  | _ => none }
def HeatSolvesWrongFalsely : Prop := heatSolvesRow.holds Try.pinned (OpenSpec.ofChange heatSolvesWrong)

/-- 'photonmeshlaw06.HeatRounds': WHATEVER THE INPUT: true; the input reads as it did. -/
def heatRoundsSpec : ChangeSpec := { name := "heatRounds", fn := fun _ => fun
  | [d] => { results := [.lit (.bool true)], args := [d] }
  | _ => none }
def heatRoundsRow : OpenClaim := { program := "ytnaoanmkepcinaa", sum := "6b252e64cfd13612bbe161cc1a12b919c10b96f73b278bbd0f78c087ff5945cc", func := "photonmesh/photonmeshlaw06.HeatRounds", spec := "heatRounds", unfollowed := true, recurses := true, apart := false }
def HeatRoundsSaid : Prop := heatRoundsRow.holds Try.pinned (OpenSpec.ofChange heatRoundsSpec)

/-- ITS FALSE NEIGHBOUR: 'it returns false'. Refute it at one input. -/
def heatRoundsWrong : ChangeSpec := { name := "heatRounds", fn := fun _ => fun
  | [d] => { results := [.lit (.bool false)], args := [d] }
  | _ => none }
def HeatRoundsWrongFalsely : Prop := heatRoundsRow.holds Try.pinned (OpenSpec.ofChange heatRoundsWrong)

/-- 'photonmeshlaw06.HeatPhases': WHATEVER THE INPUT: true; the input reads as it did. -/
def heatPhasesSpec : ChangeSpec := { name := "heatPhases", fn := fun _ => fun
  | [d] => { results := [.lit (.bool true)], args := [d] }
  | _ => none }
def heatPhasesRow : OpenClaim := { program := "ytnaoanmkepcinaa", sum := "6b252e64cfd13612bbe161cc1a12b919c10b96f73b278bbd0f78c087ff5945cc", func := "photonmesh/photonmeshlaw06.HeatPhases", spec := "heatPhases", unfollowed := true, recurses := true, apart := false }
def HeatPhasesSaid : Prop := heatPhasesRow.holds Try.pinned (OpenSpec.ofChange heatPhasesSpec)

/-- ITS FALSE NEIGHBOUR: 'it returns false'. Refute it at one input. -/
def heatPhasesWrong : ChangeSpec := { name := "heatPhases", fn := fun _ => fun
  | [d] => { results := [.lit (.bool false)], args := [d] }
  | _ => none }
def HeatPhasesWrongFalsely : Prop := heatPhasesRow.holds Try.pinned (OpenSpec.ofChange heatPhasesWrong)

/-- 'photonmeshlaw06.HeatBanks': WHATEVER THE INPUT: true; the input reads as it did. -/
def heatBanksSpec : ChangeSpec := { name := "heatBanks", fn := fun _ => fun
  | [d] => { results := [.lit (.bool true)], args := [d] }
  | _ => none }
def heatBanksRow : OpenClaim := { program := "ytnaoanmkepcinaa", sum := "6b252e64cfd13612bbe161cc1a12b919c10b96f73b278bbd0f78c087ff5945cc", func := "photonmesh/photonmeshlaw06.HeatBanks", spec := "heatBanks", unfollowed := true, recurses := true, apart := false }
def HeatBanksSaid : Prop := heatBanksRow.holds Try.pinned (OpenSpec.ofChange heatBanksSpec)

/-- ITS FALSE NEIGHBOUR: 'it returns false'. Refute it at one input. -/
def heatBanksWrong : ChangeSpec := { name := "heatBanks", fn := fun _ => fun
  | [d] => { results := [.lit (.bool false)], args := [d] }
  | _ => none }
def HeatBanksWrongFalsely : Prop := heatBanksRow.holds Try.pinned (OpenSpec.ofChange heatBanksWrong)

/-- 'photonmeshlaw06.HeatSteps': WHATEVER THE INPUT: true; the input reads as it did. -/
def heatStepsSpec : ChangeSpec := { name := "heatSteps", fn := fun _ => fun
  | [d1, d2, d3] => { results := [.lit (.bool true)], args := [d1, d2, d3] }
  | _ => none }
def heatStepsRow : OpenClaim := { program := "ytnaoanmkepcinaa", sum := "6b252e64cfd13612bbe161cc1a12b919c10b96f73b278bbd0f78c087ff5945cc", func := "photonmesh/photonmeshlaw06.HeatSteps", spec := "heatSteps", unfollowed := true, recurses := true, apart := false }
def HeatStepsSaid : Prop := heatStepsRow.holds Try.pinned (OpenSpec.ofChange heatStepsSpec)

/-- ITS FALSE NEIGHBOUR: 'it returns false'. Refute it at one input. -/
def heatStepsWrong : ChangeSpec := { name := "heatSteps", fn := fun _ => fun
  | [d1, d2, d3] => { results := [.lit (.bool false)], args := [d1, d2, d3] }
  | _ => none }
def HeatStepsWrongFalsely : Prop := heatStepsRow.holds Try.pinned (OpenSpec.ofChange heatStepsWrong)

/-- 'photonmeshlaw06.HeatCheapest': WHATEVER THE INPUT: true; the input reads as it did. -/
def heatCheapestSpec : ChangeSpec := { name := "heatCheapest", fn := fun _ => fun
  | [d1, d2, d3] => { results := [.lit (.bool true)], args := [d1, d2, d3] }
  | _ => none }
def heatCheapestRow : OpenClaim := { program := "ytnaoanmkepcinaa", sum := "6b252e64cfd13612bbe161cc1a12b919c10b96f73b278bbd0f78c087ff5945cc", func := "photonmesh/photonmeshlaw06.HeatCheapest", spec := "heatCheapest", unfollowed := true, recurses := true, apart := false }
def HeatCheapestSaid : Prop := heatCheapestRow.holds Try.pinned (OpenSpec.ofChange heatCheapestSpec)

/-- ITS FALSE NEIGHBOUR: 'it returns false'. Refute it at one input. -/
def heatCheapestWrong : ChangeSpec := { name := "heatCheapest", fn := fun _ => fun
  | [d1, d2, d3] => { results := [.lit (.bool false)], args := [d1, d2, d3] }
  | _ => none }
def HeatCheapestWrongFalsely : Prop := heatCheapestRow.holds Try.pinned (OpenSpec.ofChange heatCheapestWrong)

/-- 'photonmeshlaw06.HeatPaths': WHATEVER THE INPUT: true; the input reads as it did. -/
def heatPathsSpec : ChangeSpec := { name := "heatPaths", fn := fun _ => fun
  | [d1, d2] => { results := [.lit (.bool true)], args := [d1, d2] }
  | _ => none }
def heatPathsRow : OpenClaim := { program := "ytnaoanmkepcinaa", sum := "6b252e64cfd13612bbe161cc1a12b919c10b96f73b278bbd0f78c087ff5945cc", func := "photonmesh/photonmeshlaw06.HeatPaths", spec := "heatPaths", unfollowed := true, recurses := true, apart := false }
def HeatPathsSaid : Prop := heatPathsRow.holds Try.pinned (OpenSpec.ofChange heatPathsSpec)

/-- ITS FALSE NEIGHBOUR: 'it returns false'. Refute it at one input. -/
def heatPathsWrong : ChangeSpec := { name := "heatPaths", fn := fun _ => fun
  | [d1, d2] => { results := [.lit (.bool false)], args := [d1, d2] }
  | _ => none }
def HeatPathsWrongFalsely : Prop := heatPathsRow.holds Try.pinned (OpenSpec.ofChange heatPathsWrong)

/-- 'photonmeshlaw06.HeatMore': WHATEVER THE INPUT: true; the input reads as it did. -/
def heatMoreSpec : ChangeSpec := { name := "heatMore", fn := fun _ => fun
  | [d1, d2] => { results := [.lit (.bool true)], args := [d1, d2] }
  | _ => none }
def heatMoreRow : OpenClaim := { program := "ytnaoanmkepcinaa", sum := "6b252e64cfd13612bbe161cc1a12b919c10b96f73b278bbd0f78c087ff5945cc", func := "photonmesh/photonmeshlaw06.HeatMore", spec := "heatMore", unfollowed := true, recurses := true, apart := false }
def HeatMoreSaid : Prop := heatMoreRow.holds Try.pinned (OpenSpec.ofChange heatMoreSpec)

/-- ITS FALSE NEIGHBOUR: 'it returns false'. Refute it at one input. -/
def heatMoreWrong : ChangeSpec := { name := "heatMore", fn := fun _ => fun
  | [d1, d2] => { results := [.lit (.bool false)], args := [d1, d2] }
  | _ => none }
def HeatMoreWrongFalsely : Prop := heatMoreRow.holds Try.pinned (OpenSpec.ofChange heatMoreWrong)

/- THE SECOND FORM. 'bulk': how many values and letters a reading holds, each counted each time it is reached (what is shared counts as often as it is met; a slice's spare places count too). A statement '..UptoSaid' is the law's where the arguments, and the package variables that the reading takes, are together of bulk at most 1048576: NARROWER than '..Said'. Prove '..Said' where nothing that the law and all that it calls make is longer than what came in: it says more and counts as full. Else prove '..UptoSaid'. A law counts once. -/
mutual
def uptoBulk {H : Type} : DataW H → Nat
  | .lit (.string bytes) => bytes.length + 1
  | .lit _ => 1
  | .nil => 1
  | .ptr d => uptoBulk d + 1
  | .slice elems spare => uptoBulkAll elems + uptoBulkAll spare + 1
  | .agg parts => uptoBulkAll parts + 1
  | .iface _ d => uptoBulk d + 1
  | .map entries => uptoBulkEntries entries + 1
  | .held _ => 1
def uptoBulkAll {H : Type} : List (DataW H) → Nat
  | [] => 0
  | d :: r => uptoBulk d + uptoBulkAll r
def uptoBulkEntries {H : Type} : List (Lit × DataW H) → Nat
  | [] => 0
  | x :: r => uptoBulkEntry x + uptoBulkEntries r
def uptoBulkEntry {H : Type} : Lit × DataW H → Nat
  | (.string bytes, d) => bytes.length + uptoBulk d + 1
  | (_, d) => uptoBulk d + 1
 end
def uptoSmall : (H : Type) → List (DataW H) → Bool := fun _ ds => decide (uptoBulkAll ds ≤ 1048576)
def OpenSpec.upto (s : _root_.Go.ChangeSpec) : _root_.Go.OpenSpec := { _root_.Go.OpenSpec.ofChange s with cond := some uptoSmall }

/-- 'photonmeshlaw06.HeatRows', WHERE WHAT IT READS IS OF BULK AT MOST 1048576: true; the input reads as it did. -/
def heatRowsUptoRow : OpenClaim := { program := "ytnaoanmkepcinaa", sum := "6b252e64cfd13612bbe161cc1a12b919c10b96f73b278bbd0f78c087ff5945cc", func := "photonmesh/photonmeshlaw06.HeatRows", spec := "heatRows", unfollowed := true, recurses := true, apart := false, narrowed := true }
def HeatRowsUptoSaid : Prop := heatRowsUptoRow.holds Try.pinned (OpenSpec.upto heatRowsSpec)

/-- 'photonmeshlaw06.HeatPeaks', WHERE WHAT IT READS IS OF BULK AT MOST 1048576: true; the input reads as it did. -/
def heatPeaksUptoRow : OpenClaim := { program := "ytnaoanmkepcinaa", sum := "6b252e64cfd13612bbe161cc1a12b919c10b96f73b278bbd0f78c087ff5945cc", func := "photonmesh/photonmeshlaw06.HeatPeaks", spec := "heatPeaks", unfollowed := true, recurses := true, apart := false, narrowed := true }
def HeatPeaksUptoSaid : Prop := heatPeaksUptoRow.holds Try.pinned (OpenSpec.upto heatPeaksSpec)

/-- 'photonmeshlaw06.HeatSpreads', WHERE WHAT IT READS IS OF BULK AT MOST 1048576: true; the input reads as it did. -/
def heatSpreadsUptoRow : OpenClaim := { program := "ytnaoanmkepcinaa", sum := "6b252e64cfd13612bbe161cc1a12b919c10b96f73b278bbd0f78c087ff5945cc", func := "photonmesh/photonmeshlaw06.HeatSpreads", spec := "heatSpreads", unfollowed := true, recurses := true, apart := false, narrowed := true }
def HeatSpreadsUptoSaid : Prop := heatSpreadsUptoRow.holds Try.pinned (OpenSpec.upto heatSpreadsSpec)

/-- 'photonmeshlaw06.HeatSolves', WHERE WHAT IT READS IS OF BULK AT MOST 1048576: true; the input reads as it did. -/
def heatSolvesUptoRow : OpenClaim := { program := "ytnaoanmkepcinaa", sum := "6b252e64cfd13612bbe161cc1a12b919c10b96f73b278bbd0f78c087ff5945cc", func := "photonmesh/photonmeshlaw06.HeatSolves", spec := "heatSolves", unfollowed := true, recurses := true, apart := false, narrowed := true }
def HeatSolvesUptoSaid : Prop := heatSolvesUptoRow.holds Try.pinned (OpenSpec.upto heatSolvesSpec)

/-- 'photonmeshlaw06.HeatRounds', WHERE WHAT IT READS IS OF BULK AT MOST 1048576: true; the input reads as it did. -/
def heatRoundsUptoRow : OpenClaim := { program := "ytnaoanmkepcinaa", sum := "6b252e64cfd13612bbe161cc1a12b919c10b96f73b278bbd0f78c087ff5945cc", func := "photonmesh/photonmeshlaw06.HeatRounds", spec := "heatRounds", unfollowed := true, recurses := true, apart := false, narrowed := true }
def HeatRoundsUptoSaid : Prop := heatRoundsUptoRow.holds Try.pinned (OpenSpec.upto heatRoundsSpec)

/-- 'photonmeshlaw06.HeatPhases', WHERE WHAT IT READS IS OF BULK AT MOST 1048576: true; the input reads as it did. -/
def heatPhasesUptoRow : OpenClaim := { program := "ytnaoanmkepcinaa", sum := "6b252e64cfd13612bbe161cc1a12b919c10b96f73b278bbd0f78c087ff5945cc", func := "photonmesh/photonmeshlaw06.HeatPhases", spec := "heatPhases", unfollowed := true, recurses := true, apart := false, narrowed := true }
def HeatPhasesUptoSaid : Prop := heatPhasesUptoRow.holds Try.pinned (OpenSpec.upto heatPhasesSpec)

/-- 'photonmeshlaw06.HeatBanks', WHERE WHAT IT READS IS OF BULK AT MOST 1048576: true; the input reads as it did. -/
def heatBanksUptoRow : OpenClaim := { program := "ytnaoanmkepcinaa", sum := "6b252e64cfd13612bbe161cc1a12b919c10b96f73b278bbd0f78c087ff5945cc", func := "photonmesh/photonmeshlaw06.HeatBanks", spec := "heatBanks", unfollowed := true, recurses := true, apart := false, narrowed := true }
def HeatBanksUptoSaid : Prop := heatBanksUptoRow.holds Try.pinned (OpenSpec.upto heatBanksSpec)

/-- 'photonmeshlaw06.HeatSteps', WHERE WHAT IT READS IS OF BULK AT MOST 1048576: true; the input reads as it did. -/
def heatStepsUptoRow : OpenClaim := { program := "ytnaoanmkepcinaa", sum := "6b252e64cfd13612bbe161cc1a12b919c10b96f73b278bbd0f78c087ff5945cc", func := "photonmesh/photonmeshlaw06.HeatSteps", spec := "heatSteps", unfollowed := true, recurses := true, apart := false, narrowed := true }
def HeatStepsUptoSaid : Prop := heatStepsUptoRow.holds Try.pinned (OpenSpec.upto heatStepsSpec)

/-- 'photonmeshlaw06.HeatCheapest', WHERE WHAT IT READS IS OF BULK AT MOST 1048576: true; the input reads as it did. -/
def heatCheapestUptoRow : OpenClaim := { program := "ytnaoanmkepcinaa", sum := "6b252e64cfd13612bbe161cc1a12b919c10b96f73b278bbd0f78c087ff5945cc", func := "photonmesh/photonmeshlaw06.HeatCheapest", spec := "heatCheapest", unfollowed := true, recurses := true, apart := false, narrowed := true }
def HeatCheapestUptoSaid : Prop := heatCheapestUptoRow.holds Try.pinned (OpenSpec.upto heatCheapestSpec)

/-- 'photonmeshlaw06.HeatPaths', WHERE WHAT IT READS IS OF BULK AT MOST 1048576: true; the input reads as it did. -/
def heatPathsUptoRow : OpenClaim := { program := "ytnaoanmkepcinaa", sum := "6b252e64cfd13612bbe161cc1a12b919c10b96f73b278bbd0f78c087ff5945cc", func := "photonmesh/photonmeshlaw06.HeatPaths", spec := "heatPaths", unfollowed := true, recurses := true, apart := false, narrowed := true }
def HeatPathsUptoSaid : Prop := heatPathsUptoRow.holds Try.pinned (OpenSpec.upto heatPathsSpec)

/-- 'photonmeshlaw06.HeatMore', WHERE WHAT IT READS IS OF BULK AT MOST 1048576: true; the input reads as it did. -/
def heatMoreUptoRow : OpenClaim := { program := "ytnaoanmkepcinaa", sum := "6b252e64cfd13612bbe161cc1a12b919c10b96f73b278bbd0f78c087ff5945cc", func := "photonmesh/photonmeshlaw06.HeatMore", spec := "heatMore", unfollowed := true, recurses := true, apart := false, narrowed := true }
def HeatMoreUptoSaid : Prop := heatMoreUptoRow.holds Try.pinned (OpenSpec.upto heatMoreSpec)

end Rows
end Go.Proofs.Ytnaoanmkepcinaa
