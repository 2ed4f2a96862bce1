/-
  DERIVED. GIVEN WITH THE SEED: THE CARDS: each row of YtelnlmhelkcliaaDoorRows.lean that lists a variable, with what it lists TIED to the program's text (the seventh form; the later family's looks); each row that meets fmt, with fmt's text TOLD by the authors' own Lean function (tested against real Go, not proved from fmt's source: count such statements apart). THE CARD IS WHAT COUNTS. Prove the row's statement (the work); the ties are given (YtelnlmhelkcliaaDoorTie.lean); close each card by the builder's one call (the guide's Derived/Test/ToyasCard.lean, 'card_holds'). Laid BY PROGRAM, IN A SANDBOX (cutbox-door.mjs). By AI agents, Wed Nov 11 2026. No macro, syntax, notation, axiom, sorry.
-/
import Derived.Test.YtelnlmhelkcliaaDoorRows
import GoSem.ClaimSeven
namespace Go.Proofs.YtelnlmhelkcliaaDoor
namespace Rows

/-- THE TIED CARD OF 'photonmeshlaw08.BenesSizes'. -/
def benesSizesCard : Claim7 := { stood := { row := benesSizesRow, standIns := [], harness := (true, "2a8e86001d8bcebe75bc4a042d1597e4b52c6376e11a610bbf0e19cd66789036"), looks := false }, kinds := [], alts := [], laidByText := true, laidKinds := [.data, .data], laidTests := true, laidLooks := .later }
def BenesSizesCardSaid : Prop := Claim7.holds Tryd.pinned (.plain (OpenSpec.ofChange benesSizesSpec)) benesSizesCard

/-- THE TIED CARD OF 'photonmeshlaw08.BenesMeets'. -/
def benesMeetsCard : Claim7 := { stood := { row := benesMeetsRow, standIns := [], harness := (true, "2a8e86001d8bcebe75bc4a042d1597e4b52c6376e11a610bbf0e19cd66789036"), looks := false }, kinds := [], alts := [], laidByText := true, laidKinds := [.data, .data], laidTests := true, laidLooks := .later }
def BenesMeetsCardSaid : Prop := Claim7.holds Tryd.pinned (.plain (OpenSpec.ofChange benesMeetsSpec)) benesMeetsCard

/-- THE SECOND FORM's CARD OF 'photonmeshlaw08.BenesSizes'. -/
def benesSizesUptoCard : Claim7 := { stood := { row := benesSizesUptoRow, standIns := [], harness := (true, "2a8e86001d8bcebe75bc4a042d1597e4b52c6376e11a610bbf0e19cd66789036"), looks := false }, kinds := [], alts := [], laidByText := true, laidKinds := [.data, .data], laidTests := true, laidLooks := .later }
def BenesSizesUptoCardSaid : Prop := Claim7.holds Tryd.pinned (.plain (OpenSpec.upto benesSizesSpec)) benesSizesUptoCard

/-- THE SECOND FORM's CARD OF 'photonmeshlaw08.BenesMeets'. -/
def benesMeetsUptoCard : Claim7 := { stood := { row := benesMeetsUptoRow, standIns := [], harness := (true, "2a8e86001d8bcebe75bc4a042d1597e4b52c6376e11a610bbf0e19cd66789036"), looks := false }, kinds := [], alts := [], laidByText := true, laidKinds := [.data, .data], laidTests := true, laidLooks := .later }
def BenesMeetsUptoCardSaid : Prop := Claim7.holds Tryd.pinned (.plain (OpenSpec.upto benesMeetsSpec)) benesMeetsUptoCard
end Rows
end Go.Proofs.YtelnlmhelkcliaaDoor
