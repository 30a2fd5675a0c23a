/-
  DERIVED. GIVEN WITH THE SEED: THE CARDS: each row of YtgmacbfblfdcgaaGreatDoorRows.lean that lists a variable, with what it lists TIED to the program's text (the seventh form; the later family's looks); each row that meets fmt, with fmt's text TOLD by the authors' own Lean function (tested against real Go, not proved from fmt's source: count such statements apart). THE CARD IS WHAT COUNTS. Prove the row's statement (the work); the ties are given (YtgmacbfblfdcgaaGreatDoorTie.lean); close each card by the builder's one call (the guide's Derived/Test/ToyasCard.lean, 'card_holds'). Laid BY PROGRAM, IN A SANDBOX (cutbox-door.mjs). By AI agents, Wed Nov 11 2026. No macro, syntax, notation, axiom, sorry.
-/
import Derived.Test.YtgmacbfblfdcgaaGreatDoorRows
import GoSem.ClaimSeven
namespace Go.Proofs.YtgmacbfblfdcgaaGreatDoor
namespace Rows

/-- THE TIED CARD OF 'quoinlaw07.ShowTypes'. -/
def showTypesCard : Claim7 := { stood := { row := showTypesRow, standIns := [], harness := (true, "6e41eccb7b87157741398bec212422e76de14094b9b0c72bf2d7b451b0473db8"), looks := true }, kinds := [], alts := [], laidByText := true, laidKinds := [.data, .data, .data, .sentinel, .sentinel, .listed, .data], laidTests := true, laidLooks := .later }
def ShowTypesCardSaid : Prop := Claim7.holds Tryz.pinned (.plain (OpenSpec.ofChange showTypesSpec)) showTypesCard

/-- THE TIED CARD OF 'quoinlaw07.ShowExprs'. -/
def showExprsCard : Claim7 := { stood := { row := showExprsRow, standIns := [], harness := (true, "6e41eccb7b87157741398bec212422e76de14094b9b0c72bf2d7b451b0473db8"), looks := true }, kinds := [], alts := [], laidByText := true, laidKinds := [.data, .data, .data, .sentinel, .sentinel, .listed, .data], laidTests := true, laidLooks := .later }
def ShowExprsCardSaid : Prop := Claim7.holds Tryz.pinned (.plain (OpenSpec.ofChange showExprsSpec)) showExprsCard

/-- THE TIED CARD OF 'quoinlaw07.ShowBlocks'. -/
def showBlocksCard : Claim7 := { stood := { row := showBlocksRow, standIns := [], harness := (true, "6e41eccb7b87157741398bec212422e76de14094b9b0c72bf2d7b451b0473db8"), looks := true }, kinds := [], alts := [], laidByText := true, laidKinds := [.data, .data, .data, .sentinel, .sentinel, .listed, .data], laidTests := true, laidLooks := .later }
def ShowBlocksCardSaid : Prop := Claim7.holds Tryz.pinned (.plain (OpenSpec.ofChange showBlocksSpec)) showBlocksCard

/-- THE SECOND FORM's CARD OF 'quoinlaw07.ShowTypes'. -/
def showTypesUptoCard : Claim7 := { stood := { row := showTypesUptoRow, standIns := [], harness := (true, "6e41eccb7b87157741398bec212422e76de14094b9b0c72bf2d7b451b0473db8"), looks := true }, kinds := [], alts := [], laidByText := true, laidKinds := [.data, .data, .data, .sentinel, .sentinel, .listed, .data], laidTests := true, laidLooks := .later }
def ShowTypesUptoCardSaid : Prop := Claim7.holds Tryz.pinned (.plain (OpenSpec.upto showTypesSpec)) showTypesUptoCard

/-- THE SECOND FORM's CARD OF 'quoinlaw07.ShowExprs'. -/
def showExprsUptoCard : Claim7 := { stood := { row := showExprsUptoRow, standIns := [], harness := (true, "6e41eccb7b87157741398bec212422e76de14094b9b0c72bf2d7b451b0473db8"), looks := true }, kinds := [], alts := [], laidByText := true, laidKinds := [.data, .data, .data, .sentinel, .sentinel, .listed, .data], laidTests := true, laidLooks := .later }
def ShowExprsUptoCardSaid : Prop := Claim7.holds Tryz.pinned (.plain (OpenSpec.upto showExprsSpec)) showExprsUptoCard

/-- THE SECOND FORM's CARD OF 'quoinlaw07.ShowBlocks'. -/
def showBlocksUptoCard : Claim7 := { stood := { row := showBlocksUptoRow, standIns := [], harness := (true, "6e41eccb7b87157741398bec212422e76de14094b9b0c72bf2d7b451b0473db8"), looks := true }, kinds := [], alts := [], laidByText := true, laidKinds := [.data, .data, .data, .sentinel, .sentinel, .listed, .data], laidTests := true, laidLooks := .later }
def ShowBlocksUptoCardSaid : Prop := Claim7.holds Tryz.pinned (.plain (OpenSpec.upto showBlocksSpec)) showBlocksUptoCard
end Rows
end Go.Proofs.YtgmacbfblfdcgaaGreatDoor
