/-
  DERIVED. GIVEN WITH THE SEED: THE CARDS: each row of YthacfmmgcbjagaaGreatDoorRows.lean that lists a variable, with what it lists TIED to the program's text (the seventh form; the later family's looks); each row that meets fmt, with fmt's text TOLD by the authors' own Lean function (tested against real Go, not proved from fmt's source: count such statements apart). THE CARD IS WHAT COUNTS. Prove the row's statement (the work); the ties are given (YthacfmmgcbjagaaGreatDoorTie.lean); close each card by the builder's one call (the guide's Derived/Test/ToyasCard.lean, 'card_holds'). Laid BY PROGRAM, IN A SANDBOX (cutbox-door.mjs). By AI agents, Wed Nov 11 2026. No macro, syntax, notation, axiom, sorry.
-/
import Derived.Test.YthacfmmgcbjagaaGreatDoorRows
import GoSem.ClaimSeven
namespace Go.Proofs.YthacfmmgcbjagaaGreatDoor
namespace Rows

/-- THE TIED CARD OF 'quoinlaw10.SigSorts'. -/
def sigSortsCard : Claim7 := { stood := { row := sigSortsRow, standIns := [], harness := (true, "53f465b498444b397b1e26887f3b05f1ad70f9dbca69c0a79e6978a1dcaa6fc8"), looks := true }, kinds := [], alts := [], laidByText := true, laidKinds := [.data, .data, .data, .sentinel, .sentinel, .listed, .data], laidTests := true, laidLooks := .later }
def SigSortsCardSaid : Prop := Claim7.holds Tryz.pinned (.plain (OpenSpec.ofChange sigSortsSpec)) sigSortsCard

/-- THE TIED CARD OF 'quoinlaw10.SigTypes'. -/
def sigTypesCard : Claim7 := { stood := { row := sigTypesRow, standIns := [], harness := (true, "53f465b498444b397b1e26887f3b05f1ad70f9dbca69c0a79e6978a1dcaa6fc8"), looks := true }, kinds := [], alts := [], laidByText := true, laidKinds := [.data, .data, .data, .sentinel, .sentinel, .listed, .data], laidTests := true, laidLooks := .later }
def SigTypesCardSaid : Prop := Claim7.holds Tryz.pinned (.plain (OpenSpec.ofChange sigTypesSpec)) sigTypesCard

/-- THE SECOND FORM's CARD OF 'quoinlaw10.SigSorts'. -/
def sigSortsUptoCard : Claim7 := { stood := { row := sigSortsUptoRow, standIns := [], harness := (true, "53f465b498444b397b1e26887f3b05f1ad70f9dbca69c0a79e6978a1dcaa6fc8"), looks := true }, kinds := [], alts := [], laidByText := true, laidKinds := [.data, .data, .data, .sentinel, .sentinel, .listed, .data], laidTests := true, laidLooks := .later }
def SigSortsUptoCardSaid : Prop := Claim7.holds Tryz.pinned (.plain (OpenSpec.upto sigSortsSpec)) sigSortsUptoCard

/-- THE SECOND FORM's CARD OF 'quoinlaw10.SigTypes'. -/
def sigTypesUptoCard : Claim7 := { stood := { row := sigTypesUptoRow, standIns := [], harness := (true, "53f465b498444b397b1e26887f3b05f1ad70f9dbca69c0a79e6978a1dcaa6fc8"), looks := true }, kinds := [], alts := [], laidByText := true, laidKinds := [.data, .data, .data, .sentinel, .sentinel, .listed, .data], laidTests := true, laidLooks := .later }
def SigTypesUptoCardSaid : Prop := Claim7.holds Tryz.pinned (.plain (OpenSpec.upto sigTypesSpec)) sigTypesUptoCard
end Rows
end Go.Proofs.YthacfmmgcbjagaaGreatDoor
