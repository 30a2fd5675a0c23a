/-
  DERIVED. GIVEN WITH THE SEED: THE CARDS: each row of YtkeanagdncbjjaaGreatDoorRows.lean that lists a variable, with what it lists TIED to the program's text (the seventh form; the later family's looks); each row that meets fmt, with fmt's text TOLD by the authors' own Lean function (tested against real Go, not proved from fmt's source: count such statements apart). THE CARD IS WHAT COUNTS. Prove the row's statement (the work); the ties are given (YtkeanagdncbjjaaGreatDoorTie.lean); close each card by the builder's one call (the guide's Derived/Test/ToyasCard.lean, 'card_holds'). Laid BY PROGRAM, IN A SANDBOX (cutbox-door.mjs). By AI agents, Wed Nov 11 2026. No macro, syntax, notation, axiom, sorry.
-/
import Derived.Test.YtkeanagdncbjjaaGreatDoorRows
import GoSem.ClaimSeven
namespace Go.Proofs.YtkeanagdncbjjaaGreatDoor
namespace Rows

/-- THE TIED CARD OF 'quoinlaw16.ExportNames'. -/
def exportNamesCard : Claim7 := { stood := { row := exportNamesRow, standIns := [], harness := (true, "b8b16c8ca202afab7c3919536a893498c42e378727768fee55d4ac5db8e2d013"), looks := true }, kinds := [], alts := [], laidByText := true, laidKinds := [.listed, .data], laidTests := true, laidLooks := .later }
def ExportNamesCardSaid : Prop := Claim7.holds Tryz.pinned (.plain (OpenSpec.ofChange exportNamesSpec)) exportNamesCard

/-- THE TIED CARD OF 'quoinlaw06.FilexNames'. -/
def filexNamesCard : Claim7 := { stood := { row := filexNamesRow, standIns := [], harness := (true, "b8b16c8ca202afab7c3919536a893498c42e378727768fee55d4ac5db8e2d013"), looks := true }, kinds := [], alts := [], laidByText := true, laidKinds := [.data, .data, .data, .sentinel, .sentinel, .listed, .data], laidTests := true, laidLooks := .later }
def FilexNamesCardSaid : Prop := Claim7.holds Tryz.pinned (.plain (OpenSpec.ofChange filexNamesSpec)) filexNamesCard

/-- THE TIED CARD OF 'quoinlaw10.SigNames'. -/
def sigNamesCard : Claim7 := { stood := { row := sigNamesRow, standIns := [], harness := (true, "b8b16c8ca202afab7c3919536a893498c42e378727768fee55d4ac5db8e2d013"), looks := true }, kinds := [], alts := [], laidByText := true, laidKinds := [.data, .data, .data, .sentinel, .sentinel, .listed, .data], laidTests := true, laidLooks := .later }
def SigNamesCardSaid : Prop := Claim7.holds Tryz.pinned (.plain (OpenSpec.ofChange sigNamesSpec)) sigNamesCard

/-- THE TIED CARD OF 'quoinlaw13.ValueNames'. -/
def valueNamesCard : Claim7 := { stood := { row := valueNamesRow, standIns := [], harness := (true, "b8b16c8ca202afab7c3919536a893498c42e378727768fee55d4ac5db8e2d013"), looks := true }, kinds := [], alts := [], laidByText := true, laidKinds := [.data, .data, .data, .sentinel, .sentinel, .listed, .data], laidTests := true, laidLooks := .later }
def ValueNamesCardSaid : Prop := Claim7.holds Tryz.pinned (.plain (OpenSpec.ofChange valueNamesSpec)) valueNamesCard

/-- THE TIED CARD OF 'quoinlaw15.CheckNames'. -/
def checkNamesCard : Claim7 := { stood := { row := checkNamesRow, standIns := [], harness := (true, "b8b16c8ca202afab7c3919536a893498c42e378727768fee55d4ac5db8e2d013"), looks := true }, kinds := [], alts := [], laidByText := true, laidKinds := [.data, .data, .data, .sentinel, .sentinel, .listed, .data], laidTests := true, laidLooks := .later }
def CheckNamesCardSaid : Prop := Claim7.holds Tryz.pinned (.plain (OpenSpec.ofChange checkNamesSpec)) checkNamesCard

/-- THE SECOND FORM's CARD OF 'quoinlaw16.ExportNames'. -/
def exportNamesUptoCard : Claim7 := { stood := { row := exportNamesUptoRow, standIns := [], harness := (true, "b8b16c8ca202afab7c3919536a893498c42e378727768fee55d4ac5db8e2d013"), looks := true }, kinds := [], alts := [], laidByText := true, laidKinds := [.listed, .data], laidTests := true, laidLooks := .later }
def ExportNamesUptoCardSaid : Prop := Claim7.holds Tryz.pinned (.plain (OpenSpec.upto exportNamesSpec)) exportNamesUptoCard

/-- THE SECOND FORM's CARD OF 'quoinlaw06.FilexNames'. -/
def filexNamesUptoCard : Claim7 := { stood := { row := filexNamesUptoRow, standIns := [], harness := (true, "b8b16c8ca202afab7c3919536a893498c42e378727768fee55d4ac5db8e2d013"), looks := true }, kinds := [], alts := [], laidByText := true, laidKinds := [.data, .data, .data, .sentinel, .sentinel, .listed, .data], laidTests := true, laidLooks := .later }
def FilexNamesUptoCardSaid : Prop := Claim7.holds Tryz.pinned (.plain (OpenSpec.upto filexNamesSpec)) filexNamesUptoCard

/-- THE SECOND FORM's CARD OF 'quoinlaw10.SigNames'. -/
def sigNamesUptoCard : Claim7 := { stood := { row := sigNamesUptoRow, standIns := [], harness := (true, "b8b16c8ca202afab7c3919536a893498c42e378727768fee55d4ac5db8e2d013"), looks := true }, kinds := [], alts := [], laidByText := true, laidKinds := [.data, .data, .data, .sentinel, .sentinel, .listed, .data], laidTests := true, laidLooks := .later }
def SigNamesUptoCardSaid : Prop := Claim7.holds Tryz.pinned (.plain (OpenSpec.upto sigNamesSpec)) sigNamesUptoCard

/-- THE SECOND FORM's CARD OF 'quoinlaw13.ValueNames'. -/
def valueNamesUptoCard : Claim7 := { stood := { row := valueNamesUptoRow, standIns := [], harness := (true, "b8b16c8ca202afab7c3919536a893498c42e378727768fee55d4ac5db8e2d013"), looks := true }, kinds := [], alts := [], laidByText := true, laidKinds := [.data, .data, .data, .sentinel, .sentinel, .listed, .data], laidTests := true, laidLooks := .later }
def ValueNamesUptoCardSaid : Prop := Claim7.holds Tryz.pinned (.plain (OpenSpec.upto valueNamesSpec)) valueNamesUptoCard

/-- THE SECOND FORM's CARD OF 'quoinlaw15.CheckNames'. -/
def checkNamesUptoCard : Claim7 := { stood := { row := checkNamesUptoRow, standIns := [], harness := (true, "b8b16c8ca202afab7c3919536a893498c42e378727768fee55d4ac5db8e2d013"), looks := true }, kinds := [], alts := [], laidByText := true, laidKinds := [.data, .data, .data, .sentinel, .sentinel, .listed, .data], laidTests := true, laidLooks := .later }
def CheckNamesUptoCardSaid : Prop := Claim7.holds Tryz.pinned (.plain (OpenSpec.upto checkNamesSpec)) checkNamesUptoCard
end Rows
end Go.Proofs.YtkeanagdncbjjaaGreatDoor
