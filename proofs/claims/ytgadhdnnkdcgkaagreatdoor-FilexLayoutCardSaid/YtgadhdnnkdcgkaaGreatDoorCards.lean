/-
  DERIVED. GIVEN WITH THE SEED: THE CARDS: each row of YtgadhdnnkdcgkaaGreatDoorRows.lean that lists a variable, with what it lists TIED to the program's text (the seventh form; the later family's looks); each row that meets fmt, with fmt's text TOLD by the authors' own Lean function (tested against real Go, not proved from fmt's source: count such statements apart). THE CARD IS WHAT COUNTS. Prove the row's statement (the work); the ties are given (YtgadhdnnkdcgkaaGreatDoorTie.lean); close each card by the builder's one call (the guide's Derived/Test/ToyasCard.lean, 'card_holds'). Laid BY PROGRAM, IN A SANDBOX (cutbox-door.mjs). By AI agents, Wed Nov 11 2026. No macro, syntax, notation, axiom, sorry.
-/
import Derived.Test.YtgadhdnnkdcgkaaGreatDoorRows
import GoSem.ClaimSeven
namespace Go.Proofs.YtgadhdnnkdcgkaaGreatDoor
namespace Rows

/-- THE TIED CARD OF 'quoinlaw06.FilexTexts'. -/
def filexTextsCard : Claim7 := { stood := { row := filexTextsRow, standIns := [], harness := (true, "0d5ff05acc51def3eacaac4c212bad8f7e61e48271c4870319daa60b81a99719"), looks := true }, kinds := [], alts := [], laidByText := true, laidKinds := [.data, .data, .data, .sentinel, .sentinel, .listed, .data], laidTests := true, laidLooks := .later }
def FilexTextsCardSaid : Prop := Claim7.holds Tryz.pinned (.plain (OpenSpec.ofChange filexTextsSpec)) filexTextsCard

/-- THE TIED CARD OF 'quoinlaw06.FilexLies'. -/
def filexLiesCard : Claim7 := { stood := { row := filexLiesRow, standIns := [], harness := (true, "0d5ff05acc51def3eacaac4c212bad8f7e61e48271c4870319daa60b81a99719"), looks := true }, kinds := [], alts := [], laidByText := true, laidKinds := [.data, .data, .data, .sentinel, .sentinel, .listed, .data], laidTests := true, laidLooks := .later }
def FilexLiesCardSaid : Prop := Claim7.holds Tryz.pinned (.plain (OpenSpec.ofChange filexLiesSpec)) filexLiesCard

/-- THE TIED CARD OF 'quoinlaw06.FilexLayout'. -/
def filexLayoutCard : Claim7 := { stood := { row := filexLayoutRow, standIns := [], harness := (true, "0d5ff05acc51def3eacaac4c212bad8f7e61e48271c4870319daa60b81a99719"), looks := true }, kinds := [], alts := [], laidByText := true, laidKinds := [.data, .data, .data, .sentinel, .sentinel, .listed, .data], laidTests := true, laidLooks := .later }
def FilexLayoutCardSaid : Prop := Claim7.holds Tryz.pinned (.plain (OpenSpec.ofChange filexLayoutSpec)) filexLayoutCard

/-- THE TIED CARD OF 'quoinlaw06.FilexMore'. -/
def filexMoreCard : Claim7 := { stood := { row := filexMoreRow, standIns := [], harness := (true, "0d5ff05acc51def3eacaac4c212bad8f7e61e48271c4870319daa60b81a99719"), looks := true }, kinds := [], alts := [], laidByText := true, laidKinds := [.data, .data, .data, .sentinel, .sentinel, .listed, .data], laidTests := true, laidLooks := .later }
def FilexMoreCardSaid : Prop := Claim7.holds Tryz.pinned (.plain (OpenSpec.ofChange filexMoreSpec)) filexMoreCard

/-- THE SECOND FORM's CARD OF 'quoinlaw06.FilexTexts'. -/
def filexTextsUptoCard : Claim7 := { stood := { row := filexTextsUptoRow, standIns := [], harness := (true, "0d5ff05acc51def3eacaac4c212bad8f7e61e48271c4870319daa60b81a99719"), looks := true }, kinds := [], alts := [], laidByText := true, laidKinds := [.data, .data, .data, .sentinel, .sentinel, .listed, .data], laidTests := true, laidLooks := .later }
def FilexTextsUptoCardSaid : Prop := Claim7.holds Tryz.pinned (.plain (OpenSpec.upto filexTextsSpec)) filexTextsUptoCard

/-- THE SECOND FORM's CARD OF 'quoinlaw06.FilexLies'. -/
def filexLiesUptoCard : Claim7 := { stood := { row := filexLiesUptoRow, standIns := [], harness := (true, "0d5ff05acc51def3eacaac4c212bad8f7e61e48271c4870319daa60b81a99719"), looks := true }, kinds := [], alts := [], laidByText := true, laidKinds := [.data, .data, .data, .sentinel, .sentinel, .listed, .data], laidTests := true, laidLooks := .later }
def FilexLiesUptoCardSaid : Prop := Claim7.holds Tryz.pinned (.plain (OpenSpec.upto filexLiesSpec)) filexLiesUptoCard

/-- THE SECOND FORM's CARD OF 'quoinlaw06.FilexLayout'. -/
def filexLayoutUptoCard : Claim7 := { stood := { row := filexLayoutUptoRow, standIns := [], harness := (true, "0d5ff05acc51def3eacaac4c212bad8f7e61e48271c4870319daa60b81a99719"), looks := true }, kinds := [], alts := [], laidByText := true, laidKinds := [.data, .data, .data, .sentinel, .sentinel, .listed, .data], laidTests := true, laidLooks := .later }
def FilexLayoutUptoCardSaid : Prop := Claim7.holds Tryz.pinned (.plain (OpenSpec.upto filexLayoutSpec)) filexLayoutUptoCard

/-- THE SECOND FORM's CARD OF 'quoinlaw06.FilexMore'. -/
def filexMoreUptoCard : Claim7 := { stood := { row := filexMoreUptoRow, standIns := [], harness := (true, "0d5ff05acc51def3eacaac4c212bad8f7e61e48271c4870319daa60b81a99719"), looks := true }, kinds := [], alts := [], laidByText := true, laidKinds := [.data, .data, .data, .sentinel, .sentinel, .listed, .data], laidTests := true, laidLooks := .later }
def FilexMoreUptoCardSaid : Prop := Claim7.holds Tryz.pinned (.plain (OpenSpec.upto filexMoreSpec)) filexMoreUptoCard
end Rows
end Go.Proofs.YtgadhdnnkdcgkaaGreatDoor
