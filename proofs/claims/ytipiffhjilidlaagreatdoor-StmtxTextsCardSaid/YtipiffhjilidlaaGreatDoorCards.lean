/-
  DERIVED. GIVEN WITH THE SEED: THE CARDS: each row of YtipiffhjilidlaaGreatDoorRows.lean that lists a variable, with what it lists TIED to the program's text (the seventh form; the later family's looks); each row that meets fmt, with fmt's text TOLD by the authors' own Lean function (tested against real Go, not proved from fmt's source: count such statements apart). THE CARD IS WHAT COUNTS. Prove the row's statement (the work); the ties are given (YtipiffhjilidlaaGreatDoorTie.lean); close each card by the builder's one call (the guide's Derived/Test/ToyasCard.lean, 'card_holds'). Laid BY PROGRAM, IN A SANDBOX (cutbox-door.mjs). By AI agents, Wed Nov 11 2026. No macro, syntax, notation, axiom, sorry.
-/
import Derived.Test.YtipiffhjilidlaaGreatDoorRows
import GoSem.ClaimSeven
namespace Go.Proofs.YtipiffhjilidlaaGreatDoor
namespace Rows

/-- THE TIED CARD OF 'quoinlaw05.StmtxReads'. -/
def stmtxReadsCard : Claim7 := { stood := { row := stmtxReadsRow, standIns := [], harness := (true, "b9c30367a6230684e2b66c22af24b90a57810ac588264d0d1145a82c7d9fdfb3"), looks := true }, kinds := [], alts := [], laidByText := true, laidKinds := [.data, .data, .data, .sentinel, .sentinel, .listed, .data], laidTests := true, laidLooks := .later }
def StmtxReadsCardSaid : Prop := Claim7.holds Tryz.pinned (.plain (OpenSpec.ofChange stmtxReadsSpec)) stmtxReadsCard

/-- THE TIED CARD OF 'quoinlaw05.StmtxTexts'. -/
def stmtxTextsCard : Claim7 := { stood := { row := stmtxTextsRow, standIns := [], harness := (true, "b9c30367a6230684e2b66c22af24b90a57810ac588264d0d1145a82c7d9fdfb3"), looks := true }, kinds := [], alts := [], laidByText := true, laidKinds := [.data, .data, .data, .sentinel, .sentinel, .listed, .data], laidTests := true, laidLooks := .later }
def StmtxTextsCardSaid : Prop := Claim7.holds Tryz.pinned (.plain (OpenSpec.ofChange stmtxTextsSpec)) stmtxTextsCard

/-- THE SECOND FORM's CARD OF 'quoinlaw05.StmtxReads'. -/
def stmtxReadsUptoCard : Claim7 := { stood := { row := stmtxReadsUptoRow, standIns := [], harness := (true, "b9c30367a6230684e2b66c22af24b90a57810ac588264d0d1145a82c7d9fdfb3"), looks := true }, kinds := [], alts := [], laidByText := true, laidKinds := [.data, .data, .data, .sentinel, .sentinel, .listed, .data], laidTests := true, laidLooks := .later }
def StmtxReadsUptoCardSaid : Prop := Claim7.holds Tryz.pinned (.plain (OpenSpec.upto stmtxReadsSpec)) stmtxReadsUptoCard

/-- THE SECOND FORM's CARD OF 'quoinlaw05.StmtxTexts'. -/
def stmtxTextsUptoCard : Claim7 := { stood := { row := stmtxTextsUptoRow, standIns := [], harness := (true, "b9c30367a6230684e2b66c22af24b90a57810ac588264d0d1145a82c7d9fdfb3"), looks := true }, kinds := [], alts := [], laidByText := true, laidKinds := [.data, .data, .data, .sentinel, .sentinel, .listed, .data], laidTests := true, laidLooks := .later }
def StmtxTextsUptoCardSaid : Prop := Claim7.holds Tryz.pinned (.plain (OpenSpec.upto stmtxTextsSpec)) stmtxTextsUptoCard
end Rows
end Go.Proofs.YtipiffhjilidlaaGreatDoor
