/-
  DERIVED. GIVEN WITH THE SEED: THE CARDS: each row of YtaednlggmjlaaaaGreatDoorRows.lean that lists a variable, with what it lists TIED to the program's text (the seventh form; the later family's looks); each row that meets fmt, with fmt's text TOLD by the authors' own Lean function (tested against real Go, not proved from fmt's source: count such statements apart). THE CARD IS WHAT COUNTS. Prove the row's statement (the work); the ties are given (YtaednlggmjlaaaaGreatDoorTie.lean); close each card by the builder's one call (the guide's Derived/Test/ToyasCard.lean, 'card_holds'). Laid BY PROGRAM, IN A SANDBOX (cutbox-door.mjs). By AI agents, Wed Nov 11 2026. No macro, syntax, notation, axiom, sorry.
-/
import Derived.Test.YtaednlggmjlaaaaGreatDoorRows
import GoSem.ClaimSeven
namespace Go.Proofs.YtaednlggmjlaaaaGreatDoor
namespace Rows

/-- THE TIED CARD OF 'quoinlaw14.BodyNames'. -/
def bodyNamesCard : Claim7 := { stood := { row := bodyNamesRow, standIns := [], harness := (true, "af08db9d5389d375f3aa33e544b8364f23bfc1152bfd987f4e6657f6800d6f1c"), looks := true }, kinds := [], alts := [], laidByText := true, laidKinds := [.data, .data, .data, .sentinel, .sentinel, .listed, .data], laidTests := true, laidLooks := .later }
def BodyNamesCardSaid : Prop := Claim7.holds Tryz.pinned (.plain (OpenSpec.ofChange bodyNamesSpec)) bodyNamesCard

/-- THE TIED CARD OF 'quoinlaw14.BodyEnds'. -/
def bodyEndsCard : Claim7 := { stood := { row := bodyEndsRow, standIns := [], harness := (true, "af08db9d5389d375f3aa33e544b8364f23bfc1152bfd987f4e6657f6800d6f1c"), looks := true }, kinds := [], alts := [], laidByText := true, laidKinds := [.data, .data, .data, .sentinel, .sentinel, .listed, .data], laidTests := true, laidLooks := .later }
def BodyEndsCardSaid : Prop := Claim7.holds Tryz.pinned (.plain (OpenSpec.ofChange bodyEndsSpec)) bodyEndsCard

/-- THE SECOND FORM's CARD OF 'quoinlaw14.BodyNames'. -/
def bodyNamesUptoCard : Claim7 := { stood := { row := bodyNamesUptoRow, standIns := [], harness := (true, "af08db9d5389d375f3aa33e544b8364f23bfc1152bfd987f4e6657f6800d6f1c"), looks := true }, kinds := [], alts := [], laidByText := true, laidKinds := [.data, .data, .data, .sentinel, .sentinel, .listed, .data], laidTests := true, laidLooks := .later }
def BodyNamesUptoCardSaid : Prop := Claim7.holds Tryz.pinned (.plain (OpenSpec.upto bodyNamesSpec)) bodyNamesUptoCard

/-- THE SECOND FORM's CARD OF 'quoinlaw14.BodyEnds'. -/
def bodyEndsUptoCard : Claim7 := { stood := { row := bodyEndsUptoRow, standIns := [], harness := (true, "af08db9d5389d375f3aa33e544b8364f23bfc1152bfd987f4e6657f6800d6f1c"), looks := true }, kinds := [], alts := [], laidByText := true, laidKinds := [.data, .data, .data, .sentinel, .sentinel, .listed, .data], laidTests := true, laidLooks := .later }
def BodyEndsUptoCardSaid : Prop := Claim7.holds Tryz.pinned (.plain (OpenSpec.upto bodyEndsSpec)) bodyEndsUptoCard
end Rows
end Go.Proofs.YtaednlggmjlaaaaGreatDoor
