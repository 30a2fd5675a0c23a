/-
  DERIVED. GIVEN WITH THE SEED: THE CARDS: each row of YtipiffhjilidlaaDoorRows.lean that lists a variable, with what it lists TIED to the program's text (the seventh form; the later family's looks); each row that meets fmt, with fmt's text TOLD by the authors' own Lean function (tested against real Go, not proved from fmt's source: count such statements apart). THE CARD IS WHAT COUNTS. Prove the row's statement (the work); the ties are given (YtipiffhjilidlaaDoorTie.lean); close each card by the builder's one call (the guide's Derived/Test/ToyasCard.lean, 'card_holds'). Laid BY PROGRAM, IN A SANDBOX (cutbox-door.mjs). By AI agents, Wed Nov 11 2026. No macro, syntax, notation, axiom, sorry.
-/
import Derived.Test.YtipiffhjilidlaaDoorRows
import GoSem.ClaimSeven
namespace Go.Proofs.YtipiffhjilidlaaDoor
namespace Rows

/-- THE TIED CARD OF 'quoinlaw04.ExprxNames'. -/
def exprxNamesCard : Claim7 := { stood := { row := exprxNamesRow, standIns := [], harness := (true, "4ce60ba05452a857bddc1a541d22ed97cf49483ef16069668c4adeffdd4368ca"), looks := true }, kinds := [], alts := [], laidByText := true, laidKinds := [.data, .data, .data, .sentinel, .sentinel, .listed, .data], laidTests := true, laidLooks := .later }
def ExprxNamesCardSaid : Prop := Claim7.holds Tryd.pinned (.plain (OpenSpec.ofChange exprxNamesSpec)) exprxNamesCard

/-- THE TIED CARD OF 'quoinlaw04.ExprxLies'. -/
def exprxLiesCard : Claim7 := { stood := { row := exprxLiesRow, standIns := [], harness := (true, "4ce60ba05452a857bddc1a541d22ed97cf49483ef16069668c4adeffdd4368ca"), looks := true }, kinds := [], alts := [], laidByText := true, laidKinds := [.data, .data, .data, .sentinel, .sentinel, .listed, .data], laidTests := true, laidLooks := .later }
def ExprxLiesCardSaid : Prop := Claim7.holds Tryd.pinned (.plain (OpenSpec.ofChange exprxLiesSpec)) exprxLiesCard

/-- THE TIED CARD OF 'quoinlaw04.ExprxBrackets'. -/
def exprxBracketsCard : Claim7 := { stood := { row := exprxBracketsRow, standIns := [], harness := (true, "4ce60ba05452a857bddc1a541d22ed97cf49483ef16069668c4adeffdd4368ca"), looks := true }, kinds := [], alts := [], laidByText := true, laidKinds := [.data, .data, .data, .sentinel, .sentinel, .listed, .data], laidTests := true, laidLooks := .later }
def ExprxBracketsCardSaid : Prop := Claim7.holds Tryd.pinned (.plain (OpenSpec.ofChange exprxBracketsSpec)) exprxBracketsCard

/-- THE TIED CARD OF 'quoinlaw04.ExprxDeep'. -/
def exprxDeepCard : Claim7 := { stood := { row := exprxDeepRow, standIns := [], harness := (true, "4ce60ba05452a857bddc1a541d22ed97cf49483ef16069668c4adeffdd4368ca"), looks := true }, kinds := [], alts := [], laidByText := true, laidKinds := [.data, .data, .data, .sentinel, .sentinel, .listed, .data], laidTests := true, laidLooks := .later }
def ExprxDeepCardSaid : Prop := Claim7.holds Tryd.pinned (.plain (OpenSpec.ofChange exprxDeepSpec)) exprxDeepCard

/-- THE TIED CARD OF 'quoinlaw05.StmtxNames'. -/
def stmtxNamesCard : Claim7 := { stood := { row := stmtxNamesRow, standIns := [], harness := (true, "4ce60ba05452a857bddc1a541d22ed97cf49483ef16069668c4adeffdd4368ca"), looks := true }, kinds := [], alts := [], laidByText := true, laidKinds := [.data, .data, .data, .sentinel, .sentinel, .listed, .data], laidTests := true, laidLooks := .later }
def StmtxNamesCardSaid : Prop := Claim7.holds Tryd.pinned (.plain (OpenSpec.ofChange stmtxNamesSpec)) stmtxNamesCard

/-- THE TIED CARD OF 'quoinlaw05.StmtxBehind'. -/
def stmtxBehindCard : Claim7 := { stood := { row := stmtxBehindRow, standIns := [], harness := (true, "4ce60ba05452a857bddc1a541d22ed97cf49483ef16069668c4adeffdd4368ca"), looks := true }, kinds := [], alts := [], laidByText := true, laidKinds := [.data, .data, .data, .sentinel, .sentinel, .listed, .data], laidTests := true, laidLooks := .later }
def StmtxBehindCardSaid : Prop := Claim7.holds Tryd.pinned (.plain (OpenSpec.ofChange stmtxBehindSpec)) stmtxBehindCard

/-- THE TIED CARD OF 'quoinlaw05.StmtxJoins'. -/
def stmtxJoinsCard : Claim7 := { stood := { row := stmtxJoinsRow, standIns := [], harness := (true, "4ce60ba05452a857bddc1a541d22ed97cf49483ef16069668c4adeffdd4368ca"), looks := true }, kinds := [], alts := [], laidByText := true, laidKinds := [.data, .data, .data, .sentinel, .sentinel, .listed, .data], laidTests := true, laidLooks := .later }
def StmtxJoinsCardSaid : Prop := Claim7.holds Tryd.pinned (.plain (OpenSpec.ofChange stmtxJoinsSpec)) stmtxJoinsCard

/-- THE TIED CARD OF 'quoinlaw05.StmtxDeep'. -/
def stmtxDeepCard : Claim7 := { stood := { row := stmtxDeepRow, standIns := [], harness := (true, "4ce60ba05452a857bddc1a541d22ed97cf49483ef16069668c4adeffdd4368ca"), looks := true }, kinds := [], alts := [], laidByText := true, laidKinds := [.data, .data, .data, .sentinel, .sentinel, .listed, .data], laidTests := true, laidLooks := .later }
def StmtxDeepCardSaid : Prop := Claim7.holds Tryd.pinned (.plain (OpenSpec.ofChange stmtxDeepSpec)) stmtxDeepCard

/-- THE SECOND FORM's CARD OF 'quoinlaw04.ExprxNames'. -/
def exprxNamesUptoCard : Claim7 := { stood := { row := exprxNamesUptoRow, standIns := [], harness := (true, "4ce60ba05452a857bddc1a541d22ed97cf49483ef16069668c4adeffdd4368ca"), looks := true }, kinds := [], alts := [], laidByText := true, laidKinds := [.data, .data, .data, .sentinel, .sentinel, .listed, .data], laidTests := true, laidLooks := .later }
def ExprxNamesUptoCardSaid : Prop := Claim7.holds Tryd.pinned (.plain (OpenSpec.upto exprxNamesSpec)) exprxNamesUptoCard

/-- THE SECOND FORM's CARD OF 'quoinlaw04.ExprxLies'. -/
def exprxLiesUptoCard : Claim7 := { stood := { row := exprxLiesUptoRow, standIns := [], harness := (true, "4ce60ba05452a857bddc1a541d22ed97cf49483ef16069668c4adeffdd4368ca"), looks := true }, kinds := [], alts := [], laidByText := true, laidKinds := [.data, .data, .data, .sentinel, .sentinel, .listed, .data], laidTests := true, laidLooks := .later }
def ExprxLiesUptoCardSaid : Prop := Claim7.holds Tryd.pinned (.plain (OpenSpec.upto exprxLiesSpec)) exprxLiesUptoCard

/-- THE SECOND FORM's CARD OF 'quoinlaw04.ExprxBrackets'. -/
def exprxBracketsUptoCard : Claim7 := { stood := { row := exprxBracketsUptoRow, standIns := [], harness := (true, "4ce60ba05452a857bddc1a541d22ed97cf49483ef16069668c4adeffdd4368ca"), looks := true }, kinds := [], alts := [], laidByText := true, laidKinds := [.data, .data, .data, .sentinel, .sentinel, .listed, .data], laidTests := true, laidLooks := .later }
def ExprxBracketsUptoCardSaid : Prop := Claim7.holds Tryd.pinned (.plain (OpenSpec.upto exprxBracketsSpec)) exprxBracketsUptoCard

/-- THE SECOND FORM's CARD OF 'quoinlaw04.ExprxDeep'. -/
def exprxDeepUptoCard : Claim7 := { stood := { row := exprxDeepUptoRow, standIns := [], harness := (true, "4ce60ba05452a857bddc1a541d22ed97cf49483ef16069668c4adeffdd4368ca"), looks := true }, kinds := [], alts := [], laidByText := true, laidKinds := [.data, .data, .data, .sentinel, .sentinel, .listed, .data], laidTests := true, laidLooks := .later }
def ExprxDeepUptoCardSaid : Prop := Claim7.holds Tryd.pinned (.plain (OpenSpec.upto exprxDeepSpec)) exprxDeepUptoCard

/-- THE SECOND FORM's CARD OF 'quoinlaw05.StmtxNames'. -/
def stmtxNamesUptoCard : Claim7 := { stood := { row := stmtxNamesUptoRow, standIns := [], harness := (true, "4ce60ba05452a857bddc1a541d22ed97cf49483ef16069668c4adeffdd4368ca"), looks := true }, kinds := [], alts := [], laidByText := true, laidKinds := [.data, .data, .data, .sentinel, .sentinel, .listed, .data], laidTests := true, laidLooks := .later }
def StmtxNamesUptoCardSaid : Prop := Claim7.holds Tryd.pinned (.plain (OpenSpec.upto stmtxNamesSpec)) stmtxNamesUptoCard

/-- THE SECOND FORM's CARD OF 'quoinlaw05.StmtxBehind'. -/
def stmtxBehindUptoCard : Claim7 := { stood := { row := stmtxBehindUptoRow, standIns := [], harness := (true, "4ce60ba05452a857bddc1a541d22ed97cf49483ef16069668c4adeffdd4368ca"), looks := true }, kinds := [], alts := [], laidByText := true, laidKinds := [.data, .data, .data, .sentinel, .sentinel, .listed, .data], laidTests := true, laidLooks := .later }
def StmtxBehindUptoCardSaid : Prop := Claim7.holds Tryd.pinned (.plain (OpenSpec.upto stmtxBehindSpec)) stmtxBehindUptoCard

/-- THE SECOND FORM's CARD OF 'quoinlaw05.StmtxJoins'. -/
def stmtxJoinsUptoCard : Claim7 := { stood := { row := stmtxJoinsUptoRow, standIns := [], harness := (true, "4ce60ba05452a857bddc1a541d22ed97cf49483ef16069668c4adeffdd4368ca"), looks := true }, kinds := [], alts := [], laidByText := true, laidKinds := [.data, .data, .data, .sentinel, .sentinel, .listed, .data], laidTests := true, laidLooks := .later }
def StmtxJoinsUptoCardSaid : Prop := Claim7.holds Tryd.pinned (.plain (OpenSpec.upto stmtxJoinsSpec)) stmtxJoinsUptoCard

/-- THE SECOND FORM's CARD OF 'quoinlaw05.StmtxDeep'. -/
def stmtxDeepUptoCard : Claim7 := { stood := { row := stmtxDeepUptoRow, standIns := [], harness := (true, "4ce60ba05452a857bddc1a541d22ed97cf49483ef16069668c4adeffdd4368ca"), looks := true }, kinds := [], alts := [], laidByText := true, laidKinds := [.data, .data, .data, .sentinel, .sentinel, .listed, .data], laidTests := true, laidLooks := .later }
def StmtxDeepUptoCardSaid : Prop := Claim7.holds Tryd.pinned (.plain (OpenSpec.upto stmtxDeepSpec)) stmtxDeepUptoCard
end Rows
end Go.Proofs.YtipiffhjilidlaaDoor
