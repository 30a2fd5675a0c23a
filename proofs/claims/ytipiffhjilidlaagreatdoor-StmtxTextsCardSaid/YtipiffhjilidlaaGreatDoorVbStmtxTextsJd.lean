/- laid for this seat: VbStmtxTextsJd -/
import Derived.Test.YtipiffhjilidlaaGreatDoorRows
import Derived.JoinedOf
set_option linter.unusedVariables false
set_option linter.unusedSimpArgs false
/- The law stmtxTexts: facts of its row. -/
namespace Go.Proofs.YtipiffhjilidlaaGreatDoor
open Go
theorem stmtxTexts_j_named:(Rows.stmtxTextsRow.named==Tryz.prog.varsNamed 4)=true:=by kernel_rfl
end Go.Proofs.YtipiffhjilidlaaGreatDoor
