/- laid for this seat: VbStmtxTextsJb -/
import Derived.Test.YtipiffhjilidlaaGreatDoorRows
import Derived.JoinedOf
set_option linter.unusedVariables false
set_option linter.unusedSimpArgs false
/- The law stmtxTexts: facts of its row. -/
namespace Go.Proofs.YtipiffhjilidlaaGreatDoor
open Go
theorem stmtxTexts_j_mapsRowed:(mapsRowed Tryz.prog)=true:=by kernel_rfl
theorem stmtxTexts_j_inPlace:(Rows.stmtxTextsRow.inPlace==Tryz.prog.inPlace 4)=true:=by kernel_rfl
end Go.Proofs.YtipiffhjilidlaaGreatDoor
