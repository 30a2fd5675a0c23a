/- laid for this seat: VbStmtxTextsJa -/
import Derived.Test.YtipiffhjilidlaaGreatDoorRows
import Derived.JoinedOf
set_option linter.unusedVariables false
set_option linter.unusedSimpArgs false
/- The law stmtxTexts: facts of its row. -/
namespace Go.Proofs.YtipiffhjilidlaaGreatDoor
open Go
theorem stmtxTexts_j_laidOut:(laidOutB Tryz.prog)=true:=by kernel_rfl
end Go.Proofs.YtipiffhjilidlaaGreatDoor
