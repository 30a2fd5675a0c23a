/- laid for this seat: VbStmtxTextsJc -/
import Derived.Test.YtipiffhjilidlaaGreatDoorRows
import Derived.JoinedOf
set_option linter.unusedVariables false
set_option linter.unusedSimpArgs false
/- The law stmtxTexts: facts of its row. -/
namespace Go.Proofs.YtipiffhjilidlaaGreatDoor
open Go
theorem stmtxTexts_j_unf:(Rows.stmtxTextsRow.unfollowed==Tryz.prog.unfollowed 4)=true:=by kernel_rfl
theorem stmtxTexts_j_recs:(Rows.stmtxTextsRow.recurses==Tryz.prog.recurses 4)=true:=by kernel_rfl
end Go.Proofs.YtipiffhjilidlaaGreatDoor
