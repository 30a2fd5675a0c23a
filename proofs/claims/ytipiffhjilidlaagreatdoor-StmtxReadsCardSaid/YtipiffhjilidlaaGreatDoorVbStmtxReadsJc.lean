/- laid for this seat: VbStmtxReadsJc -/
import Derived.Test.YtipiffhjilidlaaGreatDoorRows
import Derived.JoinedOf
set_option linter.unusedVariables false
set_option linter.unusedSimpArgs false
/- The law stmtxReads: facts of its row. -/
namespace Go.Proofs.YtipiffhjilidlaaGreatDoor
open Go
theorem stmtxReads_j_unf:(Rows.stmtxReadsRow.unfollowed==Tryz.prog.unfollowed 3)=true:=by kernel_rfl
theorem stmtxReads_j_recs:(Rows.stmtxReadsRow.recurses==Tryz.prog.recurses 3)=true:=by kernel_rfl
end Go.Proofs.YtipiffhjilidlaaGreatDoor
