/- laid for this seat: VbStmtxReadsJb -/
import Derived.Test.YtipiffhjilidlaaGreatDoorRows
import Derived.JoinedOf
set_option linter.unusedVariables false
set_option linter.unusedSimpArgs false
/- The law stmtxReads: facts of its row. -/
namespace Go.Proofs.YtipiffhjilidlaaGreatDoor
open Go
theorem stmtxReads_j_mapsRowed:(mapsRowed Tryz.prog)=true:=by kernel_rfl
theorem stmtxReads_j_inPlace:(Rows.stmtxReadsRow.inPlace==Tryz.prog.inPlace 3)=true:=by kernel_rfl
end Go.Proofs.YtipiffhjilidlaaGreatDoor
