/- laid for this seat: VbStmtxReadsJd -/
import Derived.Test.YtipiffhjilidlaaGreatDoorRows
import Derived.JoinedOf
set_option linter.unusedVariables false
set_option linter.unusedSimpArgs false
/- The law stmtxReads: facts of its row. -/
namespace Go.Proofs.YtipiffhjilidlaaGreatDoor
open Go
theorem stmtxReads_j_named:(Rows.stmtxReadsRow.named==Tryz.prog.varsNamed 3)=true:=by kernel_rfl
end Go.Proofs.YtipiffhjilidlaaGreatDoor
