/- laid for this seat: VbStmtxReadsJe -/
import Derived.Test.YtipiffhjilidlaaGreatDoorVbStmtxReadsJa
import Derived.Test.YtipiffhjilidlaaGreatDoorVbStmtxReadsJb
import Derived.Test.YtipiffhjilidlaaGreatDoorVbStmtxReadsJc
import Derived.Test.YtipiffhjilidlaaGreatDoorVbStmtxReadsJd
set_option linter.unusedVariables false
set_option linter.unusedSimpArgs false
/- The law stmtxReads: facts of its row, joined. -/
namespace Go.Proofs.YtipiffhjilidlaaGreatDoor
open Go
theorem stmtxReads_closed:joinedFacts Tryz.prog 3 Tryz.f3 Rows.stmtxReadsSpec Rows.stmtxReadsRow=true:=by
 unfold joinedFacts
 rw[stmtxReads_j_laidOut,stmtxReads_j_mapsRowed,stmtxReads_j_inPlace,stmtxReads_j_unf,stmtxReads_j_recs,stmtxReads_j_named]
 kernel_rfl
end Go.Proofs.YtipiffhjilidlaaGreatDoor
