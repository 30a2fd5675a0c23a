/- laid for this seat: VbStmtxDeepJb -/
import Derived.Test.YtipiffhjilidlaaDoorRows
import Derived.JoinedOf
/- The law stmtxDeep: facts of its row. -/
namespace Go.Proofs.YtipiffhjilidlaaDoor
open Go
theorem stmtxDeep_j_mapsRowed : (mapsRowed Tryd.prog) = true := by kernel_rfl
theorem stmtxDeep_j_inPlace : (Rows.stmtxDeepRow.inPlace == Tryd.prog.inPlace 10) = true := by kernel_rfl
end Go.Proofs.YtipiffhjilidlaaDoor
