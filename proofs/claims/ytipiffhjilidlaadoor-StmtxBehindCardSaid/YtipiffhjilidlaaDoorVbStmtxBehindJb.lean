/- laid for this seat: VbStmtxBehindJb -/
import Derived.Test.YtipiffhjilidlaaDoorRows
import Derived.JoinedOf
/- The law stmtxBehind: facts of its row. -/
namespace Go.Proofs.YtipiffhjilidlaaDoor
open Go
theorem stmtxBehind_j_mapsRowed : (mapsRowed Tryd.prog) = true := by kernel_rfl
theorem stmtxBehind_j_inPlace : (Rows.stmtxBehindRow.inPlace == Tryd.prog.inPlace 8) = true := by kernel_rfl
end Go.Proofs.YtipiffhjilidlaaDoor
