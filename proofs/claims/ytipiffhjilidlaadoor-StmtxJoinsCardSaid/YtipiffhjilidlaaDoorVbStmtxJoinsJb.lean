/- laid for this seat: VbStmtxJoinsJb -/
import Derived.Test.YtipiffhjilidlaaDoorRows
import Derived.JoinedOf
/- The law stmtxJoins: facts of its row. -/
namespace Go.Proofs.YtipiffhjilidlaaDoor
open Go
theorem stmtxJoins_j_mapsRowed : (mapsRowed Tryd.prog) = true := by kernel_rfl
theorem stmtxJoins_j_inPlace : (Rows.stmtxJoinsRow.inPlace == Tryd.prog.inPlace 9) = true := by kernel_rfl
end Go.Proofs.YtipiffhjilidlaaDoor
