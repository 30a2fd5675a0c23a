/- laid for this seat: VbStmtxBehindJc -/
import Derived.Test.YtipiffhjilidlaaDoorRows
import Derived.JoinedOf
/- The law stmtxBehind: facts of its row. -/
namespace Go.Proofs.YtipiffhjilidlaaDoor
open Go
theorem stmtxBehind_j_unf : (Rows.stmtxBehindRow.unfollowed == Tryd.prog.unfollowed 8) = true := by kernel_rfl
theorem stmtxBehind_j_recs : (Rows.stmtxBehindRow.recurses == Tryd.prog.recurses 8) = true := by kernel_rfl
end Go.Proofs.YtipiffhjilidlaaDoor
