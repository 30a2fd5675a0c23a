/- laid for this seat: VbStmtxDeepJc -/
import Derived.Test.YtipiffhjilidlaaDoorRows
import Derived.JoinedOf
/- The law stmtxDeep: facts of its row. -/
namespace Go.Proofs.YtipiffhjilidlaaDoor
open Go
theorem stmtxDeep_j_unf : (Rows.stmtxDeepRow.unfollowed == Tryd.prog.unfollowed 10) = true := by kernel_rfl
theorem stmtxDeep_j_recs : (Rows.stmtxDeepRow.recurses == Tryd.prog.recurses 10) = true := by kernel_rfl
end Go.Proofs.YtipiffhjilidlaaDoor
