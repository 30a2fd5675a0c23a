/- laid for this seat: VbStmtxJoinsJc -/
import Derived.Test.YtipiffhjilidlaaDoorRows
import Derived.JoinedOf
/- The law stmtxJoins: facts of its row. -/
namespace Go.Proofs.YtipiffhjilidlaaDoor
open Go
theorem stmtxJoins_j_unf : (Rows.stmtxJoinsRow.unfollowed == Tryd.prog.unfollowed 9) = true := by kernel_rfl
theorem stmtxJoins_j_recs : (Rows.stmtxJoinsRow.recurses == Tryd.prog.recurses 9) = true := by kernel_rfl
end Go.Proofs.YtipiffhjilidlaaDoor
