/- The law stmtxNames: facts of its row. -/
import Derived.Test.YtipiffhjilidlaaDoorRows
import Derived.JoinedOf
namespace Go.Proofs.YtipiffhjilidlaaDoor
open Go
theorem stmtxNames_j_unf : (Rows.stmtxNamesRow.unfollowed == Tryd.prog.unfollowed 7) = true := by kernel_rfl
theorem stmtxNames_j_recs : (Rows.stmtxNamesRow.recurses == Tryd.prog.recurses 7) = true := by kernel_rfl
end Go.Proofs.YtipiffhjilidlaaDoor
