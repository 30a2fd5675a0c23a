/- The law exprxNames: facts of its row. -/
import Derived.Test.YtipiffhjilidlaaDoorRows
import Derived.JoinedOf
namespace Go.Proofs.YtipiffhjilidlaaDoor
open Go
theorem exprxNames_j_unf : (Rows.exprxNamesRow.unfollowed == Tryd.prog.unfollowed 3) = true := by kernel_rfl
theorem exprxNames_j_recs : (Rows.exprxNamesRow.recurses == Tryd.prog.recurses 3) = true := by kernel_rfl
end Go.Proofs.YtipiffhjilidlaaDoor
