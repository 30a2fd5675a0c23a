/- laid for this seat: VbExprxLiesJc -/
import Derived.Test.YtipiffhjilidlaaDoorRows
import Derived.JoinedOf
/- The law exprxLies: facts of its row. -/
namespace Go.Proofs.YtipiffhjilidlaaDoor
open Go
theorem exprxLies_j_unf : (Rows.exprxLiesRow.unfollowed == Tryd.prog.unfollowed 4) = true := by kernel_rfl
theorem exprxLies_j_recs : (Rows.exprxLiesRow.recurses == Tryd.prog.recurses 4) = true := by kernel_rfl
end Go.Proofs.YtipiffhjilidlaaDoor
