/- laid for this seat: VbExprxBracketsJc -/
import Derived.Test.YtipiffhjilidlaaDoorRows
import Derived.JoinedOf
/- The law exprxBrackets: facts of its row. -/
namespace Go.Proofs.YtipiffhjilidlaaDoor
open Go
theorem exprxBrackets_j_unf : (Rows.exprxBracketsRow.unfollowed == Tryd.prog.unfollowed 5) = true := by kernel_rfl
theorem exprxBrackets_j_recs : (Rows.exprxBracketsRow.recurses == Tryd.prog.recurses 5) = true := by kernel_rfl
end Go.Proofs.YtipiffhjilidlaaDoor
