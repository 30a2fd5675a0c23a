/- laid for this seat: VbExprxDeepJc -/
import Derived.Test.YtipiffhjilidlaaDoorRows
import Derived.JoinedOf
/- The law exprxDeep: facts of its row. -/
namespace Go.Proofs.YtipiffhjilidlaaDoor
open Go
theorem exprxDeep_j_unf : (Rows.exprxDeepRow.unfollowed == Tryd.prog.unfollowed 6) = true := by kernel_rfl
theorem exprxDeep_j_recs : (Rows.exprxDeepRow.recurses == Tryd.prog.recurses 6) = true := by kernel_rfl
end Go.Proofs.YtipiffhjilidlaaDoor
