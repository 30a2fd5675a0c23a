/- laid for this seat: VbExprxBracketsJb -/
import Derived.Test.YtipiffhjilidlaaDoorRows
import Derived.JoinedOf
/- The law exprxBrackets: facts of its row. -/
namespace Go.Proofs.YtipiffhjilidlaaDoor
open Go
theorem exprxBrackets_j_mapsRowed : (mapsRowed Tryd.prog) = true := by kernel_rfl
theorem exprxBrackets_j_inPlace : (Rows.exprxBracketsRow.inPlace == Tryd.prog.inPlace 5) = true := by kernel_rfl
end Go.Proofs.YtipiffhjilidlaaDoor
