/- laid for this seat: VbExprxBracketsJa -/
import Derived.Test.YtipiffhjilidlaaDoorRows
import Derived.JoinedOf
/- The law exprxBrackets: facts of its row. -/
namespace Go.Proofs.YtipiffhjilidlaaDoor
open Go
theorem exprxBrackets_j_laidOut : (laidOutB Tryd.prog) = true := by kernel_rfl
end Go.Proofs.YtipiffhjilidlaaDoor
