/- laid for this seat: VbExprxBracketsJd -/
import Derived.Test.YtipiffhjilidlaaDoorRows
import Derived.JoinedOf
/- The law exprxBrackets: facts of its row. -/
namespace Go.Proofs.YtipiffhjilidlaaDoor
open Go
theorem exprxBrackets_j_named : (Rows.exprxBracketsRow.named == Tryd.prog.varsNamed 5) = true := by kernel_rfl
end Go.Proofs.YtipiffhjilidlaaDoor
