/- laid for this seat: VbExprxLiesJd -/
import Derived.Test.YtipiffhjilidlaaDoorRows
import Derived.JoinedOf
/- The law exprxLies: facts of its row. -/
namespace Go.Proofs.YtipiffhjilidlaaDoor
open Go
theorem exprxLies_j_named : (Rows.exprxLiesRow.named == Tryd.prog.varsNamed 4) = true := by kernel_rfl
end Go.Proofs.YtipiffhjilidlaaDoor
