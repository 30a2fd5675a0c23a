/- laid for this seat: VbExprxDeepJd -/
import Derived.Test.YtipiffhjilidlaaDoorRows
import Derived.JoinedOf
/- The law exprxDeep: facts of its row. -/
namespace Go.Proofs.YtipiffhjilidlaaDoor
open Go
theorem exprxDeep_j_named : (Rows.exprxDeepRow.named == Tryd.prog.varsNamed 6) = true := by kernel_rfl
end Go.Proofs.YtipiffhjilidlaaDoor
