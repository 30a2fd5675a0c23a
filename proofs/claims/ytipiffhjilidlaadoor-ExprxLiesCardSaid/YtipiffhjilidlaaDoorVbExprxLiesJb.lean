/- laid for this seat: VbExprxLiesJb -/
import Derived.Test.YtipiffhjilidlaaDoorRows
import Derived.JoinedOf
/- The law exprxLies: facts of its row. -/
namespace Go.Proofs.YtipiffhjilidlaaDoor
open Go
theorem exprxLies_j_mapsRowed : (mapsRowed Tryd.prog) = true := by kernel_rfl
theorem exprxLies_j_inPlace : (Rows.exprxLiesRow.inPlace == Tryd.prog.inPlace 4) = true := by kernel_rfl
end Go.Proofs.YtipiffhjilidlaaDoor
