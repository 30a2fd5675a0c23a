/- laid for this seat: VbExprxDeepJb -/
import Derived.Test.YtipiffhjilidlaaDoorRows
import Derived.JoinedOf
/- The law exprxDeep: facts of its row. -/
namespace Go.Proofs.YtipiffhjilidlaaDoor
open Go
theorem exprxDeep_j_mapsRowed : (mapsRowed Tryd.prog) = true := by kernel_rfl
theorem exprxDeep_j_inPlace : (Rows.exprxDeepRow.inPlace == Tryd.prog.inPlace 6) = true := by kernel_rfl
end Go.Proofs.YtipiffhjilidlaaDoor
