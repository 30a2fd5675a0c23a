/- The law exprxNames: facts of its row. -/
import Derived.Test.YtipiffhjilidlaaDoorRows
import Derived.JoinedOf
namespace Go.Proofs.YtipiffhjilidlaaDoor
open Go
theorem exprxNames_j_mapsRowed : (mapsRowed Tryd.prog) = true := by kernel_rfl
theorem exprxNames_j_inPlace : (Rows.exprxNamesRow.inPlace == Tryd.prog.inPlace 3) = true := by kernel_rfl
end Go.Proofs.YtipiffhjilidlaaDoor
