/- The law stmtxNames: facts of its row. -/
import Derived.Test.YtipiffhjilidlaaDoorRows
import Derived.JoinedOf
namespace Go.Proofs.YtipiffhjilidlaaDoor
open Go
theorem stmtxNames_j_mapsRowed : (mapsRowed Tryd.prog) = true := by kernel_rfl
theorem stmtxNames_j_inPlace : (Rows.stmtxNamesRow.inPlace == Tryd.prog.inPlace 7) = true := by kernel_rfl
end Go.Proofs.YtipiffhjilidlaaDoor
