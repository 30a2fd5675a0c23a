/- The law stmtxNames: facts of its row. -/
import Derived.Test.YtipiffhjilidlaaDoorRows
import Derived.JoinedOf
namespace Go.Proofs.YtipiffhjilidlaaDoor
open Go
theorem stmtxNames_j_laidOut : (laidOutB Tryd.prog) = true := by kernel_rfl
end Go.Proofs.YtipiffhjilidlaaDoor
