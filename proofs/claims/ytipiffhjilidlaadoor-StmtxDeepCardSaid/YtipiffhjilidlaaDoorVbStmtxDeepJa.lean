/- laid for this seat: VbStmtxDeepJa -/
import Derived.Test.YtipiffhjilidlaaDoorRows
import Derived.JoinedOf
/- The law stmtxDeep: facts of its row. -/
namespace Go.Proofs.YtipiffhjilidlaaDoor
open Go
theorem stmtxDeep_j_laidOut : (laidOutB Tryd.prog) = true := by kernel_rfl
end Go.Proofs.YtipiffhjilidlaaDoor
