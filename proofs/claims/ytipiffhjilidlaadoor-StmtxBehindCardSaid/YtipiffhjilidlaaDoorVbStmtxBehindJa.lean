/- laid for this seat: VbStmtxBehindJa -/
import Derived.Test.YtipiffhjilidlaaDoorRows
import Derived.JoinedOf
/- The law stmtxBehind: facts of its row. -/
namespace Go.Proofs.YtipiffhjilidlaaDoor
open Go
theorem stmtxBehind_j_laidOut : (laidOutB Tryd.prog) = true := by kernel_rfl
end Go.Proofs.YtipiffhjilidlaaDoor
