/- laid for this seat: VbStmtxJoinsJa -/
import Derived.Test.YtipiffhjilidlaaDoorRows
import Derived.JoinedOf
/- The law stmtxJoins: facts of its row. -/
namespace Go.Proofs.YtipiffhjilidlaaDoor
open Go
theorem stmtxJoins_j_laidOut : (laidOutB Tryd.prog) = true := by kernel_rfl
end Go.Proofs.YtipiffhjilidlaaDoor
