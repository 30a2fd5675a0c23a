/- laid for this seat: VbStmtxJoinsJd -/
import Derived.Test.YtipiffhjilidlaaDoorRows
import Derived.JoinedOf
/- The law stmtxJoins: facts of its row. -/
namespace Go.Proofs.YtipiffhjilidlaaDoor
open Go
theorem stmtxJoins_j_named : (Rows.stmtxJoinsRow.named == Tryd.prog.varsNamed 9) = true := by kernel_rfl
end Go.Proofs.YtipiffhjilidlaaDoor
