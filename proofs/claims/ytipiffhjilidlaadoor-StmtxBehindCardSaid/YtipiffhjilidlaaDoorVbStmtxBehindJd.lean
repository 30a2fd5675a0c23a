/- laid for this seat: VbStmtxBehindJd -/
import Derived.Test.YtipiffhjilidlaaDoorRows
import Derived.JoinedOf
/- The law stmtxBehind: facts of its row. -/
namespace Go.Proofs.YtipiffhjilidlaaDoor
open Go
theorem stmtxBehind_j_named : (Rows.stmtxBehindRow.named == Tryd.prog.varsNamed 8) = true := by kernel_rfl
end Go.Proofs.YtipiffhjilidlaaDoor
