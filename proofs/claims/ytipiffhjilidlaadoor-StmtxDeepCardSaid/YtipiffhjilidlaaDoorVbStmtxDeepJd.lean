/- laid for this seat: VbStmtxDeepJd -/
import Derived.Test.YtipiffhjilidlaaDoorRows
import Derived.JoinedOf
/- The law stmtxDeep: facts of its row. -/
namespace Go.Proofs.YtipiffhjilidlaaDoor
open Go
theorem stmtxDeep_j_named : (Rows.stmtxDeepRow.named == Tryd.prog.varsNamed 10) = true := by kernel_rfl
end Go.Proofs.YtipiffhjilidlaaDoor
