/- The law stmtxNames: facts of its row. -/
import Derived.Test.YtipiffhjilidlaaDoorRows
import Derived.JoinedOf
namespace Go.Proofs.YtipiffhjilidlaaDoor
open Go
theorem stmtxNames_j_named : (Rows.stmtxNamesRow.named == Tryd.prog.varsNamed 7) = true := by kernel_rfl
end Go.Proofs.YtipiffhjilidlaaDoor
