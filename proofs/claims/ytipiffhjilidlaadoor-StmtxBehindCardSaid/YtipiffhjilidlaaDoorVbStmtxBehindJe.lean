/- laid for this seat: VbStmtxBehindJe -/
import Derived.Test.YtipiffhjilidlaaDoorVbStmtxBehindJa
import Derived.Test.YtipiffhjilidlaaDoorVbStmtxBehindJb
import Derived.Test.YtipiffhjilidlaaDoorVbStmtxBehindJc
import Derived.Test.YtipiffhjilidlaaDoorVbStmtxBehindJd
/- The law stmtxBehind: facts of its row, joined. -/
namespace Go.Proofs.YtipiffhjilidlaaDoor
open Go
theorem stmtxBehind_closed : joinedFacts Tryd.prog 8 Tryd.f8 Rows.stmtxBehindSpec Rows.stmtxBehindRow = true := by
 unfold joinedFacts
 rw [stmtxBehind_j_laidOut, stmtxBehind_j_mapsRowed, stmtxBehind_j_inPlace, stmtxBehind_j_unf, stmtxBehind_j_recs, stmtxBehind_j_named]
 kernel_rfl
end Go.Proofs.YtipiffhjilidlaaDoor
