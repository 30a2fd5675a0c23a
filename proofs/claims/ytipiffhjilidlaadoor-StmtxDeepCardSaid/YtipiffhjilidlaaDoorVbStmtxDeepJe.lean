/- laid for this seat: VbStmtxDeepJe -/
import Derived.Test.YtipiffhjilidlaaDoorVbStmtxDeepJa
import Derived.Test.YtipiffhjilidlaaDoorVbStmtxDeepJb
import Derived.Test.YtipiffhjilidlaaDoorVbStmtxDeepJc
import Derived.Test.YtipiffhjilidlaaDoorVbStmtxDeepJd
/- The law stmtxDeep: facts of its row, joined. -/
namespace Go.Proofs.YtipiffhjilidlaaDoor
open Go
theorem stmtxDeep_closed : joinedFacts Tryd.prog 10 Tryd.f10 Rows.stmtxDeepSpec Rows.stmtxDeepRow = true := by
 unfold joinedFacts
 rw [stmtxDeep_j_laidOut, stmtxDeep_j_mapsRowed, stmtxDeep_j_inPlace, stmtxDeep_j_unf, stmtxDeep_j_recs, stmtxDeep_j_named]
 kernel_rfl
end Go.Proofs.YtipiffhjilidlaaDoor
