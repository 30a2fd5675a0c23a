/- laid for this seat: VbStmtxJoinsJe -/
import Derived.Test.YtipiffhjilidlaaDoorVbStmtxJoinsJa
import Derived.Test.YtipiffhjilidlaaDoorVbStmtxJoinsJb
import Derived.Test.YtipiffhjilidlaaDoorVbStmtxJoinsJc
import Derived.Test.YtipiffhjilidlaaDoorVbStmtxJoinsJd
/- The law stmtxJoins: facts of its row, joined. -/
namespace Go.Proofs.YtipiffhjilidlaaDoor
open Go
theorem stmtxJoins_closed : joinedFacts Tryd.prog 9 Tryd.f9 Rows.stmtxJoinsSpec Rows.stmtxJoinsRow = true := by
 unfold joinedFacts
 rw [stmtxJoins_j_laidOut, stmtxJoins_j_mapsRowed, stmtxJoins_j_inPlace, stmtxJoins_j_unf, stmtxJoins_j_recs, stmtxJoins_j_named]
 kernel_rfl
end Go.Proofs.YtipiffhjilidlaaDoor
