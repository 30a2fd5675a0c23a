/- The law stmtxNames: facts of its row, joined. -/
import Derived.Test.YtipiffhjilidlaaDoorStmtxNamesJa
import Derived.Test.YtipiffhjilidlaaDoorStmtxNamesJb
import Derived.Test.YtipiffhjilidlaaDoorStmtxNamesJc
import Derived.Test.YtipiffhjilidlaaDoorStmtxNamesJd
namespace Go.Proofs.YtipiffhjilidlaaDoor
open Go
theorem stmtxNames_closed : joinedFacts Tryd.prog 7 Tryd.f7 Rows.stmtxNamesSpec Rows.stmtxNamesRow = true := by
  unfold joinedFacts
  rw [stmtxNames_j_laidOut, stmtxNames_j_mapsRowed, stmtxNames_j_inPlace, stmtxNames_j_unf, stmtxNames_j_recs, stmtxNames_j_named]
  kernel_rfl
end Go.Proofs.YtipiffhjilidlaaDoor
