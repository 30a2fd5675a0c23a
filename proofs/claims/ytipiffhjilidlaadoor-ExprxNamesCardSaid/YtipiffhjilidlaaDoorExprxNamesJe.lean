/- The law exprxNames: facts of its row, joined. -/
import Derived.Test.YtipiffhjilidlaaDoorExprxNamesJa
import Derived.Test.YtipiffhjilidlaaDoorExprxNamesJb
import Derived.Test.YtipiffhjilidlaaDoorExprxNamesJc
import Derived.Test.YtipiffhjilidlaaDoorExprxNamesJd
namespace Go.Proofs.YtipiffhjilidlaaDoor
open Go
theorem exprxNames_closed : joinedFacts Tryd.prog 3 Tryd.f3 Rows.exprxNamesSpec Rows.exprxNamesRow = true := by
  unfold joinedFacts
  rw [exprxNames_j_laidOut, exprxNames_j_mapsRowed, exprxNames_j_inPlace, exprxNames_j_unf, exprxNames_j_recs, exprxNames_j_named]
  kernel_rfl
end Go.Proofs.YtipiffhjilidlaaDoor
