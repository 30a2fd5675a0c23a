/- laid for this seat: VbExprxLiesJe -/
import Derived.Test.YtipiffhjilidlaaDoorVbExprxLiesJa
import Derived.Test.YtipiffhjilidlaaDoorVbExprxLiesJb
import Derived.Test.YtipiffhjilidlaaDoorVbExprxLiesJc
import Derived.Test.YtipiffhjilidlaaDoorVbExprxLiesJd
/- The law exprxLies: facts of its row, joined. -/
namespace Go.Proofs.YtipiffhjilidlaaDoor
open Go
theorem exprxLies_closed : joinedFacts Tryd.prog 4 Tryd.f4 Rows.exprxLiesSpec Rows.exprxLiesRow = true := by
 unfold joinedFacts
 rw [exprxLies_j_laidOut, exprxLies_j_mapsRowed, exprxLies_j_inPlace, exprxLies_j_unf, exprxLies_j_recs, exprxLies_j_named]
 kernel_rfl
end Go.Proofs.YtipiffhjilidlaaDoor
