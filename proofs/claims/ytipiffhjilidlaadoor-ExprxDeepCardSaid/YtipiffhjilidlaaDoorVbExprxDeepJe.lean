/- laid for this seat: VbExprxDeepJe -/
import Derived.Test.YtipiffhjilidlaaDoorVbExprxDeepJa
import Derived.Test.YtipiffhjilidlaaDoorVbExprxDeepJb
import Derived.Test.YtipiffhjilidlaaDoorVbExprxDeepJc
import Derived.Test.YtipiffhjilidlaaDoorVbExprxDeepJd
/- The law exprxDeep: facts of its row, joined. -/
namespace Go.Proofs.YtipiffhjilidlaaDoor
open Go
theorem exprxDeep_closed : joinedFacts Tryd.prog 6 Tryd.f6 Rows.exprxDeepSpec Rows.exprxDeepRow = true := by
 unfold joinedFacts
 rw [exprxDeep_j_laidOut, exprxDeep_j_mapsRowed, exprxDeep_j_inPlace, exprxDeep_j_unf, exprxDeep_j_recs, exprxDeep_j_named]
 kernel_rfl
end Go.Proofs.YtipiffhjilidlaaDoor
