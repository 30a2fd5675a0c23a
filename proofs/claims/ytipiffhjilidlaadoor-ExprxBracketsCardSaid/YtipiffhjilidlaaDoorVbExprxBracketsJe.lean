/- laid for this seat: VbExprxBracketsJe -/
import Derived.Test.YtipiffhjilidlaaDoorVbExprxBracketsJa
import Derived.Test.YtipiffhjilidlaaDoorVbExprxBracketsJb
import Derived.Test.YtipiffhjilidlaaDoorVbExprxBracketsJc
import Derived.Test.YtipiffhjilidlaaDoorVbExprxBracketsJd
/- The law exprxBrackets: facts of its row, joined. -/
namespace Go.Proofs.YtipiffhjilidlaaDoor
open Go
theorem exprxBrackets_closed : joinedFacts Tryd.prog 5 Tryd.f5 Rows.exprxBracketsSpec Rows.exprxBracketsRow = true := by
 unfold joinedFacts
 rw [exprxBrackets_j_laidOut, exprxBrackets_j_mapsRowed, exprxBrackets_j_inPlace, exprxBrackets_j_unf, exprxBrackets_j_recs, exprxBrackets_j_named]
 kernel_rfl
end Go.Proofs.YtipiffhjilidlaaDoor
