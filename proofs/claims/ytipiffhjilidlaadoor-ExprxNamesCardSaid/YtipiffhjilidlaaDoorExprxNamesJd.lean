/- The law exprxNames: facts of its row. -/
import Derived.Test.YtipiffhjilidlaaDoorRows
import Derived.JoinedOf
namespace Go.Proofs.YtipiffhjilidlaaDoor
open Go
theorem exprxNames_j_named : (Rows.exprxNamesRow.named == Tryd.prog.varsNamed 3) = true := by kernel_rfl
end Go.Proofs.YtipiffhjilidlaaDoor
