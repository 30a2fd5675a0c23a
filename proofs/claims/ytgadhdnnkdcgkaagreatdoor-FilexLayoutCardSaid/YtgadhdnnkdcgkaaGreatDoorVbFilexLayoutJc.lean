/- laid for this seat: VbFilexLayoutJc -/
import Derived.Test.YtgadhdnnkdcgkaaGreatDoorRows
import Derived.JoinedOf
set_option linter.unusedVariables false
set_option linter.unusedSimpArgs false
/- The law filexLayout: facts of its row. -/
namespace Go.Proofs.YtgadhdnnkdcgkaaGreatDoor
open Go
theorem filexLayout_j_unf:(Rows.filexLayoutRow.unfollowed==Tryz.prog.unfollowed 5)=true:=by kernel_rfl
theorem filexLayout_j_recs:(Rows.filexLayoutRow.recurses==Tryz.prog.recurses 5)=true:=by kernel_rfl
end Go.Proofs.YtgadhdnnkdcgkaaGreatDoor
