/- laid for this seat: VbFilexMoreJc -/
import Derived.Test.YtgadhdnnkdcgkaaGreatDoorRows
import Derived.JoinedOf
set_option linter.unusedVariables false
set_option linter.unusedSimpArgs false
/- The law filexMore: facts of its row. -/
namespace Go.Proofs.YtgadhdnnkdcgkaaGreatDoor
open Go
theorem filexMore_j_unf:(Rows.filexMoreRow.unfollowed==Tryz.prog.unfollowed 6)=true:=by kernel_rfl
theorem filexMore_j_recs:(Rows.filexMoreRow.recurses==Tryz.prog.recurses 6)=true:=by kernel_rfl
end Go.Proofs.YtgadhdnnkdcgkaaGreatDoor
