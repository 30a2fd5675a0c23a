/- laid for this seat: VbFilexLiesJc -/
import Derived.Test.YtgadhdnnkdcgkaaGreatDoorRows
import Derived.JoinedOf
set_option linter.unusedVariables false
set_option linter.unusedSimpArgs false
/- The law filexLies: facts of its row. -/
namespace Go.Proofs.YtgadhdnnkdcgkaaGreatDoor
open Go
theorem filexLies_j_unf:(Rows.filexLiesRow.unfollowed==Tryz.prog.unfollowed 4)=true:=by kernel_rfl
theorem filexLies_j_recs:(Rows.filexLiesRow.recurses==Tryz.prog.recurses 4)=true:=by kernel_rfl
end Go.Proofs.YtgadhdnnkdcgkaaGreatDoor
