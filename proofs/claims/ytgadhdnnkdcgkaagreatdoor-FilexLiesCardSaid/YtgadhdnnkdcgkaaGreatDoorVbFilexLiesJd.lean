/- laid for this seat: VbFilexLiesJd -/
import Derived.Test.YtgadhdnnkdcgkaaGreatDoorRows
import Derived.JoinedOf
set_option linter.unusedVariables false
set_option linter.unusedSimpArgs false
/- The law filexLies: facts of its row. -/
namespace Go.Proofs.YtgadhdnnkdcgkaaGreatDoor
open Go
theorem filexLies_j_named:(Rows.filexLiesRow.named==Tryz.prog.varsNamed 4)=true:=by kernel_rfl
end Go.Proofs.YtgadhdnnkdcgkaaGreatDoor
