/- laid for this seat: VbFilexLiesJb -/
import Derived.Test.YtgadhdnnkdcgkaaGreatDoorRows
import Derived.JoinedOf
set_option linter.unusedVariables false
set_option linter.unusedSimpArgs false
/- The law filexLies: facts of its row. -/
namespace Go.Proofs.YtgadhdnnkdcgkaaGreatDoor
open Go
theorem filexLies_j_mapsRowed:(mapsRowed Tryz.prog)=true:=by kernel_rfl
theorem filexLies_j_inPlace:(Rows.filexLiesRow.inPlace==Tryz.prog.inPlace 4)=true:=by kernel_rfl
end Go.Proofs.YtgadhdnnkdcgkaaGreatDoor
