/- laid for this seat: VbFilexMoreJb -/
import Derived.Test.YtgadhdnnkdcgkaaGreatDoorRows
import Derived.JoinedOf
set_option linter.unusedVariables false
set_option linter.unusedSimpArgs false
/- The law filexMore: facts of its row. -/
namespace Go.Proofs.YtgadhdnnkdcgkaaGreatDoor
open Go
theorem filexMore_j_mapsRowed:(mapsRowed Tryz.prog)=true:=by kernel_rfl
theorem filexMore_j_inPlace:(Rows.filexMoreRow.inPlace==Tryz.prog.inPlace 6)=true:=by kernel_rfl
end Go.Proofs.YtgadhdnnkdcgkaaGreatDoor
