/- laid for this seat: VbFilexLayoutJb -/
import Derived.Test.YtgadhdnnkdcgkaaGreatDoorRows
import Derived.JoinedOf
set_option linter.unusedVariables false
set_option linter.unusedSimpArgs false
/- The law filexLayout: facts of its row. -/
namespace Go.Proofs.YtgadhdnnkdcgkaaGreatDoor
open Go
theorem filexLayout_j_mapsRowed:(mapsRowed Tryz.prog)=true:=by kernel_rfl
theorem filexLayout_j_inPlace:(Rows.filexLayoutRow.inPlace==Tryz.prog.inPlace 5)=true:=by kernel_rfl
end Go.Proofs.YtgadhdnnkdcgkaaGreatDoor
