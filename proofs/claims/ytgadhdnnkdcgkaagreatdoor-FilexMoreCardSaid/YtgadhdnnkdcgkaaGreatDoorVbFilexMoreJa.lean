/- laid for this seat: VbFilexMoreJa -/
import Derived.Test.YtgadhdnnkdcgkaaGreatDoorRows
import Derived.JoinedOf
set_option linter.unusedVariables false
set_option linter.unusedSimpArgs false
/- The law filexMore: facts of its row. -/
namespace Go.Proofs.YtgadhdnnkdcgkaaGreatDoor
open Go
theorem filexMore_j_laidOut:(laidOutB Tryz.prog)=true:=by kernel_rfl
end Go.Proofs.YtgadhdnnkdcgkaaGreatDoor
