/- laid for this seat: VbFilexMoreJe -/
import Derived.Test.YtgadhdnnkdcgkaaGreatDoorVbFilexMoreJa
import Derived.Test.YtgadhdnnkdcgkaaGreatDoorVbFilexMoreJb
import Derived.Test.YtgadhdnnkdcgkaaGreatDoorVbFilexMoreJc
import Derived.Test.YtgadhdnnkdcgkaaGreatDoorVbFilexMoreJd
set_option linter.unusedVariables false
set_option linter.unusedSimpArgs false
/- The law filexMore: facts of its row, joined. -/
namespace Go.Proofs.YtgadhdnnkdcgkaaGreatDoor
open Go
theorem filexMore_closed:joinedFacts Tryz.prog 6 Tryz.f6 Rows.filexMoreSpec Rows.filexMoreRow=true:=by
 unfold joinedFacts
 rw[filexMore_j_laidOut,filexMore_j_mapsRowed,filexMore_j_inPlace,filexMore_j_unf,filexMore_j_recs,filexMore_j_named]
 kernel_rfl
end Go.Proofs.YtgadhdnnkdcgkaaGreatDoor
