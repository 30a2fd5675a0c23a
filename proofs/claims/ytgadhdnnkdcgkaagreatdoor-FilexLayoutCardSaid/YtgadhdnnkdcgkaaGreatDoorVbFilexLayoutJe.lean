/- laid for this seat: VbFilexLayoutJe -/
import Derived.Test.YtgadhdnnkdcgkaaGreatDoorVbFilexLayoutJa
import Derived.Test.YtgadhdnnkdcgkaaGreatDoorVbFilexLayoutJb
import Derived.Test.YtgadhdnnkdcgkaaGreatDoorVbFilexLayoutJc
import Derived.Test.YtgadhdnnkdcgkaaGreatDoorVbFilexLayoutJd
set_option linter.unusedVariables false
set_option linter.unusedSimpArgs false
/- The law filexLayout: facts of its row, joined. -/
namespace Go.Proofs.YtgadhdnnkdcgkaaGreatDoor
open Go
theorem filexLayout_closed:joinedFacts Tryz.prog 5 Tryz.f5 Rows.filexLayoutSpec Rows.filexLayoutRow=true:=by
 unfold joinedFacts
 rw[filexLayout_j_laidOut,filexLayout_j_mapsRowed,filexLayout_j_inPlace,filexLayout_j_unf,filexLayout_j_recs,filexLayout_j_named]
 kernel_rfl
end Go.Proofs.YtgadhdnnkdcgkaaGreatDoor
