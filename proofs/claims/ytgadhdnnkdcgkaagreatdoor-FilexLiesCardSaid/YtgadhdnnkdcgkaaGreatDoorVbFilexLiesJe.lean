/- laid for this seat: VbFilexLiesJe -/
import Derived.Test.YtgadhdnnkdcgkaaGreatDoorVbFilexLiesJa
import Derived.Test.YtgadhdnnkdcgkaaGreatDoorVbFilexLiesJb
import Derived.Test.YtgadhdnnkdcgkaaGreatDoorVbFilexLiesJc
import Derived.Test.YtgadhdnnkdcgkaaGreatDoorVbFilexLiesJd
set_option linter.unusedVariables false
set_option linter.unusedSimpArgs false
/- The law filexLies: facts of its row, joined. -/
namespace Go.Proofs.YtgadhdnnkdcgkaaGreatDoor
open Go
theorem filexLies_closed:joinedFacts Tryz.prog 4 Tryz.f4 Rows.filexLiesSpec Rows.filexLiesRow=true:=by
 unfold joinedFacts
 rw[filexLies_j_laidOut,filexLies_j_mapsRowed,filexLies_j_inPlace,filexLies_j_unf,filexLies_j_recs,filexLies_j_named]
 kernel_rfl
end Go.Proofs.YtgadhdnnkdcgkaaGreatDoor
