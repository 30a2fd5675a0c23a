/- laid for this seat: VbJe -/
import Derived.Test.YtaednlggmjlaaaaGreatDoorVbJa
import Derived.Test.YtaednlggmjlaaaaGreatDoorVbJb
import Derived.Test.YtaednlggmjlaaaaGreatDoorVbJc
import Derived.Test.YtaednlggmjlaaaaGreatDoorVbJd
/- The law bodyEnds: facts of its row, joined. -/
namespace Go.Proofs.YtaednlggmjlaaaaGreatDoor
open Go
theorem bodyEnds_closed : joinedFacts Tryz.prog 4 Tryz.f4 Rows.bodyEndsSpec Rows.bodyEndsRow = true := by
 unfold joinedFacts
 rw [bodyEnds_j_laidOut, bodyEnds_j_mapsRowed, bodyEnds_j_inPlace, bodyEnds_j_unf, bodyEnds_j_recs, bodyEnds_j_named]
 kernel_rfl
end Go.Proofs.YtaednlggmjlaaaaGreatDoor
