/- laid for this seat: VbSigTypesJe -/
import Derived.Test.YthacfmmgcbjagaaGreatDoorVbSigTypesJa
import Derived.Test.YthacfmmgcbjagaaGreatDoorVbSigTypesJb
import Derived.Test.YthacfmmgcbjagaaGreatDoorVbSigTypesJc
import Derived.Test.YthacfmmgcbjagaaGreatDoorVbSigTypesJd
/- The law sigTypes: facts of its row, joined. -/
namespace Go.Proofs.YthacfmmgcbjagaaGreatDoor
open Go
theorem sigTypes_closed : joinedFacts Tryz.prog 4 Tryz.f4 Rows.sigTypesSpec Rows.sigTypesRow = true := by
 unfold joinedFacts
 rw [sigTypes_j_laidOut, sigTypes_j_mapsRowed, sigTypes_j_inPlace, sigTypes_j_unf, sigTypes_j_recs, sigTypes_j_named]
 kernel_rfl
end Go.Proofs.YthacfmmgcbjagaaGreatDoor
