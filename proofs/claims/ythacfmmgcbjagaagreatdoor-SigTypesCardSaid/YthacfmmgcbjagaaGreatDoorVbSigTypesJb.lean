/- laid for this seat: VbSigTypesJb -/
import Derived.Test.YthacfmmgcbjagaaGreatDoorRows
import Derived.JoinedOf
/- The law sigTypes: facts of its row. -/
namespace Go.Proofs.YthacfmmgcbjagaaGreatDoor
open Go
theorem sigTypes_j_mapsRowed : (mapsRowed Tryz.prog) = true := by kernel_rfl
theorem sigTypes_j_inPlace : (Rows.sigTypesRow.inPlace == Tryz.prog.inPlace 4) = true := by kernel_rfl
end Go.Proofs.YthacfmmgcbjagaaGreatDoor
