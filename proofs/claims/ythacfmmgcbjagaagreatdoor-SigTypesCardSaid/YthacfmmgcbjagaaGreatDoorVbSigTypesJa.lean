/- laid for this seat: VbSigTypesJa -/
import Derived.Test.YthacfmmgcbjagaaGreatDoorRows
import Derived.JoinedOf
/- The law sigTypes: facts of its row. -/
namespace Go.Proofs.YthacfmmgcbjagaaGreatDoor
open Go
theorem sigTypes_j_laidOut : (laidOutB Tryz.prog) = true := by kernel_rfl
end Go.Proofs.YthacfmmgcbjagaaGreatDoor
