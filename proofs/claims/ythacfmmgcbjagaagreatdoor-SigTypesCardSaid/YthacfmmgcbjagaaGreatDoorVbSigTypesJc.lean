/- laid for this seat: VbSigTypesJc -/
import Derived.Test.YthacfmmgcbjagaaGreatDoorRows
import Derived.JoinedOf
/- The law sigTypes: facts of its row. -/
namespace Go.Proofs.YthacfmmgcbjagaaGreatDoor
open Go
theorem sigTypes_j_unf : (Rows.sigTypesRow.unfollowed == Tryz.prog.unfollowed 4) = true := by kernel_rfl
theorem sigTypes_j_recs : (Rows.sigTypesRow.recurses == Tryz.prog.recurses 4) = true := by kernel_rfl
end Go.Proofs.YthacfmmgcbjagaaGreatDoor
