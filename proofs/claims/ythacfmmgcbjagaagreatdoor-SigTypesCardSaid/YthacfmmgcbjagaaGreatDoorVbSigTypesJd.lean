/- laid for this seat: VbSigTypesJd -/
import Derived.Test.YthacfmmgcbjagaaGreatDoorRows
import Derived.JoinedOf
/- The law sigTypes: facts of its row. -/
namespace Go.Proofs.YthacfmmgcbjagaaGreatDoor
open Go
theorem sigTypes_j_named : (Rows.sigTypesRow.named == Tryz.prog.varsNamed 4) = true := by kernel_rfl
end Go.Proofs.YthacfmmgcbjagaaGreatDoor
