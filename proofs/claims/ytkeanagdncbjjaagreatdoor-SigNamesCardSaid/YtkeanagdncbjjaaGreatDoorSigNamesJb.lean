/- The law sigNames: facts of its row. -/
import Derived.Test.YtkeanagdncbjjaaGreatDoorRows
import Derived.JoinedOf
namespace Go.Proofs.YtkeanagdncbjjaaGreatDoor
open Go
theorem sigNames_j_mapsRowed : (mapsRowed Tryz.prog) = true := by kernel_rfl
theorem sigNames_j_inPlace : (Rows.sigNamesRow.inPlace == Tryz.prog.inPlace 5) = true := by kernel_rfl
end Go.Proofs.YtkeanagdncbjjaaGreatDoor
