/- The law checkNames: facts of its row. -/
import Derived.Test.YtkeanagdncbjjaaGreatDoorRows
import Derived.JoinedOf
namespace Go.Proofs.YtkeanagdncbjjaaGreatDoor
open Go
theorem checkNames_j_mapsRowed : (mapsRowed Tryz.prog) = true := by kernel_rfl
theorem checkNames_j_inPlace : (Rows.checkNamesRow.inPlace == Tryz.prog.inPlace 7) = true := by kernel_rfl
end Go.Proofs.YtkeanagdncbjjaaGreatDoor
