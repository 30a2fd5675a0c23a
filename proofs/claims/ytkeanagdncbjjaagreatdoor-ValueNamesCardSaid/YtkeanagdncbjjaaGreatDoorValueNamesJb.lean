/- The law valueNames: facts of its row. -/
import Derived.Test.YtkeanagdncbjjaaGreatDoorRows
import Derived.JoinedOf
namespace Go.Proofs.YtkeanagdncbjjaaGreatDoor
open Go
theorem valueNames_j_mapsRowed : (mapsRowed Tryz.prog) = true := by kernel_rfl
theorem valueNames_j_inPlace : (Rows.valueNamesRow.inPlace == Tryz.prog.inPlace 6) = true := by kernel_rfl
end Go.Proofs.YtkeanagdncbjjaaGreatDoor
