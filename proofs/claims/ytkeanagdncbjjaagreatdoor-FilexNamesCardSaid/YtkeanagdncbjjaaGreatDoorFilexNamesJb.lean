/- The law filexNames: facts of its row. -/
import Derived.Test.YtkeanagdncbjjaaGreatDoorRows
import Derived.JoinedOf
namespace Go.Proofs.YtkeanagdncbjjaaGreatDoor
open Go
theorem filexNames_j_mapsRowed : (mapsRowed Tryz.prog) = true := by kernel_rfl
theorem filexNames_j_inPlace : (Rows.filexNamesRow.inPlace == Tryz.prog.inPlace 4) = true := by kernel_rfl
end Go.Proofs.YtkeanagdncbjjaaGreatDoor
