/- The law valueNames: facts of its row. -/
import Derived.Test.YtkeanagdncbjjaaGreatDoorRows
import Derived.JoinedOf
namespace Go.Proofs.YtkeanagdncbjjaaGreatDoor
open Go
theorem valueNames_j_laidOut : (laidOutB Tryz.prog) = true := by kernel_rfl
end Go.Proofs.YtkeanagdncbjjaaGreatDoor
