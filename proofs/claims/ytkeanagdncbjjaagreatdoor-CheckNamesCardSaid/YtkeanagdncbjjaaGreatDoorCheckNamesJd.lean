/- The law checkNames: facts of its row. -/
import Derived.Test.YtkeanagdncbjjaaGreatDoorRows
import Derived.JoinedOf
namespace Go.Proofs.YtkeanagdncbjjaaGreatDoor
open Go
theorem checkNames_j_named : (Rows.checkNamesRow.named == Tryz.prog.varsNamed 7) = true := by kernel_rfl
end Go.Proofs.YtkeanagdncbjjaaGreatDoor
