/- The law valueNames: facts of its row. -/
import Derived.Test.YtkeanagdncbjjaaGreatDoorRows
import Derived.JoinedOf
namespace Go.Proofs.YtkeanagdncbjjaaGreatDoor
open Go
theorem valueNames_j_named : (Rows.valueNamesRow.named == Tryz.prog.varsNamed 6) = true := by kernel_rfl
end Go.Proofs.YtkeanagdncbjjaaGreatDoor
