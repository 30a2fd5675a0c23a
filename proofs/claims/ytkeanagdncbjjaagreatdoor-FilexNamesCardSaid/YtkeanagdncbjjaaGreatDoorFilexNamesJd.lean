/- The law filexNames: facts of its row. -/
import Derived.Test.YtkeanagdncbjjaaGreatDoorRows
import Derived.JoinedOf
namespace Go.Proofs.YtkeanagdncbjjaaGreatDoor
open Go
theorem filexNames_j_named : (Rows.filexNamesRow.named == Tryz.prog.varsNamed 4) = true := by kernel_rfl
end Go.Proofs.YtkeanagdncbjjaaGreatDoor
