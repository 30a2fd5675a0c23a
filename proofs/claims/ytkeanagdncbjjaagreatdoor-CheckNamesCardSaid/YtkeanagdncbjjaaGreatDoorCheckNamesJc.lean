/- The law checkNames: facts of its row. -/
import Derived.Test.YtkeanagdncbjjaaGreatDoorRows
import Derived.JoinedOf
namespace Go.Proofs.YtkeanagdncbjjaaGreatDoor
open Go
theorem checkNames_j_unf : (Rows.checkNamesRow.unfollowed == Tryz.prog.unfollowed 7) = true := by kernel_rfl
theorem checkNames_j_recs : (Rows.checkNamesRow.recurses == Tryz.prog.recurses 7) = true := by kernel_rfl
end Go.Proofs.YtkeanagdncbjjaaGreatDoor
