/- The law sigNames: facts of its row. -/
import Derived.Test.YtkeanagdncbjjaaGreatDoorRows
import Derived.JoinedOf
namespace Go.Proofs.YtkeanagdncbjjaaGreatDoor
open Go
theorem sigNames_j_unf : (Rows.sigNamesRow.unfollowed == Tryz.prog.unfollowed 5) = true := by kernel_rfl
theorem sigNames_j_recs : (Rows.sigNamesRow.recurses == Tryz.prog.recurses 5) = true := by kernel_rfl
end Go.Proofs.YtkeanagdncbjjaaGreatDoor
