/- The law valueNames: facts of its row. -/
import Derived.Test.YtkeanagdncbjjaaGreatDoorRows
import Derived.JoinedOf
namespace Go.Proofs.YtkeanagdncbjjaaGreatDoor
open Go
theorem valueNames_j_unf : (Rows.valueNamesRow.unfollowed == Tryz.prog.unfollowed 6) = true := by kernel_rfl
theorem valueNames_j_recs : (Rows.valueNamesRow.recurses == Tryz.prog.recurses 6) = true := by kernel_rfl
end Go.Proofs.YtkeanagdncbjjaaGreatDoor
