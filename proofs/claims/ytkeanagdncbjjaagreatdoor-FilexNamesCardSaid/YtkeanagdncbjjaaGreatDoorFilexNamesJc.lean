/- The law filexNames: facts of its row. -/
import Derived.Test.YtkeanagdncbjjaaGreatDoorRows
import Derived.JoinedOf
namespace Go.Proofs.YtkeanagdncbjjaaGreatDoor
open Go
theorem filexNames_j_unf : (Rows.filexNamesRow.unfollowed == Tryz.prog.unfollowed 4) = true := by kernel_rfl
theorem filexNames_j_recs : (Rows.filexNamesRow.recurses == Tryz.prog.recurses 4) = true := by kernel_rfl
end Go.Proofs.YtkeanagdncbjjaaGreatDoor
