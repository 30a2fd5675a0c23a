/- The law bodyNames: facts of its row. -/
import Derived.Test.YtaednlggmjlaaaaGreatDoorRows
import Derived.JoinedOf
namespace Go.Proofs.YtaednlggmjlaaaaGreatDoor
open Go
theorem bodyNames_j_unf : (Rows.bodyNamesRow.unfollowed == Tryz.prog.unfollowed 3) = true := by kernel_rfl
theorem bodyNames_j_recs : (Rows.bodyNamesRow.recurses == Tryz.prog.recurses 3) = true := by kernel_rfl
end Go.Proofs.YtaednlggmjlaaaaGreatDoor
