/- laid for this seat: VbJc -/
import Derived.Test.YtaednlggmjlaaaaGreatDoorRows
import Derived.JoinedOf
/- The law bodyEnds: facts of its row. -/
namespace Go.Proofs.YtaednlggmjlaaaaGreatDoor
open Go
theorem bodyEnds_j_unf : (Rows.bodyEndsRow.unfollowed == Tryz.prog.unfollowed 4) = true := by kernel_rfl
theorem bodyEnds_j_recs : (Rows.bodyEndsRow.recurses == Tryz.prog.recurses 4) = true := by kernel_rfl
end Go.Proofs.YtaednlggmjlaaaaGreatDoor
