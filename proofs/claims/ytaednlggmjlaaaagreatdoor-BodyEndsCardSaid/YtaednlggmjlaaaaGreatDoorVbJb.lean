/- laid for this seat: VbJb -/
import Derived.Test.YtaednlggmjlaaaaGreatDoorRows
import Derived.JoinedOf
/- The law bodyEnds: facts of its row. -/
namespace Go.Proofs.YtaednlggmjlaaaaGreatDoor
open Go
theorem bodyEnds_j_mapsRowed : (mapsRowed Tryz.prog) = true := by kernel_rfl
theorem bodyEnds_j_inPlace : (Rows.bodyEndsRow.inPlace == Tryz.prog.inPlace 4) = true := by kernel_rfl
end Go.Proofs.YtaednlggmjlaaaaGreatDoor
