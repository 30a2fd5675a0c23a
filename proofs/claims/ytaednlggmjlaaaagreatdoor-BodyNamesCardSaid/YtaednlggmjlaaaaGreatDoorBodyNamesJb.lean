/- The law bodyNames: facts of its row. -/
import Derived.Test.YtaednlggmjlaaaaGreatDoorRows
import Derived.JoinedOf
namespace Go.Proofs.YtaednlggmjlaaaaGreatDoor
open Go
theorem bodyNames_j_mapsRowed : (mapsRowed Tryz.prog) = true := by kernel_rfl
theorem bodyNames_j_inPlace : (Rows.bodyNamesRow.inPlace == Tryz.prog.inPlace 3) = true := by kernel_rfl
end Go.Proofs.YtaednlggmjlaaaaGreatDoor
