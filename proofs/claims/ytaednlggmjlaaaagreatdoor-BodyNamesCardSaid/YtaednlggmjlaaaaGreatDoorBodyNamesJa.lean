/- The law bodyNames: facts of its row. -/
import Derived.Test.YtaednlggmjlaaaaGreatDoorRows
import Derived.JoinedOf
namespace Go.Proofs.YtaednlggmjlaaaaGreatDoor
open Go
theorem bodyNames_j_laidOut : (laidOutB Tryz.prog) = true := by kernel_rfl
end Go.Proofs.YtaednlggmjlaaaaGreatDoor
