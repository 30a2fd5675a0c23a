/- laid for this seat: VbJa -/
import Derived.Test.YtaednlggmjlaaaaGreatDoorRows
import Derived.JoinedOf
/- The law bodyEnds: facts of its row. -/
namespace Go.Proofs.YtaednlggmjlaaaaGreatDoor
open Go
theorem bodyEnds_j_laidOut : (laidOutB Tryz.prog) = true := by kernel_rfl
end Go.Proofs.YtaednlggmjlaaaaGreatDoor
