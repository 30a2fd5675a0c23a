/- laid for this seat: VbJd -/
import Derived.Test.YtaednlggmjlaaaaGreatDoorRows
import Derived.JoinedOf
/- The law bodyEnds: facts of its row. -/
namespace Go.Proofs.YtaednlggmjlaaaaGreatDoor
open Go
theorem bodyEnds_j_named : (Rows.bodyEndsRow.named == Tryz.prog.varsNamed 4) = true := by kernel_rfl
end Go.Proofs.YtaednlggmjlaaaaGreatDoor
