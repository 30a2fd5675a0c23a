/- The law bodyNames: facts of its row. -/
import Derived.Test.YtaednlggmjlaaaaGreatDoorRows
import Derived.JoinedOf
namespace Go.Proofs.YtaednlggmjlaaaaGreatDoor
open Go
theorem bodyNames_j_named : (Rows.bodyNamesRow.named == Tryz.prog.varsNamed 3) = true := by kernel_rfl
end Go.Proofs.YtaednlggmjlaaaaGreatDoor
