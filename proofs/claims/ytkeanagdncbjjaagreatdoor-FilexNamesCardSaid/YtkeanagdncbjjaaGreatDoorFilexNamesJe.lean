/- The law filexNames: facts of its row, joined. -/
import Derived.Test.YtkeanagdncbjjaaGreatDoorFilexNamesJa
import Derived.Test.YtkeanagdncbjjaaGreatDoorFilexNamesJb
import Derived.Test.YtkeanagdncbjjaaGreatDoorFilexNamesJc
import Derived.Test.YtkeanagdncbjjaaGreatDoorFilexNamesJd
namespace Go.Proofs.YtkeanagdncbjjaaGreatDoor
open Go
theorem filexNames_closed : joinedFacts Tryz.prog 4 Tryz.f4 Rows.filexNamesSpec Rows.filexNamesRow = true := by
  unfold joinedFacts
  rw [filexNames_j_laidOut, filexNames_j_mapsRowed, filexNames_j_inPlace, filexNames_j_unf, filexNames_j_recs, filexNames_j_named]
  kernel_rfl
end Go.Proofs.YtkeanagdncbjjaaGreatDoor
