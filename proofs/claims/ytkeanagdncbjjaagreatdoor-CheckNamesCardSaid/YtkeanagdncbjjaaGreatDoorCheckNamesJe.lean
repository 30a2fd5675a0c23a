/- The law checkNames: facts of its row, joined. -/
import Derived.Test.YtkeanagdncbjjaaGreatDoorCheckNamesJa
import Derived.Test.YtkeanagdncbjjaaGreatDoorCheckNamesJb
import Derived.Test.YtkeanagdncbjjaaGreatDoorCheckNamesJc
import Derived.Test.YtkeanagdncbjjaaGreatDoorCheckNamesJd
namespace Go.Proofs.YtkeanagdncbjjaaGreatDoor
open Go
theorem checkNames_closed : joinedFacts Tryz.prog 7 Tryz.f7 Rows.checkNamesSpec Rows.checkNamesRow = true := by
  unfold joinedFacts
  rw [checkNames_j_laidOut, checkNames_j_mapsRowed, checkNames_j_inPlace, checkNames_j_unf, checkNames_j_recs, checkNames_j_named]
  kernel_rfl
end Go.Proofs.YtkeanagdncbjjaaGreatDoor
