/- The law valueNames: facts of its row, joined. -/
import Derived.Test.YtkeanagdncbjjaaGreatDoorValueNamesJa
import Derived.Test.YtkeanagdncbjjaaGreatDoorValueNamesJb
import Derived.Test.YtkeanagdncbjjaaGreatDoorValueNamesJc
import Derived.Test.YtkeanagdncbjjaaGreatDoorValueNamesJd
namespace Go.Proofs.YtkeanagdncbjjaaGreatDoor
open Go
theorem valueNames_closed : joinedFacts Tryz.prog 6 Tryz.f6 Rows.valueNamesSpec Rows.valueNamesRow = true := by
  unfold joinedFacts
  rw [valueNames_j_laidOut, valueNames_j_mapsRowed, valueNames_j_inPlace, valueNames_j_unf, valueNames_j_recs, valueNames_j_named]
  kernel_rfl
end Go.Proofs.YtkeanagdncbjjaaGreatDoor
