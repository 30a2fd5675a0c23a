/- The law sigNames: facts of its row, joined. -/
import Derived.Test.YtkeanagdncbjjaaGreatDoorSigNamesJa
import Derived.Test.YtkeanagdncbjjaaGreatDoorSigNamesJb
import Derived.Test.YtkeanagdncbjjaaGreatDoorSigNamesJc
import Derived.Test.YtkeanagdncbjjaaGreatDoorSigNamesJd
namespace Go.Proofs.YtkeanagdncbjjaaGreatDoor
open Go
theorem sigNames_closed : joinedFacts Tryz.prog 5 Tryz.f5 Rows.sigNamesSpec Rows.sigNamesRow = true := by
  unfold joinedFacts
  rw [sigNames_j_laidOut, sigNames_j_mapsRowed, sigNames_j_inPlace, sigNames_j_unf, sigNames_j_recs, sigNames_j_named]
  kernel_rfl
end Go.Proofs.YtkeanagdncbjjaaGreatDoor
