/- The law bodyNames: facts of its row, joined. -/
import Derived.Test.YtaednlggmjlaaaaGreatDoorBodyNamesJa
import Derived.Test.YtaednlggmjlaaaaGreatDoorBodyNamesJb
import Derived.Test.YtaednlggmjlaaaaGreatDoorBodyNamesJc
import Derived.Test.YtaednlggmjlaaaaGreatDoorBodyNamesJd
namespace Go.Proofs.YtaednlggmjlaaaaGreatDoor
open Go
theorem bodyNames_closed : joinedFacts Tryz.prog 3 Tryz.f3 Rows.bodyNamesSpec Rows.bodyNamesRow = true := by
  unfold joinedFacts
  rw [bodyNames_j_laidOut, bodyNames_j_mapsRowed, bodyNames_j_inPlace, bodyNames_j_unf, bodyNames_j_recs, bodyNames_j_named]
  kernel_rfl
end Go.Proofs.YtaednlggmjlaaaaGreatDoor
