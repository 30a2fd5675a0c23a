/- laid for this seat: VbStmtxTextsJe -/
import Derived.Test.YtipiffhjilidlaaGreatDoorVbStmtxTextsJa
import Derived.Test.YtipiffhjilidlaaGreatDoorVbStmtxTextsJb
import Derived.Test.YtipiffhjilidlaaGreatDoorVbStmtxTextsJc
import Derived.Test.YtipiffhjilidlaaGreatDoorVbStmtxTextsJd
set_option linter.unusedVariables false
set_option linter.unusedSimpArgs false
/- The law stmtxTexts: facts of its row, joined. -/
namespace Go.Proofs.YtipiffhjilidlaaGreatDoor
open Go
theorem stmtxTexts_closed:joinedFacts Tryz.prog 4 Tryz.f4 Rows.stmtxTextsSpec Rows.stmtxTextsRow=true:=by
 unfold joinedFacts
 rw[stmtxTexts_j_laidOut,stmtxTexts_j_mapsRowed,stmtxTexts_j_inPlace,stmtxTexts_j_unf,stmtxTexts_j_recs,stmtxTexts_j_named]
 kernel_rfl
end Go.Proofs.YtipiffhjilidlaaGreatDoor
