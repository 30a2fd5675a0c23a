/- laid for this seat: VtLaw4 -/
import Derived.Test.YtonlemmcdecibaaRcLaws
import Derived.Test.YtonlemmcdecibaaVtSameZ
import Derived.Test.YtonlemmcdecibaaVtStab3
import Derived.Test.YtonlemmcdecibaaVmG
/- CachefileRuns: of any entries what is kept is what the document says. -/
set_option maxRecDepth 100000
set_option linter.unusedVariables false
set_option linter.unusedSimpArgs false
namespace Go.VM
open Go.RowKit
end Go.VM
