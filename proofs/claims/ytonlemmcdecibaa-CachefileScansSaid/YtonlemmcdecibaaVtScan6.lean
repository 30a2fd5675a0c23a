/- laid for this seat: VtScan6 -/
import Derived.Test.YtonlemmcdecibaaVtScan5
/- The cache's file: what a beginning of bytes holds is a beginning of what they hold. -/
set_option maxRecDepth 100000
set_option linter.unusedVariables false
set_option linter.unusedSimpArgs false
namespace Go.VM
open Go.RowKit
end Go.VM
