/- laid for this seat: RcF9 VfT VfU -/
import Derived.Test.YtgadhdnnkdcgkaaGreatDoorVmR
import Derived.Test.YtgadhdnnkdcgkaaGreatDoorVmS
import Derived.Test.YtgadhdnnkdcgkaaGreatDoorProg
import Derived.ProofKit
import Derived.Test.YtgadhdnnkdcgkaaGreatDoorVh3
set_option linter.unusedVariables false
set_option linter.unusedSimpArgs false
section
set_option maxRecDepth 100000
namespace Go.VM
open Go.RowKit
end Go.VM
end
section
/- Files: a file is the same as itself. -/
set_option maxRecDepth 100000
namespace Go.VM
open Go.RowKit
end Go.VM
end
section
/- Files: a declaration and a file are the same as themselves. -/
set_option maxRecDepth 100000
namespace Go.VM
open Go.RowKit
end Go.VM
end
