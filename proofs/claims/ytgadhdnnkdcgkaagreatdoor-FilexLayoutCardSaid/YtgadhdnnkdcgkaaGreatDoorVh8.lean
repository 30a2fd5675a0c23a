/- laid for this seat: VfQ VfR VfS -/
import Derived.Test.YtgadhdnnkdcgkaaGreatDoorVh6
import Derived.Test.YtgadhdnnkdcgkaaGreatDoorVh4
import Derived.Test.YtgadhdnnkdcgkaaGreatDoorVh7
set_option linter.unusedVariables false
set_option linter.unusedSimpArgs false
section
/- Files: the tokens of a text and those of it with more lines behind. -/
set_option maxRecDepth 100000
namespace Go.VM
open Go.RowKit
end Go.VM
end
section
/- Files: the tokens of a text with a declaration behind. -/
set_option maxRecDepth 100000
namespace Go.VM
open Go.RowKit
end Go.VM
end
section
/- Files: the declarations that are laid behind. -/
set_option maxRecDepth 100000
namespace Go.VM
open Go.RowKit
def r1:List Nat:=[116,121,112,101,32,90,32,115,116,114,117,99,116,32,123,32,122,32,105,110,116,59,32,125]
def r2:List Nat:=[102,117,110,99,32,90,40,122,32,105,110,116,41,32,123,32,122,59,32,125]
end Go.VM
end
