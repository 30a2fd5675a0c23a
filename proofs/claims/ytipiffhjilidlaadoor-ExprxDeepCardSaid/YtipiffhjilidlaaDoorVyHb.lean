/- laid for this seat: VyHb -/
import Derived.Test.YtipiffhjilidlaaDoorVyHa
/- Expressions of a text: brackets that are deep: plain, the round ones. -/
set_option maxRecDepth 100000
set_option linter.unusedVariables false
set_option linter.unusedSimpArgs false
namespace Go.VM
open Go.RowKit
theorem deep2_0 : allB (fun i => deepC 2 (0 + i)) 10 = true := by kernel_rfl
theorem deep2_1 : allB (fun i => deepC 2 (10 + i)) 10 = true := by kernel_rfl
theorem deep2_2 : allB (fun i => deepC 2 (20 + i)) 10 = true := by kernel_rfl
theorem deep2_3 : allB (fun i => deepC 2 (30 + i)) 10 = true := by kernel_rfl
theorem deep2_4 : allB (fun i => deepC 2 (40 + i)) 10 = true := by kernel_rfl
theorem deep2_5 : allB (fun i => deepC 2 (50 + i)) 10 = true := by kernel_rfl
theorem deep2_6 : allB (fun i => deepC 2 (60 + i)) 10 = true := by kernel_rfl
end Go.VM
