/- laid for this seat: AwFilexLayout -/
import Derived.Test.YtgadhdnnkdcgkaaGreatDoorVmT
import Derived.Test.YtgadhdnnkdcgkaaGreatDoorChecked
set_option linter.unusedVariables false
set_option linter.unusedSimpArgs false
/- The program's own variables, as this law's row lays them. -/
namespace Go.Proofs.YtgadhdnnkdcgkaaGreatDoor
theorem Tryz.own:ownKnob Tryz.prog.godebug=none:=by kernel_rfl
theorem Tryz.spaceG:Tryz.prog.globalNamed "strings.asciiSpace" =some 0:=by kernel_rfl
end Go.Proofs.YtgadhdnnkdcgkaaGreatDoor
