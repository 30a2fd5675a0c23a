/- laid for this seat: AwStmtxTexts -/
import Derived.Test.YtipiffhjilidlaaGreatDoorVmT
import Derived.Test.YtipiffhjilidlaaGreatDoorChecked
set_option linter.unusedVariables false
set_option linter.unusedSimpArgs false
/- The program's own variables, as this law's row lays them. -/
namespace Go.Proofs.YtipiffhjilidlaaGreatDoor
theorem Tryz.own:ownKnob Tryz.prog.godebug=none:=by kernel_rfl
theorem Tryz.spaceG:Tryz.prog.globalNamed "strings.asciiSpace" =some 0:=by kernel_rfl
end Go.Proofs.YtipiffhjilidlaaGreatDoor
