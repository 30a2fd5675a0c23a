/- laid for this seat: AwStmtxJoins -/
import Derived.Test.YtipiffhjilidlaaDoorVmT
import Derived.Test.YtipiffhjilidlaaDoorChecked
/- The program's own variables, as this law's row lays them. -/
namespace Go.Proofs.YtipiffhjilidlaaDoor
theorem Tryd.own : ownKnob Tryd.prog.godebug = none := by kernel_rfl
theorem Tryd.spaceG : Tryd.prog.globalNamed "strings.asciiSpace" = some 0 := by kernel_rfl
end Go.Proofs.YtipiffhjilidlaaDoor
