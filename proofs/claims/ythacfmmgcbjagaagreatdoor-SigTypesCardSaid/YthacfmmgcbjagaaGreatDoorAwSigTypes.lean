/- laid for this seat: AwSigTypes -/
import Derived.Test.YthacfmmgcbjagaaGreatDoorAmE
import Derived.Test.YthacfmmgcbjagaaGreatDoorChecked
/- The calls at the head of the laws of this seat: their run. -/
namespace Go.Proofs.YthacfmmgcbjagaaGreatDoor
open Go.ChangeShapes Go.WideShapes Go.ChangeAt Go.RowKit
theorem Tryz.own : ownKnob Tryz.prog.godebug = none := by kernel_rfl
theorem Tryz.prOk : AM.PrOk ⟨Tryz.prog, [0], (some 115)⟩ := AM.prOk_ib (fn := Tryz.f115) (by kernel_rfl) (by kernel_rfl) (by kernel_rfl) (by kernel_rfl) (by kernel_rfl) (by kernel_rfl) (by kernel_rfl)
theorem Tryz.awake_run : AM.isTrue (AM.run ⟨Tryz.prog, [0], (some 115)⟩ 1000000 (.call 5 [] none (AM.hTab 0 .u8 AM.spaces))) = true := by kernel_rfl
theorem Tryz.spaceG : Tryz.prog.globalNamed "strings.asciiSpace" = some 0 := by kernel_rfl
end Go.Proofs.YthacfmmgcbjagaaGreatDoor
