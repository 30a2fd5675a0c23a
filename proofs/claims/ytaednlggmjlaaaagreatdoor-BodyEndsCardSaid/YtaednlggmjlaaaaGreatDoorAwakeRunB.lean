/- laid for this seat: AwakeRunB -/
import Derived.Test.YtaednlggmjlaaaaGreatDoorAmE
import Derived.Test.YtaednlggmjlaaaaGreatDoorChecked
/- The calls at the head of the laws of this seat: their run. -/
namespace Go.Proofs.YtaednlggmjlaaaaGreatDoor
open Go.ChangeShapes Go.WideShapes Go.ChangeAt Go.RowKit
theorem Tryz.own : ownKnob Tryz.prog.godebug = none := by kernel_rfl
theorem Tryz.prOk : AM.PrOk ⟨Tryz.prog, [0], (some 146)⟩ := AM.prOk_ib (fn := Tryz.f146) (by kernel_rfl) (by kernel_rfl) (by kernel_rfl) (by kernel_rfl) (by kernel_rfl) (by kernel_rfl) (by kernel_rfl)
theorem Tryz.awake_run : AM.isTrue (AM.run ⟨Tryz.prog, [0], (some 146)⟩ 1000000 (.call 5 [] none (AM.hTab 0 .u8 AM.spaces))) = true := by kernel_rfl
theorem Tryz.spaceG : Tryz.prog.globalNamed "strings.asciiSpace" = some 0 := by kernel_rfl
end Go.Proofs.YtaednlggmjlaaaaGreatDoor
