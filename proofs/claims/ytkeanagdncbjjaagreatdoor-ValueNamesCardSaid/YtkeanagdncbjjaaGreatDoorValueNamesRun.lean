/- The law valueNames: its run. -/
import Derived.Test.YtkeanagdncbjjaaGreatDoorAmGlob
import Derived.Test.YtkeanagdncbjjaaGreatDoorChecked
namespace Go.Proofs.YtkeanagdncbjjaaGreatDoor
open Go.ChangeShapes Go.WideShapes Go.ChangeAt Go.RowKit

theorem Tryz.own : ownKnob Tryz.prog.godebug = none := by kernel_rfl
theorem Tryz.prOk : AM.PrOk ⟨Tryz.prog, [0], (some 295)⟩ := AM.prOk_ib (fn := Tryz.f295) (by kernel_rfl) (by kernel_rfl) (by kernel_rfl) (by kernel_rfl) (by kernel_rfl) (by kernel_rfl) (by kernel_rfl)
theorem Tryz.valueNames_run : AM.isTrue (AM.run ⟨Tryz.prog, [0], (some 295)⟩ 1000000 (.call 6 [] none (AM.hTab 0 .u8 AM.spaces))) = true := by kernel_rfl

theorem Tryz.spaceG : Tryz.prog.globalNamed "strings.asciiSpace" = some 0 := by kernel_rfl
end Go.Proofs.YtkeanagdncbjjaaGreatDoor
