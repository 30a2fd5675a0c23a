/- The law stmtxNames: its run. -/
import Derived.Test.YtipiffhjilidlaaDoorAmGlob
import Derived.Test.YtipiffhjilidlaaDoorChecked
namespace Go.Proofs.YtipiffhjilidlaaDoor
open Go.ChangeShapes Go.WideShapes Go.ChangeAt Go.RowKit

theorem Tryd.own : ownKnob Tryd.prog.godebug = none := by kernel_rfl
theorem Tryd.prOk : AM.PrOk ⟨Tryd.prog, [0], (some 69)⟩ := AM.prOk_ib (fn := Tryd.f69) (by kernel_rfl) (by kernel_rfl) (by kernel_rfl) (by kernel_rfl) (by kernel_rfl) (by kernel_rfl) (by kernel_rfl)
theorem Tryd.stmtxNames_run : AM.isTrue (AM.run ⟨Tryd.prog, [0], (some 69)⟩ 1000000 (.call 7 [] none (AM.hTab 0 .u8 AM.spaces))) = true := by kernel_rfl

theorem Tryd.spaceG : Tryd.prog.globalNamed "strings.asciiSpace" = some 0 := by kernel_rfl
end Go.Proofs.YtipiffhjilidlaaDoor
