/- laid for this seat: RcLaws -/
import Derived.Test.YtonlemmcdecibaaVmR
import Derived.Test.YtonlemmcdecibaaProg
import Derived.ProofKit
set_option maxRecDepth 100000
namespace Go.VM
open Go.RowKit
def rc3 : RC := .seq (.reg [.op (.mv (.c (.bool false))) 6]) (.seq (.reg [.op (.call (.c (.fn (.func 11) [] [])) []) 14, .mv 14 7]) (.seq (.seq (.reg [.mv 0 15, .op (.lenS (.t 15)) 16, .op (.bin .gtr (.t 16) (.c (.int .i64 4000))) 17]) (.cond (.t 17) (.seq (.reg [.mv 7 18, .mv 18 6]) .ret) .skip)) (.seq (.reg [.mv 0 20, .op (.call (.c (.fn (.func 12) [] [])) [.t 20]) 21, .mv 21 19, .op (.ext (.t 19) 0) 22, .op (.ext (.t 19) 1) 23, .mv 22 8, .mv 23 9]) (.seq (.reg [.mv 0 25, .op (.call (.c (.fn (.func 13) [] [])) [.t 25]) 26, .mv 26 24, .op (.ext (.t 24) 0) 27, .op (.ext (.t 24) 1) 28, .mv 27 10, .mv 28 11]) (.seq (.reg [.mv 8 29, .mv 10 30, .op (.call (.c (.fn (.func 14) [] [])) [.t 29, .t 30]) 31, .mv 31 12]) (.seq (.reg [.mv 8 32, .mv 1 33, .mv 2 34, .op (.call (.c (.fn (.func 15) [] [])) [.t 32, .t 33, .t 34]) 35, .mv 8 36, .mv 1 37, .mv 2 38, .op (.call (.c (.fn (.func 16) [] [])) [.t 36, .t 37, .t 38]) 39, .op (.call (.c (.fn (.func 14) [] [])) [.t 35, .t 39]) 40, .mv 40 13]) (.seq (.reg [.mv 7 41, .mv 41 42, ⟨0, 0, some (.mv (.t 12)), [], some 43, some (42, true)⟩, .op (.pick (.t 42) (.t 43) (.c (.bool false))) 44, .mv 44 45, ⟨0, 0, some (.mv (.t 9)), [], some 46, some (45, true)⟩, ⟨0, 0, some (.mv (.t 11)), [], some 47, some (45, true)⟩, ⟨0, 0, some (.eq .int false (.t 46) (.t 47)), [], some 48, some (45, true)⟩, .op (.pick (.t 45) (.t 48) (.c (.bool false))) 49, .mv 49 50, ⟨0, 0, some (.mv (.t 13)), [], some 51, some (50, true)⟩, .op (.pick (.t 50) (.t 51) (.c (.bool false))) 52, .mv 52 6]) .ret)))))))
theorem res3 : (Go.Proofs.Try.f3.body).bind (resC Go.Proofs.Try.prog) = some rc3 := by kernel_rfl
end Go.VM
