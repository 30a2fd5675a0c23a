/- laid for this seat: RcLaws -/
import Derived.Test.YtonlemmcdecibaaVmR
import Derived.Test.YtonlemmcdecibaaProg
import Derived.ProofKit
set_option maxRecDepth 100000
namespace Go.VM
open Go.RowKit
def rc4_J1 : RC := .reg [.mv 8 19, .op (.bin .add (.t 19) (.c (.int .i64 1))) 20, .mv 20 8]
def rc4_L1 : RC := .seq (.seq (.reg [.mv 8 15, .mv 0 16, .op (.lenL (.t 16)) 17, .op (.bin .lss (.t 15) (.t 17)) 18]) (.cond (.t 18) .skip (.exit 0))) (.seq (.block 1 (.seq (.reg [.mv 0 21, .mv 8 22, .op (.ia (.t 21) (.t 22) 4) 23, .op (.fa (.t 23) 0) 24, .op (.ld (.t 24) none) 25, .op (.lenS (.t 25)) 26, .op (.bin .gtr (.t 26) (.c (.int .i64 500))) 27, .mv 27 28, ⟨0, 0, some (.mv (.t 0)), [], some 29, some (28, false)⟩, ⟨0, 0, some (.mv (.t 8)), [], some 30, some (28, false)⟩, ⟨0, 0, some (.ia (.t 29) (.t 30) 4), [], some 31, some (28, false)⟩, ⟨0, 0, some (.fa (.t 31) 1), [], some 32, some (28, false)⟩, ⟨0, 0, some (.ld (.t 32) none), [], some 33, some (28, false)⟩, ⟨0, 0, some (.lenS (.t 33)), [], some 34, some (28, false)⟩, ⟨0, 0, some (.bin .gtr (.t 34) (.c (.int .i64 500))), [], some 35, some (28, false)⟩, .op (.pick (.t 28) (.c (.bool true)) (.t 35)) 36]) (.cond (.t 36) (.seq (.reg [.mv 7 37, .mv 37 6]) .ret) .skip))) rc4_J1)
def rc4_J2 : RC := .seq (.reg [.mv 7 38, .mv 38 39, ⟨0, 0, some (.mv (.t 0)), [], some 40, some (39, true)⟩, ⟨0, 0, some (.mv (.t 1)), [], some 41, some (39, true)⟩, ⟨0, 0, some (.mv (.t 2)), [], some 42, some (39, true)⟩, ⟨0, 0, some (.call (.c (.fn (.func 15) [] [])) [.t 40, .t 41, .t 42]), [], some 43, some (39, true)⟩, ⟨0, 0, some (.mv (.t 0)), [], some 44, some (39, true)⟩, ⟨0, 0, some (.mv (.t 1)), [], some 45, some (39, true)⟩, ⟨0, 0, some (.mv (.t 2)), [], some 46, some (39, true)⟩, ⟨0, 0, some (.call (.c (.fn (.func 16) [] [])) [.t 44, .t 45, .t 46]), [], some 47, some (39, true)⟩, ⟨0, 0, some (.call (.c (.fn (.func 14) [] [])) [.t 43, .t 47]), [], some 48, some (39, true)⟩, .op (.pick (.t 39) (.t 48) (.c (.bool false))) 49, .mv 49 6]) .ret
def rc4_J3 : RC := .seq (.seq (.reg [.op (.mv (.c (.int .i64 0))) 8]) (.block 0 (.loop rc4_L1))) rc4_J2
def rc4 : RC := .seq (.reg [.op (.mv (.c (.bool false))) 6]) (.seq (.reg [.op (.call (.c (.fn (.func 11) [] [])) []) 9, .mv 9 7]) (.seq (.seq (.reg [.mv 0 10, .op (.lenL (.t 10)) 11, .op (.bin .gtr (.t 11) (.c (.int .i64 300))) 12]) (.cond (.t 12) (.reg [.mv 0 13, .op (.slc (.slice 4) (.t 13) none (some (.c (.int .i64 300))) none) 14, .mv 14 0]) .skip)) rc4_J3))
theorem res4 : (Go.Proofs.Try.f4.body).bind (resC Go.Proofs.Try.prog) = some rc4 := by kernel_rfl
end Go.VM
