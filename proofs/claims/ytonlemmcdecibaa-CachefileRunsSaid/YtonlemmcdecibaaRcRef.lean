/- laid for this seat: RcRef -/
import Derived.Test.YtonlemmcdecibaaVmR
import Derived.Test.YtonlemmcdecibaaProg
import Derived.ProofKit
set_option maxRecDepth 100000
namespace Go.VM
open Go.RowKit
def rc14_J1 : RC := .reg [.mv 5 15, .op (.bin .add (.t 15) (.c (.int .i64 1))) 16, .mv 16 5]
def rc14_L1 : RC := .seq (.seq (.reg [.mv 5 11, .mv 0 12, .op (.lenL (.t 12)) 13, .op (.bin .lss (.t 11) (.t 13)) 14]) (.cond (.t 14) .skip (.exit 0))) (.seq (.block 1 (.seq (.dreg [⟨0, 0, some (.mv (.t 0)), [0], some 17, none⟩, ⟨1, 0, some (.mv (.t 5)), [5], some 18, none⟩, ⟨2, 3, some (.ia (.t 17) (.t 18) 4), [17, 18], some 19, none⟩, ⟨3, 7, some (.ld (.t 19) (some 4)), [19], some 20, none⟩, ⟨4, 0, some (.mv (.t 1)), [1], some 21, none⟩, ⟨5, 0, some (.mv (.t 5)), [5], some 22, none⟩, ⟨6, 48, some (.ia (.t 21) (.t 22) 4), [21, 22], some 23, none⟩, ⟨7, 112, some (.ld (.t 23) (some 4)), [23], some 24, none⟩, ⟨8, 255, some (.eq (.st [(0, .str), (1, .str), (2, .bool), (3, .int)]) true (.t 20) (.t 24)), [20, 24], some 25, none⟩] [] [17, 18, 19, 20, 21, 22, 23, 24, 25]) (.cond (.t 25) (.seq (.reg [.op (.mv (.c (.bool false))) 4]) .ret) .skip))) rc14_J1)
def rc14_J2 : RC := .seq (.reg [.op (.mv (.c (.bool true))) 4]) .ret
def rc14 : RC := .seq (.reg [.op (.mv (.c (.bool false))) 4]) (.seq (.seq (.reg [.mv 0 6, .op (.lenL (.t 6)) 7, .mv 1 8, .op (.lenL (.t 8)) 9, .op (.eq .int true (.t 7) (.t 9)) 10]) (.cond (.t 10) (.seq (.reg [.op (.mv (.c (.bool false))) 4]) .ret) .skip)) (.seq (.seq (.reg [.op (.mv (.c (.int .i64 0))) 5]) (.block 0 (.loop rc14_L1))) rc14_J2))
theorem res14 : (Go.Proofs.Try.f14.body).bind (resC Go.Proofs.Try.prog) = some rc14 := by kernel_rfl
end Go.VM
