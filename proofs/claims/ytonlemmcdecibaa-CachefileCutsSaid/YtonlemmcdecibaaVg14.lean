/- laid for this seat: RcLw VcAsk -/
import Derived.Test.YtonlemmcdecibaaVmR
import Derived.Test.YtonlemmcdecibaaProg
import Derived.ProofKit
import Derived.Test.YtonlemmcdecibaaVg13
section
set_option maxRecDepth 100000
namespace Go.VM
open Go.RowKit
def rc9_J1 : RC := .seq (.reg [.op (.ld (.t 13) (some 3)) 134, .mv 11 135, .op (.call (.c (.fn (.func 21) [] [])) [.t 134, .t 135]) 136, .mv 136 21]) (.seq (.seq (.reg [.mv 21 137, .op (.un .not (.t 137)) 138]) (.cond (.t 138) (.seq (.reg [.op (.mv (.c (.bool false))) 8]) .ret) .skip)) (.seq (.reg [.mv 10 139, .mv 15 140, .op (.bin .rem (.t 140) (.c (.int .i64 7))) 141, .op (.call (.c (.fn (.func 26) [] [])) [.t 139, .t 141]) 142]) (.seq (.reg [.mv 11 143, .op (.call (.c (.fn (.func 24) [] [])) [.t 143]) 144]) (.seq (.reg [.mv 10 145, .op (.call (.c (.fn (.func 27) [] [])) [.t 145]) 146]) (.seq (.reg [.mv 10 148, .mv 0 149, .mv 1 150, .op (.call (.c (.fn (.func 18) [] [])) [.t 148, .t 149, .t 150]) 151, .mv 151 147, .op (.ext (.t 147) 0) 152, .op (.ext (.t 147) 1) 153, .mv 152 22, .mv 153 23]) (.seq (.seq (.reg [.mv 22 154, .op (.eq .ptr false (.t 154) (.c .nilp)) 155, .mv 155 156, ⟨0, 0, some (.mv (.t 23)), [], some 157, some (156, false)⟩, ⟨0, 0, some (.eq .int true (.t 157) (.c (.int .i64 0))), [], some 158, some (156, false)⟩, .op (.pick (.t 156) (.c (.bool true)) (.t 158)) 159]) (.cond (.t 159) (.seq (.reg [.op (.mv (.c (.bool false))) 8]) .ret) .skip)) (.seq (.reg [.mv 22 160, .mv 160 11]) (.seq (.reg [.op (.ld (.t 13) (some 3)) 161, .mv 11 162, .op (.call (.c (.fn (.func 21) [] [])) [.t 161, .t 162]) 163, .mv 163 24]) (.seq (.reg [.mv 24 164, .op (.un .not (.t 164)) 165]) (.cond (.t 165) (.seq (.reg [.op (.mv (.c (.bool false))) 8]) .ret) .skip))))))))))
def rc9_J2 : RC := .seq (.reg [.mv 10 115, .mv 0 116, .mv 1 117, .op (.call (.c (.fn (.func 18) [] [])) [.t 115, .t 116, .t 117]) 118, .mv 118 114, .op (.ext (.t 114) 0) 119, .op (.ext (.t 114) 1) 120, .mv 119 18, .mv 120 19]) (.seq (.seq (.reg [.mv 18 121, .op (.eq .ptr false (.t 121) (.c .nilp)) 122, .mv 122 123, ⟨0, 0, some (.mv (.t 19)), [], some 124, some (123, false)⟩, ⟨0, 0, some (.eq .int true (.t 124) (.c (.int .i64 0))), [], some 125, some (123, false)⟩, .op (.pick (.t 123) (.c (.bool true)) (.t 125)) 126]) (.cond (.t 126) (.seq (.reg [.op (.mv (.c (.bool false))) 8]) .ret) .skip)) (.seq (.reg [.mv 18 127, .mv 127 11]) (.seq (.reg [.op (.ld (.t 13) (some 3)) 128, .mv 11 129, .op (.call (.c (.fn (.func 21) [] [])) [.t 128, .t 129]) 130, .mv 130 20]) (.seq (.seq (.reg [.mv 20 131, .op (.un .not (.t 131)) 132]) (.cond (.t 132) (.reg [.op (.ld (.t 17) (some 3)) 133, ⟨0, 0, some (.st (.t 13) (.t 133) 3), [], none, none⟩]) .skip)) rc9_J1))))
def rc9_J3 : RC := .seq (.reg [.mv 10 78, .mv 15 79, .op (.call (.c (.fn (.func 26) [] [])) [.t 78, .t 79]) 80]) (.seq (.reg [.mv 11 81, .mv 2 82, .mv 14 83, .op (.ia (.t 82) (.t 83) 1) 84, .op (.ld (.t 84) none) 85, .op (.call (.c (.fn (.func 19) [] [])) [.t 81, .t 85]) 86, .mv 86 16]) (.seq (.dreg [⟨0, 0, some (.ld (.t 13) (some 3)), [13], some 87, none⟩, ⟨1, 0, some (.mv (.t 2)), [2], some 88, none⟩, ⟨2, 0, some (.mv (.t 14)), [14], some 89, none⟩, ⟨3, 6, some (.ia (.t 88) (.t 89) 1), [88, 89], some 90, none⟩, ⟨4, 14, some (.ld (.t 90) none), [90], some 91, none⟩, ⟨6, 0, some (.al [.lst [] (.ex 0), .int .i64 0, .int .i64 0]), [], some 17, none⟩] [(⟨5, 31, some (.call (.c (.fn (.func 20) [] [])) [.t 87, .t 91]), [87, 91], some 92, none⟩, []), (⟨7, 127, some (.st (.t 17) (.t 92) 3), [17, 92], none, none⟩, [])] [87, 88, 89, 90, 91, 92, 17]) (.seq (.seq (.reg [.mv 16 93, .op (.eq .int false (.t 93) (.c (.int .i64 0))) 94]) (.cond (.t 94) (.seq (.reg [.op (.ld (.t 17) (some 3)) 95, ⟨0, 0, some (.st (.t 13) (.t 95) 3), [], none, none⟩]) (.seq (.reg [.mv 10 96, .op (.call (.c (.fn (.func 26) [] [])) [.t 96, .c (.int .i64 (-(0 + 1)))]) 97]) (.exit 1))) .skip)) (.seq (.seq (.reg [.mv 16 98, .op (.eq .int true (.t 98) (.c (.int .i64 180))) 99]) (.cond (.t 99) (.seq (.reg [.op (.mv (.c (.bool false))) 8]) .ret) .skip)) (.seq (.reg [.mv 10 100, .op (.call (.c (.fn (.func 27) [] [])) [.t 100]) 101]) (.seq (.seq (.reg [.mv 15 102, .op (.bin .gtr (.t 102) (.c (.int .i64 0))) 103]) (.cond (.t 103) (.seq (.reg [.mv 10 104, .mv 15 105, .op (.bin .quo (.t 105) (.c (.int .i64 2))) 106, .op (.call (.c (.fn (.func 26) [] [])) [.t 104, .t 106]) 107]) (.seq (.reg [.mv 10 108, .mv 0 109, .mv 1 110, .op (.call (.c (.fn (.func 18) [] [])) [.t 108, .t 109, .t 110]) 111]) (.reg [.mv 10 112, .op (.call (.c (.fn (.func 27) [] [])) [.t 112]) 113]))) .skip)) rc9_J2))))))
def rc9_J4 : RC := .reg [.mv 14 52, .op (.bin .add (.t 52) (.c (.int .i64 1))) 53, .mv 53 14]
def rc9_L1 : RC := .seq (.seq (.reg [.mv 14 44, .mv 2 45, .op (.lenL (.t 45)) 46, .op (.bin .lss (.t 44) (.t 46)) 47, .mv 47 48, ⟨0, 0, some (.mv (.t 14)), [], some 49, some (48, true)⟩, ⟨0, 0, some (.bin .lss (.t 49) (.c (.int .i64 30))), [], some 50, some (48, true)⟩, .op (.pick (.t 48) (.t 50) (.c (.bool false))) 51]) (.cond (.t 51) .skip (.exit 0))) (.seq (.block 1 (.seq (.seq (.reg [.mv 9 54, .op (.un .not (.t 54)) 55, .mv 55 56, ⟨0, 0, some (.mv (.t 11)), [], some 57, some (56, false)⟩, ⟨0, 0, some (.eq .ptr false (.t 57) (.c .nilp)), [], some 58, some (56, false)⟩, .op (.pick (.t 56) (.c (.bool true)) (.t 58)) 59, .mv 59 60, ⟨0, 0, some (.mv (.t 12)), [], some 61, some (60, false)⟩, ⟨0, 0, some (.eq .int true (.t 61) (.c (.int .i64 0))), [], some 62, some (60, false)⟩, .op (.pick (.t 60) (.c (.bool true)) (.t 62)) 63]) (.cond (.t 63) (.seq (.reg [.op (.mv (.c (.bool false))) 8]) .ret) .skip)) (.seq (.seq (.reg [.mv 2 64, .mv 14 65, .op (.ia (.t 64) (.t 65) 1) 66, .op (.ld (.t 66) none) 67, .op (.lenS (.t 67)) 68, .op (.bin .gtr (.t 68) (.c (.int .i64 200))) 69]) (.cond (.t 69) (.seq (.reg [.op (.mv (.c (.bool true))) 8]) .ret) .skip)) (.seq (.reg [⟨0, 0, some (.mv (.c (.int .i64 (-(0 + 1))))), [], some 15, none⟩]) (.seq (.seq (.reg [.mv 14 70, .mv 3 71, .op (.lenL (.t 71)) 72, .op (.bin .lss (.t 70) (.t 72)) 73]) (.cond (.t 73) (.reg [.mv 3 74, .mv 14 75, .op (.ia (.t 74) (.t 75) 1) 76, .op (.ld (.t 76) none) 77, .mv 77 15]) .skip)) rc9_J3))))) rc9_J4)
def rc9_J5 : RC := .seq (.reg [.mv 9 166, .mv 166 8]) .ret
def rc9 : RC := .seq (.reg [.op (.mv (.c (.bool false))) 8]) (.seq (.reg [.op (.call (.c (.fn (.func 11) [] [])) []) 25, .mv 25 9]) (.seq (.seq (.reg [.mv 0 26, .op (.bin .lss (.t 26) (.c (.int .i64 0))) 27, .mv 27 28, ⟨0, 0, some (.mv (.t 1)), [], some 29, some (28, false)⟩, ⟨0, 0, some (.bin .lss (.t 29) (.c (.int .i64 0))), [], some 30, some (28, false)⟩, .op (.pick (.t 28) (.c (.bool true)) (.t 30)) 31]) (.cond (.t 31) (.seq (.reg [.mv 9 32, .mv 32 8]) .ret) .skip)) (.seq (.reg [.op (.call (.c (.fn (.func 17) [] [])) []) 33, .mv 33 10]) (.seq (.reg [.mv 10 35, .mv 0 36, .mv 1 37, .op (.call (.c (.fn (.func 18) [] [])) [.t 35, .t 36, .t 37]) 38, .mv 38 34, .op (.ext (.t 34) 0) 39, .op (.ext (.t 34) 1) 40, .mv 39 11, .mv 40 12]) (.seq (.reg [.mv 0 41, .mv 1 42, .op (.bld [.lst [] (.ex 0), .int .i64 0, .int .i64 0] [(0, 1), (1, 1), (2, 1)] [(1, .t 41), (2, .t 42)]) 43, .op (.al [.lst [] (.ex 0), .int .i64 0, .int .i64 0]) 13, ⟨0, 0, some (.st (.t 13) (.t 43) 3), [], none, none⟩]) (.seq (.seq (.reg [.op (.mv (.c (.int .i64 0))) 14]) (.block 0 (.loop rc9_L1))) rc9_J5))))))
theorem res9 : (Go.Proofs.Try.f9.body).bind (resC Go.Proofs.Try.prog) = some rc9 := by kernel_rfl
def rc11 : RC := .seq (.reg [.op (.mv (.c (.bool false))) 0]) (.seq (.reg [.op (.call (.c (.fn (.func 17) [] [])) []) 13, .mv 13 1]) (.seq (.reg [.mv 1 15, .op (.call (.c (.fn (.func 18) [] [])) [.t 15, .c (.int .i64 2), .c (.int .i64 10)]) 16, .mv 16 14, .op (.ext (.t 14) 0) 17, .op (.ext (.t 14) 1) 18, .mv 17 2, .mv 18 3]) (.seq (.seq (.reg [.mv 1 19, .op (.eq .ptr false (.t 19) (.c .nilp)) 20, .mv 20 21, ⟨0, 0, some (.mv (.t 2)), [], some 22, some (21, false)⟩, ⟨0, 0, some (.eq .ptr false (.t 22) (.c .nilp)), [], some 23, some (21, false)⟩, .op (.pick (.t 21) (.c (.bool true)) (.t 23)) 24, .mv 24 25, ⟨0, 0, some (.mv (.t 3)), [], some 26, some (25, false)⟩, ⟨0, 0, some (.eq .int true (.t 26) (.c (.int .i64 0))), [], some 27, some (25, false)⟩, .op (.pick (.t 25) (.c (.bool true)) (.t 27)) 28]) (.cond (.t 28) (.seq (.reg [.op (.mv (.c (.bool false))) 0]) .ret) .skip)) (.seq (.reg [.mv 2 29, .op (.call (.c (.fn (.func 23) [] [])) [.t 29, .c (.str [97]), .c (.str [49])]) 30]) (.seq (.reg [.mv 2 31, .op (.call (.c (.fn (.func 23) [] [])) [.t 31, .c (.str [98]), .c (.str [50])]) 32]) (.seq (.reg [.mv 2 34, .op (.call (.c (.fn (.func 22) [] [])) [.t 34, .c (.str [97])]) 35, .mv 35 33, .op (.ext (.t 33) 0) 36, .op (.ext (.t 33) 1) 37, .op (.ext (.t 33) 2) 38, .mv 36 4, .mv 37 5, .mv 38 6]) (.seq (.reg [.mv 2 39, .op (.call (.c (.fn (.func 23) [] [])) [.t 39, .c (.str [99]), .c (.str [51])]) 40, .mv 40 7]) (.seq (.reg [.mv 2 41, .op (.call (.c (.fn (.func 25) [] [])) [.t 41]) 42, .op (.call (.c (.fn (.func 34) [] [])) [.t 42]) 43, .mv 43 8]) (.seq (.reg [.mv 2 44, .op (.call (.c (.fn (.func 23) [] [])) [.t 44, .c (.str [100]), .c (.str [49, 50, 51, 52, 53, 54, 55, 56, 57, 48])]) 45, .mv 45 9]) (.seq (.reg [.mv 2 46, .op (.call (.c (.fn (.func 25) [] [])) [.t 46]) 47, .op (.call (.c (.fn (.func 34) [] [])) [.t 47]) 48, .mv 48 10]) (.seq (.reg [.op (.call (.c (.fn (.func 12) [] [])) [.c (.str [1])]) 50, .mv 50 49, .op (.ext (.t 49) 0) 51, .op (.ext (.t 49) 1) 52, .mv 51 11, .mv 52 12]) (.seq (.reg [.mv 4 53, .op (.eq .str false (.t 53) (.c (.str [49]))) 54, .mv 54 55, ⟨0, 0, some (.mv (.t 5)), [], some 56, some (55, true)⟩, .op (.pick (.t 55) (.t 56) (.c (.bool false))) 57, .mv 57 58, ⟨0, 0, some (.mv (.t 6)), [], some 59, some (58, true)⟩, ⟨0, 0, some (.eq .int false (.t 59) (.c (.int .i64 0))), [], some 60, some (58, true)⟩, .op (.pick (.t 58) (.t 60) (.c (.bool false))) 61, .mv 61 62, ⟨0, 0, some (.mv (.t 7)), [], some 63, some (62, true)⟩, ⟨0, 0, some (.eq .int false (.t 63) (.c (.int .i64 0))), [], some 64, some (62, true)⟩, .op (.pick (.t 62) (.t 64) (.c (.bool false))) 65, .mv 65 66, ⟨0, 0, some (.mv (.t 8)), [], some 67, some (66, true)⟩, ⟨0, 0, some (.eq .str false (.t 67) (.c (.str [99, 32, 97, 32]))), [], some 68, some (66, true)⟩, .op (.pick (.t 66) (.t 68) (.c (.bool false))) 69, .mv 69 70, ⟨0, 0, some (.mv (.t 9)), [], some 71, some (70, true)⟩, ⟨0, 0, some (.eq .int false (.t 71) (.c (.int .i64 0))), [], some 72, some (70, true)⟩, .op (.pick (.t 70) (.t 72) (.c (.bool false))) 73, .mv 73 74, ⟨0, 0, some (.mv (.t 10)), [], some 75, some (74, true)⟩, ⟨0, 0, some (.eq .str false (.t 75) (.c (.str [99, 32, 97, 32]))), [], some 76, some (74, true)⟩, .op (.pick (.t 74) (.t 76) (.c (.bool false))) 77, .mv 77 78, ⟨0, 0, some (.mv (.t 11)), [], some 79, some (78, true)⟩, ⟨0, 0, some (.lenL (.t 79)), [], some 80, some (78, true)⟩, ⟨0, 0, some (.eq .int false (.t 80) (.c (.int .i64 0))), [], some 81, some (78, true)⟩, .op (.pick (.t 78) (.t 81) (.c (.bool false))) 82, .mv 82 83, ⟨0, 0, some (.mv (.t 12)), [], some 84, some (83, true)⟩, ⟨0, 0, some (.eq .int false (.t 84) (.c (.int .i64 0))), [], some 85, some (83, true)⟩, .op (.pick (.t 83) (.t 85) (.c (.bool false))) 86, .mv 86 0]) .ret))))))))))))
theorem res11 : (Go.Proofs.Try.f11.body).bind (resC Go.Proofs.Try.prog) = some rc11 := by kernel_rfl
def rc19 : RC := .seq (.reg [.op (.mv (.c (.int .i64 0))) 4]) (.seq (.reg [.mv 0 9, .mv 1 10, .op (.call (.c (.fn (.func 22) [] [])) [.t 9, .t 10]) 11, .mv 11 8, .op (.ext (.t 8) 0) 12, .op (.ext (.t 8) 1) 13, .op (.ext (.t 8) 2) 14, .mv 12 5, .mv 13 6, .mv 14 7]) (.seq (.seq (.reg [.mv 7 15, .op (.eq .int true (.t 15) (.c (.int .i64 0))) 16]) (.cond (.t 16) (.seq (.reg [.mv 7 17, .mv 17 4]) .ret) .skip)) (.seq (.seq (.reg [.mv 6 18, .op (.un .not (.t 18)) 19]) (.cond (.t 19) (.seq (.reg [.mv 0 20, .mv 1 21, .mv 1 22, .op (.call (.c (.fn (.func 44) [] [])) [.t 22]) 23, .op (.call (.c (.fn (.func 23) [] [])) [.t 20, .t 21, .t 23]) 24, .mv 24 4]) .ret) .skip)) (.seq (.seq (.reg [.mv 5 25, .mv 1 26, .op (.call (.c (.fn (.func 44) [] [])) [.t 26]) 27, .op (.eq .str true (.t 25) (.t 27)) 28]) (.cond (.t 28) (.seq (.reg [.op (.mv (.c (.int .i64 1))) 4]) .ret) .skip)) (.seq (.reg [.op (.mv (.c (.int .i64 0))) 4]) .ret)))))
theorem res19 : (Go.Proofs.Try.f19.body).bind (resC Go.Proofs.Try.prog) = some rc19 := by kernel_rfl
def rc20_J1 : RC := .reg [.mv 7 40, .op (.bin .add (.t 40) (.c (.int .i64 1))) 41, .mv 41 7]
def rc20_L1 : RC := .seq (.seq (.reg [.mv 7 28, .op (.fa (.t 2) 0) 29, .op (.ld (.t 29) none) 30, .op (.lenL (.t 30)) 31, .op (.bin .lss (.t 28) (.t 31)) 32, .mv 32 33, ⟨0, 0, some (.mv (.t 5)), [], some 34, some (33, true)⟩, ⟨0, 0, some (.lenL (.t 34)), [], some 35, some (33, true)⟩, ⟨0, 0, some (.fa (.t 2) 1), [], some 36, some (33, true)⟩, ⟨0, 0, some (.ld (.t 36) none), [], some 37, some (33, true)⟩, ⟨0, 0, some (.bin .lss (.t 35) (.t 37)), [], some 38, some (33, true)⟩, .op (.pick (.t 33) (.t 38) (.c (.bool false))) 39]) (.cond (.t 39) .skip (.exit 0))) (.seq (.block 1 (.seq (.seq (.reg [.op (.fa (.t 2) 0) 42, .op (.ld (.t 42) none) 43, .mv 7 44, .op (.ia (.t 43) (.t 44) 1) 45, .op (.ld (.t 45) none) 46, .mv 1 47, .op (.eq .str false (.t 46) (.t 47)) 48]) (.cond (.t 48) (.exit 1) .skip)) (.seq (.seq (.reg [.op (.fa (.t 2) 0) 49, .op (.ld (.t 49) none) 50, .mv 7 51, .op (.ia (.t 50) (.t 51) 1) 52, .op (.ld (.t 52) none) 53, .op (.lenS (.t 53)) 54, .op (.bin .mul (.c (.int .i64 3)) (.t 54)) 55, .mv 6 56, .op (.bin .gtr (.t 55) (.t 56)) 57]) (.cond (.t 57) (.exit 0) .skip)) (.seq (.reg [.mv 6 58, .op (.fa (.t 2) 0) 59, .op (.ld (.t 59) none) 60, .mv 7 61, .op (.ia (.t 60) (.t 61) 1) 62, .op (.ld (.t 62) none) 63, .op (.lenS (.t 63)) 64, .op (.bin .mul (.c (.int .i64 3)) (.t 64)) 65, .op (.bin .sub (.t 58) (.t 65)) 66, .mv 66 6]) (.reg [.mv 5 67, .op (.fa (.t 2) 0) 68, .op (.ld (.t 68) none) 69, .mv 7 70, .op (.ia (.t 69) (.t 70) 1) 71, .op (.ld (.t 71) none) 72, .op (.bs 1 1 [.str []] [(0, .t 72)]) 73, .op (.app (.t 67) (.t 73) 1 16 [.str []]) 74, .mv 74 5]))))) rc20_J1)
def rc20_J2 : RC := .seq (.reg [.mv 5 75, .op (.fa (.t 2) 1) 76, .op (.ld (.t 76) none) 77, .op (.fa (.t 2) 2) 78, .op (.ld (.t 78) none) 79, .op (.bld [.lst [] (.ex 0), .int .i64 0, .int .i64 0] [(0, 1), (1, 1), (2, 1)] [(0, .t 75), (1, .t 77), (2, .t 79)]) 80, ⟨0, 0, some (.st (.t 4) (.t 80) 3), [], none, none⟩]) .ret
def rc20 : RC := .seq (.reg [.op (.bx (.t 0)) 2, .op (.al [.lst [] (.ex 0), .int .i64 0, .int .i64 0]) 4]) (.seq (.seq (.reg [.op (.fa (.t 2) 1) 8, .op (.ld (.t 8) none) 9, .op (.bin .lss (.t 9) (.c (.int .i64 1))) 10, .mv 10 11, ⟨0, 0, some (.mv (.t 1)), [], some 12, some (11, false)⟩, ⟨0, 0, some (.lenS (.t 12)), [], some 13, some (11, false)⟩, ⟨0, 0, some (.bin .mul (.c (.int .i64 3)) (.t 13)), [], some 14, some (11, false)⟩, ⟨0, 0, some (.fa (.t 2) 2), [], some 15, some (11, false)⟩, ⟨0, 0, some (.ld (.t 15) none), [], some 16, some (11, false)⟩, ⟨0, 0, some (.bin .gtr (.t 14) (.t 16)), [], some 17, some (11, false)⟩, .op (.pick (.t 11) (.c (.bool true)) (.t 17)) 18]) (.cond (.t 18) (.seq (.reg [.op (.ld (.t 2) (some 3)) 19, ⟨0, 0, some (.st (.t 4) (.t 19) 3), [], none, none⟩]) .ret) .skip)) (.seq (.reg [.mv 1 20, .op (.bs 1 1 [.str []] [(0, .t 20)]) 21, .mv 21 5]) (.seq (.reg [.op (.fa (.t 2) 2) 22, .op (.ld (.t 22) none) 23, .mv 1 24, .op (.lenS (.t 24)) 25, .op (.bin .mul (.c (.int .i64 3)) (.t 25)) 26, .op (.bin .sub (.t 23) (.t 26)) 27, .mv 27 6]) (.seq (.seq (.reg [.op (.mv (.c (.int .i64 0))) 7]) (.block 0 (.loop rc20_L1))) rc20_J2))))
theorem res20 : (Go.Proofs.Try.f20.body).bind (resC Go.Proofs.Try.prog) = some rc20 := by kernel_rfl
def rc21_J1 : RC := .reg [.mv 6 19, .op (.bin .add (.t 19) (.c (.int .i64 1))) 20, .mv 20 6]
def rc21_L1 : RC := .seq (.seq (.reg [.mv 6 15, .mv 5 16, .op (.lenL (.t 16)) 17, .op (.bin .lss (.t 15) (.t 17)) 18]) (.cond (.t 18) .skip (.exit 0))) (.seq (.block 1 (.seq (.dreg [⟨0, 0, some (.mv (.t 5)), [5], some 21, none⟩, ⟨1, 0, some (.mv (.t 6)), [6], some 22, none⟩, ⟨2, 3, some (.ia (.t 21) (.t 22) 4), [21, 22], some 23, none⟩, ⟨3, 7, some (.fa (.t 23) 0), [23], some 24, none⟩, ⟨4, 15, some (.ld (.t 24) none), [24], some 25, none⟩, ⟨5, 0, some (.fa (.t 2) 0), [2], some 26, none⟩, ⟨6, 32, some (.ld (.t 26) none), [26], some 27, none⟩, ⟨7, 0, some (.mv (.t 6)), [6], some 28, none⟩, ⟨8, 224, some (.ia (.t 27) (.t 28) 1), [27, 28], some 29, none⟩, ⟨9, 480, some (.ld (.t 29) none), [29], some 30, none⟩, ⟨10, 1023, some (.eq .str true (.t 25) (.t 30)), [25, 30], some 31, none⟩, ⟨11, 2047, some (.mv (.t 31)), [31], some 32, none⟩, ⟨12, 4095, some (.mv (.t 5)), [5, 32], some 33, some (32, false)⟩, ⟨13, 4095, some (.mv (.t 6)), [6, 32], some 34, some (32, false)⟩, ⟨14, 16383, some (.ia (.t 33) (.t 34) 4), [33, 34, 32], some 35, some (32, false)⟩, ⟨15, 32767, some (.fa (.t 35) 1), [35, 32], some 36, some (32, false)⟩, ⟨16, 65535, some (.ld (.t 36) none), [36, 32], some 37, some (32, false)⟩, ⟨17, 4095, some (.fa (.t 2) 0), [2, 32], some 38, some (32, false)⟩, ⟨18, 135167, some (.ld (.t 38) none), [38, 32], some 39, some (32, false)⟩, ⟨19, 4095, some (.mv (.t 6)), [6, 32], some 40, some (32, false)⟩, ⟨20, 921599, some (.ia (.t 39) (.t 40) 1), [39, 40, 32], some 41, some (32, false)⟩, ⟨21, 1970175, some (.ld (.t 41) none), [41, 32], some 42, some (32, false)⟩] [(⟨22, 4067327, some (.call (.c (.fn (.func 44) [] [])) [.t 42]), [42, 32], some 43, some (32, false)⟩, [⟨23, 8388607, some (.eq .str true (.t 37) (.t 43)), [37, 43, 32], some 44, some (32, false)⟩, ⟨24, 16777215, some (.pick (.t 32) (.c (.bool true)) (.t 44)), [32, 44], some 45, none⟩, ⟨25, 33554431, some (.mv (.t 45)), [45], some 46, none⟩, ⟨26, 67108863, some (.mv (.t 5)), [5, 46], some 47, some (46, false)⟩, ⟨27, 67108863, some (.mv (.t 6)), [6, 46], some 48, some (46, false)⟩, ⟨28, 268435455, some (.ia (.t 47) (.t 48) 4), [47, 48, 46], some 49, some (46, false)⟩, ⟨29, 536870911, some (.fa (.t 49) 2), [49, 46], some 50, some (46, false)⟩, ⟨30, 1073741823, some (.ld (.t 50) none), [50, 46], some 51, some (46, false)⟩, ⟨31, 2147483647, some (.un .not (.t 51)), [51, 46], some 52, some (46, false)⟩, ⟨32, 4294967295, some (.pick (.t 46) (.c (.bool true)) (.t 52)), [46, 52], some 53, none⟩])] [21, 22, 23, 24, 25, 26, 27, 28, 29, 30, 31, 32, 33, 34, 35, 36, 37, 38, 39, 40, 41, 42, 43, 44, 45, 46, 47, 48, 49, 50, 51, 52, 53]) (.cond (.t 53) (.seq (.reg [.op (.mv (.c (.bool false))) 4]) .ret) .skip))) rc21_J1)
def rc21_J2 : RC := .seq (.reg [.op (.mv (.c (.bool true))) 4]) .ret
def rc21 : RC := .seq (.reg [.op (.bx (.t 0)) 2, .op (.mv (.c (.bool false))) 4]) (.seq (.reg [.mv 1 7, .op (.call (.c (.fn (.func 25) [] [])) [.t 7]) 8, .mv 8 5]) (.seq (.seq (.reg [.mv 5 9, .op (.lenL (.t 9)) 10, .op (.fa (.t 2) 0) 11, .op (.ld (.t 11) none) 12, .op (.lenL (.t 12)) 13, .op (.eq .int true (.t 10) (.t 13)) 14]) (.cond (.t 14) (.seq (.reg [.op (.mv (.c (.bool false))) 4]) .ret) .skip)) (.seq (.seq (.reg [.op (.mv (.c (.int .i64 0))) 6]) (.block 0 (.loop rc21_L1))) rc21_J2)))
theorem res21 : (Go.Proofs.Try.f21.body).bind (resC Go.Proofs.Try.prog) = some rc21 := by kernel_rfl
def rc34_J1 : RC := .reg [.mv 4 9, .op (.bin .add (.t 9) (.c (.int .i64 1))) 10, .mv 10 4]
def rc34_L1 : RC := .seq (.seq (.reg [.mv 4 5, .mv 0 6, .op (.lenL (.t 6)) 7, .op (.bin .lss (.t 5) (.t 7)) 8]) (.cond (.t 8) .skip (.exit 0))) (.seq (.block 1 (.reg [.mv 3 11, .mv 0 12, .mv 4 13, .op (.ia (.t 12) (.t 13) 4) 14, .op (.fa (.t 14) 0) 15, .op (.ld (.t 15) none) 16, .op (.bin .add (.t 11) (.t 16)) 17, .op (.bin .add (.t 17) (.c (.str [32]))) 18, .mv 18 3])) rc34_J1)
def rc34_J2 : RC := .seq (.reg [.mv 3 19, .mv 19 2]) .ret
def rc34 : RC := .seq (.reg [.op (.mv (.c (.str []))) 2]) (.seq (.reg [.op (.mv (.c (.str []))) 3]) (.seq (.seq (.reg [.op (.mv (.c (.int .i64 0))) 4]) (.block 0 (.loop rc34_L1))) rc34_J2))
theorem res34 : (Go.Proofs.Try.f34.body).bind (resC Go.Proofs.Try.prog) = some rc34 := by kernel_rfl
def rc44 : RC := .seq (.reg [.op (.mv (.c (.str []))) 2]) (.seq (.reg [.mv 0 3, .mv 0 4, .op (.bin .add (.t 3) (.t 4)) 5, .mv 5 2]) .ret)
theorem res44 : (Go.Proofs.Try.f44.body).bind (resC Go.Proofs.Try.prog) = some rc44 := by kernel_rfl
end Go.VM
end
section
/- The model of what is kept: a key is asked. -/
set_option maxRecDepth 100000
set_option linter.unusedVariables false
set_option linter.unusedSimpArgs false
namespace Go.VM
open Go.RowKit
def kst (s : List Nat) : List V := [.str s]
theorem value_spec (k : List Nat) (hk : k.length ≤ 100000000) (h : H) : SCall Go.Proofs.Try.prog [] 44 [.str k] none h (.ret (.str (k ++ k))) none h := by
 refine SCall.pure0 rfl ?_ (by exact ⟨trivial, trivial⟩) (by exact trivial) h
 refine SCall.listed (fn := Go.Proofs.Try.f44) (by kernel_rfl) res44 (by kernel_rfl) (by kernel_rfl) (Nat.le_refl _) rfl (trivial) trivial ?_
 unfold rc44
 refine WR.seq (WR.reg (WQ.runS [] 1000 _ _ _ _ rfl (WQ.nilS ?_)))
 refine WR.seq (WR.reg (WQ.runS [] 2 _ _ _ _ rfl ?_))
 refine WQ.lightS rfl rfl rfl (add_str rfl rfl (by unfold lim; omega) _) rfl (WQ.runS [] 1000 _ _ _ _ rfl (WQ.nilS ?_))
 refine WR.ret ⟨rfl, rfl, ⟨_, rfl, VLe.refl _⟩, fun b _ => rfl⟩
def askG (most : Int) (key : List Nat) : List (List Nat) → Nat → List (List Nat) → List (List Nat)
 | [], _, out => out
 | x :: xs, left, out => if ¬ ((out.length : Int) < most) then out else if x = key then askG most key xs left out else if 3 * x.length > left then out else askG most key xs (left - 3 * x.length) (out ++ [x])
def askF (most bytes : Int) (ms : List (List Nat)) (key : List Nat) : List (List Nat) :=
 if most < 1 ∨ ((3 * key.length : Nat) : Int) > bytes then ms else askG most key ms (bytes - ((3 * key.length : Nat) : Int)).toNat [key]
def askOl (t : Bool) (n : Nat) : OL := match t with | true => [(1000, .tok n)] | false => []
def askC (t : Bool) : LC := match t with | true => .tk 1000 | false => .ex 1
def askNx (t : Bool) : Nat := match t with | true => 1001 | false => 1000
def askLc (ms : List (List Nat)) (most bytes : Int) : LM := [(4, [.lst [] (.ex 0), .int .i64 0, .int .i64 0]), (2, [.lst (ms.map kst) .unk, .int .i64 most, .int .i64 bytes])]
theorem ask_loop {QN : S → Prop} {QX : X → S → Prop} (ms : List (List Nat)) (most bytes : Int) (key : List Nat) (hms : ms.length ≤ 1000000) (hxs : ∀ x ∈ ms, x.length ≤ 1000000) : ∀ (m i : Nat) (left : Nat) (out : List (List Nat)) (t : Bool), i + m = ms.length → (left : Int) ≤ bytes → bytes < 9223372036854775808 → 1 ≤ out.length → out.length ≤ 1 + i → (t = true ∨ out.length = 1) →
  (∀ tm t', tg tm 5 = some (.v (.lst ((askG most key (ms.drop i) left out).map kst) (askC t'))) → tg tm 2 = some (.l 2 0) → tg tm 4 = some (.l 4 0) → QX (.exit 0) (SL.toS ⟨tm, [], none, askNx t', askOl t' (askG most key (ms.drop i) left out).length, askLc ms most bytes⟩)) →
  WLr Go.Proofs.Try.prog [] ⟨Go.Proofs.Try.f20.ntmps, none, 20⟩ rc20_L1 (SL.toS ⟨[(1, .v (.str key)), (2, .l 2 0), (4, .l 4 0), (5, .v (.lst (out.map kst) (askC t))), (6, .v (.int .i64 left)), (7, .v (.int .i64 i))], [], none, askNx t, askOl t out.length, askLc ms most bytes⟩) QN QX := by
 intro m
 have hl : (ms.map kst).length = ms.length := List.length_map ..
 induction m with
 | zero =>
  intro i left out t hi hle hb h1 h2 ht hx
  unfold rc20_L1
  refine WLr.of ?_
  refine WR.seq (WR.seq (WR.reg (WQ.runS [] 5 _ _ _ _ rfl ?_)))
  rw [show decide ((i : Int) < ((ms.map kst).length : Int)) = false from decide_eq_false (by omega)]
  refine WQ.runS [] 1000 _ _ _ _ rfl (WQ.nilS (WR.condF rfl (WR.exit ?_)))
  rw [List.drop_eq_nil_iff.2 (by omega)] at hx
  exact hx _ t rfl rfl rfl
 | succ m ih =>
  intro i left out t hi hle hb h1 h2 ht hx
  have hlt : i < ms.length := by omega
  obtain ⟨x, he⟩ : ∃ x, ms[i]? = some x := ⟨_, List.getElem?_eq_getElem hlt⟩
  have hd : ms.drop i = x :: ms.drop (i + 1) := by
   rw [List.drop_eq_getElem_cons hlt]
   congr 1
   rw [List.getElem?_eq_getElem hlt] at he; exact Option.some.inj he
  have g0 : (ms.map kst)[i]? = some (kst x) := by rw [List.getElem?_map, he]; rfl
  have hxl : x.length ≤ 1000000 := hxs x (List.mem_of_getElem? he)
  have hlo : (out.map kst).length = out.length := List.length_map ..
  have hnext : IntKind.i64.wrap ((i : Int) + 1) = ((i + 1 : Nat) : Int) := by rw [wrap64 (by omega) (by omega)]; rfl
  have hmul : IntKind.i64.wrap (3 * (x.length : Int)) = ((3 * x.length : Nat) : Int) := by rw [wrap64 (by omega) (by omega)]; omega
  rw [hd] at hx
  unfold rc20_L1
  refine WLr.of ?_
  refine WR.seq (WR.seq (WR.reg (WQ.runS [] 5 _ _ _ _ rfl ?_)))
  rw [show decide ((i : Int) < ((ms.map kst).length : Int)) = true from decide_eq_true (by omega)]
  refine WQ.runS [] 6 _ _ _ _ rfl ?_
  by_cases hmo : (out.length : Int) < most
  ·rw [show decide (((out.map kst).length : Int) < most) = true from decide_eq_true (by omega)]
   refine WQ.runS [] 1000 _ _ _ _ rfl (WQ.nilS (WR.condT rfl (WR.skip ?_)))
   refine WR.seq (WR.block (WR.seq (WR.seq (WR.reg (WQ.runS [] 3 _ _ _ _ rfl ?_)))))
   refine WQ.lightS rfl rfl rfl (ia_at rfl rfl g0 rfl) rfl (WQ.runS [] 1000 _ _ _ _ rfl (WQ.nilS ?_))
   by_cases hk : x = key
   ·rw [show decide (x = key) = true from decide_eq_true hk]
    refine WR.condT rfl (WR.exit ?_)
    show WR Go.Proofs.Try.prog [] _ rc20_J1 _ _ _
    unfold rc20_J1
    refine WR.reg (WQ.runS [] 1000 _ _ _ _ rfl (WQ.nilS ?_))
    rw [hnext]
    have e1 : askG most key (x :: ms.drop (i + 1)) left out = askG most key (ms.drop (i + 1)) left out := by simp only [askG, hmo, not_true, if_false, hk, if_true]
    rw [e1] at hx
    refine WIr.again (WLr.weak ?_ (ih (i + 1) left out t (by omega) hle hb h1 (by omega) ht hx))
    refine SW.tellR ?_ ?_
    ·repeat (first | exact .nil | refine .cons rfl (.v (VLe.refl _)) ?_ | refine .cons rfl (.l _ _ rfl) ?_ | refine .cons rfl (.v (VLe.unk _ _)) ?_)
    ·repeat (first | exact .nil | refine .cons rfl (.inl rfl) ?_)
   ·rw [show decide (x = key) = false from decide_eq_false hk]
    refine WR.condF rfl (WR.skip ?_)
    refine WR.seq (WR.seq (WR.reg (WQ.runS [] 3 _ _ _ _ rfl ?_)))
    refine WQ.lightS rfl rfl rfl (ia_at rfl rfl g0 rfl) rfl (WQ.runS [] 3 _ _ _ _ rfl ?_)
    rw [hmul]
    refine WQ.runS [] 1000 _ _ _ _ rfl (WQ.nilS ?_)
    by_cases hg : 3 * x.length > left
    ·rw [show decide (((3 * x.length : Nat) : Int) > (left : Int)) = true from decide_eq_true (by omega)]
     refine WR.condT rfl (WR.exit ?_)
     have e1 : askG most key (x :: ms.drop (i + 1)) left out = out := by simp only [askG, hmo, not_true, if_false, if_neg hk, if_pos hg]
     rw [e1] at hx
     exact hx _ t rfl rfl rfl
    ·rw [show decide (((3 * x.length : Nat) : Int) > (left : Int)) = false from decide_eq_false (by omega)]
     refine WR.condF rfl (WR.skip ?_)
     have e1 : askG most key (x :: ms.drop (i + 1)) left out = askG most key (ms.drop (i + 1)) (left - 3 * x.length) (out ++ [x]) := by simp only [askG, hmo, not_true, if_false, if_neg hk, if_neg hg]
     rw [e1] at hx
     refine WR.seq (WR.reg (WQ.runS [] 4 _ _ _ _ rfl ?_))
     refine WQ.lightS rfl rfl rfl (ia_at rfl rfl g0 rfl) rfl (WQ.runS [] 3 _ _ _ _ rfl ?_)
     rw [hmul]
     refine WQ.runS [] 1 _ _ _ _ rfl ?_
     rw [show IntKind.i64.wrap ((left : Int) - ((3 * x.length : Nat) : Int)) = ((left - 3 * x.length : Nat) : Int) from by rw [wrap64 (by omega) (by omega)]; omega]
     refine WQ.runS [] 1000 _ _ _ _ rfl (WQ.nilS ?_)
     refine WR.reg (WQ.runS [] 4 _ _ _ _ rfl ?_)
     refine WQ.lightS rfl rfl rfl (ia_at rfl rfl g0 rfl) rfl (WQ.runS [] 2 _ _ _ _ rfl ?_)
     have hol : (out ++ [x]).map kst = out.map kst ++ [kst x] := by simp
     have hln : (out ++ [x]).length = out.length + 1 := by simp
     cases t with
     | true =>
      refine WQ.doesS rfl (app_tkR (es2 := (out ++ [x]).map kst) (n2 := (out ++ [x]).length) (ol' := askOl true (out ++ [x]).length) rfl rfl rfl hlo.symm (fun e he => by obtain ⟨y, _, rfl⟩ := List.mem_map.1 he; rfl) (fun e he => by simp at he; subst he; rfl) (by simp [hlo, lim]; omega) rfl hol.symm (by simp) rfl) rfl (WQ.runS [] 1000 _ _ _ _ rfl (WQ.nilS ?_))
      show WR Go.Proofs.Try.prog [] _ rc20_J1 _ _ _
      unfold rc20_J1
      refine WR.reg (WQ.runS [] 1000 _ _ _ _ rfl (WQ.nilS ?_))
      rw [hnext]
      refine WIr.again (WLr.weak ?_ (ih (i + 1) (left - 3 * x.length) (out ++ [x]) true (by omega) (by omega) hb (by omega) (by omega) (.inl rfl) hx))
      refine SW.tellR ?_ ?_
      ·repeat (first | exact .nil | refine .cons rfl (.v (VLe.refl _)) ?_ | refine .cons rfl (.l _ _ rfl) ?_ | refine .cons rfl (.v (VLe.unk _ _)) ?_)
      ·repeat (first | exact .nil | refine .cons rfl (.inl rfl) ?_)
     | false =>
      have ho1 : out.length = 1 := by rcases ht with h | h; cases h; exact h
      refine WQ.doesS rfl (app_exR (k := 1) (es2 := (out ++ [x]).map kst) (n2 := (out ++ [x]).length) (ol' := askOl true (out ++ [x]).length) rfl rfl (by simp [ho1]) (fun e he => by obtain ⟨y, _, rfl⟩ := List.mem_map.1 he; rfl) (fun e he => by simp at he; subst he; rfl) (by simp [hlo, lim]; omega) rfl hol.symm (by simp) rfl) rfl (WQ.runS [] 1000 _ _ _ _ rfl (WQ.nilS ?_))
      show WR Go.Proofs.Try.prog [] _ rc20_J1 _ _ _
      unfold rc20_J1
      refine WR.reg (WQ.runS [] 1000 _ _ _ _ rfl (WQ.nilS ?_))
      rw [hnext]
      refine WIr.again (WLr.weak ?_ (ih (i + 1) (left - 3 * x.length) (out ++ [x]) true (by omega) (by omega) hb (by omega) (by omega) (.inl rfl) hx))
      refine SW.tellR ?_ ?_
      ·repeat (first | exact .nil | refine .cons rfl (.v (VLe.refl _)) ?_ | refine .cons rfl (.l _ _ rfl) ?_ | refine .cons rfl (.v (VLe.unk _ _)) ?_)
      ·repeat (first | exact .nil | refine .cons rfl (.inl rfl) ?_)
  ·rw [show decide (((out.map kst).length : Int) < most) = false from decide_eq_false (by omega)]
   refine WQ.runS [] 1000 _ _ _ _ rfl (WQ.nilS (WR.condF rfl (WR.exit ?_)))
   have e1 : askG most key (x :: ms.drop (i + 1)) left out = out := by simp only [askG, hmo, not_false_eq_true, if_true]
   rw [e1] at hx
   exact hx _ t rfl rfl rfl
end Go.VM
end
