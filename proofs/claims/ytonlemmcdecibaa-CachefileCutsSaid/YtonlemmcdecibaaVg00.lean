/- laid for this seat: RcDsk RcCache VtScan -/
import Derived.Test.YtonlemmcdecibaaVmR
import Derived.Test.YtonlemmcdecibaaProg
import Derived.ProofKit
section
set_option maxRecDepth 100000
namespace Go.VM
open Go.RowKit
def rc17 : RC := .seq (.reg [.op (.mv (.c .nilp)) 0]) (.seq (.reg [⟨0, 0, some (.bld [.str [], .str [], .int .i64 0, .bool false, .int .i64 0, .lst [] (.ex 0)] [(0, 2), (2, 1), (3, 1), (4, 1), (5, 1)] [(3, .c (.int .i64 (-(0 + 1))))]), [], some 1, none⟩, .op (.bx (.t 1)) 2, .mv 2 0]) .ret)
theorem res17 : (Go.Proofs.Try.f17.body).bind (resC Go.Proofs.Try.prog) = some rc17 := by kernel_rfl
def rc26_J1 : RC := .seq (.reg [.mv 0 13, .mv 1 14, ⟨0, 0, some (.max (.t 14) (.c (.int .i64 (-(0 + 1))))), [], some 15, none⟩, .op (.nc (.t 13)) 16, .op (.fa (.t 16) 4) 17, ⟨0, 0, some (.st (.t 17) (.t 15) 1), [], none, none⟩]) (.seq (.reg [.op (.mv (.c (.int .i64 0))) 4]) .ret)
def rc26 : RC := .seq (.reg [.op (.mv (.c (.int .i64 0))) 4]) (.seq (.block 0 (.seq (.reg [.mv 0 6, .op (.eq .ptr false (.t 6) (.c .nilp)) 7, .mv 7 5]) (.cond (.t 5) (.seq (.reg [.op (.mv (.c (.int .i64 1))) 4]) .ret) (.seq (.reg [.mv 0 9, .op (.nc (.t 9)) 10, .op (.fa (.t 10) 3) 11, .op (.ld (.t 11) none) 12, .mv 12 8]) (.cond (.t 8) (.seq (.reg [.op (.mv (.c (.int .i64 180))) 4]) .ret) .skip))))) rc26_J1)
theorem res26 : (Go.Proofs.Try.f26.body).bind (resC Go.Proofs.Try.prog) = some rc26 := by kernel_rfl
def rc27 : RC := .seq (.reg [.op (.mv (.c (.int .i64 0))) 2]) (.seq (.seq (.reg [.mv 0 3, .op (.eq .ptr false (.t 3) (.c .nilp)) 4]) (.cond (.t 4) (.seq (.reg [.op (.mv (.c (.int .i64 1))) 2]) .ret) .skip)) (.seq (.reg [.mv 0 5, .mv 0 6, .op (.nc (.t 5)) 7, .op (.fa (.t 7) 3) 8, ⟨0, 0, some (.st (.t 8) (.c (.bool false)) 1), [], none, none⟩, .op (.nc (.t 6)) 9, .op (.fa (.t 9) 4) 10, ⟨0, 0, some (.st (.t 10) (.c (.int .i64 (-(0 + 1)))) 1), [], none, none⟩]) (.seq (.reg [.op (.mv (.c (.int .i64 0))) 2]) .ret)))
theorem res27 : (Go.Proofs.Try.f27.body).bind (resC Go.Proofs.Try.prog) = some rc27 := by kernel_rfl
def rc42_J1 : RC := .seq (.reg [.mv 0 12, .op (.nc (.t 12)) 13, .op (.fa (.t 13) 2) 14, .op (.ld (.t 14) none) 15, .mv 15 2, .op (.mv (.c (.int .i64 0))) 3]) .ret
def rc42 : RC := .seq (.reg [.op (.mv (.c (.int .i64 0))) 2, .op (.mv (.c (.int .i64 0))) 3]) (.seq (.block 0 (.seq (.reg [.mv 0 5, .op (.eq .ptr false (.t 5) (.c .nilp)) 6, .mv 6 4]) (.cond (.t 4) (.seq (.reg [.op (.mv (.c (.int .i64 0))) 2, .op (.mv (.c (.int .i64 1))) 3]) .ret) (.seq (.reg [.mv 0 8, .op (.nc (.t 8)) 9, .op (.fa (.t 9) 3) 10, .op (.ld (.t 10) none) 11, .mv 11 7]) (.cond (.t 7) (.seq (.reg [.op (.mv (.c (.int .i64 0))) 2, .op (.mv (.c (.int .i64 180))) 3]) .ret) .skip))))) rc42_J1)
theorem res42 : (Go.Proofs.Try.f42.body).bind (resC Go.Proofs.Try.prog) = some rc42 := by kernel_rfl
def rc43_J1 : RC := .seq (.reg [.mv 0 18, .mv 1 19, .op (.nc (.t 18)) 20, .op (.fa (.t 20) 0) 21, .op (.iaa (.t 21) (.t 19) 2 1) 22, .op (.ld (.t 22) none) 23, .mv 23 4, .op (.mv (.c (.int .i64 0))) 5]) .ret
def rc43 : RC := .seq (.reg [.op (.mv (.c (.str []))) 4, .op (.mv (.c (.int .i64 0))) 5]) (.seq (.block 0 (.seq (.reg [.mv 0 7, .op (.eq .ptr false (.t 7) (.c .nilp)) 8, .mv 8 6]) (.cond (.t 6) (.seq (.reg [.op (.mv (.c (.str []))) 4, .op (.mv (.c (.int .i64 1))) 5]) .ret) (.seq (.reg [.mv 0 10, .op (.nc (.t 10)) 11, .op (.fa (.t 11) 3) 12, .op (.ld (.t 12) none) 13, .mv 13 9]) (.cond (.t 9) (.seq (.reg [.op (.mv (.c (.str []))) 4, .op (.mv (.c (.int .i64 180))) 5]) .ret) (.seq (.reg [.mv 1 15, .op (.call (.c (.fn (.func 69) [] [])) [.t 15]) 16, .op (.un .not (.t 16)) 17, .mv 17 14]) (.cond (.t 14) (.seq (.reg [.op (.mv (.c (.str []))) 4, .op (.mv (.c (.int .i64 181))) 5]) .ret) .skip))))))) rc43_J1)
theorem res43 : (Go.Proofs.Try.f43.body).bind (resC Go.Proofs.Try.prog) = some rc43 := by kernel_rfl
def rc49 : RC := .seq (.reg [.op (.mv (.c (.int .i64 0))) 4]) (.seq (.reg [.mv 0 5, .mv 1 6, .op (.bld [.int .i64 0, .int .i64 0, .str []] [(0, 1), (1, 1), (2, 1)] [(0, .c (.int .i64 2)), (1, .t 6)]) 7, .op (.call (.c (.fn (.func 72) [] [])) [.t 5, .t 7]) 8, .mv 8 4]) .ret)
theorem res49 : (Go.Proofs.Try.f49.body).bind (resC Go.Proofs.Try.prog) = some rc49 := by kernel_rfl
def rc51 : RC := .seq (.reg [.op (.mv (.c (.int .i64 0))) 4]) (.seq (.reg [.mv 0 5, .mv 1 6, .op (.bld [.int .i64 0, .int .i64 0, .str []] [(0, 1), (1, 1), (2, 1)] [(0, .c (.int .i64 3)), (1, .t 6)]) 7, .op (.call (.c (.fn (.func 72) [] [])) [.t 5, .t 7]) 8, .mv 8 4]) .ret)
theorem res51 : (Go.Proofs.Try.f51.body).bind (resC Go.Proofs.Try.prog) = some rc51 := by kernel_rfl
def rc58 : RC := .seq (.reg [.op (.mv (.c (.int .i64 0))) 6]) (.seq (.reg [.mv 0 7, .mv 1 8, .mv 2 9, .op (.bld [.int .i64 0, .int .i64 0, .str []] [(0, 1), (1, 1), (2, 1)] [(0, .c (.int .i64 1)), (1, .t 8), (2, .t 9)]) 10, .op (.call (.c (.fn (.func 72) [] [])) [.t 7, .t 10]) 11, .mv 11 6]) .ret)
theorem res58 : (Go.Proofs.Try.f58.body).bind (resC Go.Proofs.Try.prog) = some rc58 := by kernel_rfl
def rc69 : RC := .seq (.reg [.op (.mv (.c (.bool false))) 2]) (.seq (.reg [.mv 0 3, .op (.eq .int false (.t 3) (.c (.int .i64 0))) 4, .mv 4 5, ⟨0, 0, some (.mv (.t 0)), [], some 6, some (5, false)⟩, ⟨0, 0, some (.eq .int false (.t 6) (.c (.int .i64 1))), [], some 7, some (5, false)⟩, .op (.pick (.t 5) (.c (.bool true)) (.t 7)) 8, .mv 8 2]) .ret)
theorem res69 : (Go.Proofs.Try.f69.body).bind (resC Go.Proofs.Try.prog) = some rc69 := by kernel_rfl
def rc72_J1 : RC := .seq (.seq (.reg [.op (.mv (.c (.int .i64 1))) 4]) .ret) (.exit 0)
def rc72_J2 : RC := .seq (.seq (.reg [.op (.mv (.c (.int .i64 180))) 4]) .ret) (.exit 0)
def rc72_J3 : RC := .seq (.seq (.reg [.op (.mv (.c (.int .i64 181))) 4]) .ret) (.exit 0)
def rc72_J4 : RC := .seq (.seq (.reg [.mv 0 30, .op (.nc (.t 30)) 31, .op (.fa (.t 31) 3) 32, ⟨0, 0, some (.st (.t 32) (.c (.bool true)) 1), [], none, none⟩]) (.seq (.reg [.op (.mv (.c (.int .i64 180))) 4]) .ret)) (.exit 0)
def rc72_J5 : RC := .reg [.mv 0 33, .op (.nc (.t 33)) 34, .op (.fa (.t 34) 4) 35, .op (.ld (.t 35) none) 36, .op (.bin .sub (.t 36) (.c (.int .i64 1))) 37, .op (.nc (.t 33)) 38, .op (.fa (.t 38) 4) 39, ⟨0, 0, some (.st (.t 39) (.t 37) 1), [], none, none⟩]
def rc72_J6 : RC := .seq (.dreg [⟨0, 0, some (.mv (.t 0)), [0], some 40, none⟩, ⟨1, 0, some (.mv (.t 0)), [0], some 41, none⟩, ⟨2, 2, some (.nc (.t 41)), [41], some 42, none⟩, ⟨3, 6, some (.fa (.t 42) 5), [42], some 43, none⟩, ⟨4, 14, some (.ld (.t 43) none), [43], some 44, none⟩, ⟨5, 0, some (.ld (.t 3) (some 3)), [3], some 45, none⟩, ⟨6, 32, some (.bs 3 1 [.int .i64 0, .int .i64 0, .str []] [(0, .t 45)]), [45], some 46, none⟩] [(⟨7, 126, some (.app (.t 44) (.t 46) 3 32 [.int .i64 0, .int .i64 0, .str []]), [44, 46], some 47, none⟩, [⟨8, 255, some (.nc (.t 40)), [40], some 48, none⟩, ⟨9, 511, some (.fa (.t 48) 5), [48], some 49, none⟩]), (⟨10, 1023, some (.st (.t 49) (.t 47) 1), [49, 47], none, none⟩, [])] [40, 41, 42, 43, 44, 45, 46, 47, 48, 49]) (.exit 0)
def rc72_J7 : RC := .seq (.reg [.op (.mv (.c (.int .i64 0))) 4]) .ret
def rc72_J8 : RC := .seq (.seq (.reg [.op (.fa (.t 3) 0) 50, .op (.ld (.t 50) none) 51]) (.block 7 (.seq (.reg [.op (.eq .int false (.t 51) (.c (.int .i64 1))) 58, .mv 58 57]) (.cond (.t 57) (.dreg [⟨0, 0, some (.mv (.t 0)), [0], some 59, none⟩, ⟨1, 0, some (.fa (.t 3) 1), [3], some 60, none⟩, ⟨2, 2, some (.ld (.t 60) none), [60], some 61, none⟩, ⟨3, 1, some (.nc (.t 59)), [59], some 62, none⟩, ⟨4, 9, some (.fa (.t 62) 0), [62], some 63, none⟩, ⟨5, 31, some (.iaa (.t 63) (.t 61) 2 1), [63, 61], some 64, none⟩, ⟨6, 63, some (.ld (.t 64) none), [64], some 65, none⟩, ⟨7, 0, some (.fa (.t 3) 2), [3], some 66, none⟩, ⟨8, 128, some (.ld (.t 66) none), [66], some 67, none⟩, ⟨9, 511, some (.bin .add (.t 65) (.t 67)), [65, 67], some 68, none⟩, ⟨10, 1, some (.nc (.t 59)), [59], some 69, none⟩, ⟨11, 1025, some (.fa (.t 69) 0), [69], some 70, none⟩, ⟨12, 4095, some (.iaa (.t 70) (.t 61) 2 1), [70, 61], some 71, none⟩] [(⟨13, 8191, some (.st (.t 71) (.t 68) 1), [71, 68], none, none⟩, [])] [59, 60, 61, 62, 63, 64, 65, 66, 67, 68, 69, 70, 71]) (.seq (.reg [.op (.eq .int false (.t 51) (.c (.int .i64 2))) 73, .mv 73 72]) (.cond (.t 72) (.dreg [⟨0, 0, some (.mv (.t 0)), [0], some 74, none⟩, ⟨1, 0, some (.fa (.t 3) 1), [3], some 75, none⟩, ⟨2, 2, some (.ld (.t 75) none), [75], some 76, none⟩, ⟨3, 1, some (.nc (.t 74)), [74], some 77, none⟩, ⟨4, 9, some (.fa (.t 77) 0), [77], some 78, none⟩, ⟨5, 31, some (.iaa (.t 78) (.t 76) 2 1), [78, 76], some 79, none⟩] [(⟨6, 63, some (.st (.t 79) (.c (.str [])) 1), [79], none, none⟩, [])] [74, 75, 76, 77, 78, 79]) (.reg [.mv 0 52, .op (.fa (.t 3) 1) 53, .op (.ld (.t 53) none) 54, .op (.nc (.t 52)) 55, .op (.fa (.t 55) 2) 56, ⟨0, 0, some (.st (.t 56) (.t 54) 1), [], none, none⟩]))))))) rc72_J7
def rc72 : RC := .seq (.reg [.op (.bx (.t 1)) 3, .op (.mv (.c (.int .i64 0))) 4]) (.seq (.block 0 (.seq (.block 6 (.seq (.block 5 (.seq (.block 4 (.seq (.block 3 (.seq (.block 2 (.seq (.block 1 (.seq (.seq (.seq (.reg [.mv 0 6, .op (.eq .ptr false (.t 6) (.c .nilp)) 7, .mv 7 5]) (.cond (.t 5) (.exit 1) .skip)) (.seq (.seq (.reg [.mv 0 9, .op (.nc (.t 9)) 10, .op (.fa (.t 10) 3) 11, .op (.ld (.t 11) none) 12, .mv 12 8]) (.cond (.t 8) (.exit 2) .skip)) (.seq (.seq (.reg [.op (.fa (.t 3) 1) 14, .op (.ld (.t 14) none) 15, .op (.call (.c (.fn (.func 69) [] [])) [.t 15]) 16, .op (.un .not (.t 16)) 17, .mv 17 13]) (.cond (.t 13) (.exit 3) .skip)) (.seq (.seq (.reg [.mv 0 19, .op (.nc (.t 19)) 20, .op (.fa (.t 20) 4) 21, .op (.ld (.t 21) none) 22, .op (.eq .int false (.t 22) (.c (.int .i64 0))) 23, .mv 23 18]) (.cond (.t 18) (.exit 4) .skip)) (.seq (.reg [.mv 0 25, .op (.nc (.t 25)) 26, .op (.fa (.t 26) 4) 27, .op (.ld (.t 27) none) 28, .op (.bin .gtr (.t 28) (.c (.int .i64 0))) 29, .mv 29 24]) (.cond (.t 24) (.exit 5) .skip)))))) (.exit 6))) rc72_J1)) rc72_J2)) rc72_J3)) rc72_J4)) rc72_J5)) rc72_J6)) rc72_J8)
theorem res72 : (Go.Proofs.Try.f72.body).bind (resC Go.Proofs.Try.prog) = some rc72 := by kernel_rfl
end Go.VM
end
section
set_option maxRecDepth 100000
namespace Go.VM
open Go.RowKit
def rc12_J1 : RC := .seq (.dreg [⟨0, 0, some (.ld (.t 2) none), [2], some 52, none⟩, ⟨1, 0, some (.ld (.t 3) none), [3], some 53, none⟩] [(⟨2, 1, some (.st (.t 2) (.t 52) 1), [2, 52], none, none⟩, []), (⟨3, 7, some (.st (.t 3) (.t 53) 1), [3, 53], none, none⟩, [])] [52, 53]) .ret
def rc12 : RC := .seq (.reg [.op (.al [.lst [] (.ex 0)]) 2, .op (.al [.int .i64 0]) 3]) (.scope (.seq (.reg [.op (.al [.int .i64 0]) 4, ⟨0, 0, some (.st (.t 4) (.c (.int .i64 0)) 1), [], none, none⟩]) (.seq .skip (.seq (.seq (.reg [.mv 0 6, .op (.call (.c (.fn (.func 35) [] [])) [.t 6]) 7]) (.block 0 (.rng (.t 7) [8] (.reg [.op (.al [.int .i64 0, .str [], .str [], .int .i64 0, .int .i64 0]) 5, ⟨0, 0, some (.st (.t 5) (.t 8) 5), [], none, none⟩]) (.block 1 (.seq (.seq (.reg [.op (.fa (.t 5) 0) 9, .op (.ld (.t 9) none) 10, .op (.eq .int false (.t 10) (.c (.int .i64 1))) 11]) (.cond (.t 11) (.reg [.op (.ld (.t 2) none) 12, .op (.fa (.t 5) 1) 13, .op (.ld (.t 13) none) 14, .op (.fa (.t 5) 2) 15, .op (.ld (.t 15) none) 16, .op (.bld [.str [], .str [], .bool false, .int .i64 0] [(0, 1), (1, 1), (2, 1), (3, 1)] [(0, .t 14), (1, .t 16)]) 17, .op (.bs 4 1 [.str [], .str [], .bool false, .int .i64 0] [(0, .t 17)]) 18, .op (.app (.t 12) (.t 18) 4 48 [.str [], .str [], .bool false, .int .i64 0]) 19, ⟨0, 0, some (.st (.t 2) (.t 19) 1), [], none, none⟩]) (.seq (.seq (.dreg [⟨0, 0, some (.fa (.t 5) 3), [5], some 20, none⟩, ⟨1, 1, some (.ld (.t 20) none), [20], some 21, none⟩, ⟨2, 0, some (.ld (.t 2) none), [2], some 22, none⟩, ⟨3, 4, some (.lenL (.t 22)), [22], some 23, none⟩, ⟨4, 15, some (.bin .geq (.t 21) (.t 23)), [21, 23], some 24, none⟩, ⟨5, 31, some (.mv (.t 24)), [24], some 25, none⟩, ⟨6, 63, some (.ld (.t 2) none), [2, 25], some 26, some (25, false)⟩, ⟨7, 63, some (.fa (.t 5) 3), [5, 25], some 27, some (25, false)⟩, ⟨8, 191, some (.ld (.t 27) none), [27, 25], some 28, some (25, false)⟩, ⟨9, 511, some (.ia (.t 26) (.t 28) 4), [26, 28, 25], some 29, some (25, false)⟩, ⟨10, 1023, some (.fa (.t 29) 2), [29, 25], some 30, some (25, false)⟩, ⟨11, 2047, some (.ld (.t 30) none), [30, 25], some 31, some (25, false)⟩, ⟨12, 63, some (.fa (.t 5) 0), [5, 25], some 32, some (25, false)⟩, ⟨13, 4159, some (.ld (.t 32) none), [32, 25], some 33, some (25, false)⟩, ⟨14, 12351, some (.eq .int false (.t 33) (.c (.int .i64 3))), [33, 25], some 34, some (25, false)⟩, ⟨15, 32767, some (.eq .bool true (.t 31) (.t 34)), [31, 34, 25], some 35, some (25, false)⟩, ⟨16, 65535, some (.pick (.t 25) (.c (.bool true)) (.t 35)), [25, 35], some 36, none⟩] [] [20, 21, 22, 23, 24, 25, 26, 27, 28, 29, 30, 31, 32, 33, 34, 35, 36]) (.cond (.t 36) (.exit 0) .skip)) (.seq (.reg [.op (.ld (.t 4) none) 37, .op (.bin .add (.t 37) (.c (.int .i64 1))) 38, ⟨0, 0, some (.st (.t 4) (.t 38) 1), [], none, none⟩]) (.dreg [⟨0, 0, some (.ld (.t 2) none), [2], some 39, none⟩, ⟨1, 0, some (.fa (.t 5) 3), [5], some 40, none⟩, ⟨2, 2, some (.ld (.t 40) none), [40], some 41, none⟩, ⟨3, 0, some (.ld (.t 2) none), [2], some 42, none⟩, ⟨4, 0, some (.fa (.t 5) 3), [5], some 43, none⟩, ⟨5, 16, some (.ld (.t 43) none), [43], some 44, none⟩, ⟨6, 0, some (.ld (.t 4) none), [4], some 45, none⟩, ⟨7, 7, some (.ia (.t 39) (.t 41) 4), [39, 41], some 46, none⟩, ⟨8, 135, some (.fa (.t 46) 2), [46], some 47, none⟩] [(⟨9, 391, some (.st (.t 47) (.c (.bool true)) 1), [47], none, none⟩, [⟨10, 1023, some (.ia (.t 42) (.t 44) 4), [42, 44], some 48, none⟩, ⟨11, 2047, some (.fa (.t 48) 3), [48], some 49, none⟩]), (⟨12, 4095, some (.st (.t 49) (.t 45) 1), [49, 45], none, none⟩, [])] [39, 40, 41, 42, 43, 44, 45, 46, 47, 48, 49]))))) (.reg [.op (.fa (.t 5) 4) 50, .op (.ld (.t 50) none) 51, ⟨0, 0, some (.st (.t 3) (.t 51) 1), [], none, none⟩])))))) rc12_J1))))
theorem res12 : (Go.Proofs.Try.f12.body).bind (resC Go.Proofs.Try.prog) = some rc12 := by kernel_rfl
def rc35 : RC := .seq (.reg [.op (.bx (.t 0)) 1, .op (.mv (.c .nilf)) 2]) (.seq (.reg [.op (.mkF 61 [] [.t 1]) 3, .mv 3 2]) .ret)
theorem res35 : (Go.Proofs.Try.f35.body).bind (resC Go.Proofs.Try.prog) = some rc35 := by kernel_rfl
def rc61_J1 : RC := .cond (.t 30) (.reg [.mv 3 33, .op (.call (.c (.fn (.func 64) [] [])) [.t 33]) 34, .op (.fa (.t 4) 3) 35, ⟨0, 0, some (.st (.t 35) (.t 34) 1), [], none, none⟩]) .ret
def rc61_J2 : RC := .seq (.reg [.mv 3 36, .op (.nc (.t 36)) 37, .op (.fa (.t 37) 1) 38, .op (.ld (.t 38) none) 39, .op (.fa (.t 4) 4) 40, ⟨0, 0, some (.st (.t 40) (.t 39) 1), [], none, none⟩]) (.seq (.reg [.mv 3 41, .op (.nc (.t 41)) 42, .op (.fa (.t 42) 2) 43, .op (.ld (.t 43) none) 44, .op (.un .not (.t 44)) 45, .mv 45 46, ⟨0, 0, some (.mv (.t 0)), [], some 47, some (46, false)⟩, ⟨0, 0, some (.ld (.t 4) (some 5)), [], some 48, some (46, false)⟩, ⟨0, 0, some (.call (.t 47) [.t 48]), [], some 49, some (46, false)⟩, ⟨0, 0, some (.un .not (.t 49)), [], some 50, some (46, false)⟩, .op (.pick (.t 46) (.c (.bool true)) (.t 50)) 51]) (.cond (.t 51) .ret .skip))
def rc61_L1 : RC := .seq (.seq (.dreg [⟨0, 0, some (.mv (.t 3)), [3], some 8, none⟩, ⟨1, 1, some (.nc (.t 8)), [8], some 9, none⟩, ⟨2, 3, some (.fa (.t 9) 1), [9], some 10, none⟩, ⟨3, 7, some (.ld (.t 10) none), [10], some 11, none⟩, ⟨4, 0, some (.ld (.t 1) none), [1], some 12, none⟩, ⟨5, 16, some (.lenS (.t 12)), [12], some 13, none⟩, ⟨6, 63, some (.bin .lss (.t 11) (.t 13)), [11, 13], some 14, none⟩] [] [8, 9, 10, 11, 12, 13, 14]) (.cond (.t 14) .skip (.exit 0))) (.block 1 (.seq (.reg [.mv 3 15, .op (.call (.c (.fn (.func 62) [] [])) [.t 15, .c (.int .i64 1)]) 16, .op (.idxs (.t 16) (.c (.int .i64 0))) 17, .op (.cvi .i64 (.t 17)) 18, .op (.bld [.int .i64 0, .str [], .str [], .int .i64 0, .int .i64 0] [(0, 1), (1, 1), (2, 1), (3, 1), (4, 1)] [(0, .t 18)]) 19, .op (.al [.int .i64 0, .str [], .str [], .int .i64 0, .int .i64 0]) 4, ⟨0, 0, some (.st (.t 4) (.t 19) 5), [], none, none⟩]) (.seq (.seq (.reg [.op (.fa (.t 4) 0) 20, .op (.ld (.t 20) none) 21]) (.block 2 (.seq (.reg [.op (.eq .int false (.t 21) (.c (.int .i64 1))) 23, .mv 23 22]) (.cond (.t 22) (.seq (.reg [.mv 3 24, .op (.call (.c (.fn (.func 63) [] [])) [.t 24]) 25, .op (.fa (.t 4) 1) 26, ⟨0, 0, some (.st (.t 26) (.t 25) 1), [], none, none⟩]) (.reg [.mv 3 27, .op (.call (.c (.fn (.func 63) [] [])) [.t 27]) 28, .op (.fa (.t 4) 2) 29, ⟨0, 0, some (.st (.t 29) (.t 28) 1), [], none, none⟩])) (.seq (.seq (.reg [.op (.eq .int false (.t 21) (.c (.int .i64 2))) 31, .mv 31 30]) (.cond (.t 30) .skip (.reg [.op (.eq .int false (.t 21) (.c (.int .i64 3))) 32, .mv 32 30]))) rc61_J1))))) rc61_J2)))
def rc61 : RC := .seq (.reg [.op (.ld (.t 1) none) 5, .op (.bld [.str [], .int .i64 0, .bool false] [(0, 1), (1, 1), (2, 1)] [(0, .t 5), (1, .c (.int .i64 0)), (2, .c (.bool true))]) 6, .op (.bx (.t 6)) 7, .mv 7 3]) (.block 0 (.loop rc61_L1))
theorem res61 : (Go.Proofs.Try.f61.body).bind (resC Go.Proofs.Try.prog) = some rc61 := by kernel_rfl
def rc62 : RC := .seq (.reg [.op (.mv (.c (.str []))) 4]) (.seq (.seq (.dreg [⟨0, 0, some (.mv (.t 0)), [0], some 5, none⟩, ⟨1, 1, some (.nc (.t 5)), [5], some 6, none⟩, ⟨2, 3, some (.fa (.t 6) 2), [6], some 7, none⟩, ⟨3, 7, some (.ld (.t 7) none), [7], some 8, none⟩, ⟨4, 15, some (.un .not (.t 8)), [8], some 9, none⟩, ⟨5, 31, some (.mv (.t 9)), [9], some 10, none⟩, ⟨6, 63, some (.mv (.t 1)), [1, 10], some 11, some (10, false)⟩, ⟨7, 63, some (.mv (.t 0)), [0, 10], some 12, some (10, false)⟩, ⟨8, 191, some (.nc (.t 12)), [12, 10], some 13, some (10, false)⟩, ⟨9, 447, some (.fa (.t 13) 0), [13, 10], some 14, some (10, false)⟩, ⟨10, 959, some (.ld (.t 14) none), [14, 10], some 15, some (10, false)⟩, ⟨11, 1983, some (.lenS (.t 15)), [15, 10], some 16, some (10, false)⟩, ⟨12, 63, some (.mv (.t 0)), [0, 10], some 17, some (10, false)⟩, ⟨13, 4159, some (.nc (.t 17)), [17, 10], some 18, some (10, false)⟩, ⟨14, 12351, some (.fa (.t 18) 1), [18, 10], some 19, some (10, false)⟩, ⟨15, 28735, some (.ld (.t 19) none), [19, 10], some 20, some (10, false)⟩, ⟨16, 65471, some (.bin .sub (.t 16) (.t 20)), [16, 20, 10], some 21, some (10, false)⟩, ⟨17, 131071, some (.bin .gtr (.t 11) (.t 21)), [11, 21, 10], some 22, some (10, false)⟩, ⟨18, 262143, some (.pick (.t 10) (.c (.bool true)) (.t 22)), [10, 22], some 23, none⟩] [] [5, 6, 7, 8, 9, 10, 11, 12, 13, 14, 15, 16, 17, 18, 19, 20, 21, 22, 23]) (.cond (.t 23) (.seq (.reg [.mv 0 24, .op (.nc (.t 24)) 25, .op (.fa (.t 25) 2) 26, ⟨0, 0, some (.st (.t 26) (.c (.bool false)) 1), [], none, none⟩]) (.seq (.reg [.op (.mv (.c (.str []))) 4]) .ret)) .skip)) (.seq (.reg [.mv 0 27, .op (.nc (.t 27)) 28, .op (.fa (.t 28) 1) 29, .op (.ld (.t 29) none) 30, .mv 1 31, .op (.bin .add (.t 30) (.t 31)) 32, .op (.nc (.t 27)) 33, .op (.fa (.t 33) 1) 34, ⟨0, 0, some (.st (.t 34) (.t 32) 1), [], none, none⟩]) (.seq (.dreg [⟨0, 0, some (.mv (.t 0)), [0], some 35, none⟩, ⟨1, 1, some (.nc (.t 35)), [35], some 36, none⟩, ⟨2, 3, some (.fa (.t 36) 0), [36], some 37, none⟩, ⟨3, 7, some (.ld (.t 37) none), [37], some 38, none⟩, ⟨4, 0, some (.mv (.t 0)), [0], some 39, none⟩, ⟨5, 16, some (.nc (.t 39)), [39], some 40, none⟩, ⟨6, 48, some (.fa (.t 40) 1), [40], some 41, none⟩, ⟨7, 112, some (.ld (.t 41) none), [41], some 42, none⟩, ⟨8, 0, some (.mv (.t 1)), [1], some 43, none⟩, ⟨9, 496, some (.bin .sub (.t 42) (.t 43)), [42, 43], some 44, none⟩, ⟨10, 0, some (.mv (.t 0)), [0], some 45, none⟩, ⟨11, 1024, some (.nc (.t 45)), [45], some 46, none⟩, ⟨12, 3072, some (.fa (.t 46) 1), [46], some 47, none⟩, ⟨13, 7168, some (.ld (.t 47) none), [47], some 48, none⟩, ⟨14, 16383, some (.slc .str (.t 38) (some (.t 44)) (some (.t 48)) none), [38, 44, 48], some 49, none⟩, ⟨15, 32767, some (.mv (.t 49)), [49], some 4, none⟩] [] [35, 36, 37, 38, 39, 40, 41, 42, 43, 44, 45, 46, 47, 48, 49, 4]) .ret)))
theorem res62 : (Go.Proofs.Try.f62.body).bind (resC Go.Proofs.Try.prog) = some rc62 := by kernel_rfl
def rc63 : RC := .seq (.reg [.op (.mv (.c (.str []))) 2]) (.seq (.reg [.mv 0 3, .mv 0 4, .op (.call (.c (.fn (.func 64) [] [])) [.t 4]) 5, .op (.call (.c (.fn (.func 62) [] [])) [.t 3, .t 5]) 6, .mv 6 2]) .ret)
theorem res63 : (Go.Proofs.Try.f63.body).bind (resC Go.Proofs.Try.prog) = some rc63 := by kernel_rfl
def rc64_J1 : RC := .reg [.op (.bin .add (.t 10) (.c (.int .i64 1))) 19, .mv 19 10]
def rc64_L1 : RC := .seq (.reg [.op (.bin .lss (.t 10) (.t 9)) 11]) (.seq (.cond (.t 11) .skip (.exit 0)) (.seq (.block 1 (.seq (.reg [.op (.ia (.t 8) (.t 10) 1) 12, .op (.ld (.t 12) none) 13, .mv 13 5]) (.reg [.mv 3 14, .op (.bin .shl (.t 14) (.c (.int .u64 8))) 15, .mv 5 16, .op (.cvi .i64 (.t 16)) 17, .op (.bin .or (.t 15) (.t 17)) 18, .mv 18 3]))) rc64_J1))
def rc64_J2 : RC := .seq (.reg [.mv 0 20, .mv 0 21, .op (.nc (.t 21)) 22, .op (.fa (.t 22) 2) 23, .op (.ld (.t 23) none) 24, .mv 24 25, ⟨0, 0, some (.mv (.t 3)), [], some 26, some (25, true)⟩, ⟨0, 0, some (.bin .leq (.t 26) (.c (.int .i64 2147483647))), [], some 27, some (25, true)⟩, .op (.pick (.t 25) (.t 27) (.c (.bool false))) 28, .op (.nc (.t 20)) 29, .op (.fa (.t 29) 2) 30, ⟨0, 0, some (.st (.t 30) (.t 28) 1), [], none, none⟩]) (.seq (.reg [.mv 3 31, .mv 31 2]) .ret)
def rc64 : RC := .seq (.reg [.op (.mv (.c (.int .i64 0))) 2]) (.seq (.reg [.op (.mv (.c (.int .i64 0))) 3]) (.seq (.seq (.reg [.mv 0 6, .op (.call (.c (.fn (.func 62) [] [])) [.t 6, .c (.int .i64 4)]) 7, .op (.csb (.t 7)) 8, .op (.lenL (.t 8)) 9, .op (.mv (.c (.int .i64 0))) 10]) (.block 0 (.loop rc64_L1))) rc64_J2))
theorem res64 : (Go.Proofs.Try.f64.body).bind (resC Go.Proofs.Try.prog) = some rc64 := by kernel_rfl
end Go.VM
end
section
/- The cache's file: what a reader takes. -/
set_option maxRecDepth 100000
set_option linter.unusedVariables false
set_option linter.unusedSimpArgs false
namespace Go.VM
open Go.RowKit
theorem hmix : Go.Proofs.Try.prog.follows .mixedOrders = true := by kernel_rfl
def rdV (b : List Nat) (a : Nat) (w : Bool) : List V := [.str b, .int .i64 a, .bool w]
def rol (b : List Nat) (a : Nat) (w : Bool) : OL := [(1000, .cells false (rdV b a w))]
theorem rol_in {D : Nat → Prop} (b : List Nat) (a : Nat) (w : Bool) : olIn D (rol b a w) := ⟨⟨trivial, trivial, trivial, trivial⟩, trivial⟩
def takeF (b : List Nat) (a : Nat) (w : Bool) (n : Nat) : List Nat × Nat × Bool := if w = true ∧ n ≤ b.length - a then ((b.drop a).take n, a + n, true) else ([], a, false)
theorem take_core (b : List Nat) (a n : Nat) (w : Bool) (hb : b.length ≤ 700000000) (ha : a ≤ b.length) (hn : n ≤ 4294967295) :
  SCall Go.Proofs.Try.prog [] 62 [.ptr 1000 0, .int .i64 n] none ⟨1001, og (rol b a w), []⟩ (.ret (.str (takeF b a w n).1)) none ⟨1001, og (rol b (takeF b a w n).2.1 (takeF b a w n).2.2), []⟩ := by
 refine SCall.listed (fn := Go.Proofs.Try.f62) (by kernel_rfl) res62 (by kernel_rfl) (by kernel_rfl) (Nat.le_refl _) rfl (rol_in _ _ _) trivial ?_
 unfold rc62
 cases w with
 | false =>
  rw [show takeF b a false n = ([], a, false) from by simp [takeF]]
  repeat (first | refine WR.seq ?_ | refine WR.block ?_ | refine WR.scope ?_ | refine WR.skip ?_ | refine WR.exit ?_ | refine WR.condT rfl ?_ | refine WR.condF rfl ?_ | refine WR.reg (WQ.runS [] 1000 _ _ _ _ rfl ?_) | refine WQ.nilS ?_ | refine WR.dreg hmix (DW.runS [] 1000 _ _ _ _ _ _ rfl ?_))
  refine DW.finS (by repeat (first | exact .nil | refine PendR.passM rfl ?_ | refine PendR.sameM rfl ?_ | refine PendR.lightM rfl ?_)) ?_
  repeat (first | refine WR.seq ?_ | refine WR.block ?_ | refine WR.scope ?_ | refine WR.skip ?_ | refine WR.exit ?_ | refine WR.condT rfl ?_ | refine WR.condF rfl ?_ | refine WR.reg (WQ.runS [] 1000 _ _ _ _ rfl ?_) | refine WQ.nilS ?_ | refine WR.dreg hmix (DW.runS [] 1000 _ _ _ _ _ _ rfl ?_))
  refine WR.ret ⟨rfl, rfl, ⟨_, rfl, VLe.refl _⟩, fun b _ => rfl⟩
 | true =>
  repeat (first | refine WR.seq ?_ | refine WR.block ?_ | refine WR.scope ?_ | refine WR.skip ?_ | refine WR.exit ?_ | refine WR.condT rfl ?_ | refine WR.condF rfl ?_ | refine WR.reg (WQ.runS [] 1000 _ _ _ _ rfl ?_) | refine WQ.nilS ?_ | refine WR.dreg hmix (DW.runS [] 1000 _ _ _ _ _ _ rfl ?_))
  refine DW.finS (by repeat (first | exact .nil | refine PendR.passM rfl ?_ | refine PendR.sameM rfl ?_ | refine PendR.lightM rfl ?_)) ?_
  refine WR.cond rfl (fun h1 => ?_) (fun h1 => ?_)
  ·have h1 := of_decide_eq_true h1
   rw [wrap64 (by omega) (by omega)] at h1
   rw [show takeF b a true n = ([], a, false) from by simp [takeF]; omega]
   repeat (first | refine WR.seq ?_ | refine WR.block ?_ | refine WR.scope ?_ | refine WR.skip ?_ | refine WR.exit ?_ | refine WR.condT rfl ?_ | refine WR.condF rfl ?_ | refine WR.reg (WQ.runS [] 1000 _ _ _ _ rfl ?_) | refine WQ.nilS ?_ | refine WR.dreg hmix (DW.runS [] 1000 _ _ _ _ _ _ rfl ?_))
   refine WR.ret ⟨rfl, rfl, ⟨_, rfl, VLe.refl _⟩, fun b _ => rfl⟩
  ·have h1 := of_decide_eq_false h1
   rw [wrap64 (by omega) (by omega)] at h1
   rw [show takeF b a true n = ((b.drop a).take n, a + n, true) from by simp [takeF]; omega]
   repeat (first | refine WR.seq ?_ | refine WR.block ?_ | refine WR.scope ?_ | refine WR.skip ?_ | refine WR.exit ?_ | refine WR.condT rfl ?_ | refine WR.condF rfl ?_ | refine WR.reg (WQ.runS [] 1000 _ _ _ _ rfl ?_) | refine WQ.nilS ?_ | refine WR.dreg hmix (DW.runS [] 1000 _ _ _ _ _ _ rfl ?_))
   rw [show IntKind.i64.wrap ((a : Int) + n) = ((a + n : Nat) : Int) from by rw [wrap64 (by omega) (by omega)]; simp]
   refine WR.dreg hmix (DW.runS [] 14 _ _ _ _ _ _ rfl ?_)
   rw [show IntKind.i64.wrap (((a + n : Nat) : Int) - n) = (a : Int) from by rw [wrap64 (by omega) (by omega)]; omega]
   refine DW.pureS rfl (fun h => slc_str rfl rfl rfl (by omega) (by omega)) rfl (DW.runS [] 1000 _ _ _ _ _ _ rfl ?_)
   rw [show a + n - a = n from by omega]
   refine DW.finS (by repeat (first | exact .nil | refine PendR.passM rfl ?_ | refine PendR.sameM rfl ?_ | refine PendR.lightM rfl ?_)) ?_
   refine WR.ret ⟨rfl, rfl, ⟨_, rfl, VLe.refl _⟩, fun b _ => rfl⟩
theorem takeF_len (b : List Nat) (a n : Nat) (w : Bool) (ha : a ≤ b.length) : (takeF b a w n).2.1 ≤ b.length ∧ a ≤ (takeF b a w n).2.1 ∧ ((takeF b a w n).1 = [] ∨ (takeF b a w n).1.length = n) ∧ (takeF b a w n).1.length ≤ b.length := by
 unfold takeF
 split
 ·rename_i h
  simp only [List.length_take, List.length_drop]
  omega
 ·simp only [List.length_nil]; simp; omega
def be (l : List Nat) : Nat := l.foldl (fun n c => n * 256 + c) 0
def numF (b : List Nat) (a : Nat) (w : Bool) : Nat × Nat × Bool :=
 let t := takeF b a w 4
 (be t.1, t.2.1, t.2.2 && decide (be t.1 ≤ 2147483647))
theorem be_lt : ∀ (l : List Nat), (∀ x ∈ l, x < 256) → be l < 256 ^ l.length := by
 intro l
 have key : ∀ (l : List Nat) (n k : Nat), n < 256 ^ k → (∀ x ∈ l, x < 256) → l.foldl (fun n c => n * 256 + c) n < 256 ^ (k + l.length) := by
  intro l
  induction l with
  | nil => intro n k h _; simpa using h
  | cons c l ih =>
   intro n k h hl
   have hc := hl c (by simp)
   have := ih (n * 256 + c) (k + 1) (by rw [Nat.pow_succ]; omega) (fun x hx => hl x (by simp [hx]))
   rw [List.foldl_cons, List.length_cons, show k + (l.length + 1) = k + 1 + l.length by omega]
   exact this
 intro hl
 have := key l 0 0 (by decide) hl
 simpa [be] using this
def bts (l : List Nat) : List (List V) := l.map fun n : Nat => [.int .u8 n]
theorem or8 {n c : Nat} (hn : n < 16777216) (hc : c < 256) :
  IntKind.i64.wrap (BitVec.ofInt IntKind.i64.bits (IntKind.i64.wrap ((n : Int) * 2 ^ min (8 : Int).toNat IntKind.i64.bits)) ||| BitVec.ofInt IntKind.i64.bits (IntKind.i64.wrap (c : Int))).toNat = ((n * 256 + c : Nat) : Int) := by
 rw [show ((n : Int) * 2 ^ min (8 : Int).toNat IntKind.i64.bits) = ((n * 256 : Nat) : Int) from by
  rw [show min (8 : Int).toNat IntKind.i64.bits = 8 from rfl]; simp]
 rw [wrap64 (n := ((n * 256 : Nat) : Int)) (by omega) (by omega), wrap64 (n := (c : Int)) (by omega) (by omega)]
 have e : (BitVec.ofInt IntKind.i64.bits ((n * 256 : Nat) : Int) ||| BitVec.ofInt IntKind.i64.bits (c : Int)).toNat = n * 256 + c := by
  show (BitVec.ofInt 64 _ ||| BitVec.ofInt 64 _).toNat = _
  rw [BitVec.toNat_or, BitVec.ofInt_natCast, BitVec.ofInt_natCast, BitVec.toNat_ofNat, BitVec.toNat_ofNat, Nat.mod_eq_of_lt (by omega), Nat.mod_eq_of_lt (by omega)]
  have := Nat.shiftLeft_add_eq_or_of_lt (b := c) (i := 8) (by omega) n
  rw [Nat.shiftLeft_eq] at this
  exact this.symm
 rw [e, wrap64 (by omega) (by omega)]
def nTm (i n : Nat) (l : List Nat) : TM := [(0, .v (.ptr 1000 0)), (3, .v (.int .i64 n)), (8, .v (.lst (bts l) .unk)), (9, .v (.int .i64 (bts l).length)), (10, .v (.int .i64 i))]
theorem be_snoc (l : List Nat) (c : Nat) : be (l ++ [c]) = be l * 256 + c := by simp [be]
theorem num_loop {QN : S → Prop} {QX : X → S → Prop} {ol : OL} (l : List Nat) (hl : l.length ≤ 4) (h8 : ∀ x ∈ l, x < 256) : ∀ (m i : Nat), i + m = l.length → (∀ tm, tg tm 0 = some (.v (.ptr 1000 0)) → tg tm 3 = some (.v (.int .i64 (be l))) → QX (.exit 0) (SL.toS ⟨tm, [], none, 1001, ol, []⟩)) →
  WLr Go.Proofs.Try.prog [] ⟨Go.Proofs.Try.f64.ntmps, none, 64⟩ rc64_L1 (SL.toS ⟨nTm i (be (l.take i)) l, [], none, 1001, ol, []⟩) QN QX := by
 intro m
 induction m with
 | zero =>
  intro i hi hx
  unfold rc64_L1
  refine WLr.of ?_
  rw [List.take_of_length_le (by omega)]
  refine WR.seq (WR.reg (WQ.runS [] 1000 _ _ _ _ rfl (WQ.nilS ?_)))
  rw [show decide ((i : Int) < ((bts l).length : Int)) = false from decide_eq_false (by simp [bts]; omega)]
  repeat (first | refine WR.seq ?_ | refine WR.block ?_ | refine WR.scope ?_ | refine WR.skip ?_ | refine WR.exit ?_ | refine WR.condT rfl ?_ | refine WR.condF rfl ?_ | refine WR.reg (WQ.runS [] 1000 _ _ _ _ rfl ?_) | refine WQ.nilS ?_ | refine WR.dreg hmix (DW.runS [] 1000 _ _ _ _ _ _ rfl ?_))
  exact hx _ rfl rfl
 | succ m ih =>
  intro i hi hx
  have hlt : i < l.length := by omega
  have hc : l[i] < 256 := h8 _ (List.getElem_mem _)
  have hbe : be (l.take i) < 16777216 := by
   have := be_lt (l.take i) (fun x hx => h8 x (List.mem_of_mem_take hx))
   rw [List.length_take] at this
   exact Nat.lt_of_lt_of_le this (Nat.le_trans (Nat.pow_le_pow_right (by decide) (by omega : min i l.length ≤ 3)) (by decide))
  unfold rc64_L1
  refine WLr.of ?_
  refine WR.seq (WR.reg (WQ.runS [] 1000 _ _ _ _ rfl (WQ.nilS ?_)))
  rw [show decide ((i : Int) < ((bts l).length : Int)) = true from decide_eq_true (by simp [bts]; omega)]
  refine WR.seq (WR.condT rfl (WR.skip ?_))
  refine WR.seq (WR.block (WR.seq (WR.reg ?_)))
  refine WQ.lightS rfl rfl rfl (ia_at rfl rfl (es := bts l) (cs := [.int .u8 l[i]]) (by simp [bts, hlt]) rfl) rfl (WQ.runS [] 1000 _ _ _ _ rfl (WQ.nilS ?_))
  repeat (first | refine WR.seq ?_ | refine WR.block ?_ | refine WR.scope ?_ | refine WR.skip ?_ | refine WR.exit ?_ | refine WR.condT rfl ?_ | refine WR.condF rfl ?_ | refine WR.reg (WQ.runS [] 1000 _ _ _ _ rfl ?_) | refine WQ.nilS ?_ | refine WR.dreg hmix (DW.runS [] 1000 _ _ _ _ _ _ rfl ?_))
  rw [or8 hbe hc, ← be_snoc, ← show l.take (i + 1) = l.take i ++ [l[i]] from by rw [List.take_add_one]; simp [hlt], show IntKind.i64.wrap ((i : Int) + 1) = ((i + 1 : Nat) : Int) from by rw [wrap64 (by omega) (by omega)]; rfl]
  refine WIr.again (WLr.weak (s := SL.toS ⟨nTm (i + 1) (be (l.take (i + 1))) l, [], none, 1001, ol, []⟩) ?_ ?_)
  ·refine SW.tellR ?_ ?_
   ·repeat (first | exact .nil | refine .cons rfl (.v (VLe.refl _)) ?_ | refine .cons rfl (.l _ _ rfl) ?_ | refine .cons rfl (.v (VLe.unk _ _)) ?_)
   ·repeat (first | exact .nil | refine .cons rfl (.inl rfl) ?_)
  exact ih (i + 1) (by omega) hx
theorem num_core (b : List Nat) (a : Nat) (w : Bool) (hb : b.length ≤ 700000000) (ha : a ≤ b.length) (h8 : ∀ x ∈ b, x < 256) :
  SCall Go.Proofs.Try.prog [] 64 [.ptr 1000 0] none ⟨1001, og (rol b a w), []⟩ (.ret (.int .i64 (numF b a w).1)) none ⟨1001, og (rol b (numF b a w).2.1 (numF b a w).2.2), []⟩ := by
 refine SCall.listed (fn := Go.Proofs.Try.f64) (by kernel_rfl) res64 (by kernel_rfl) (by kernel_rfl) (Nat.le_refl _) rfl (rol_in _ _ _) trivial ?_
 unfold rc64
 repeat (first | refine WR.seq ?_ | refine WR.block ?_ | refine WR.scope ?_ | refine WR.skip ?_ | refine WR.exit ?_ | refine WR.condT rfl ?_ | refine WR.condF rfl ?_ | refine WR.reg (WQ.runS [] 1000 _ _ _ _ rfl ?_) | refine WQ.nilS ?_ | refine WR.dreg hmix (DW.runS [] 1000 _ _ _ _ _ _ rfl ?_))
 refine WQ.callH rfl rfl rfl rfl rfl (take_core b a 4 w hb ha (by omega)) .base rfl ?_
 have hl := takeF_len b a 4 w ha
 have h9 : ∀ x ∈ (takeF b a w 4).1, x < 256 := by
  intro x hx
  unfold takeF at hx
  split at hx
  ·exact h8 x (List.mem_of_mem_drop (List.mem_of_mem_take hx))
  ·cases hx
 have hnum : numF b a w = (be (takeF b a w 4).1, (takeF b a w 4).2.1, (takeF b a w 4).2.2 && decide (be (takeF b a w 4).1 ≤ 2147483647)) := rfl
 rw [hnum]
 generalize takeF b a w 4 = t at hl h9
 obtain ⟨l, a2, w2⟩ := t
 simp only at hl h9 ⊢
 obtain ⟨hl1, hl2, hl3, hl4⟩ := hl
 have hl5 : l.length ≤ 4 := by rcases hl3 with h | h <;> first | (rw [h]; simp; done) | omega
 refine WQ.runS [] 1000 _ _ _ _ rfl (WQ.nilS ?_)
 refine WR.block (WR.loop (WLr.weak (s := SL.toS ⟨nTm 0 (be (l.take 0)) l, [], none, 1001, rol b a2 w2, []⟩) ?_ (num_loop l hl5 h9 l.length 0 (by omega) (fun tm h0 h3 => ?_))))
 ·refine SW.tellR ?_ ?_
  ·repeat (first | exact .nil | refine .cons rfl (.v (VLe.refl _)) ?_ | refine .cons rfl (.l _ _ rfl) ?_ | refine .cons rfl (.v (VLe.unk _ _)) ?_)
  ·repeat (first | exact .nil | refine .cons rfl (.inl rfl) ?_)
 refine WR.weak (s := SL.toS ⟨[(0, .v (.ptr 1000 0)), (3, .v (.int .i64 (be l)))], [], none, 1001, rol b a2 w2, []⟩) (SW.tellR (.cons h0 (.v (VLe.refl _)) (.cons h3 (.v (VLe.refl _)) .nil)) .nil) ?_
 unfold rc64_J2
 cases w2 with
 | false =>
  repeat (first | refine WR.seq ?_ | refine WR.block ?_ | refine WR.scope ?_ | refine WR.skip ?_ | refine WR.exit ?_ | refine WR.condT rfl ?_ | refine WR.condF rfl ?_ | refine WR.reg (WQ.runS [] 1000 _ _ _ _ rfl ?_) | refine WQ.nilS ?_ | refine WR.dreg hmix (DW.runS [] 1000 _ _ _ _ _ _ rfl ?_))
  refine WR.ret ⟨rfl, rfl, ⟨_, rfl, VLe.refl _⟩, fun b _ => rfl⟩
 | true =>
  repeat (first | refine WR.seq ?_ | refine WR.block ?_ | refine WR.scope ?_ | refine WR.skip ?_ | refine WR.exit ?_ | refine WR.condT rfl ?_ | refine WR.condF rfl ?_ | refine WR.reg (WQ.runS [] 1000 _ _ _ _ rfl ?_) | refine WQ.nilS ?_ | refine WR.dreg hmix (DW.runS [] 1000 _ _ _ _ _ _ rfl ?_))
  rw [show decide ((be l : Int) ≤ 2147483647) = decide (be l ≤ 2147483647) from by simp only [decide_eq_decide]; omega]
  refine WR.ret ⟨rfl, rfl, ⟨_, rfl, VLe.refl _⟩, fun b _ => rfl⟩
def textF (b : List Nat) (a : Nat) (w : Bool) : List Nat × Nat × Bool := takeF b (numF b a w).2.1 (numF b a w).2.2 (numF b a w).1
theorem numF_ok (b : List Nat) (a : Nat) (w : Bool) (ha : a ≤ b.length) (h8 : ∀ x ∈ b, x < 256) : (numF b a w).2.1 ≤ b.length ∧ a ≤ (numF b a w).2.1 ∧ (numF b a w).1 ≤ 4294967295 := by
 have hl := takeF_len b a 4 w ha
 refine ⟨hl.1, hl.2.1, ?_⟩
 have h9 : ∀ x ∈ (takeF b a w 4).1, x < 256 := by
  intro x hx
  unfold takeF at hx
  split at hx
  ·exact h8 x (List.mem_of_mem_drop (List.mem_of_mem_take hx))
  ·cases hx
 have h := be_lt _ h9
 have h5 : (takeF b a w 4).1.length ≤ 4 := by rcases hl.2.2.1 with h | h <;> first | (rw [h]; simp; done) | omega
 have : (256 : Nat) ^ (takeF b a w 4).1.length ≤ 256 ^ 4 := Nat.pow_le_pow_right (by decide) h5
 have e : (256 : Nat) ^ 4 = 4294967296 := by decide
 show be _ ≤ _
 omega
theorem textF_ok (b : List Nat) (a : Nat) (w : Bool) (ha : a ≤ b.length) (h8 : ∀ x ∈ b, x < 256) : (textF b a w).2.1 ≤ b.length ∧ a ≤ (textF b a w).2.1 ∧ (textF b a w).1.length ≤ b.length := by
 have h1 := numF_ok b a w ha h8
 have h2 := takeF_len b (numF b a w).2.1 (numF b a w).1 (numF b a w).2.2 h1.1
 exact ⟨h2.1, Nat.le_trans h1.2.1 h2.2.1, h2.2.2.2⟩
theorem text_core (b : List Nat) (a : Nat) (w : Bool) (hb : b.length ≤ 700000000) (ha : a ≤ b.length) (h8 : ∀ x ∈ b, x < 256) :
  SCall Go.Proofs.Try.prog [] 63 [.ptr 1000 0] none ⟨1001, og (rol b a w), []⟩ (.ret (.str (textF b a w).1)) none ⟨1001, og (rol b (textF b a w).2.1 (textF b a w).2.2), []⟩ := by
 refine SCall.listed (fn := Go.Proofs.Try.f63) (by kernel_rfl) res63 (by kernel_rfl) (by kernel_rfl) (Nat.le_refl _) rfl (rol_in _ _ _) trivial ?_
 unfold rc63
 have h1 := numF_ok b a w ha h8
 repeat (first | refine WR.seq ?_ | refine WR.block ?_ | refine WR.scope ?_ | refine WR.skip ?_ | refine WR.exit ?_ | refine WR.condT rfl ?_ | refine WR.condF rfl ?_ | refine WR.reg (WQ.runS [] 1000 _ _ _ _ rfl ?_) | refine WQ.nilS ?_ | refine WR.dreg hmix (DW.runS [] 1000 _ _ _ _ _ _ rfl ?_))
 refine WQ.callH rfl rfl rfl rfl rfl (num_core b a w hb ha h8) .base rfl ?_
 refine WQ.callH rfl rfl rfl rfl rfl (take_core b _ _ _ hb h1.1 h1.2.2) .base rfl ?_
 refine WQ.runS [] 1000 _ _ _ _ rfl (WQ.nilS ?_)
 refine WR.ret ⟨rfl, rfl, ⟨_, rfl, VLe.refl _⟩, fun b _ => rfl⟩
theorem rens_low {bs : List Nat} {nx : Nat} {l : List V} (h : Ins (· < glim) l) : rens (ρL bs nx) l = l := rens_id (fun i hi => ρL_low hi) h
theorem rd_lift {f : FuncId} {xs : List V} {v : V} {b : List Nat} {a a2 : Nat} {w w2 : Bool} (core : SCall Go.Proofs.Try.prog [] f (.ptr 1000 0 :: xs) none ⟨1001, og (rol b a w), []⟩ (.ret v) none ⟨1001, og (rol b a2 w2), []⟩) (ha : Ins (· < glim) xs) (hv : v.In (· < glim)) {h : H} {r : Nat} (hr : glim ≤ r) (hob : h.ob r = some (.cells false (rdV b a w))) :
  SCall Go.Proofs.Try.prog [] f (.ptr r 0 :: xs) none h (.ret v) none (h.put r (.cells false (rdV b a2 w2))) := by
 refine SCall.frameL (n := 0) [r] rfl core (by simp) (by simpa using hr) (fun i => ?_) rfl (fun i c o hi ho => ?_) (rol_in _ _ _) ⟨(by show 1000 < glim + 1; decide), Ins.mono (fun i hi => Nat.lt_of_lt_of_le hi (Nat.le_add_right _ _)) ha⟩ (hv.mono fun i hi => Nat.lt_of_lt_of_le hi (Nat.le_add_right _ _)) (rol_in _ _ _) ?_ (V.ren_id (fun i hi => ρL_low hi) hv) rfl rfl (fun i hi => ?_) (fun c hc => ?_)
 ·simp only [rol, og_cons]
  show _ ↔ 1000 ≤ i ∧ i < 1001
  split
  ·simp; omega
  ·simp [og]; omega
 ·match i, hi with
  | 0, hi =>
   cases hi; cases ho
   exact hob
 ·show _ :: rens _ xs = _
  rw [rens_low ha]; rfl
 ·have hi : i < 1 := hi
  match i, hi with
  | 0, _ =>
   show (h.put r _).ob r = _
   simp only [H.put, if_true]
   rfl
 ·have h0 := hc 0 (by show 0 < 1; decide)
  have h0 : r ≠ c := h0
  simp only [H.put]
  rw [if_neg (fun e => h0 e.symm)]
theorem take_spec (b : List Nat) (a n : Nat) (w : Bool) (hb : b.length ≤ 700000000) (ha : a ≤ b.length) (hn : n ≤ 4294967295) {h : H} {r : Nat} (hr : glim ≤ r) (hob : h.ob r = some (.cells false (rdV b a w))) :
  SCall Go.Proofs.Try.prog [] 62 [.ptr r 0, .int .i64 n] none h (.ret (.str (takeF b a w n).1)) none (h.put r (.cells false (rdV b (takeF b a w n).2.1 (takeF b a w n).2.2))) :=
 rd_lift (take_core b a n w hb ha hn) ⟨trivial, trivial⟩ trivial hr hob
theorem num_spec (b : List Nat) (a : Nat) (w : Bool) (hb : b.length ≤ 700000000) (ha : a ≤ b.length) (h8 : ∀ x ∈ b, x < 256) {h : H} {r : Nat} (hr : glim ≤ r) (hob : h.ob r = some (.cells false (rdV b a w))) :
  SCall Go.Proofs.Try.prog [] 64 [.ptr r 0] none h (.ret (.int .i64 (numF b a w).1)) none (h.put r (.cells false (rdV b (numF b a w).2.1 (numF b a w).2.2))) :=
 rd_lift (num_core b a w hb ha h8) trivial trivial hr hob
theorem text_spec (b : List Nat) (a : Nat) (w : Bool) (hb : b.length ≤ 700000000) (ha : a ≤ b.length) (h8 : ∀ x ∈ b, x < 256) {h : H} {r : Nat} (hr : glim ≤ r) (hob : h.ob r = some (.cells false (rdV b a w))) :
  SCall Go.Proofs.Try.prog [] 63 [.ptr r 0] none h (.ret (.str (textF b a w).1)) none (h.put r (.cells false (rdV b (textF b a w).2.1 (textF b a w).2.2))) :=
 rd_lift (text_core b a w hb ha h8) trivial trivial hr hob
end Go.VM
end
