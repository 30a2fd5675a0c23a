/- laid for this seat: RcSt VzA VzB VzP VzC VzD -/
import Derived.Test.YtipiffhjilidlaaDoorVmR
import Derived.Test.YtipiffhjilidlaaDoorProg
import Derived.ProofKit
import Derived.Test.YtipiffhjilidlaaDoorVg7
section
set_option maxRecDepth 100000
namespace Go.VM
open Go.RowKit
def rc9 : RC := .seq (.reg [.op (.mv (.c (.bool false))) 4]) (.seq (.reg [.op (.call (.c (.fn (.func 16) [] [])) []) 21, .mv 21 5]) (.seq (.seq (.reg [.mv 0 22, .op (.lenS (.t 22)) 23, .op (.bin .gtr (.t 23) (.c (.int .i64 2000))) 24, .mv 24 25, ⟨0, 0, some (.mv (.t 1)), [], some 26, some (25, false)⟩, ⟨0, 0, some (.lenS (.t 26)), [], some 27, some (25, false)⟩, ⟨0, 0, some (.bin .gtr (.t 27) (.c (.int .i64 2000))), [], some 28, some (25, false)⟩, .op (.pick (.t 25) (.c (.bool true)) (.t 28)) 29]) (.cond (.t 29) (.seq (.reg [.mv 5 30, .mv 30 4]) .ret) .skip)) (.seq (.reg [.mv 0 32, .op (.bin .add (.c (.str [123])) (.t 32)) 33, .op (.bin .add (.t 33) (.c (.str [10, 125]))) 34, .op (.call (.c (.fn (.func 12) [] [])) [.t 34]) 35, .mv 35 31, .op (.ext (.t 31) 0) 36, .op (.ext (.t 31) 1) 37, .op (.al [.int .i64 0, .int .i64 0]) 7, .mv 36 6, ⟨0, 0, some (.st (.t 7) (.t 37) 2), [], none, none⟩]) (.seq (.reg [.mv 1 39, .op (.bin .add (.c (.str [123])) (.t 39)) 40, .op (.bin .add (.t 40) (.c (.str [10, 125]))) 41, .op (.call (.c (.fn (.func 12) [] [])) [.t 41]) 42, .mv 42 38, .op (.ext (.t 38) 0) 43, .op (.ext (.t 38) 1) 44, .op (.al [.int .i64 0, .int .i64 0]) 9, .mv 43 8, ⟨0, 0, some (.st (.t 9) (.t 44) 2), [], none, none⟩]) (.seq (.reg [.mv 0 46, .op (.bin .add (.c (.str [123])) (.t 46)) 47, .op (.bin .add (.t 47) (.c (.str [10]))) 48, .mv 1 49, .op (.bin .add (.t 48) (.t 49)) 50, .op (.bin .add (.t 50) (.c (.str [10, 125]))) 51, .op (.call (.c (.fn (.func 12) [] [])) [.t 51]) 52, .mv 52 45, .op (.ext (.t 45) 0) 53, .op (.ext (.t 45) 1) 54, .op (.al [.int .i64 0, .int .i64 0]) 11, .mv 53 10, ⟨0, 0, some (.st (.t 11) (.t 54) 2), [], none, none⟩]) (.seq (.seq (.reg [.op (.fa (.t 7) 1) 55, .op (.ld (.t 55) none) 56, .op (.eq .int true (.t 56) (.c (.int .i64 0))) 57, .mv 57 58, ⟨0, 0, some (.fa (.t 9) 1), [], some 59, some (58, false)⟩, ⟨0, 0, some (.ld (.t 59) none), [], some 60, some (58, false)⟩, ⟨0, 0, some (.eq .int true (.t 60) (.c (.int .i64 0))), [], some 61, some (58, false)⟩, .op (.pick (.t 58) (.c (.bool true)) (.t 61)) 62, .mv 62 63, ⟨0, 0, some (.fa (.t 11) 1), [], some 64, some (63, false)⟩, ⟨0, 0, some (.ld (.t 64) none), [], some 65, some (63, false)⟩, ⟨0, 0, some (.eq .int true (.t 65) (.c (.int .i64 0))), [], some 66, some (63, false)⟩, .op (.pick (.t 63) (.c (.bool true)) (.t 66)) 67]) (.cond (.t 67) (.seq (.reg [.mv 5 68, .mv 68 4]) .ret) .skip)) (.seq (.reg [.mv 6 70, .op (.call (.c (.fn (.func 17) [] [])) [.t 70, .c (.int .i64 0)]) 71, .mv 71 69, .op (.ext (.t 69) 0) 72, .op (.ext (.t 69) 1) 73, .op (.ext (.t 69) 2) 74, .op (.al [.int .i64 0, .int .i64 0]) 14, .mv 72 12, .mv 73 13, ⟨0, 0, some (.st (.t 14) (.t 74) 2), [], none, none⟩]) (.seq (.reg [.mv 8 76, .op (.call (.c (.fn (.func 17) [] [])) [.t 76, .c (.int .i64 0)]) 77, .mv 77 75, .op (.ext (.t 75) 0) 78, .op (.ext (.t 75) 1) 79, .op (.ext (.t 75) 2) 80, .op (.al [.int .i64 0, .int .i64 0]) 17, .mv 78 15, .mv 79 16, ⟨0, 0, some (.st (.t 17) (.t 80) 2), [], none, none⟩]) (.seq (.seq (.reg [.op (.fa (.t 14) 1) 81, .op (.ld (.t 81) none) 82, .op (.eq .int true (.t 82) (.c (.int .i64 0))) 83, .mv 83 84, ⟨0, 0, some (.fa (.t 17) 1), [], some 85, some (84, false)⟩, ⟨0, 0, some (.ld (.t 85) none), [], some 86, some (84, false)⟩, ⟨0, 0, some (.eq .int true (.t 86) (.c (.int .i64 0))), [], some 87, some (84, false)⟩, .op (.pick (.t 84) (.c (.bool true)) (.t 87)) 88, .mv 88 89, ⟨0, 0, some (.mv (.t 13)), [], some 90, some (89, false)⟩, ⟨0, 0, some (.mv (.t 6)), [], some 91, some (89, false)⟩, ⟨0, 0, some (.lenL (.t 91)), [], some 92, some (89, false)⟩, ⟨0, 0, some (.bin .sub (.t 92) (.c (.int .i64 1))), [], some 93, some (89, false)⟩, ⟨0, 0, some (.eq .int true (.t 90) (.t 93)), [], some 94, some (89, false)⟩, .op (.pick (.t 89) (.c (.bool true)) (.t 94)) 95, .mv 95 96, ⟨0, 0, some (.mv (.t 16)), [], some 97, some (96, false)⟩, ⟨0, 0, some (.mv (.t 8)), [], some 98, some (96, false)⟩, ⟨0, 0, some (.lenL (.t 98)), [], some 99, some (96, false)⟩, ⟨0, 0, some (.bin .sub (.t 99) (.c (.int .i64 1))), [], some 100, some (96, false)⟩, ⟨0, 0, some (.eq .int true (.t 97) (.t 100)), [], some 101, some (96, false)⟩, .op (.pick (.t 96) (.c (.bool true)) (.t 101)) 102]) (.cond (.t 102) (.seq (.reg [.mv 5 103, .mv 103 4]) .ret) .skip)) (.seq (.reg [.mv 10 105, .op (.call (.c (.fn (.func 17) [] [])) [.t 105, .c (.int .i64 0)]) 106, .mv 106 104, .op (.ext (.t 104) 0) 107, .op (.ext (.t 104) 1) 108, .op (.ext (.t 104) 2) 109, .op (.al [.int .i64 0, .int .i64 0]) 20, .mv 107 18, .mv 108 19, ⟨0, 0, some (.st (.t 20) (.t 109) 2), [], none, none⟩]) (.seq (.reg [.mv 5 110, .mv 110 111, ⟨0, 0, some (.ld (.t 20) (some 2)), [], some 112, some (111, true)⟩, ⟨0, 0, some (.bld [.int .i64 0, .int .i64 0] [(0, 1), (1, 1)] []), [], some 113, some (111, true)⟩, ⟨0, 0, some (.eq (.st [(0, .int), (1, .int)]) false (.t 112) (.t 113)), [], some 114, some (111, true)⟩, .op (.pick (.t 111) (.t 114) (.c (.bool false))) 115, .mv 115 116, ⟨0, 0, some (.mv (.t 19)), [], some 117, some (116, true)⟩, ⟨0, 0, some (.mv (.t 10)), [], some 118, some (116, true)⟩, ⟨0, 0, some (.lenL (.t 118)), [], some 119, some (116, true)⟩, ⟨0, 0, some (.bin .sub (.t 119) (.c (.int .i64 1))), [], some 120, some (116, true)⟩, ⟨0, 0, some (.eq .int false (.t 117) (.t 120)), [], some 121, some (116, true)⟩, .op (.pick (.t 116) (.t 121) (.c (.bool false))) 122, .mv 122 123, ⟨0, 0, some (.mv (.t 18)), [], some 124, some (123, true)⟩, ⟨0, 0, some (.lenL (.t 124)), [], some 125, some (123, true)⟩, ⟨0, 0, some (.mv (.t 12)), [], some 126, some (123, true)⟩, ⟨0, 0, some (.lenL (.t 126)), [], some 127, some (123, true)⟩, ⟨0, 0, some (.mv (.t 15)), [], some 128, some (123, true)⟩, ⟨0, 0, some (.lenL (.t 128)), [], some 129, some (123, true)⟩, ⟨0, 0, some (.bin .add (.t 127) (.t 129)), [], some 130, some (123, true)⟩, ⟨0, 0, some (.eq .int false (.t 125) (.t 130)), [], some 131, some (123, true)⟩, .op (.pick (.t 123) (.t 131) (.c (.bool false))) 132, .mv 132 133, ⟨0, 0, some (.mv (.t 18)), [], some 134, some (133, true)⟩, ⟨0, 0, some (.call (.c (.fn (.func 19) [] [])) [.t 134]), [], some 135, some (133, true)⟩, ⟨0, 0, some (.mv (.t 12)), [], some 136, some (133, true)⟩, ⟨0, 0, some (.call (.c (.fn (.func 19) [] [])) [.t 136]), [], some 137, some (133, true)⟩, ⟨0, 0, some (.mv (.t 15)), [], some 138, some (133, true)⟩, ⟨0, 0, some (.call (.c (.fn (.func 19) [] [])) [.t 138]), [], some 139, some (133, true)⟩, ⟨0, 0, some (.bin .add (.t 137) (.t 139)), [], some 140, some (133, true)⟩, ⟨0, 0, some (.eq .str false (.t 135) (.t 140)), [], some 141, some (133, true)⟩, .op (.pick (.t 133) (.t 141) (.c (.bool false))) 142, .mv 142 4]) .ret)))))))))))
theorem bAc : (Go.Proofs.Tryd.f9.body).bind (aJ Go.Proofs.Tryd.prog) = some rc9 := by kernel_rfl
def aWz : RC := .seq (.reg [.op (.mv (.c (.bool false))) 0]) (.seq (.reg [.op (.call (.c (.fn (.func 12) [] [])) [.c (.str [123, 108, 101, 116, 32, 120, 61, 49, 59, 105, 102, 32, 120, 60, 50, 123, 125, 101, 108, 115, 101, 123, 114, 101, 116, 117, 114, 110, 59, 125, 125])]) 12, .mv 12 11, .op (.ext (.t 11) 0) 13, .op (.ext (.t 11) 1) 14, .op (.al [.int .i64 0, .int .i64 0]) 2, .mv 13 1, ⟨0, 0, some (.st (.t 2) (.t 14) 2), [], none, none⟩]) (.seq (.reg [.mv 1 16, .op (.call (.c (.fn (.func 17) [] [])) [.t 16, .c (.int .i64 0)]) 17, .mv 17 15, .op (.ext (.t 15) 0) 18, .op (.ext (.t 15) 1) 19, .op (.ext (.t 15) 2) 20, .op (.al [.int .i64 0, .int .i64 0]) 5, .mv 18 3, .mv 19 4, ⟨0, 0, some (.st (.t 5) (.t 20) 2), [], none, none⟩]) (.seq (.reg [.op (.call (.c (.fn (.func 12) [] [])) [.c (.str [123, 120, 61, 59, 125])]) 22, .mv 22 21, .op (.ext (.t 21) 0) 23, .op (.ext (.t 21) 1) 24, .op (.al [.int .i64 0, .int .i64 0]) 7, .mv 23 6, ⟨0, 0, some (.st (.t 7) (.t 24) 2), [], none, none⟩]) (.seq (.reg [.mv 6 26, .op (.call (.c (.fn (.func 17) [] [])) [.t 26, .c (.int .i64 0)]) 27, .mv 27 25, .op (.ext (.t 25) 0) 28, .op (.ext (.t 25) 1) 29, .op (.ext (.t 25) 2) 30, .op (.al [.int .i64 0, .int .i64 0]) 10, .mv 28 8, .mv 29 9, ⟨0, 0, some (.st (.t 10) (.t 30) 2), [], none, none⟩]) (.seq (.seq (.reg [.mv 3 31, .op (.lenL (.t 31)) 32, .op (.eq .int true (.t 32) (.c (.int .i64 2))) 33]) (.cond (.t 33) (.seq (.reg [.op (.mv (.c (.bool false))) 0]) .ret) .skip)) (.seq (.reg [.mv 3 34, .op (.ia (.t 34) (.c (.int .i64 0)) 17) 35, .op (.fa (.t 35) 0) 36, .op (.ld (.t 36) none) 37, .op (.eq .int false (.t 37) (.c (.int .i64 1))) 38, .mv 38 39, ⟨0, 0, some (.mv (.t 3)), [], some 40, some (39, true)⟩, ⟨0, 0, some (.ia (.t 40) (.c (.int .i64 0)) 17), [], some 41, some (39, true)⟩, ⟨0, 0, some (.fa (.t 41) 2), [], some 42, some (39, true)⟩, ⟨0, 0, some (.ld (.t 42) none), [], some 43, some (39, true)⟩, ⟨0, 0, some (.eq .str false (.t 43) (.c (.str [120]))), [], some 44, some (39, true)⟩, .op (.pick (.t 39) (.t 44) (.c (.bool false))) 45, .mv 45 46, ⟨0, 0, some (.mv (.t 3)), [], some 47, some (46, true)⟩, ⟨0, 0, some (.ia (.t 47) (.c (.int .i64 0)) 17), [], some 48, some (46, true)⟩, ⟨0, 0, some (.fa (.t 48) 4), [], some 49, some (46, true)⟩, ⟨0, 0, some (.fa (.t 49) 4), [], some 50, some (46, true)⟩, ⟨0, 0, some (.ld (.t 50) none), [], some 51, some (46, true)⟩, ⟨0, 0, some (.eq .int false (.t 51) (.c (.int .i64 1))), [], some 52, some (46, true)⟩, .op (.pick (.t 46) (.t 52) (.c (.bool false))) 53, .mv 53 54, ⟨0, 0, some (.mv (.t 3)), [], some 55, some (54, true)⟩, ⟨0, 0, some (.ia (.t 55) (.c (.int .i64 1)) 17), [], some 56, some (54, true)⟩, ⟨0, 0, some (.fa (.t 56) 0), [], some 57, some (54, true)⟩, ⟨0, 0, some (.ld (.t 57) none), [], some 58, some (54, true)⟩, ⟨0, 0, some (.eq .int false (.t 58) (.c (.int .i64 4))), [], some 59, some (54, true)⟩, .op (.pick (.t 54) (.t 59) (.c (.bool false))) 60, .mv 60 61, ⟨0, 0, some (.mv (.t 3)), [], some 62, some (61, true)⟩, ⟨0, 0, some (.ia (.t 62) (.c (.int .i64 1)) 17), [], some 63, some (61, true)⟩, ⟨0, 0, some (.fa (.t 63) 3), [], some 64, some (61, true)⟩, ⟨0, 0, some (.ld (.t 64) none), [], some 65, some (61, true)⟩, .op (.pick (.t 61) (.t 65) (.c (.bool false))) 66, .mv 66 67, ⟨0, 0, some (.mv (.t 3)), [], some 68, some (67, true)⟩, ⟨0, 0, some (.ia (.t 68) (.c (.int .i64 1)) 17), [], some 69, some (67, true)⟩, ⟨0, 0, some (.fa (.t 69) 16), [], some 70, some (67, true)⟩, ⟨0, 0, some (.ld (.t 70) none), [], some 71, some (67, true)⟩, ⟨0, 0, some (.lenL (.t 71)), [], some 72, some (67, true)⟩, ⟨0, 0, some (.eq .int false (.t 72) (.c (.int .i64 1))), [], some 73, some (67, true)⟩, .op (.pick (.t 67) (.t 73) (.c (.bool false))) 74, .mv 74 75, ⟨0, 0, some (.mv (.t 4)), [], some 76, some (75, true)⟩, ⟨0, 0, some (.eq .int false (.t 76) (.c (.int .i64 18))), [], some 77, some (75, true)⟩, .op (.pick (.t 75) (.t 77) (.c (.bool false))) 78, .mv 78 79, ⟨0, 0, some (.ld (.t 5) (some 2)), [], some 80, some (79, true)⟩, ⟨0, 0, some (.bld [.int .i64 0, .int .i64 0] [(0, 1), (1, 1)] []), [], some 81, some (79, true)⟩, ⟨0, 0, some (.eq (.st [(0, .int), (1, .int)]) false (.t 80) (.t 81)), [], some 82, some (79, true)⟩, .op (.pick (.t 79) (.t 82) (.c (.bool false))) 83, .mv 83 84, ⟨0, 0, some (.ld (.t 10) (some 2)), [], some 85, some (84, true)⟩, ⟨0, 0, some (.bld [.int .i64 0, .int .i64 0] [(0, 1), (1, 1)] [(0, .c (.int .i64 3)), (1, .c (.int .i64 5))]), [], some 86, some (84, true)⟩, ⟨0, 0, some (.eq (.st [(0, .int), (1, .int)]) false (.t 85) (.t 86)), [], some 87, some (84, true)⟩, .op (.pick (.t 84) (.t 87) (.c (.bool false))) 88, .mv 88 0]) .ret))))))
theorem aWr : (Go.Proofs.Tryd.f16.body).bind (aJ Go.Proofs.Tryd.prog) = some aWz := by kernel_rfl
def aHc : RC := .seq (.reg [.mv 7 28, .op (.call (.c (.fn (.func 25) [] [])) [.t 28]) 29, .mv 29 8]) (.seq (.seq (.reg [.mv 7 30, .op (.call (.c (.fn (.func 26) [] [])) [.t 30]) 31, .op (.un .not (.t 31)) 32]) (.cond (.t 32) (.seq (.aW [⟨0, 0, some (.mv (.t 7)), [7], some 33, none⟩, ⟨1, 1, some (.nc (.t 33)), [33], some 34, none⟩, ⟨2, 3, some (.fa (.t 34) 3), [34], some 35, none⟩, ⟨3, 7, some (.ld (.t 35) (some 2)), [35], some 36, none⟩, ⟨4, 0, some (.mv (.c (.lst [] (.ex 0)))), [], some 4, none⟩, ⟨5, 16, some (.mv (.c (.int .i64 0))), [], some 5, none⟩] [(⟨6, 63, some (.st (.t 6) (.t 36) 2), [6, 36], none, none⟩, [])] [33, 34, 35, 36, 4, 5]) .ret) .skip)) (.seq (.aW [⟨0, 0, some (.mv (.t 8)), [8], some 37, none⟩, ⟨1, 0, some (.mv (.t 7)), [7], some 38, none⟩, ⟨2, 2, some (.nc (.t 38)), [38], some 39, none⟩, ⟨3, 6, some (.fa (.t 39) 1), [39], some 40, none⟩, ⟨4, 14, some (.ld (.t 40) none), [40], some 41, none⟩, ⟨5, 0, some (.bld [.int .i64 0, .int .i64 0] [(0, 1), (1, 1)] []), [], some 42, none⟩, ⟨6, 1, some (.mv (.t 37)), [37], some 4, none⟩, ⟨7, 95, some (.mv (.t 41)), [41], some 5, none⟩] [(⟨8, 255, some (.st (.t 6) (.t 42) 2), [6, 42], none, none⟩, [])] [37, 38, 39, 40, 41, 42, 4, 5]) .ret))
def aZl : RC := .seq (.reg [.op (.mv (.c (.lst [] (.ex 0)))) 4, .op (.mv (.c (.int .i64 0))) 5, .op (.al [.int .i64 0, .int .i64 0]) 6]) (.seq (.reg [.mv 0 9, .mv 1 10, .op (.bld [.lst [] (.ex 0), .int .i64 0, .int .i64 0, .int .i64 0, .int .i64 0] [(0, 1), (1, 1), (2, 1), (3, 2)] [(0, .t 9), (1, .t 10)]) 11, .op (.bx (.t 11)) 12, .mv 12 7]) (.seq (.seq (.reg [.mv 1 13, .op (.bin .lss (.t 13) (.c (.int .i64 0))) 14, .mv 14 15, ⟨0, 0, some (.mv (.t 1)), [], some 16, some (15, false)⟩, ⟨0, 0, some (.mv (.t 0)), [], some 17, some (15, false)⟩, ⟨0, 0, some (.lenL (.t 17)), [], some 18, some (15, false)⟩, ⟨0, 0, some (.bin .gtr (.t 16) (.t 18)), [], some 19, some (15, false)⟩, .op (.pick (.t 15) (.c (.bool true)) (.t 19)) 20]) (.cond (.t 20) (.seq (.reg [.mv 7 21, .mv 0 22, .op (.lenL (.t 22)) 23, .op (.nc (.t 21)) 24, .op (.fa (.t 24) 1) 25, ⟨0, 0, some (.st (.t 25) (.t 23) 1), [], none, none⟩]) (.reg [.mv 7 26, .op (.call (.c (.fn (.func 24) [] [])) [.t 26, .c (.int .i64 5)]) 27])) .skip)) aHc))
theorem aZe : (Go.Proofs.Tryd.f17.body).bind (aJ Go.Proofs.Tryd.prog) = some aZl := by kernel_rfl
def aFz : RC := .reg [.mv 4 9, .op (.bin .add (.t 9) (.c (.int .i64 1))) 10, .mv 10 4]
def tR : RC := .seq (.seq (.reg [.mv 4 5, .mv 0 6, .op (.lenL (.t 6)) 7, .op (.bin .lss (.t 5) (.t 7)) 8]) (.cond (.t 8) .skip (.exit 0))) (.seq (.block 1 (.aW [⟨0, 0, some (.mv (.t 3)), [3], some 11, none⟩, ⟨1, 0, some (.mv (.t 0)), [0], some 12, none⟩, ⟨2, 0, some (.mv (.t 4)), [4], some 13, none⟩, ⟨3, 6, some (.ia (.t 12) (.t 13) 17), [12, 13], some 14, none⟩, ⟨4, 14, some (.fa (.t 14) 0), [14], some 15, none⟩, ⟨5, 30, some (.ld (.t 15) none), [15], some 16, none⟩, ⟨6, 62, some (.bin .add (.c (.int .i64 48)) (.t 16)), [16], some 17, none⟩, ⟨7, 126, some (.cvi .i32 (.t 17)), [17], some 18, none⟩, ⟨8, 254, some (.cvr (.t 18)), [18], some 19, none⟩, ⟨9, 511, some (.bin .add (.t 11) (.t 19)), [11, 19], some 20, none⟩, ⟨10, 0, some (.mv (.t 0)), [0], some 21, none⟩, ⟨11, 0, some (.mv (.t 4)), [4], some 22, none⟩, ⟨12, 3072, some (.ia (.t 21) (.t 22) 17), [21, 22], some 23, none⟩, ⟨13, 7168, some (.fa (.t 23) 2), [23], some 24, none⟩, ⟨14, 15360, some (.ld (.t 24) none), [24], some 25, none⟩, ⟨15, 32767, some (.bin .add (.t 20) (.t 25)), [20, 25], some 26, none⟩, ⟨16, 65535, some (.bin .add (.t 26) (.c (.str [32]))), [26], some 27, none⟩, ⟨17, 131071, some (.mv (.t 27)), [27], some 3, none⟩] [] [11, 12, 13, 14, 15, 16, 17, 18, 19, 20, 21, 22, 23, 24, 25, 26, 27, 3])) aFz)
def aFy : RC := .seq (.reg [.mv 3 28, .mv 28 2]) .ret
def aWl : RC := .seq (.reg [.op (.mv (.c (.str []))) 2]) (.seq (.reg [.op (.mv (.c (.str []))) 3]) (.seq (.seq (.reg [.op (.mv (.c (.int .i64 0))) 4]) (.block 0 (.loop tR))) aFy))
theorem aXs : (Go.Proofs.Tryd.f19.body).bind (aJ Go.Proofs.Tryd.prog) = some aWl := by kernel_rfl
def aYo : RC := .seq (.reg [.mv 0 4, .op (.call (.c (.fn (.func 26) [] [])) [.t 4]) 5]) (.cond (.t 5) (.reg [.mv 0 6, .mv 0 7, .mv 0 8, .op (.nc (.t 8)) 9, .op (.fa (.t 9) 1) 10, .op (.ld (.t 10) none) 11, .op (.call (.c (.fn (.func 34) [] [])) [.t 7, .t 11]) 12, .op (.fld (.t 12) 1 none) 13, .mv 1 14, .op (.bld [.int .i64 0, .int .i64 0] [(0, 1), (1, 1)] [(0, .t 13), (1, .t 14)]) 15, .op (.nc (.t 6)) 16, .op (.fa (.t 16) 3) 17, ⟨0, 0, some (.st (.t 17) (.t 15) 2), [], none, none⟩]) .skip)
theorem aXq : (Go.Proofs.Tryd.f24.body).bind (aJ Go.Proofs.Tryd.prog) = some aYo := by kernel_rfl
def aAw : RC := .seq (.seq (.reg [.mv 0 43, .op (.call (.c (.fn (.func 26) [] [])) [.t 43]) 44]) (.cond (.t 44) .skip (.exit 0))) (.block 1 (.seq (.seq (.reg [.mv 0 45, .op (.call (.c (.fn (.func 36) [] [])) [.t 45, .c (.int .i64 4), .c (.str [125])]) 46]) (.cond (.t 46) (.exit 0) .skip)) (.reg [.mv 2 47, .mv 0 48, .op (.call (.c (.fn (.func 37) [] [])) [.t 48]) 49, .op (.bs 17 1 [.int .i64 0, .int .i64 0, .str [], .bool false, .int .i64 0, .int .i64 0, .int .i64 0, .str [], .int .i64 0, .int .i64 0, .int .i64 0, .str [], .str [], .lst [] (.ex 0), .lst [] (.ex 0), .lst [] (.ex 0), .lst [] (.ex 0)] [(0, .t 49)]) 50, .op (.app (.t 47) (.t 50) 17 232 [.int .i64 0, .int .i64 0, .str [], .bool false, .int .i64 0, .int .i64 0, .int .i64 0, .str [], .int .i64 0, .int .i64 0, .int .i64 0, .str [], .str [], .lst [] (.ex 0), .lst [] (.ex 0), .lst [] (.ex 0), .lst [] (.ex 0)]) 51, .mv 51 2])))
def aIi : RC := .seq (.reg [.mv 0 52, .op (.nc (.t 52)) 53, .op (.fa (.t 53) 2) 54, .op (.ld (.t 54) none) 55, .op (.bin .sub (.t 55) (.c (.int .i64 1))) 56, .op (.nc (.t 52)) 57, .op (.fa (.t 57) 2) 58, ⟨0, 0, some (.st (.t 58) (.t 56) 1), [], none, none⟩]) (.seq (.reg [.mv 2 59, .mv 59 2]) .ret)
def aKn : RC := .seq (.reg [.op (.mv (.c (.lst [] (.ex 0)))) 2]) (.scope (.seq (.seq (.reg [.mv 0 3, .op (.nc (.t 3)) 4, .op (.fa (.t 4) 2) 5, .op (.ld (.t 5) none) 6, .op (.eq .int false (.t 6) (.c (.int .i64 30))) 7, .mv 7 8, ⟨0, 0, some (.mv (.t 0)), [], some 9, some (8, true)⟩, ⟨0, 0, some (.call (.c (.fn (.func 26) [] [])) [.t 9]), [], some 10, some (8, true)⟩, .op (.pick (.t 8) (.t 10) (.c (.bool false))) 11, .mv 11 12, ⟨0, 0, some (.mv (.t 0)), [], some 13, some (12, true)⟩, ⟨0, 0, some (.mv (.t 0)), [], some 14, some (12, true)⟩, ⟨0, 0, some (.nc (.t 14)), [], some 15, some (12, true)⟩, ⟨0, 0, some (.fa (.t 15) 1), [], some 16, some (12, true)⟩, ⟨0, 0, some (.ld (.t 16) none), [], some 17, some (12, true)⟩, ⟨0, 0, some (.call (.c (.fn (.func 34) [] [])) [.t 13, .t 17]), [], some 18, some (12, true)⟩, ⟨0, 0, some (.fld (.t 18) 0 none), [], some 19, some (12, true)⟩, ⟨0, 0, some (.eq .int false (.t 19) (.c (.int .i64 4))), [], some 20, some (12, true)⟩, .op (.pick (.t 12) (.t 20) (.c (.bool false))) 21, .mv 21 22, ⟨0, 0, some (.mv (.t 0)), [], some 23, some (22, true)⟩, ⟨0, 0, some (.mv (.t 0)), [], some 24, some (22, true)⟩, ⟨0, 0, some (.nc (.t 24)), [], some 25, some (22, true)⟩, ⟨0, 0, some (.fa (.t 25) 1), [], some 26, some (22, true)⟩, ⟨0, 0, some (.ld (.t 26) none), [], some 27, some (22, true)⟩, ⟨0, 0, some (.call (.c (.fn (.func 34) [] [])) [.t 23, .t 27]), [], some 28, some (22, true)⟩, ⟨0, 0, some (.fld (.t 28) 3 none), [], some 29, some (22, true)⟩, ⟨0, 0, some (.eq .str false (.t 29) (.c (.str [123]))), [], some 30, some (22, true)⟩, .op (.pick (.t 22) (.t 30) (.c (.bool false))) 31]) (.cond (.t 31) (.seq (.reg [.mv 0 32, .op (.call (.c (.fn (.func 24) [] [])) [.t 32, .c (.int .i64 6)]) 33]) (.seq (.reg [.op (.mv (.c (.lst [] (.ex 0)))) 2]) .ret)) .skip)) (.seq (.reg [.mv 0 34, .op (.call (.c (.fn (.func 35) [] [])) [.t 34, .c (.str [123])]) 35]) (.seq (.reg [.mv 0 36, .op (.nc (.t 36)) 37, .op (.fa (.t 37) 2) 38, .op (.ld (.t 38) none) 39, .op (.bin .add (.t 39) (.c (.int .i64 1))) 40, .op (.nc (.t 36)) 41, .op (.fa (.t 41) 2) 42, ⟨0, 0, some (.st (.t 42) (.t 40) 1), [], none, none⟩]) (.seq .skip (.seq (.block 0 (.loop aAw)) aIi))))))
theorem aZx : (Go.Proofs.Tryd.f25.body).bind (aJ Go.Proofs.Tryd.prog) = some aKn := by kernel_rfl
def aVw : RC := .seq (.reg [.op (.mv (.c (.bool false))) 2]) (.seq (.reg [.mv 0 3, .op (.nc (.t 3)) 4, .op (.fa (.t 4) 3) 5, .op (.fa (.t 5) 1) 6, .op (.ld (.t 6) none) 7, .op (.eq .int false (.t 7) (.c (.int .i64 0))) 8, .mv 8 2]) .ret)
theorem aYh : (Go.Proofs.Tryd.f26.body).bind (aJ Go.Proofs.Tryd.prog) = some aVw := by kernel_rfl
def aHz : RC := .seq (.reg [.mv 5 37, .mv 5 38, .op (.bld [.int .i64 0, .int .i64 0, .int .i64 0, .str []] [(0, 1), (1, 1), (2, 1), (3, 1)] [(1, .t 37), (2, .t 38)]) 39, ⟨0, 0, some (.st (.t 4) (.t 39) 4), [], none, none⟩]) .ret
def aXo : RC := .seq (.reg [.op (.al [.int .i64 0, .int .i64 0, .int .i64 0, .str []]) 4]) (.seq (.seq (.reg [.mv 1 7, .mv 0 8, .op (.nc (.t 8)) 9, .op (.fa (.t 9) 0) 10, .op (.ld (.t 10) none) 11, .op (.lenL (.t 11)) 12, .op (.bin .lss (.t 7) (.t 12)) 13]) (.cond (.t 13) (.seq (.reg [.mv 0 14, .op (.nc (.t 14)) 15, .op (.fa (.t 15) 0) 16, .op (.ld (.t 16) none) 17, .mv 1 18, .op (.ia (.t 17) (.t 18) 4) 19, .op (.ld (.t 19) (some 4)) 20, ⟨0, 0, some (.st (.t 4) (.t 20) 4), [], none, none⟩]) .ret) .skip)) (.seq (.reg [.op (.mv (.c (.int .i64 0))) 5]) (.seq (.seq (.reg [.mv 0 21, .op (.nc (.t 21)) 22, .op (.fa (.t 22) 0) 23, .op (.ld (.t 23) none) 24, .op (.lenL (.t 24)) 25, .mv 25 6]) (.seq (.reg [.mv 6 26, .op (.bin .gtr (.t 26) (.c (.int .i64 0))) 27]) (.cond (.t 27) (.reg [.mv 0 28, .op (.nc (.t 28)) 29, .op (.fa (.t 29) 0) 30, .op (.ld (.t 30) none) 31, .mv 6 32, .op (.bin .sub (.t 32) (.c (.int .i64 1))) 33, .op (.ia (.t 31) (.t 33) 4) 34, .op (.fa (.t 34) 2) 35, .op (.ld (.t 35) none) 36, .mv 36 5]) .skip))) aHz)))
theorem aWv : (Go.Proofs.Tryd.f34.body).bind (aJ Go.Proofs.Tryd.prog) = some aXo := by kernel_rfl
def aZm : RC := .seq (.reg [.mv 0 4, .mv 1 5, .op (.call (.c (.fn (.func 36) [] [])) [.t 4, .c (.int .i64 4), .t 5]) 6, .op (.un .not (.t 6)) 7]) (.cond (.t 7) (.reg [.mv 0 8, .op (.call (.c (.fn (.func 24) [] [])) [.t 8, .c (.int .i64 5)]) 9]) .skip)
theorem aXe : (Go.Proofs.Tryd.f35.body).bind (aJ Go.Proofs.Tryd.prog) = some aZm := by kernel_rfl
def aWb : RC := .seq (.reg [.op (.mv (.c (.bool false))) 6]) (.seq (.reg [.mv 0 8, .mv 0 9, .op (.nc (.t 9)) 10, .op (.fa (.t 10) 1) 11, .op (.ld (.t 11) none) 12, .op (.call (.c (.fn (.func 34) [] [])) [.t 8, .t 12]) 13, .op (.al [.int .i64 0, .int .i64 0, .int .i64 0, .str []]) 7, ⟨0, 0, some (.st (.t 7) (.t 13) 4), [], none, none⟩]) (.seq (.seq (.reg [.mv 0 14, .op (.call (.c (.fn (.func 26) [] [])) [.t 14]) 15, .op (.un .not (.t 15)) 16, .mv 16 17, ⟨0, 0, some (.fa (.t 7) 0), [], some 18, some (17, false)⟩, ⟨0, 0, some (.ld (.t 18) none), [], some 19, some (17, false)⟩, ⟨0, 0, some (.mv (.t 1)), [], some 20, some (17, false)⟩, ⟨0, 0, some (.eq .int true (.t 19) (.t 20)), [], some 21, some (17, false)⟩, .op (.pick (.t 17) (.c (.bool true)) (.t 21)) 22, .mv 22 23, ⟨0, 0, some (.fa (.t 7) 3), [], some 24, some (23, false)⟩, ⟨0, 0, some (.ld (.t 24) none), [], some 25, some (23, false)⟩, ⟨0, 0, some (.mv (.t 2)), [], some 26, some (23, false)⟩, ⟨0, 0, some (.eq .str true (.t 25) (.t 26)), [], some 27, some (23, false)⟩, .op (.pick (.t 23) (.c (.bool true)) (.t 27)) 28]) (.cond (.t 28) (.seq (.reg [.op (.mv (.c (.bool false))) 6]) .ret) .skip)) (.seq (.reg [.mv 0 29, .op (.nc (.t 29)) 30, .op (.fa (.t 30) 1) 31, .op (.ld (.t 31) none) 32, .op (.bin .add (.t 32) (.c (.int .i64 1))) 33, .op (.nc (.t 29)) 34, .op (.fa (.t 34) 1) 35, ⟨0, 0, some (.st (.t 35) (.t 33) 1), [], none, none⟩]) (.seq (.reg [.op (.mv (.c (.bool true))) 6]) .ret))))
theorem aWd : (Go.Proofs.Tryd.f36.body).bind (aJ Go.Proofs.Tryd.prog) = some aWb := by kernel_rfl
def zS : RC := .reg [.mv 0 56, .op (.call (.c (.fn (.func 56) [] [])) [.t 56, .t 5, .c (.int .i64 1)]) 57]
def fV : RC := .seq (.reg [.op (.ld (.t 5) (some 17)) 123, ⟨0, 0, some (.st (.t 2) (.t 123) 17), [], none, none⟩]) .ret
def aKb : RC := .seq (.reg [.op (.al [.int .i64 0, .int .i64 0, .str [], .bool false, .int .i64 0, .int .i64 0, .int .i64 0, .str [], .int .i64 0, .int .i64 0, .int .i64 0, .str [], .str [], .lst [] (.ex 0), .lst [] (.ex 0), .lst [] (.ex 0), .lst [] (.ex 0)]) 2]) (.seq (.aW [⟨0, 0, some (.mv (.t 0)), [0], some 8, none⟩, ⟨1, 0, some (.mv (.t 0)), [0], some 9, none⟩, ⟨2, 2, some (.nc (.t 9)), [9], some 10, none⟩, ⟨3, 6, some (.fa (.t 10) 1), [10], some 11, none⟩, ⟨4, 14, some (.ld (.t 11) none), [11], some 12, none⟩, ⟨6, 0, some (.mv (.t 0)), [0], some 14, none⟩, ⟨7, 0, some (.mv (.t 0)), [0], some 15, none⟩, ⟨8, 128, some (.nc (.t 15)), [15], some 16, none⟩, ⟨9, 384, some (.fa (.t 16) 1), [16], some 17, none⟩, ⟨10, 896, some (.ld (.t 17) none), [17], some 18, none⟩, ⟨11, 1920, some (.bin .add (.t 18) (.c (.int .i64 1))), [18], some 19, none⟩, ⟨13, 0, some (.al [.int .i64 0, .int .i64 0, .int .i64 0, .str []]), [], some 3, none⟩, ⟨14, 0, some (.al [.int .i64 0, .int .i64 0, .int .i64 0, .str []]), [], some 4, none⟩] [(⟨5, 31, some (.call (.c (.fn (.func 34) [] [])) [.t 8, .t 12]), [8, 12], some 13, none⟩, []), (⟨12, 4095, some (.call (.c (.fn (.func 34) [] [])) [.t 14, .t 19]), [14, 19], some 20, none⟩, []), (⟨15, 32767, some (.st (.t 3) (.t 13) 4), [3, 13], none, none⟩, []), (⟨16, 65535, some (.st (.t 4) (.t 20) 4), [4, 20], none, none⟩, [])] [8, 9, 10, 11, 12, 13, 14, 15, 16, 17, 18, 19, 20, 3, 4]) (.seq (.reg [.op (.fa (.t 3) 1) 21, .op (.ld (.t 21) none) 22, .op (.bld [.int .i64 0, .int .i64 0, .str [], .bool false, .int .i64 0, .int .i64 0, .int .i64 0, .str [], .int .i64 0, .int .i64 0, .int .i64 0, .str [], .str [], .lst [] (.ex 0), .lst [] (.ex 0), .lst [] (.ex 0), .lst [] (.ex 0)] [(0, 1), (1, 1), (2, 1), (3, 1), (4, 11), (15, 1), (16, 1)] [(1, .t 22)]) 23, .op (.al [.int .i64 0, .int .i64 0, .str [], .bool false, .int .i64 0, .int .i64 0, .int .i64 0, .str [], .int .i64 0, .int .i64 0, .int .i64 0, .str [], .str [], .lst [] (.ex 0), .lst [] (.ex 0), .lst [] (.ex 0), .lst [] (.ex 0)]) 5, ⟨0, 0, some (.st (.t 5) (.t 23) 17), [], none, none⟩]) (.seq (.reg [.mv 0 24, .op (.mkF 25 [.t 24] []) 25, .mv 25 6]) (.seq (.block 0 (.seq (.reg [.mv 0 33, .op (.call (.c (.fn (.func 36) [] [])) [.t 33, .c (.int .i64 5), .c (.str [108, 101, 116])]) 34, .mv 34 32]) (.cond (.t 32) (.seq (.seq (.reg [.mv 0 35, .mv 0 36, .op (.nc (.t 36)) 37, .op (.fa (.t 37) 1) 38, .op (.ld (.t 38) none) 39, .op (.call (.c (.fn (.func 34) [] [])) [.t 35, .t 39]) 40, .op (.al [.int .i64 0, .int .i64 0, .int .i64 0, .str []]) 7, ⟨0, 0, some (.st (.t 7) (.t 40) 4), [], none, none⟩]) (.seq (.reg [.op (.fa (.t 7) 0) 41, .op (.ld (.t 41) none) 42, .op (.eq .int false (.t 42) (.c (.int .i64 1))) 43]) (.cond (.t 43) (.seq (.reg [.op (.fa (.t 7) 3) 44, .op (.ld (.t 44) none) 45, .op (.fa (.t 5) 2) 46, ⟨0, 0, some (.st (.t 46) (.t 45) 1), [], none, none⟩]) (.reg [.mv 0 47, .op (.nc (.t 47)) 48, .op (.fa (.t 48) 1) 49, .op (.ld (.t 49) none) 50, .op (.bin .add (.t 50) (.c (.int .i64 1))) 51, .op (.nc (.t 47)) 52, .op (.fa (.t 52) 1) 53, ⟨0, 0, some (.st (.t 53) (.t 51) 1), [], none, none⟩])) (.reg [.mv 0 54, .op (.call (.c (.fn (.func 24) [] [])) [.t 54, .c (.int .i64 5)]) 55])))) zS) (.seq (.reg [.mv 0 59, .op (.call (.c (.fn (.func 36) [] [])) [.t 59, .c (.int .i64 5), .c (.str [114, 101, 116, 117, 114, 110])]) 60, .mv 60 58]) (.cond (.t 58) (.seq (.reg [.op (.fa (.t 5) 0) 61, ⟨0, 0, some (.st (.t 61) (.c (.int .i64 3)) 1), [], none, none⟩]) (.seq (.reg [.mv 0 62, .op (.call (.c (.fn (.func 36) [] [])) [.t 62, .c (.int .i64 4), .c (.str [59])]) 63, .op (.un .not (.t 63)) 64]) (.cond (.t 64) (.seq (.reg [.mv 0 65, .op (.call (.c (.fn (.func 57) [] [])) [.t 65]) 66, .op (.fa (.t 5) 3) 67, ⟨0, 0, some (.st (.t 67) (.c (.bool true)) 1), [], none, none⟩, .op (.fa (.t 5) 4) 68, ⟨0, 0, some (.st (.t 68) (.t 66) 11), [], none, none⟩]) (.reg [.mv 0 69, .op (.call (.c (.fn (.func 35) [] [])) [.t 69, .c (.str [59])]) 70])) .skip))) (.seq (.reg [.mv 0 72, .op (.call (.c (.fn (.func 36) [] [])) [.t 72, .c (.int .i64 5), .c (.str [105, 102])]) 73, .mv 73 71]) (.cond (.t 71) (.seq (.reg [.mv 0 74, .op (.call (.c (.fn (.func 57) [] [])) [.t 74]) 75, .op (.fa (.t 5) 0) 76, ⟨0, 0, some (.st (.t 76) (.c (.int .i64 4)) 1), [], none, none⟩, .op (.fa (.t 5) 4) 77, ⟨0, 0, some (.st (.t 77) (.t 75) 11), [], none, none⟩]) (.seq (.reg [.mv 6 78, .op (.call (.t 78) []) 79, .op (.fa (.t 5) 15) 80, ⟨0, 0, some (.st (.t 80) (.t 79) 1), [], none, none⟩]) (.seq (.reg [.mv 0 81, .op (.call (.c (.fn (.func 36) [] [])) [.t 81, .c (.int .i64 5), .c (.str [101, 108, 115, 101])]) 82]) (.cond (.t 82) (.reg [.mv 6 83, .op (.call (.t 83) []) 84, .op (.fa (.t 5) 3) 85, ⟨0, 0, some (.st (.t 85) (.c (.bool true)) 1), [], none, none⟩, .op (.fa (.t 5) 16) 86, ⟨0, 0, some (.st (.t 86) (.t 84) 1), [], none, none⟩]) .skip)))) (.seq (.reg [.mv 0 88, .op (.call (.c (.fn (.func 36) [] [])) [.t 88, .c (.int .i64 5), .c (.str [102, 111, 114])]) 89, .mv 89 87]) (.cond (.t 87) (.seq (.reg [.mv 0 90, .op (.call (.c (.fn (.func 57) [] [])) [.t 90]) 91, .op (.fa (.t 5) 0) 92, ⟨0, 0, some (.st (.t 92) (.c (.int .i64 5)) 1), [], none, none⟩, .op (.fa (.t 5) 4) 93, ⟨0, 0, some (.st (.t 93) (.t 91) 11), [], none, none⟩]) (.reg [.mv 6 94, .op (.call (.t 94) []) 95, .op (.fa (.t 5) 15) 96, ⟨0, 0, some (.st (.t 96) (.t 95) 1), [], none, none⟩])) (.seq (.reg [.op (.fa (.t 3) 0) 98, .op (.ld (.t 98) none) 99, .op (.eq .int false (.t 99) (.c (.int .i64 1))) 100, .mv 100 101, ⟨0, 0, some (.fa (.t 4) 0), [], some 102, some (101, true)⟩, ⟨0, 0, some (.ld (.t 102) none), [], some 103, some (101, true)⟩, ⟨0, 0, some (.eq .int false (.t 103) (.c (.int .i64 4))), [], some 104, some (101, true)⟩, .op (.pick (.t 101) (.t 104) (.c (.bool false))) 105, .mv 105 106, ⟨0, 0, some (.fa (.t 4) 3), [], some 107, some (106, true)⟩, ⟨0, 0, some (.ld (.t 107) none), [], some 108, some (106, true)⟩, ⟨0, 0, some (.eq .str false (.t 108) (.c (.str [61]))), [], some 109, some (106, true)⟩, .op (.pick (.t 106) (.t 109) (.c (.bool false))) 110, .mv 110 97]) (.cond (.t 97) (.seq (.reg [.mv 0 111, .op (.nc (.t 111)) 112, .op (.fa (.t 112) 1) 113, .op (.ld (.t 113) none) 114, .op (.bin .add (.t 114) (.c (.int .i64 1))) 115, .op (.nc (.t 111)) 116, .op (.fa (.t 116) 1) 117, ⟨0, 0, some (.st (.t 117) (.t 115) 1), [], none, none⟩]) (.seq (.reg [.op (.fa (.t 3) 3) 118, .op (.ld (.t 118) none) 119, .op (.fa (.t 5) 2) 120, ⟨0, 0, some (.st (.t 120) (.t 119) 1), [], none, none⟩]) (.reg [.mv 0 121, .op (.call (.c (.fn (.func 56) [] [])) [.t 121, .t 5, .c (.int .i64 2)]) 122]))) (.seq (.reg [.mv 0 26, .op (.call (.c (.fn (.func 57) [] [])) [.t 26]) 27, .op (.fa (.t 5) 0) 28, ⟨0, 0, some (.st (.t 28) (.c (.int .i64 6)) 1), [], none, none⟩, .op (.fa (.t 5) 4) 29, ⟨0, 0, some (.st (.t 29) (.t 27) 11), [], none, none⟩]) (.reg [.mv 0 30, .op (.call (.c (.fn (.func 35) [] [])) [.t 30, .c (.str [59])]) 31]))))))))))))) fV))))
theorem aWm : (Go.Proofs.Tryd.f37.body).bind (aJ Go.Proofs.Tryd.prog) = some aKb := by kernel_rfl
def aZs : RC := .seq (.reg [.mv 1 6, .mv 2 7, .op (.nc (.t 6)) 8, .op (.fa (.t 8) 0) 9, ⟨0, 0, some (.st (.t 9) (.t 7) 1), [], none, none⟩]) (.seq (.reg [.mv 0 10, .op (.call (.c (.fn (.func 35) [] [])) [.t 10, .c (.str [61])]) 11]) (.seq (.reg [.mv 1 12, .mv 0 13, .op (.call (.c (.fn (.func 57) [] [])) [.t 13]) 14, .op (.nc (.t 12)) 15, .op (.fa (.t 15) 4) 16, ⟨0, 0, some (.st (.t 16) (.t 14) 11), [], none, none⟩]) (.reg [.mv 0 17, .op (.call (.c (.fn (.func 35) [] [])) [.t 17, .c (.str [59])]) 18])))
theorem aZu : (Go.Proofs.Tryd.f56.body).bind (aJ Go.Proofs.Tryd.prog) = some aZs := by kernel_rfl
def tS : RC := .seq (.reg [.op (.ld (.t 2) (some 11)) 24, ⟨0, 0, some (.st (.t 2) (.t 24) 11), [], none, none⟩]) .ret
def aRn : RC := .seq (.reg [.op (.al [.int .i64 0, .int .i64 0, .int .i64 0, .str [], .int .i64 0, .int .i64 0, .int .i64 0, .str [], .str [], .lst [] (.ex 0), .lst [] (.ex 0)]) 2]) (.seq (.seq (.reg [.mv 0 3, .op (.call (.c (.fn (.func 26) [] [])) [.t 3]) 4]) (.cond (.t 4) (.aW [⟨0, 0, some (.mv (.t 0)), [0], some 6, none⟩, ⟨1, 0, some (.mv (.t 0)), [0], some 7, none⟩, ⟨2, 0, some (.mv (.t 0)), [0], some 8, none⟩, ⟨3, 4, some (.nc (.t 8)), [8], some 9, none⟩, ⟨4, 12, some (.fa (.t 9) 0), [9], some 10, none⟩, ⟨5, 28, some (.ld (.t 10) none), [10], some 11, none⟩, ⟨6, 0, some (.mv (.t 0)), [0], some 12, none⟩, ⟨7, 64, some (.nc (.t 12)), [12], some 13, none⟩, ⟨8, 192, some (.fa (.t 13) 1), [13], some 14, none⟩, ⟨9, 448, some (.ld (.t 14) none), [14], some 15, none⟩] [(⟨10, 1020, some (.call (.c (.fn (.func 67) [] [])) [.t 11, .t 15]), [11, 15], some 16, none⟩, [⟨11, 2044, some (.mv (.t 16)), [16], some 5, none⟩, ⟨12, 4092, some (.ext (.t 5) 0), [5], some 17, none⟩, ⟨13, 4092, some (.ext (.t 5) 1), [5], some 18, none⟩, ⟨14, 4092, some (.ext (.t 5) 2), [5], some 19, none⟩]), (⟨15, 8188, some (.st (.t 2) (.t 17) 11), [2, 17], none, none⟩, [⟨16, 49149, some (.nc (.t 6)), [6], some 20, none⟩, ⟨17, 114685, some (.fa (.t 20) 1), [20], some 21, none⟩]), (⟨18, 245757, some (.st (.t 21) (.t 18) 1), [21, 18], none, none⟩, [⟨19, 524287, some (.nc (.t 7)), [7], some 22, none⟩, ⟨20, 1048575, some (.fa (.t 22) 3), [22], some 23, none⟩]), (⟨21, 2097151, some (.st (.t 23) (.t 19) 2), [23, 19], none, none⟩, [])] [6, 7, 8, 9, 10, 11, 12, 13, 14, 15, 16, 5, 17, 18, 19, 20, 21, 22, 23]) .skip)) tS)
theorem aNf : (Go.Proofs.Tryd.f57.body).bind (aJ Go.Proofs.Tryd.prog) = some aRn := by kernel_rfl
end Go.VM
end
section
/- Statements: what the reader's functions come to. -/
set_option maxRecDepth 100000
set_option linter.unusedVariables false
set_option linter.unusedSimpArgs false
namespace Go.VM
open Go.RowKit
inductive Sx where
 | mk (k : Nat) (a : Int) (nm : List Nat) (has : Bool) (x : Ex) (body els : List Sx)
mutual
def jD : Sx → List V
 | .mk k a nm has x body els => [.int .i64 k, .int .i64 a, .str nm, .bool has] ++ cZ x ++ [.lst (dB body) .unk, .lst (dB els) .unk]
def dB : List Sx → List (List V)
 | [] => []
 | x :: l => jD x :: dB l
end
mutual
theorem vI {D : Nat → Prop} : ∀ x : Sx, Ins D (jD x)
 | .mk k a nm has (.mk xk xa xe xn xv (.mk tk ta tp tn tl) xs) body els => ⟨trivial, trivial, trivial, trivial, trivial, trivial, trivial, trivial, trivial, trivial, trivial, trivial, trivial, ⟨kL tl, trivial⟩, ⟨kQ xs, trivial⟩, ⟨eJ body, trivial⟩, ⟨eJ els, trivial⟩, trivial⟩
theorem eJ {D : Nat → Prop} : ∀ l : List Sx, Inss D (dB l)
 | [] => trivial
 | x :: l => ⟨vI x, eJ l⟩
end
theorem eY : ∀ l : List Sx, dB l = l.map jD
 | [] => rfl
 | x :: l => by simp only [dB, List.map_cons, eY l]
theorem aKo : ∀ x : Sx, (jD x).length = 17
 | .mk k a nm has (.mk xk xa xe xn xv (.mk tk ta tp tn tl) xs) body els => rfl
structure Sr where
 a : Nat
 p : Int
 c : Int
def cC (s : Sr) : Bool := decide (s.c = 0)
def hJ (l : List Tz) (s : Sr) (code : Int) : Sr := match cC s with
 | true => ⟨s.a, (aC l s.a).a, code⟩
 | false => s
def isS (l : List Tz) (s : Sr) (k : Int) (x : List Nat) : Bool := cC s && isF l s.a k x
def aO (s : Sr) : Sr := ⟨s.a + 1, s.p, s.c⟩
def bP (l : List Tz) (s : Sr) (x : List Nat) : Sr := match isS l s 4 x with
 | true => aO s
 | false => hJ l s 5
def aU (P : Nat → R Ex) (s : Sr) : Ex × Sr := match cC s with
 | true => match P s.a with
  | .ok x n => (x, ⟨n, 0, 0⟩)
  | .er _ _ p c => (zX, ⟨s.a, p, c⟩)
  | .out => (zX, s)
 | false => (zX, s)
structure Sf where
 block : Nat → Sr → Option (List Sx × Sr)
 loop : Nat → List Sx → Sr → Option (List Sx × Sr)
 stmt : Nat → Sr → Option (Sx × Sr)
def lB (l : List Tz) (d : Nat) (s : Sr) : Bool := decide (d = 30) && (cC s && (decide ((aC l s.a).k = 4) && decide ((aC l s.a).t = [123])))
def bW (l : List Tz) (f : Sf) (d : Nat) (s : Sr) : Option (List Sx × Sr) := match lB l d s with
 | true => some ([], hJ l s 6)
 | false => f.loop (d + 1) [] (bP l s [123])
def bZ (l : List Tz) (f : Sf) (d : Nat) (acc : List Sx) (s : Sr) : Option (List Sx × Sr) := match cC s with
 | false => some (acc, s)
 | true => match isS l s 4 [125] with
  | true => some (acc, aO s)
  | false => match f.stmt d s with
   | some (x, s1) => f.loop d (acc ++ [x]) s1
   | none => none
def lI (l : List Tz) (P : Nat → R Ex) (k : Nat) (p : Int) (nm : List Nat) (s : Sr) : Sx × Sr :=
 (.mk k p nm false (aU P (bP l s [61])).1 [] [], bP l (aU P (bP l s [61])).2 [59])
def aIp : List Nat := [108, 101, 116]
def aJt : List Nat := [114, 101, 116, 117, 114, 110]
def sIf : List Nat := [105, 102]
def jJ : List Nat := [101, 108, 115, 101]
def aIt : List Nat := [102, 111, 114]
def rY (l : List Tz) (a : Nat) : Bool := decide ((aC l a).k = 1) && (decide ((aC l (a + 1)).k = 4) && decide ((aC l (a + 1)).t = [61]))
def eU (l : List Tz) (P : Nat → R Ex) (f : Sf) (d : Nat) (s : Sr) : Option (Sx × Sr) :=
 match isS l s 5 aIp with
 | true => match decide ((aC l (s.a + 1)).k = 1) with
  | true => some (lI l P 1 (aC l s.a).a (aC l (s.a + 1)).t (aO (aO s)))
  | false => some (lI l P 1 (aC l s.a).a [] (hJ l (aO s) 5))
 | false => match isS l s 5 aJt with
  | true => match isS l (aO s) 4 [59] with
   | true => some (.mk 3 (aC l s.a).a [] false zX [] [], aO (aO s))
   | false => some (.mk 3 (aC l s.a).a [] true (aU P (aO s)).1 [] [], bP l (aU P (aO s)).2 [59])
  | false => match isS l s 5 sIf with
   | true => match f.block d (aU P (aO s)).2 with
    | none => none
    | some (b, s1) => match isS l s1 5 jJ with
     | true => match f.block d (aO s1) with
      | none => none
      | some (e, s2) => some (.mk 4 (aC l s.a).a [] true (aU P (aO s)).1 b e, s2)
     | false => some (.mk 4 (aC l s.a).a [] false (aU P (aO s)).1 b [], s1)
   | false => match isS l s 5 aIt with
    | true => match f.block d (aU P (aO s)).2 with
     | none => none
     | some (b, s1) => some (.mk 5 (aC l s.a).a [] false (aU P (aO s)).1 b [], s1)
    | false => match rY l s.a with
     | true => some (lI l P 2 (aC l s.a).a (aC l s.a).t (aO s))
     | false => some (.mk 6 (aC l s.a).a [] false (aU P s).1 [] [], bP l (aU P s).2 [59])
def bC (l : List Tz) (P : Nat → R Ex) : Nat → Sf
 | 0 => ⟨fun _ _ => none, fun _ _ _ => none, fun _ _ => none⟩
 | n + 1 => ⟨bW l (bC l P n), bZ l (bC l P n), eU l P (bC l P n)⟩
end Go.VM
end
section
/- Statements: the reader's small functions. -/
set_option maxRecDepth 100000
set_option linter.unusedVariables false
set_option linter.unusedSimpArgs false
namespace Go.VM
open Go.RowKit
def srC (l : List Tz) (d : Nat) (s : Sr) : List V := [.lst (l.map dK) .unk, .int .i64 s.a, .int .i64 d, .int .i64 s.p, .int .i64 s.c]
def srO (l : List Tz) (d : Nat) (s : Sr) : Obj := .cells false (srC l d s)
def srL (l : List Tz) (d : Nat) (s : Sr) : OL := [(1000, srO l d s)]
theorem aHf (ρ : Nat → Nat) (l : List Tz) (d : Nat) (s : Sr) : Obj.ren ρ (srO l d s) = srO l d s := by
 simp only [srO, srC, Obj.ren, dP, V.ren, aHe, LC.ren]
theorem aNo {D : Nat → Prop} (l : List Tz) (d : Nat) (s : Sr) : Obj.In D (srO l d s) := ⟨⟨aAd _, trivial⟩, trivial, trivial, trivial, trivial, trivial⟩
theorem iL {D : Nat → Prop} (l : List Tz) (d : Nat) (s : Sr) : fR D (srL l d s) := ⟨aNo l d s, trivial⟩
theorem jU {f : FuncId} {xs : List V} {l : List Tz} {d d' : Nat} {s s' : Sr} {v : V} (core : SCall Go.Proofs.Tryd.prog [] f (.ptr 1000 0 :: xs) none ⟨1001, og (srL l d s), []⟩ (.ret v) none ⟨1001, og (srL l d' s'), []⟩)
  (has : Ins (fun _ => False) xs) (hr : v.In (fun _ => False)) {h : H} {R : Nat} (hR : aF ≤ R) (h1 : h.ob R = some (srO l d s)) :
  SCall Go.Proofs.Tryd.prog [] f (.ptr R 0 :: xs) none h (.ret v) none (h.put R (srO l d' s')) := by
 refine SCall.aAo (n := 0) [R] rfl core (by simp) (by simp [hR]) (fun i => ?_) rfl (fun i c o hi ho => ?_) (iL _ _ _) ⟨(by show 1000 < 1001; decide), Ins.mono (fun _ q => q.elim) has⟩ hr (iL _ _ _) ?_ rfl rfl (fun i hi => ?_) (fun c hc => ?_)
 ·simp only [srL, aT]
  show _ ↔ 1000 ≤ i ∧ i < 1001
  split
  ·simp; omega
  ·simp [og]; omega
 ·match i, hi with
  | 0, hi =>
   cases hi; cases ho
   rw [aHf]; exact h1
 ·show _ :: dP _ xs = _
  rw [fW (D := fun _ => False) (fun _ q => q.elim) has]; rfl
 ·have hi : i < 1 := hi
  match i, hi with
  | 0, _ =>
   show (h.put R _).ob R = _
   simp only [H.put, if_true]
   show some _ = some (Obj.ren _ (srO l d' s'))
   rw [aHf]
 ·have h0 : R ≠ c := hc 0 (by show 0 < 1; decide)
  simp only [H.put]
  rw [if_neg (fun e => h0 e.symm)]
theorem aCg {f : FuncId} {xs : List V} {l : List Tz} {d : Nat} {s : Sr} {v : V} (core : SCall Go.Proofs.Tryd.prog [] f (.ptr 1000 0 :: xs) none ⟨1001, og (srL l d s), []⟩ (.ret v) none ⟨1001, og (srL l d s), []⟩)
  (has : Ins (fun _ => False) xs) (hr : v.In (fun _ => False)) {h : H} {R : Nat} (hR : aF ≤ R) (h1 : h.ob R = some (srO l d s)) : SCall Go.Proofs.Tryd.prog [] f (.ptr R 0 :: xs) none h (.ret v) none h := by
 have := jU core has hr hR h1
 rwa [aAy h1] at this
theorem aKm (l : List Tz) (d : Nat) (s : Sr) (i : Nat) (hl : l.length < 4294967296) : SCall Go.Proofs.Tryd.prog [] 34 [.ptr 1000 0, .int .i64 i] none ⟨1001, og (srL l d s), []⟩ (.ret (.agg (dK (aC l i)))) none ⟨1001, og (srL l d s), []⟩ := by
 refine SCall.aV (fn := Go.Proofs.Tryd.f34) (by kernel_rfl) aWv (by kernel_rfl) (by kernel_rfl) (Nat.le_refl _) rfl ((iL _ _ _)) (by exact ⟨trivial, trivial, trivial, trivial, trivial⟩) ?_
 unfold aXo
 unfold srL srO srC
 repeat (refine WR.seq ?_)
 refine WR.reg (WQ.aA [] 1000 _ _ _ _ rfl (WQ.aB ?_))
 repeat (refine WR.seq ?_)
 refine WR.reg (WQ.aA [] 6 _ _ _ _ rfl ?_)
 rw [List.length_map]
 by_cases h : i < l.length
 ·refine WQ.aA [] 1 _ _ _ _ rfl ?_
  rw [show decide ((i : Int) < (l.length : Int)) = true from decide_eq_true (by omega)]
  have hc : l[i]? = some l[i] := List.getElem?_eq_getElem h
  rw [iV hc]
  generalize l[i] = t at hc ⊢
  refine WQ.aA [] 1000 _ _ _ _ rfl (WQ.aB ?_)
  repeat (refine WR.seq ?_)
  refine WR.aK rfl ?_
  repeat (refine WR.seq ?_)
  refine WR.reg (WQ.aA [] 5 _ _ _ _ rfl ?_)
  refine WQ.bQ rfl rfl rfl (mH (cs := dK t) rfl rfl (by rw [List.getElem?_map, hc]; rfl) rfl) rfl (WQ.aA [] 1000 _ _ _ _ rfl (WQ.aB ?_))
  refine WR.ret ⟨rfl, rfl, ⟨_, rfl, by repeat (first | exact VLe.refl _ | exact VLe.unk _ _ | refine VLe.tup ?_ | refine VLe.agg ?_ | exact VLL.nil | refine VLL.cons ?_ ?_)⟩, fun b _ => rfl⟩
 ·refine WQ.aA [] 1 _ _ _ _ rfl ?_
  rw [show decide ((i : Int) < (l.length : Int)) = false from decide_eq_false (by omega)]
  rw [oG (by omega)]
  refine WQ.aA [] 1000 _ _ _ _ rfl (WQ.aB ?_)
  repeat (refine WR.seq ?_)
  refine WR.aG rfl (WR.skip ?_)
  repeat (refine WR.seq ?_)
  refine WR.reg (WQ.aA [] 1000 _ _ _ _ rfl (WQ.aB ?_))
  repeat (refine WR.seq ?_)
  refine WR.reg (WQ.aA [] 6 _ _ _ _ rfl ?_)
  rw [List.length_map]
  refine WQ.aA [] 1000 _ _ _ _ rfl (WQ.aB ?_)
  rcases Nat.eq_zero_or_pos l.length with h0 | h0
  ·have h0 : l = [] := List.eq_nil_of_length_eq_zero h0
   subst h0
   repeat (refine WR.seq ?_)
   refine WR.reg (WQ.aA [] 1000 _ _ _ _ rfl (WQ.aB ?_))
   repeat (refine WR.seq ?_)
   refine WR.aG rfl (WR.skip ?_)
   repeat (first | refine WR.seq ?_ | refine WR.block ?_ | refine WR.scope ?_ | refine WR.skip ?_ | refine WR.exit ?_ | refine WR.aK rfl ?_ | refine WR.aG rfl ?_ | refine WR.reg (WQ.aA [] 1000 _ _ _ _ rfl ?_) | refine WQ.aB ?_ | refine WR.aW bE (DW.aA [] 1000 _ _ _ _ _ _ rfl ?_))
   refine WR.ret ⟨rfl, rfl, ⟨_, rfl, by repeat (first | exact VLe.refl _ | exact VLe.unk _ _ | refine VLe.tup ?_ | refine VLe.agg ?_ | exact VLL.nil | refine VLL.cons ?_ ?_)⟩, fun b _ => rfl⟩
  ·repeat (refine WR.seq ?_)
   refine WR.reg (WQ.aA [] 2 _ _ _ _ rfl ?_)
   rw [show decide ((l.length : Int) > 0) = true from decide_eq_true (by omega)]
   have hc : l[l.length - 1]? = some l[l.length - 1] := List.getElem?_eq_getElem (by omega)
   rw [uL hc]
   generalize l[l.length - 1] = t at hc ⊢
   refine WQ.aA [] 1000 _ _ _ _ rfl (WQ.aB ?_)
   repeat (refine WR.seq ?_)
   refine WR.aK rfl ?_
   repeat (refine WR.seq ?_)
   refine WR.reg (WQ.aA [] 6 _ _ _ _ rfl ?_)
   rw [nE (by omega) (by unfold big; omega)]
   refine WQ.bQ rfl rfl rfl (mH (cs := dK t) rfl rfl (by rw [List.getElem?_map, hc]; rfl) rfl) rfl (WQ.aA [] 1000 _ _ _ _ rfl (WQ.aB ?_))
   unfold aHz
   repeat (first | refine WR.seq ?_ | refine WR.block ?_ | refine WR.scope ?_ | refine WR.skip ?_ | refine WR.exit ?_ | refine WR.aK rfl ?_ | refine WR.aG rfl ?_ | refine WR.reg (WQ.aA [] 1000 _ _ _ _ rfl ?_) | refine WQ.aB ?_ | refine WR.aW bE (DW.aA [] 1000 _ _ _ _ _ _ rfl ?_))
   refine WR.ret ⟨rfl, rfl, ⟨_, rfl, by repeat (first | exact VLe.refl _ | exact VLe.unk _ _ | refine VLe.tup ?_ | refine VLe.agg ?_ | exact VLL.nil | refine VLL.cons ?_ ?_)⟩, fun b _ => rfl⟩
theorem pR {l : List Tz} {d : Nat} {s : Sr} {i : Nat} (hl : l.length < 4294967296) {h : H} {R : Nat} (hR : aF ≤ R) (h1 : h.ob R = some (srO l d s)) :
  SCall Go.Proofs.Tryd.prog [] 34 [.ptr R 0, .int .i64 i] none h (.ret (.agg (dK (aC l i)))) none h :=
 aCg (aKm l d s i hl) ⟨trivial, trivial⟩ ⟨trivial, trivial, trivial, trivial, trivial⟩ hR h1
theorem aFf (l : List Tz) (d : Nat) (s : Sr) : SCall Go.Proofs.Tryd.prog [] 26 [.ptr 1000 0] none ⟨1001, og (srL l d s), []⟩ (.ret (.bool (cC s))) none ⟨1001, og (srL l d s), []⟩ := by
 refine SCall.aV (fn := Go.Proofs.Tryd.f26) (by kernel_rfl) aYh (by kernel_rfl) (by kernel_rfl) (Nat.le_refl _) rfl ((iL _ _ _)) trivial ?_
 unfold aVw
 unfold srL srO srC
 repeat (refine WR.seq ?_)
 refine WR.reg (WQ.aA [] 1000 _ _ _ _ rfl (WQ.aB ?_))
 repeat (refine WR.seq ?_)
 refine WR.reg (WQ.aA [] 1000 _ _ _ _ rfl (WQ.aB ?_))
 refine WR.ret ⟨rfl, rfl, ⟨_, rfl, by repeat (first | exact VLe.refl _ | exact VLe.unk _ _ | refine VLe.tup ?_ | refine VLe.agg ?_ | exact VLL.nil | refine VLL.cons ?_ ?_)⟩, fun b _ => rfl⟩
theorem kS {l : List Tz} {d : Nat} {s : Sr} {h : H} {R : Nat} (hR : aF ≤ R) (h1 : h.ob R = some (srO l d s)) : SCall Go.Proofs.Tryd.prog [] 26 [.ptr R 0] none h (.ret (.bool (cC s))) none h :=
 aCg (aFf l d s) trivial trivial hR h1
theorem aEk (l : List Tz) (d : Nat) (s : Sr) (c : Int) (hl : l.length < 4294967296) : SCall Go.Proofs.Tryd.prog [] 24 [.ptr 1000 0, .int .i64 c] none ⟨1001, og (srL l d s), []⟩ (.ret (.tup [])) none ⟨1001, og (srL l d (hJ l s c)), []⟩ := by
 have hf := kS (l := l) (d := d) (s := s) (h := ⟨1001, og (srL l d s), []⟩) (R := 1000) (by decide) rfl
 have ht := pR (l := l) (d := d) (s := s) (i := s.a) hl (h := ⟨1001, og (srL l d s), []⟩) (R := 1000) (by decide) rfl
 unfold hJ
 refine SCall.aV (fn := Go.Proofs.Tryd.f24) (by kernel_rfl) aXq (by kernel_rfl) (by kernel_rfl) (Nat.le_refl _) rfl ((iL _ _ _)) trivial ?_
 unfold aYo
 repeat (refine WR.seq ?_)
 refine WR.reg (WQ.aA [] 1 _ _ _ _ rfl ?_)
 refine WQ.aE rfl rfl rfl rfl rfl hf .base rfl ?_
 cases cC s with
 | false =>
  refine WQ.aA [] 1000 _ _ _ _ rfl (WQ.aB ?_)
  repeat (refine WR.seq ?_)
  refine WR.aG rfl (WR.skip ?_)
  exact ⟨rfl, rfl, ⟨_, rfl, VLe.refl _⟩, fun _ _ => rfl⟩
 | true =>
  refine WQ.aA [] 1000 _ _ _ _ rfl (WQ.aB ?_)
  repeat (refine WR.seq ?_)
  refine WR.aK rfl ?_
  repeat (refine WR.seq ?_)
  refine WR.reg (WQ.aA [] 6 _ _ _ _ rfl ?_)
  refine WQ.aE rfl rfl rfl rfl rfl ht .base rfl ?_
  refine WQ.aA [] 1000 _ _ _ _ rfl (WQ.aB ?_)
  exact ⟨rfl, rfl, ⟨_, rfl, VLe.refl _⟩, fun _ _ => rfl⟩
theorem uA {l : List Tz} {d : Nat} {s : Sr} {c : Int} (hl : l.length < 4294967296) {h : H} {R : Nat} (hR : aF ≤ R) (h1 : h.ob R = some (srO l d s)) :
  SCall Go.Proofs.Tryd.prog [] 24 [.ptr R 0, .int .i64 c] none h (.ret (.tup [])) none (h.put R (srO l d (hJ l s c))) :=
 jU (aEk l d s c hl) ⟨trivial, trivial⟩ trivial hR h1
def isN (l : List Tz) (s : Sr) (k : Int) (x : List Nat) : Sr := match isS l s k x with
 | true => aO s
 | false => s
theorem aMr (l : List Tz) (d : Nat) (s : Sr) (k : Int) (x : List Nat) (hl : l.length < 4294967296) (hs : s.a ≤ l.length) : SCall Go.Proofs.Tryd.prog [] 36 [.ptr 1000 0, .int .i64 k, .str x] none ⟨1001, og (srL l d s), []⟩ (.ret (.bool (isS l s k x))) none ⟨1001, og (srL l d (isN l s k x)), []⟩ := by
 have hf := kS (l := l) (d := d) (s := s) (h := ⟨1001, og (srL l d s), []⟩) (R := 1000) (by decide) rfl
 have ht := pR (l := l) (d := d) (s := s) (i := s.a) hl (h := ⟨1001, og (srL l d s), []⟩) (R := 1000) (by decide) rfl
 unfold isN isS isF
 generalize aC l s.a = t at ht
 obtain ⟨tk, ta, te, tt⟩ := t
 refine SCall.aV (fn := Go.Proofs.Tryd.f36) (by kernel_rfl) aWd (by kernel_rfl) (by kernel_rfl) (Nat.le_refl _) rfl ((iL _ _ _)) trivial ?_
 unfold aWb
 repeat (refine WR.seq ?_)
 refine WR.reg (WQ.aA [] 1000 _ _ _ _ rfl (WQ.aB ?_))
 repeat (refine WR.seq ?_)
 refine WR.reg (WQ.aA [] 5 _ _ _ _ rfl ?_)
 refine WQ.aE rfl rfl rfl rfl rfl ht .base rfl ?_
 refine WQ.aA [] 1000 _ _ _ _ rfl (WQ.aB ?_)
 repeat (refine WR.seq ?_)
 refine WR.reg (WQ.aA [] 1 _ _ _ _ rfl ?_)
 refine WQ.aE rfl rfl rfl rfl rfl (SCall.fD hf _) .base rfl ?_
 cases cC s with
 | false =>
  refine WQ.aA [] 1000 _ _ _ _ rfl (WQ.aB ?_)
  repeat (refine WR.seq ?_)
  refine WR.aK rfl ?_
  repeat (refine WR.seq ?_)
  refine WR.reg (WQ.aA [] 1000 _ _ _ _ rfl (WQ.aB ?_))
  refine WR.ret ⟨rfl, rfl, ⟨_, rfl, by repeat (first | exact VLe.refl _ | exact VLe.unk _ _ | refine VLe.tup ?_ | refine VLe.agg ?_ | exact VLL.nil | refine VLL.cons ?_ ?_)⟩, fun b _ => rfl⟩
 | true =>
  refine WQ.aA [] 6 _ _ _ _ rfl ?_
  cases hk : decide (tk = k) with
  | false =>
   refine WQ.aA [] 1000 _ _ _ _ rfl (WQ.aB ?_)
   repeat (refine WR.seq ?_)
   refine WR.aK rfl ?_
   repeat (refine WR.seq ?_)
   refine WR.reg (WQ.aA [] 1000 _ _ _ _ rfl (WQ.aB ?_))
   refine WR.ret ⟨rfl, rfl, ⟨_, rfl, by repeat (first | exact VLe.refl _ | exact VLe.unk _ _ | refine VLe.tup ?_ | refine VLe.agg ?_ | exact VLL.nil | refine VLL.cons ?_ ?_)⟩, fun b _ => rfl⟩
  | true =>
   refine WQ.aA [] 7 _ _ _ _ rfl ?_
   cases hx : decide (tt = x) with
   | false =>
    refine WQ.aA [] 1000 _ _ _ _ rfl (WQ.aB ?_)
    repeat (refine WR.seq ?_)
    refine WR.aK rfl ?_
    repeat (refine WR.seq ?_)
    refine WR.reg (WQ.aA [] 1000 _ _ _ _ rfl (WQ.aB ?_))
    refine WR.ret ⟨rfl, rfl, ⟨_, rfl, by repeat (first | exact VLe.refl _ | exact VLe.unk _ _ | refine VLe.tup ?_ | refine VLe.agg ?_ | exact VLL.nil | refine VLL.cons ?_ ?_)⟩, fun b _ => rfl⟩
   | true =>
    refine WQ.aA [] 1000 _ _ _ _ rfl (WQ.aB ?_)
    repeat (refine WR.seq ?_)
    refine WR.aG rfl (WR.skip ?_)
    repeat (refine WR.seq ?_)
    refine WR.reg (WQ.aA [] 5 _ _ _ _ rfl ?_)
    rw [bS (by unfold big; omega)]
    refine WQ.aA [] 1000 _ _ _ _ rfl (WQ.aB ?_)
    repeat (refine WR.seq ?_)
    refine WR.reg (WQ.aA [] 1000 _ _ _ _ rfl (WQ.aB ?_))
    refine WR.ret ⟨rfl, rfl, ⟨_, rfl, by repeat (first | exact VLe.refl _ | exact VLe.unk _ _ | refine VLe.tup ?_ | refine VLe.agg ?_ | exact VLL.nil | refine VLL.cons ?_ ?_)⟩, fun b _ => rfl⟩
theorem mZ {l : List Tz} {d : Nat} {s : Sr} {k : Int} {x : List Nat} (hl : l.length < 4294967296) (hs : s.a ≤ l.length) {h : H} {R : Nat} (hR : aF ≤ R) (h1 : h.ob R = some (srO l d s)) :
  SCall Go.Proofs.Tryd.prog [] 36 [.ptr R 0, .int .i64 k, .str x] none h (.ret (.bool (isS l s k x))) none (h.put R (srO l d (isN l s k x))) :=
 jU (aMr l d s k x hl hs) ⟨trivial, trivial, trivial⟩ trivial hR h1
theorem aEs (l : List Tz) (d : Nat) (s : Sr) (x : List Nat) (hl : l.length < 4294967296) (hs : s.a ≤ l.length) : SCall Go.Proofs.Tryd.prog [] 35 [.ptr 1000 0, .str x] none ⟨1001, og (srL l d s), []⟩ (.ret (.tup [])) none ⟨1001, og (srL l d (bP l s x)), []⟩ := by
 have hi := mZ (l := l) (d := d) (s := s) (k := 4) (x := x) hl hs (h := ⟨1001, og (srL l d s), []⟩) (R := 1000) (by decide) rfl
 unfold isN at hi
 unfold bP
 refine SCall.aV (fn := Go.Proofs.Tryd.f35) (by kernel_rfl) aXe (by kernel_rfl) (by kernel_rfl) (Nat.le_refl _) rfl ((iL _ _ _)) trivial ?_
 unfold aZm
 repeat (refine WR.seq ?_)
 refine WR.reg (WQ.aA [] 2 _ _ _ _ rfl ?_)
 refine WQ.aE rfl rfl rfl rfl rfl hi (.put .base rfl) rfl ?_
 cases isS l s 4 x with
 | true =>
  refine WQ.aA [] 1000 _ _ _ _ rfl (WQ.aB ?_)
  repeat (refine WR.seq ?_)
  refine WR.aG rfl (WR.skip ?_)
  exact ⟨rfl, rfl, ⟨_, rfl, VLe.refl _⟩, fun _ _ => rfl⟩
 | false =>
  refine WQ.aA [] 1000 _ _ _ _ rfl (WQ.aB ?_)
  repeat (refine WR.seq ?_)
  refine WR.aK rfl ?_
  repeat (refine WR.seq ?_)
  refine WR.reg (WQ.aA [] 1 _ _ _ _ rfl ?_)
  refine WQ.aE rfl rfl rfl rfl rfl (uA (l := l) (d := d) (s := s) (c := 5) hl (by decide) rfl) (.put .base rfl) rfl ?_
  refine WQ.aA [] 1000 _ _ _ _ rfl (WQ.aB ?_)
  exact ⟨rfl, rfl, ⟨_, rfl, VLe.refl _⟩, fun _ _ => rfl⟩
theorem jO {l : List Tz} {d : Nat} {s : Sr} {x : List Nat} (hl : l.length < 4294967296) (hs : s.a ≤ l.length) {h : H} {R : Nat} (hR : aF ≤ R) (h1 : h.ob R = some (srO l d s)) :
  SCall Go.Proofs.Tryd.prog [] 35 [.ptr R 0, .str x] none h (.ret (.tup [])) none (h.put R (srO l d (bP l s x))) :=
 jU (aEs l d s x hl hs) ⟨trivial, trivial⟩ trivial hR h1
end Go.VM
end
section
/- Statements: what is wrong with an expression has a code. -/
set_option maxRecDepth 100000
set_option linter.unusedVariables false
set_option linter.unusedSimpArgs false
namespace Go.VM
open Go.RowKit
def ErrC {α : Type} (r : R α) : Prop := ∀ a d p c, r = .er a d p c → c ≠ 0
theorem ErrC.ok {α : Type} {v : α} {a : Nat} : ErrC (R.ok v a) := fun _ _ _ _ e => by cases e
theorem ErrC.out {α : Type} : ErrC (R.out (α := α)) := fun _ _ _ _ e => by cases e
theorem ErrC.bind {α β : Type} {r : R α} {f : α → Nat → R β} (h : ErrC r) (k : ∀ v a1, ErrC (f v a1)) : ErrC (r.bind f) := by
 intro a d p c e
 cases r with
 | ok v a1 => exact k v a1 a d p c e
 | er a1 d1 p1 c1 => cases e; exact h _ _ _ _ rfl
 | out => cases e
section
variable {l : List Tz}
theorem ErrC.fail {α : Type} {a d : Nat} {c : Int} (hc : c ≠ 0) : ErrC (hH (α := α) l a d c) := by
 intro a' d' p c' e
 cases e
 exact hc
theorem ErrC.within {α : Type} {a d : Nat} {f : Nat → Nat → R α} (h : ErrC (f (a + 1) (d + 1))) : ErrC (aY l a d f) := by
 unfold aY
 split
 ·exact .fail (by decide)
 ·exact h
theorem ErrC.mM {a d : Nat} {s : List Nat} : ErrC (cJ l a d s) := by
 unfold cJ
 split
 ·exact .ok
 ·exact .fail (by decide)
structure ErrD (f : Fns) : Prop where
 expr : ∀ lv a d, ErrC (f.expr lv a d)
 oper : ∀ a d, ErrC (f.oper a d)
 prim : ∀ a d, ErrC (f.prim a d)
 list : ∀ to a d, ErrC (f.list to a d)
 bin : ∀ lv x a d, ErrC (f.bin lv x a d)
 post : ∀ x a d, ErrC (f.post x a d)
 elts : ∀ acc a d, ErrC (f.elts acc a d)
theorem aKg {f : Fns} (h : ErrD f) : ErrD ⟨dX f, eI l f, eG l f, dZ l f, jI l f, fB l f, eT l f⟩ := by
 refine ⟨fun lv a d => ?_, fun a d => ?_, fun a d => ?_, fun to a d => ?_, fun lv x a d => ?_, fun x a d => ?_, fun acc a d => ?_⟩
 ·show ErrC (dX f lv a d)
  unfold dX
  split
  ·exact h.oper _ _
  ·exact (h.expr _ _ _).bind fun _ _ => h.bin _ _ _ _
 ·show ErrC (eI l f a d)
  unfold eI
  split
  ·exact (ErrC.within (h.oper _ _)).bind fun _ _ => .ok
  ·exact (h.prim _ _).bind fun _ _ => h.post _ _ _
 ·show ErrC (eG l f a d)
  unfold eG
  split
  ·refine ErrC.bind ?_ fun _ _ => .ok
   unfold fX
   split
   ·exact .ok
   ·exact .fail (by decide)
  ·split
   ·split
    ·exact .ok
    ·exact .fail (by decide)
   ·split
    ·exact .ok
    ·split
     ·exact .ok
     ·split
      ·exact .ok
      ·split
       ·exact (ErrC.within (h.expr _ _ _)).bind fun _ _ => ErrC.mM.bind fun _ _ => .ok
       ·split
        ·unfold oO
         split
         ·split
          ·exact (h.list _ _ _).bind fun _ _ => .ok
          ·exact .fail (by decide)
         ·rename_i ht
          intro a' d' p c e
          cases e
          exact (aNs ht).1
         ·exact .out
        ·exact .fail (by decide)
 ·show ErrC (dZ l f to a d)
  unfold dZ
  refine (ErrC.within ?_).bind fun _ _ => ErrC.mM.bind fun _ _ => .ok
  unfold eF
  split
  ·exact .ok
  ·exact h.elts _ _ _
 ·show ErrC (jI l f lv x a d)
  unfold jI
  split
  ·exact (h.expr _ _ _).bind fun _ _ => h.bin _ _ _ _
  ·exact .ok
 ·show ErrC (fB l f x a d)
  unfold fB
  split
  ·split
   ·exact h.post _ _ _
   ·exact .fail (by decide)
  ·split
   ·exact (h.list _ _ _).bind fun _ _ => h.post _ _ _
   ·split
    ·exact (ErrC.within (h.expr _ _ _)).bind fun _ _ => ErrC.mM.bind fun _ _ => h.post _ _ _
    ·exact .ok
 ·show ErrC (eT l f acc a d)
  unfold eT
  refine (h.expr _ _ _).bind fun _ _ => ?_
  split
  ·exact h.elts _ _ _
  ·exact .ok
theorem tZ : ∀ n, ErrD (fns l n)
 | 0 => ⟨fun _ _ _ => .out, fun _ _ => .out, fun _ _ => .out, fun _ _ _ => .out, fun _ _ _ _ => .out, fun _ _ _ => .out, fun _ _ _ => .out⟩
 | n + 1 => aKg (tZ n)
end
end Go.VM
end
section
/- Statements: an expression's reading. -/
set_option maxRecDepth 100000
set_option linter.unusedVariables false
set_option linter.unusedSimpArgs false
namespace Go.VM
open Go.RowKit
structure ParseOk (l : List Tz) (P : Nat → R Ex) : Prop where
 sp : ∀ a, a ≤ l.length → ∀ h : H, SCall Go.Proofs.Tryd.prog [] 13 [lsV l, .int .i64 a] none h (.ret (exV (P a))) none h
 known : ∀ a, a ≤ l.length → (P a).gZ = false
 ok : ∀ a x n, a ≤ l.length → P a = .ok x n → a < n ∧ n ≤ l.length
 er : ∀ a a1 d p c, P a = .er a1 d p c → c ≠ 0
theorem aBs (l : List Tz) (hl : l.length < 19999) (hT : ∀ t ∈ l, t.t.length < big) (F : Nat) (hF : ∀ a, a ≤ l.length → ((fns l F).expr 1 a 0).gZ = false) : ParseOk l (fun a => (fns l F).expr 1 a 0) := by
 refine ⟨fun a ha h => SCall.dY rfl (uD l hl hT a F ha (hF a ha)) (by exact ⟨rH l, trivial, trivial⟩) (by exact aEx _) h, hF, fun a x n ha e => ?_, fun a a1 d p c e => (tZ F).expr 1 a 0 a1 d p c e⟩
 exact ⟨(nC l F).expr 1 a 0 x n e, ((cP l F).expr 1 a 0 x n e).2 ha⟩
def pdV (a : Nat) (r : R Ex) : V := match r with
 | .ok x n => .tup [jT x, .int .i64 n, .agg (dgX 0 0)]
 | .er _ _ p c => .tup [jT zX, .int .i64 a, .agg (dgX p c)]
 | .out => .bool false
theorem aFs {D : Nat → Prop} (a : Nat) (r : R Ex) : (pdV a r).In D := by
 cases r with
 | ok x n => exact ⟨bX x, trivial, ⟨trivial, trivial, trivial⟩, trivial⟩
 | er a d p c => exact ⟨bX zX, trivial, ⟨trivial, trivial, trivial⟩, trivial⟩
 | out => exact trivial
theorem aJc {l : List Tz} {P : Nat → R Ex} (hP : ParseOk l P) (a : Nat) (ha : a ≤ l.length) (h : H) : SCall Go.Proofs.Tryd.prog [] 67 [lsV l, .int .i64 a] none h (.ret (pdV a (P a))) none h := by
 refine SCall.dY rfl ?_ (by exact ⟨rH l, trivial, trivial⟩) (by exact aFs _ _) h
 have sp := hP.sp a ha
 have kn := hP.known a ha
 have er := hP.er a
 cases hr : P a with
 | out => rw [hr] at kn; cases kn
 | er a1 d1 p c =>
  rw [hr] at sp
  have hc := er _ _ _ _ hr
  refine SCall.listed (fn := Go.Proofs.Tryd.f67) (by kernel_rfl) aSz (by kernel_rfl) (by kernel_rfl) (Nat.le_refl _) rfl (trivial) (by exact aFs _ _) ?_
  unfold aUl
  repeat (refine WR.seq ?_)
  refine WR.reg (WQ.aA [] 1000 _ _ _ _ rfl (WQ.aB ?_))
  repeat (refine WR.seq ?_)
  refine WR.reg (WQ.aA [] 2 _ _ _ _ rfl ?_)
  refine WQ.aE rfl rfl rfl rfl rfl (sp _) .base rfl ?_
  refine WQ.aA [] 1000 _ _ _ _ rfl (WQ.aB ?_)
  repeat (refine WR.seq ?_)
  refine WR.reg (WQ.aA [] 2 _ _ _ _ rfl ?_)
  refine WQ.aA [] 1 _ _ _ _ rfl ?_
  rw [show decide (c = 0) = false from decide_eq_false hc]
  refine WQ.aA [] 1000 _ _ _ _ rfl (WQ.aB ?_)
  repeat (refine WR.seq ?_)
  refine WR.aK rfl ?_
  repeat (refine WR.seq ?_)
  refine WR.reg (WQ.aA [] 1000 _ _ _ _ rfl (WQ.aB ?_))
  unfold zR
  refine WR.seq (WR.aW bE (DW.aA [] 1000 _ _ _ _ _ _ rfl ?_))
  refine DW.stS (by repeat (first | exact .nil | refine PendR.aI rfl ?_ | refine PendR.aH rfl ?_ | refine PendR.aD rfl ?_)) rfl rfl rfl rfl (DW.aA [] 1000 _ _ _ _ _ _ rfl ?_)
  refine DW.stS (by repeat (first | exact .nil | refine PendR.aI rfl ?_ | refine PendR.aH rfl ?_ | refine PendR.aD rfl ?_)) rfl rfl rfl rfl (DW.aA [] 1000 _ _ _ _ _ _ rfl (DW.dN (by repeat (first | exact .nil | refine PendR.aI rfl ?_ | refine PendR.aH rfl ?_ | refine PendR.aD rfl ?_)) ?_))
  refine WR.ret ⟨rfl, rfl, ⟨_, rfl, by repeat (first | exact VLe.refl _ | exact VLe.unk _ _ | refine VLe.tup ?_ | refine VLe.agg ?_ | exact VLL.nil | refine VLL.cons ?_ ?_)⟩, fun b _ => rfl⟩
 | ok x n =>
  rw [hr] at sp
  obtain ⟨xk, xa, xe, xn, xv, ⟨xtk, xta, xtp, xtn, xtl⟩, xs⟩ := x
  refine SCall.listed (fn := Go.Proofs.Tryd.f67) (by kernel_rfl) aSz (by kernel_rfl) (by kernel_rfl) (Nat.le_refl _) rfl (trivial) (by exact aFs _ _) ?_
  unfold aUl
  repeat (refine WR.seq ?_)
  refine WR.reg (WQ.aA [] 1000 _ _ _ _ rfl (WQ.aB ?_))
  repeat (refine WR.seq ?_)
  refine WR.reg (WQ.aA [] 2 _ _ _ _ rfl ?_)
  refine WQ.aE rfl rfl rfl rfl rfl (sp _) .base rfl ?_
  refine WQ.aA [] 1000 _ _ _ _ rfl (WQ.aB ?_)
  repeat (refine WR.seq ?_)
  refine WR.reg (WQ.aA [] 1000 _ _ _ _ rfl (WQ.aB ?_))
  repeat (refine WR.seq ?_)
  refine WR.aG rfl (WR.skip ?_)
  unfold zR
  refine WR.seq (WR.aW bE (DW.aA [] 1000 _ _ _ _ _ _ rfl ?_))
  refine DW.stS (by repeat (first | exact .nil | refine PendR.aI rfl ?_ | refine PendR.aH rfl ?_ | refine PendR.aD rfl ?_)) rfl rfl rfl rfl (DW.aA [] 1000 _ _ _ _ _ _ rfl ?_)
  refine DW.stS (by repeat (first | exact .nil | refine PendR.aI rfl ?_ | refine PendR.aH rfl ?_ | refine PendR.aD rfl ?_)) rfl rfl rfl rfl (DW.aA [] 1000 _ _ _ _ _ _ rfl (DW.dN (by repeat (first | exact .nil | refine PendR.aI rfl ?_ | refine PendR.aH rfl ?_ | refine PendR.aD rfl ?_)) ?_))
  refine WR.ret ⟨rfl, rfl, ⟨_, rfl, by repeat (first | exact VLe.refl _ | exact VLe.unk _ _ | refine VLe.tup ?_ | refine VLe.agg ?_ | exact VLL.nil | refine VLL.cons ?_ ?_)⟩, fun b _ => rfl⟩
theorem aFn {l : List Tz} {P : Nat → R Ex} (hP : ParseOk l P) (d : Nat) (s : Sr) (hs : s.a ≤ l.length) : SCall Go.Proofs.Tryd.prog [] 57 [.ptr 1000 0] none ⟨1001, og (srL l d s), []⟩ (.ret (jT (aU P s).1)) none ⟨1001, og (srL l d (aU P s).2), []⟩ := by
 have hf := kS (l := l) (d := d) (s := s) (h := ⟨1001, og (srL l d s), []⟩) (R := 1000) (by decide) rfl
 have hp := aJc hP s.a hs
 have kn := hP.known s.a hs
 cases hfi : cC s with
 | false =>
  have e : aU P s = (zX, s) := by unfold aU; rw [hfi]
  rw [e]
  rw [hfi] at hf
  refine SCall.aV (fn := Go.Proofs.Tryd.f57) (by kernel_rfl) aNf (by kernel_rfl) (by kernel_rfl) (Nat.le_refl _) rfl ((iL _ _ _)) (by exact bX _) ?_
  unfold aRn
  repeat (refine WR.seq ?_)
  refine WR.reg (WQ.aA [] 1000 _ _ _ _ rfl (WQ.aB ?_))
  repeat (refine WR.seq ?_)
  refine WR.reg (WQ.aA [] 1 _ _ _ _ rfl ?_)
  refine WQ.aE rfl rfl rfl rfl rfl (SCall.fD hf _) .base rfl ?_
  refine WQ.aA [] 1000 _ _ _ _ rfl (WQ.aB ?_)
  repeat (refine WR.seq ?_)
  refine WR.aG rfl (WR.skip ?_)
  unfold tS
  repeat (refine WR.seq ?_)
  refine WR.reg (WQ.aA [] 1000 _ _ _ _ rfl (WQ.aB ?_))
  refine WR.ret ⟨rfl, rfl, ⟨_, rfl, by repeat (first | exact VLe.refl _ | exact VLe.unk _ _ | refine VLe.tup ?_ | refine VLe.agg ?_ | exact VLL.nil | refine VLL.cons ?_ ?_)⟩, fun b _ => rfl⟩
 | true =>
  rw [hfi] at hf
  have hc0 : s.c = 0 := of_decide_eq_true hfi
  cases hr : P s.a with
  | out => rw [hr] at kn; cases kn
  | er a1 d1 p c =>
   have e : aU P s = (zX, ⟨s.a, p, c⟩) := by unfold aU; rw [hfi, hr]
   rw [e]
   rw [hr] at hp
   refine SCall.aV (fn := Go.Proofs.Tryd.f57) (by kernel_rfl) aNf (by kernel_rfl) (by kernel_rfl) (Nat.le_refl _) rfl ((iL _ _ _)) (by exact bX _) ?_
   unfold aRn
   repeat (refine WR.seq ?_)
   refine WR.reg (WQ.aA [] 1000 _ _ _ _ rfl (WQ.aB ?_))
   repeat (refine WR.seq ?_)
   refine WR.reg (WQ.aA [] 1 _ _ _ _ rfl ?_)
   refine WQ.aE rfl rfl rfl rfl rfl (SCall.fD hf _) .base rfl ?_
   refine WQ.aA [] 1000 _ _ _ _ rfl (WQ.aB ?_)
   repeat (refine WR.seq ?_)
   refine WR.aK rfl ?_
   refine WR.aW bE (DW.aA [] 1000 _ _ _ _ _ _ rfl ?_)
   refine DW.aE (by repeat (first | exact .nil | refine PendR.aI rfl ?_ | refine PendR.aH rfl ?_ | refine PendR.aD rfl ?_)) rfl rfl rfl rfl rfl (hp _) .base rfl (DW.aA [] 1000 _ _ _ _ _ _ rfl ?_)
   refine DW.stS (by repeat (first | exact .nil | refine PendR.aI rfl ?_ | refine PendR.aH rfl ?_ | refine PendR.aD rfl ?_)) rfl rfl rfl rfl (DW.aA [] 1000 _ _ _ _ _ _ rfl ?_)
   refine DW.stS (by repeat (first | exact .nil | refine PendR.aI rfl ?_ | refine PendR.aH rfl ?_ | refine PendR.aD rfl ?_)) rfl rfl rfl rfl (DW.aA [] 1000 _ _ _ _ _ _ rfl ?_)
   refine DW.stS (by repeat (first | exact .nil | refine PendR.aI rfl ?_ | refine PendR.aH rfl ?_ | refine PendR.aD rfl ?_)) rfl rfl rfl rfl (DW.aA [] 1000 _ _ _ _ _ _ rfl (DW.dN (by repeat (first | exact .nil | refine PendR.aI rfl ?_ | refine PendR.aH rfl ?_ | refine PendR.aD rfl ?_)) ?_))
   unfold tS
   repeat (refine WR.seq ?_)
   refine WR.reg (WQ.aA [] 1000 _ _ _ _ rfl (WQ.aB ?_))
   refine WR.ret ⟨rfl, rfl, ⟨_, rfl, by repeat (first | exact VLe.refl _ | exact VLe.unk _ _ | refine VLe.tup ?_ | refine VLe.agg ?_ | exact VLL.nil | refine VLL.cons ?_ ?_)⟩, fun b _ => rfl⟩
  | ok x n =>
   have e : aU P s = (x, ⟨n, 0, 0⟩) := by unfold aU; rw [hfi, hr]
   rw [e]
   rw [hr] at hp
   obtain ⟨xk, xa, xe, xn, xv, ⟨xtk, xta, xtp, xtn, xtl⟩, xs⟩ := x
   refine SCall.aV (fn := Go.Proofs.Tryd.f57) (by kernel_rfl) aNf (by kernel_rfl) (by kernel_rfl) (Nat.le_refl _) rfl ((iL _ _ _)) (by exact bX _) ?_
   unfold aRn
   repeat (refine WR.seq ?_)
   refine WR.reg (WQ.aA [] 1000 _ _ _ _ rfl (WQ.aB ?_))
   repeat (refine WR.seq ?_)
   refine WR.reg (WQ.aA [] 1 _ _ _ _ rfl ?_)
   refine WQ.aE rfl rfl rfl rfl rfl (SCall.fD hf _) .base rfl ?_
   refine WQ.aA [] 1000 _ _ _ _ rfl (WQ.aB ?_)
   repeat (refine WR.seq ?_)
   refine WR.aK rfl ?_
   refine WR.aW bE (DW.aA [] 1000 _ _ _ _ _ _ rfl ?_)
   refine DW.aE (by repeat (first | exact .nil | refine PendR.aI rfl ?_ | refine PendR.aH rfl ?_ | refine PendR.aD rfl ?_)) rfl rfl rfl rfl rfl (hp _) .base rfl (DW.aA [] 1000 _ _ _ _ _ _ rfl ?_)
   refine DW.stS (by repeat (first | exact .nil | refine PendR.aI rfl ?_ | refine PendR.aH rfl ?_ | refine PendR.aD rfl ?_)) rfl rfl rfl rfl (DW.aA [] 1000 _ _ _ _ _ _ rfl ?_)
   refine DW.stS (by repeat (first | exact .nil | refine PendR.aI rfl ?_ | refine PendR.aH rfl ?_ | refine PendR.aD rfl ?_)) rfl rfl rfl rfl (DW.aA [] 1000 _ _ _ _ _ _ rfl ?_)
   refine DW.stS (by repeat (first | exact .nil | refine PendR.aI rfl ?_ | refine PendR.aH rfl ?_ | refine PendR.aD rfl ?_)) rfl rfl rfl rfl (DW.aA [] 1000 _ _ _ _ _ _ rfl (DW.dN (by repeat (first | exact .nil | refine PendR.aI rfl ?_ | refine PendR.aH rfl ?_ | refine PendR.aD rfl ?_)) ?_))
   unfold tS
   repeat (refine WR.seq ?_)
   refine WR.reg (WQ.aA [] 1000 _ _ _ _ rfl (WQ.aB ?_))
   refine WR.ret ⟨rfl, rfl, ⟨_, rfl, by repeat (first | exact VLe.refl _ | exact VLe.unk _ _ | refine VLe.tup ?_ | refine VLe.agg ?_ | exact VLL.nil | refine VLL.cons ?_ ?_)⟩, fun b _ => rfl⟩
theorem jF {l : List Tz} {P : Nat → R Ex} (hP : ParseOk l P) {d : Nat} {s : Sr} (hs : s.a ≤ l.length) {h : H} {R : Nat} (hR : aF ≤ R) (h1 : h.ob R = some (srO l d s)) :
  SCall Go.Proofs.Tryd.prog [] 57 [.ptr R 0] none h (.ret (jT (aU P s).1)) none (h.put R (srO l d (aU P s).2)) :=
 jU (aFn hP d s hs) trivial (bX _) hR h1
end Go.VM
end
section
/- Statements: the reader goes on; a reading ends. -/
set_option maxRecDepth 100000
set_option linter.unusedVariables false
set_option linter.unusedSimpArgs false
namespace Go.VM
open Go.RowKit
structure Wk (l : List Tz) (s s' : Sr) : Prop where
 le : s.a ≤ s'.a
 len : s'.a ≤ l.length
 fine : s'.c = 0 → s.c = 0
structure Stp (l : List Tz) (s s' : Sr) : Prop extends Wk l s s' where
 lt : s'.c = 0 → s.a < s'.a
theorem Wk.refl {l : List Tz} {s : Sr} (h : s.a ≤ l.length) : Wk l s s := ⟨Nat.le_refl _, h, id⟩
theorem Wk.trans {l : List Tz} {s s1 s2 : Sr} (h : Wk l s s1) (k : Wk l s1 s2) : Wk l s s2 := ⟨Nat.le_trans h.le k.le, k.len, fun e => h.fine (k.fine e)⟩
theorem Stp.l {l : List Tz} {s s1 s2 : Sr} (h : Stp l s s1) (k : Wk l s1 s2) : Stp l s s2 := ⟨h.toWk.trans k, fun e => Nat.lt_of_lt_of_le (h.lt (k.fine e)) k.le⟩
theorem Stp.r {l : List Tz} {s s1 s2 : Sr} (h : Wk l s s1) (k : Stp l s1 s2) : Stp l s s2 := ⟨h.trans k.toWk, fun e => Nat.lt_of_le_of_lt h.le (k.lt e)⟩
section
variable {l : List Tz} {P : Nat → R Ex}
theorem eS {s : Sr} : cC s = true ↔ s.c = 0 := decide_eq_true_iff
theorem aTi {s : Sr} {k : Int} {x : List Nat} (h : isS l s k x = true) : s.c = 0 ∧ isF l s.a k x = true := by
 unfold isS at h
 rw [Bool.and_eq_true] at h
 exact ⟨eS.1 h.1, h.2⟩
theorem cA {s : Sr} {k : Int} {x : List Nat} (h : isS l s k x = true) (hk : k ≠ 0) : s.a < l.length := cD (aTi h).2 hk
theorem aQ {s : Sr} (h : s.a < l.length) : Stp l s (aO s) := ⟨⟨Nat.le_succ _, h, id⟩, fun _ => Nat.lt_succ_self _⟩
theorem kU {s : Sr} (h : s.a ≤ l.length) {c : Int} (hc : c ≠ 0) : Stp l s (hJ l s c) := by
 unfold hJ
 cases hf : cC s with
 | true => exact ⟨⟨Nat.le_refl _, h, fun e => absurd e hc⟩, fun e => absurd e hc⟩
 | false =>
  have : s.c ≠ 0 := fun e => by rw [eS.2 e] at hf; cases hf
  exact ⟨⟨Nat.le_refl _, h, fun e => absurd e this⟩, fun e => absurd e this⟩
theorem bL {s : Sr} (h : s.a ≤ l.length) {x : List Nat} : Stp l s (bP l s x) := by
 unfold bP
 cases hi : isS l s 4 x with
 | true => exact aQ (cA hi (by decide))
 | false => exact kU h (by decide)
theorem bB (hP : ParseOk l P) {s : Sr} (h : s.a ≤ l.length) : Stp l s (aU P s).2 := by
 unfold aU
 cases hf : cC s with
 | false =>
  have : s.c ≠ 0 := fun e => by rw [eS.2 e] at hf; cases hf
  exact ⟨⟨Nat.le_refl _, h, fun e => absurd e this⟩, fun e => absurd e this⟩
 | true =>
  have h0 := eS.1 hf
  cases hr : P s.a with
  | ok x n => have := hP.ok _ _ _ h hr; exact ⟨⟨Nat.le_of_lt this.1, this.2, fun _ => h0⟩, fun _ => this.1⟩
  | er a d p c => have := hP.er _ _ _ _ _ hr; exact ⟨⟨Nat.le_refl _, h, fun e => absurd e this⟩, fun e => absurd e this⟩
  | out => have := hP.known _ h; rw [hr] at this; cases this
theorem nY (hP : ParseOk l P) {s : Sr} (h : s.a ≤ l.length) {k : Nat} {p : Int} {nm : List Nat} : Stp l s (lI l P k p nm s).2 := by
 have h1 := bL h (x := [61])
 have h2 := bB hP h1.len
 exact (h1.l h2.toWk).l (bL h2.len).toWk
structure InvS (l : List Tz) (f : Sf) : Prop where
 block : ∀ d s v s', s.a ≤ l.length → f.block d s = some (v, s') → Stp l s s'
 loop : ∀ d acc s v s', s.a ≤ l.length → f.loop d acc s = some (v, s') → Stp l s s'
 stmt : ∀ d s v s', s.a ≤ l.length → f.stmt d s = some (v, s') → Stp l s s'
theorem pV (hP : ParseOk l P) {f : Sf} (h : InvS l f) : InvS l ⟨bW l f, bZ l f, eU l P f⟩ := by
 refine ⟨fun d s v s' hs e => ?_, fun d acc s v s' hs e => ?_, fun d s v s' hs e => ?_⟩
 ·have e : bW l f d s = some (v, s') := e
  unfold bW at e
  split at e
  ·cases e; exact kU hs (by decide)
  ·exact (bL hs).l (h.loop _ _ _ _ _ (bL hs).len e).toWk
 ·have e : bZ l f d acc s = some (v, s') := e
  unfold bZ at e
  split at e
  ·rename_i hf
   have : s.c ≠ 0 := fun e => by rw [eS.2 e] at hf; cases hf
   cases e
   exact ⟨⟨Nat.le_refl _, hs, id⟩, fun e => absurd e this⟩
  ·split at e
   ·rename_i hi
    cases e
    exact aQ (cA hi (by decide))
   ·split at e
    ·rename_i x s1 hx
     have h1 := h.stmt _ _ _ _ hs hx
     exact h1.l (h.loop _ _ _ _ _ h1.len e).toWk
    ·cases e
 ·have e : eU l P f d s = some (v, s') := e
  unfold eU at e
  split at e
  ·rename_i hi
   have h0 := cA hi (by decide)
   split at e
   ·rename_i hk
    have h1 := cQ (l := l) (a := s.a + 1) (by rw [of_decide_eq_true hk]; decide)
    have h2 := aQ (l := l) (s := aO s) h1
    have h3 := nY hP h2.len (k := 1) (p := (aC l s.a).a) (nm := (aC l (s.a + 1)).t)
    rw [Option.some.inj e] at h3
    exact ((aQ h0).l h2.toWk).l h3.toWk
   ·have h2 := kU (aQ h0).len (c := 5) (by decide)
    have h3 := nY hP h2.len (k := 1) (p := (aC l s.a).a) (nm := [])
    rw [Option.some.inj e] at h3
    exact ((aQ h0).l h2.toWk).l h3.toWk
  ·split at e
   ·rename_i hi
    have h0 := cA hi (by decide)
    split at e
    ·rename_i hi2
     have h1 := cA hi2 (by decide)
     cases e
     exact (aQ h0).l (aQ h1).toWk
    ·cases e
     have h2 := bB hP (aQ h0).len
     exact ((aQ h0).l h2.toWk).l (bL h2.len).toWk
   ·split at e
    ·rename_i hi
     have h0 := cA hi (by decide)
     have h2 := bB hP (aQ h0).len
     split at e
     ·cases e
     ·rename_i b s1 hb
      have h3 := h.block _ _ _ _ h2.len hb
      split at e
      ·rename_i hi2
       have h4 := aQ (cA hi2 (by decide))
       split at e
       ·cases e
       ·rename_i b2 s2 hb2
        have h5 := h.block _ _ _ _ h4.len hb2
        cases e
        exact ((((aQ h0).l h2.toWk).l h3.toWk).l h4.toWk).l h5.toWk
      ·cases e
       exact ((aQ h0).l h2.toWk).l h3.toWk
    ·split at e
     ·rename_i hi
      have h0 := cA hi (by decide)
      have h2 := bB hP (aQ h0).len
      split at e
      ·cases e
      ·rename_i b s1 hb
       have h3 := h.block _ _ _ _ h2.len hb
       cases e
       exact ((aQ h0).l h2.toWk).l h3.toWk
     ·split at e
      ·rename_i hb
       unfold rY at hb
       rw [Bool.and_eq_true] at hb
       have h0 := cQ (l := l) (a := s.a) (by rw [of_decide_eq_true hb.1]; decide)
       have h3 := nY hP (aQ h0).len (k := 2) (p := (aC l s.a).a) (nm := (aC l s.a).t)
       rw [Option.some.inj e] at h3
       exact (aQ h0).l h3.toWk
      ·cases e
       have h2 := bB hP hs
       exact h2.l (bL h2.len).toWk
theorem cB (hP : ParseOk l P) : ∀ n, InvS l (bC l P n)
 | 0 => ⟨fun _ _ _ _ _ e => (by cases e), fun _ _ _ _ _ _ e => (by cases e), fun _ _ _ _ _ e => (by cases e)⟩
 | n + 1 => pV hP (cB hP n)
def Evo {α : Type} (r : Nat → Option α) : Prop := ∃ N v, ∀ n, N ≤ n → r n = some v
theorem Evo.const {α : Type} (v : α) : Evo (fun _ => some v) := ⟨0, v, fun _ _ => rfl⟩
theorem Evo.up {α : Type} {r : Nat → Option α} (h : Evo (fun n => r (n + 1))) : Evo r := by
 obtain ⟨N, v, h2⟩ := h
 refine ⟨N + 1, v, fun n hn => ?_⟩
 have : r (n - 1 + 1) = some v := h2 (n - 1) (by omega)
 rwa [show n - 1 + 1 = n by omega] at this
theorem Evo.then {α β : Type} {r : Nat → Option α} {g : Nat → α → Option β} {q : Nat → Option β} (h : Evo r) (k : ∀ v, (∃ n, r n = some v) → Evo (fun n => g n v)) (e : ∀ n v, r n = some v → q n = g n v) : Evo q := by
 obtain ⟨N, v, h2⟩ := h
 obtain ⟨M, w, k2⟩ := k v ⟨N, h2 N (Nat.le_refl _)⟩
 refine ⟨max N M, w, fun n hn => ?_⟩
 rw [e n v (h2 n (by omega))]
 exact k2 n (by omega)
structure TotS (l : List Tz) (P : Nat → R Ex) (a : Nat) : Prop where
 block : ∀ d s, s.a = a → Evo (fun n => (bC l P n).block d s)
 loop : ∀ d acc s, s.a = a → Evo (fun n => (bC l P n).loop d acc s)
 stmt : ∀ d s, s.a = a → Evo (fun n => (bC l P n).stmt d s)
theorem xK (l : List Tz) (P : Nat → R Ex) (d : Nat) (acc : List Sx) (s : Sr) (h : s.c ≠ 0) : Evo (fun n => (bC l P n).loop d acc s) := by
 refine .up ?_
 show Evo (fun n => bZ l (bC l P n) d acc s)
 unfold bZ
 rw [show cC s = false from decide_eq_false h]
 exact .const _
theorem aEt (l : List Tz) (P : Nat → R Ex) (d : Nat) (s : Sr) (h : s.c ≠ 0) : Evo (fun n => (bC l P n).block d s) := by
 refine .up ?_
 show Evo (fun n => bW l (bC l P n) d s)
 unfold bW lB
 rw [show cC s = false from decide_eq_false h, Bool.false_and, Bool.and_false]
 refine xK l P _ _ _ ?_
 unfold bP isS hJ
 rw [show cC s = false from decide_eq_false h, Bool.false_and]
 exact h
theorem xY (hP : ParseOk l P) (a : Nat) (ha : a ≤ l.length) (ih : ∀ a', a < a' → a' ≤ l.length → TotS l P a') : TotS l P a := by
 have lt_loop : ∀ d acc s s', s.a = a → Stp l s s' → Evo (fun n => (bC l P n).loop d acc s') := by
  intro d acc s s' hs h
  by_cases hc : s'.c = 0
  ·exact (ih s'.a (by have := h.lt hc; omega) h.len).loop d acc s' rfl
  ·exact xK l P d acc s' hc
 have lt_block : ∀ d s s', s.a = a → Stp l s s' → Evo (fun n => (bC l P n).block d s') := by
  intro d s s' hs h
  by_cases hc : s'.c = 0
  ·exact (ih s'.a (by have := h.lt hc; omega) h.len).block d s' rfl
  ·exact aEt l P d s' hc
 have block : ∀ d s, s.a = a → Evo (fun n => (bC l P n).block d s) := by
  intro d s hs
  refine .up ?_
  show Evo (fun n => bW l (bC l P n) d s)
  unfold bW
  cases lB l d s with
  | true => exact .const _
  | false => exact lt_loop _ _ _ _ hs (bL (by omega))
 have stmt : ∀ d s, s.a = a → Evo (fun n => (bC l P n).stmt d s) := by
  intro d s hs
  have hsl : s.a ≤ l.length := by omega
  refine .up ?_
  show Evo (fun n => eU l P (bC l P n) d s)
  unfold eU
  cases h1 : isS l s 5 aIp with
  | true => cases decide ((aC l (s.a + 1)).k = 1) <;> exact .const _
  | false =>
  cases h2 : isS l s 5 aJt with
  | true => cases isS l (aO s) 4 [59] <;> exact .const _
  | false =>
  cases h3 : isS l s 5 sIf with
  | true =>
   have h0 := cA h3 (by decide)
   have q1 := aQ h0
   have q2 := q1.l (bB hP q1.len).toWk
   refine Evo.then (lt_block d s _ hs q2) (g := fun n (v : List Sx × Sr) => match isS l v.2 5 jJ with
     | true => match (bC l P n).block d (aO v.2) with
      | none => none
      | some (e, s2) => some (Sx.mk 4 (aC l s.a).a [] true (aU P (aO s)).1 v.1 e, s2)
     | false => some (Sx.mk 4 (aC l s.a).a [] false (aU P (aO s)).1 v.1 [], v.2)) ?_ ?_
   ·intro v ⟨n, hn⟩
    obtain ⟨b, s1⟩ := v
    have q3 := q2.l ((cB hP n).block _ _ _ _ q2.len hn).toWk
    dsimp only
    cases h4 : isS l s1 5 jJ with
    | false => exact .const _
    | true =>
     have q4 := q3.l (aQ (cA h4 (by decide))).toWk
     refine Evo.then (lt_block d s _ hs q4) (g := fun n (v : List Sx × Sr) => some (Sx.mk 4 (aC l s.a).a [] true (aU P (aO s)).1 b v.1, v.2)) (fun v _ => .const _) ?_
     intro n v hv
     rw [hv]
   ·intro n v hv
    first | (rw [hv]; done) | (rw [hv]; obtain ⟨b, s1⟩ := v; rfl)
  | false =>
  cases h4 : isS l s 5 aIt with
  | true =>
   have h0 := cA h4 (by decide)
   have q1 := aQ h0
   have q2 := q1.l (bB hP q1.len).toWk
   refine Evo.then (lt_block d s _ hs q2) (g := fun n (v : List Sx × Sr) => some (Sx.mk 5 (aC l s.a).a [] false (aU P (aO s)).1 v.1 [], v.2)) (fun v _ => .const _) ?_
   intro n v hv
   rw [hv]
  | false => cases rY l s.a <;> exact .const _
 refine ⟨block, fun d acc s hs => ?_, stmt⟩
 refine .up ?_
 show Evo (fun n => bZ l (bC l P n) d acc s)
 unfold bZ
 cases cC s with
 | false => exact .const _
 | true =>
  cases isS l s 4 [125] with
  | true => exact .const _
  | false =>
   refine Evo.then (stmt d s hs) (g := fun n (v : Sx × Sr) => (bC l P n).loop d (acc ++ [v.1]) v.2) (fun v ⟨n, hn⟩ => ?_) ?_
   ·exact lt_loop _ _ _ _ hs ((cB hP n).stmt _ _ _ _ (by omega) hn)
   ·intro n v hv
    rw [hv]
theorem aXz (hP : ParseOk l P) : ∀ k a, l.length ≤ a + k → a ≤ l.length → TotS l P a := by
 intro k
 induction k with
 | zero => intro a h1 h2; exact xY hP a h2 fun a' q1 q2 => by omega
 | succ k ih => intro a h1 h2; exact xY hP a h2 fun a' q1 q2 => ih a' (by omega) q2
end
end Go.VM
end
