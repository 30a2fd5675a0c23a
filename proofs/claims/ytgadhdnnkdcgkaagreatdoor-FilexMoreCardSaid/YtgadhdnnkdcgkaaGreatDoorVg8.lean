/- laid for this seat: RcSt VzA VzB VzP VzC VzD -/
import Derived.Test.YtgadhdnnkdcgkaaGreatDoorVmR
import Derived.Test.YtgadhdnnkdcgkaaGreatDoorVmS
import Derived.Test.YtgadhdnnkdcgkaaGreatDoorProg
import Derived.ProofKit
import Derived.Test.YtgadhdnnkdcgkaaGreatDoorVg7
set_option linter.unusedVariables false
set_option linter.unusedSimpArgs false
section
set_option maxRecDepth 100000
namespace Go.VM
open Go.RowKit
def aMu:RC:=.reg [.mv 5 20,.op (.bin .add (.t 20) (.i 1)) 21,.mv 21 5]
def xH:RC:=.seq (.r [.mv 5 16,.mv 0 17,.op (.lenL (.t 17)) 18,.op (.bin .lss (.t 16) (.t 18)) 19] (.cond (.t 19) .skip (.exit 0))) (.seq (.block 1 (.r [.mv 0 22,.mv 5 23,.op (.ia (.t 22) (.t 23) 17) 24,.op (.ld (.t 24) (some 17)) 25,.op (.al [.o,.o,.e,.bool false,.o,.o,.o,.e,.o,.o,.o,.e,.e,.n,.n,.n,.n]) 6,.s (.st (.t 6) (.t 25) 17)] (.r [.mv 1 26,.mv 5 27,.op (.ia (.t 26) (.t 27) 17) 28,.op (.ld (.t 28) (some 17)) 29,.op (.al [.o,.o,.e,.bool false,.o,.o,.o,.e,.o,.o,.o,.e,.e,.n,.n,.n,.n]) 7,.s (.st (.t 7) (.t 29) 17)] (.seq (.r [.op (.fa (.t 6) 0) 30,.op (.ld (.t 30) none) 31,.op (.fa (.t 7) 0) 32,.op (.ld (.t 32) none) 33,.op (.eq .int true (.t 31) (.t 33)) 34,.mv 34 35,.g (.fa (.t 6) 1) 36 35 false,.g (.ld (.t 36) none) 37 35 false,.g (.fa (.t 7) 1) 38 35 false,.g (.ld (.t 38) none) 39 35 false,.g (.eq .int true (.t 37) (.t 39)) 40 35 false,.op (.pick (.t 35) (.c (.bool true)) (.t 40)) 41,.mv 41 42,.g (.fa (.t 6) 2) 43 42 false,.g (.ld (.t 43) none) 44 42 false,.g (.fa (.t 7) 2) 45 42 false,.g (.ld (.t 45) none) 46 42 false,.g (.eq .str true (.t 44) (.t 46)) 47 42 false,.op (.pick (.t 42) (.c (.bool true)) (.t 47)) 48,.mv 48 49,.g (.fa (.t 6) 3) 50 49 false,.g (.ld (.t 50) none) 51 49 false,.g (.fa (.t 7) 3) 52 49 false,.g (.ld (.t 52) none) 53 49 false,.g (.eq .bool true (.t 51) (.t 53)) 54 49 false,.op (.pick (.t 49) (.c (.bool true)) (.t 54)) 55] (.cond (.t 55) (.r [.op (.mv (.c (.bool false))) 4] .ret) .skip)) (.r [.op (.fa (.t 6) 4) 56,.op (.ld (.t 56) (some 11)) 57,.op (.fa (.t 7) 4) 58,.op (.ld (.t 58) (some 11)) 59,.op (.c 62 [.t 57,.t 59]) 60,.mv 60 8] (.r [.op (.fa (.t 6) 15) 61,.op (.ld (.t 61) none) 62,.op (.fa (.t 7) 15) 63,.op (.ld (.t 63) none) 64,.op (.c 33 [.t 62,.t 64]) 65,.mv 65 9] (.r [.op (.fa (.t 6) 16) 66,.op (.ld (.t 66) none) 67,.op (.fa (.t 7) 16) 68,.op (.ld (.t 68) none) 69,.op (.c 33 [.t 67,.t 69]) 70,.mv 70 10] (.r [.mv 8 71,.op (.un .not (.t 71)) 72,.mv 72 73,.g (.mv (.t 9)) 74 73 false,.g (.un .not (.t 74)) 75 73 false,.op (.pick (.t 73) (.c (.bool true)) (.t 75)) 76,.mv 76 77,.g (.mv (.t 10)) 78 77 false,.g (.un .not (.t 78)) 79 77 false,.op (.pick (.t 77) (.c (.bool true)) (.t 79)) 80] (.cond (.t 80) (.r [.op (.mv (.c (.bool false))) 4] .ret) .skip))))))))) aMu)
def aMi:RC:=.r [.op (.mv (.c (.bool true))) 4] .ret
def bKu:RC:=.r [.op (.mv (.c (.bool false))) 4] (.seq (.r [.mv 0 11,.op (.lenL (.t 11)) 12,.mv 1 13,.op (.lenL (.t 13)) 14,.op (.eq .int true (.t 12) (.t 14)) 15] (.cond (.t 15) (.r [.op (.mv (.c (.bool false))) 4] .ret) .skip)) (.seq (.r [.op (.mv (.i 0)) 5] (.block 0 (.loop xH))) aMi))
theorem bMg:(Go.Proofs.Tryz.f33.body).bind (aE Go.Proofs.Tryz.prog)=some bKu:=by kernel_rfl
def aPd:RC:=.r [.mv 7 28,.op (.c 90 [.t 28]) 29,.mv 29 8] (.seq (.r [.mv 7 30,.op (.c 91 [.t 30]) 31,.op (.un .not (.t 31)) 32] (.cond (.t 32) (.seq (.aN [.w 0 0 (.mv (.t 7)) [7] 33,.w 1 1 (.nc (.t 33)) [33] 34,.w 2 3 (.fa (.t 34) 3) [34] 35,.w 3 7 (.ld (.t 35) (some 2)) [35] 36,.w 4 0 (.mv (.c (.n))) [] 4,.w 5 16 (.mv (.i 0)) [] 5] [(.z 6 63 (.st (.t 6) (.t 36) 2) [6,36],[])] [33,34,35,36,4,5]) .ret) .skip)) (.seq (.aN [.w 0 0 (.mv (.t 8)) [8] 37,.w 1 0 (.mv (.t 7)) [7] 38,.w 2 2 (.nc (.t 38)) [38] 39,.w 3 6 (.fa (.t 39) 1) [39] 40,.w 4 14 (.ld (.t 40) none) [40] 41,.w 5 0 (.bld [.o,.o] [(0,1),(1,1)] []) [] 42,.w 6 1 (.mv (.t 37)) [37] 4,.w 7 95 (.mv (.t 41)) [41] 5] [(.z 8 255 (.st (.t 6) (.t 42) 2) [6,42],[])] [37,38,39,40,41,42,4,5]) .ret))
def bIi:RC:=.r [.op (.mv (.c (.n))) 4,.op (.mv (.i 0)) 5,.op (.al [.o,.o]) 6] (.r [.mv 0 9,.mv 1 10,.op (.bld [.n,.o,.o,.o,.o] [(0,1),(1,1),(2,1),(3,2)] [(0,.t 9),(1,.t 10)]) 11,.op (.bx (.t 11)) 12,.mv 12 7] (.seq (.r [.mv 1 13,.op (.bin .lss (.t 13) (.i 0)) 14,.mv 14 15,.g (.mv (.t 1)) 16 15 false,.g (.mv (.t 0)) 17 15 false,.g (.lenL (.t 17)) 18 15 false,.g (.bin .gtr (.t 16) (.t 18)) 19 15 false,.op (.pick (.t 15) (.c (.bool true)) (.t 19)) 20] (.cond (.t 20) (.r [.mv 7 21,.mv 0 22,.op (.lenL (.t 22)) 23,.op (.nc (.t 21)) 24,.op (.fa (.t 24) 1) 25,.s (.st (.t 25) (.t 23) 1)] (.reg [.mv 7 26,.op (.c 89 [.t 26,.c (.int .i64 5)]) 27])) .skip)) aPd))
theorem bJh:(Go.Proofs.Tryz.f79.body).bind (aE Go.Proofs.Tryz.prog)=some bIi:=by kernel_rfl
def bKh:RC:=.r [.mv 0 4,.op (.c 91 [.t 4]) 5] (.cond (.t 5) (.reg [.mv 0 6,.mv 0 7,.mv 0 8,.op (.nc (.t 8)) 9,.op (.fa (.t 9) 1) 10,.op (.ld (.t 10) none) 11,.op (.c 100 [.t 7,.t 11]) 12,.op (.fld (.t 12) 1 none) 13,.mv 1 14,.op (.bld [.o,.o] [(0,1),(1,1)] [(0,.t 13),(1,.t 14)]) 15,.op (.nc (.t 6)) 16,.op (.fa (.t 16) 3) 17,.s (.st (.t 17) (.t 15) 2)]) .skip)
theorem bJk:(Go.Proofs.Tryz.f89.body).bind (aE Go.Proofs.Tryz.prog)=some bKh:=by kernel_rfl
def aDz:RC:=.seq (.r [.mv 0 43,.op (.c 91 [.t 43]) 44] (.cond (.t 44) .skip (.exit 0))) (.block 1 (.seq (.r [.mv 0 45,.op (.c 102 [.t 45,.c (.int .i64 4),.c (.str [125])]) 46] (.cond (.t 46) (.exit 0) .skip)) (.reg [.mv 2 47,.mv 0 48,.op (.c 103 [.t 48]) 49,.op (.bs 17 1 [.o,.o,.e,.bool false,.o,.o,.o,.e,.o,.o,.o,.e,.e,.n,.n,.n,.n] [(0,.t 49)]) 50,.op (.app (.t 47) (.t 50) 17 232 [.o,.o,.e,.bool false,.o,.o,.o,.e,.o,.o,.o,.e,.e,.n,.n,.n,.n]) 51,.mv 51 2])))
def aMr:RC:=.r [.mv 0 52,.op (.nc (.t 52)) 53,.op (.fa (.t 53) 2) 54,.op (.ld (.t 54) none) 55,.op (.bin .sub (.t 55) (.i 1)) 56,.op (.nc (.t 52)) 57,.op (.fa (.t 57) 2) 58,.s (.st (.t 58) (.t 56) 1)] (.r [.mv 2 59,.mv 59 2] .ret)
def aQd:RC:=.r [.op (.mv (.c (.n))) 2] (.scope (.seq (.r [.mv 0 3,.op (.nc (.t 3)) 4,.op (.fa (.t 4) 2) 5,.op (.ld (.t 5) none) 6,.op (.eq .int false (.t 6) (.i 30)) 7,.mv 7 8,.g (.mv (.t 0)) 9 8 true,.g (.c 91 [.t 9]) 10 8 true,.op (.pick (.t 8) (.t 10) (.c (.bool false))) 11,.mv 11 12,.g (.mv (.t 0)) 13 12 true,.g (.mv (.t 0)) 14 12 true,.g (.nc (.t 14)) 15 12 true,.g (.fa (.t 15) 1) 16 12 true,.g (.ld (.t 16) none) 17 12 true,.g (.c 100 [.t 13,.t 17]) 18 12 true,.g (.fld (.t 18) 0 none) 19 12 true,.g (.eq .int false (.t 19) (.i 4)) 20 12 true,.op (.pick (.t 12) (.t 20) (.c (.bool false))) 21,.mv 21 22,.g (.mv (.t 0)) 23 22 true,.g (.mv (.t 0)) 24 22 true,.g (.nc (.t 24)) 25 22 true,.g (.fa (.t 25) 1) 26 22 true,.g (.ld (.t 26) none) 27 22 true,.g (.c 100 [.t 23,.t 27]) 28 22 true,.g (.fld (.t 28) 3 none) 29 22 true,.g (.eq .str false (.t 29) (.c (.str [123]))) 30 22 true,.op (.pick (.t 22) (.t 30) (.c (.bool false))) 31] (.cond (.t 31) (.r [.mv 0 32,.op (.c 89 [.t 32,.c (.int .i64 6)]) 33] (.r [.op (.mv (.c (.n))) 2] .ret)) .skip)) (.r [.mv 0 34,.op (.c 101 [.t 34,.c (.str [123])]) 35] (.r [.mv 0 36,.op (.nc (.t 36)) 37,.op (.fa (.t 37) 2) 38,.op (.ld (.t 38) none) 39,.op (.bin .add (.t 39) (.i 1)) 40,.op (.nc (.t 36)) 41,.op (.fa (.t 41) 2) 42,.s (.st (.t 42) (.t 40) 1)] (.seq .skip (.seq (.block 0 (.loop aDz)) aMr))))))
theorem bLk:(Go.Proofs.Tryz.f90.body).bind (aE Go.Proofs.Tryz.prog)=some aQd:=by kernel_rfl
def bHy:RC:=.r [.op (.mv (.c (.bool false))) 2] (.r [.mv 0 3,.op (.nc (.t 3)) 4,.op (.fa (.t 4) 3) 5,.op (.fa (.t 5) 1) 6,.op (.ld (.t 6) none) 7,.op (.eq .int false (.t 7) (.i 0)) 8,.mv 8 2] .ret)
theorem bLz:(Go.Proofs.Tryz.f91.body).bind (aE Go.Proofs.Tryz.prog)=some bHy:=by kernel_rfl
def aGg:RC:=.r [.mv 5 37,.mv 5 38,.op (.bld [.o,.o,.o,.e] [(0,1),(1,1),(2,1),(3,1)] [(1,.t 37),(2,.t 38)]) 39,.s (.st (.t 4) (.t 39) 4)] .ret
def bDy:RC:=.r [.op (.al [.o,.o,.o,.e]) 4] (.seq (.r [.mv 1 7,.mv 0 8,.op (.nc (.t 8)) 9,.op (.fa (.t 9) 0) 10,.op (.ld (.t 10) none) 11,.op (.lenL (.t 11)) 12,.op (.bin .lss (.t 7) (.t 12)) 13] (.cond (.t 13) (.r [.mv 0 14,.op (.nc (.t 14)) 15,.op (.fa (.t 15) 0) 16,.op (.ld (.t 16) none) 17,.mv 1 18,.op (.ia (.t 17) (.t 18) 4) 19,.op (.ld (.t 19) (some 4)) 20,.s (.st (.t 4) (.t 20) 4)] .ret) .skip)) (.r [.op (.mv (.i 0)) 5] (.seq (.r [.mv 0 21,.op (.nc (.t 21)) 22,.op (.fa (.t 22) 0) 23,.op (.ld (.t 23) none) 24,.op (.lenL (.t 24)) 25,.mv 25 6] (.r [.mv 6 26,.op (.bin .gtr (.t 26) (.i 0)) 27] (.cond (.t 27) (.reg [.mv 0 28,.op (.nc (.t 28)) 29,.op (.fa (.t 29) 0) 30,.op (.ld (.t 30) none) 31,.mv 6 32,.op (.bin .sub (.t 32) (.i 1)) 33,.op (.ia (.t 31) (.t 33) 4) 34,.op (.fa (.t 34) 2) 35,.op (.ld (.t 35) none) 36,.mv 36 5]) .skip))) aGg)))
theorem bFy:(Go.Proofs.Tryz.f100.body).bind (aE Go.Proofs.Tryz.prog)=some bDy:=by kernel_rfl
def bEo:RC:=.r [.mv 0 4,.mv 1 5,.op (.c 102 [.t 4,.c (.int .i64 4),.t 5]) 6,.op (.un .not (.t 6)) 7] (.cond (.t 7) (.reg [.mv 0 8,.op (.c 89 [.t 8,.c (.int .i64 5)]) 9]) .skip)
theorem bFd:(Go.Proofs.Tryz.f101.body).bind (aE Go.Proofs.Tryz.prog)=some bEo:=by kernel_rfl
def bDt:RC:=.r [.op (.mv (.c (.bool false))) 6] (.r [.mv 0 8,.mv 0 9,.op (.nc (.t 9)) 10,.op (.fa (.t 10) 1) 11,.op (.ld (.t 11) none) 12,.op (.c 100 [.t 8,.t 12]) 13,.op (.al [.o,.o,.o,.e]) 7,.s (.st (.t 7) (.t 13) 4)] (.seq (.r [.mv 0 14,.op (.c 91 [.t 14]) 15,.op (.un .not (.t 15)) 16,.mv 16 17,.g (.fa (.t 7) 0) 18 17 false,.g (.ld (.t 18) none) 19 17 false,.g (.mv (.t 1)) 20 17 false,.g (.eq .int true (.t 19) (.t 20)) 21 17 false,.op (.pick (.t 17) (.c (.bool true)) (.t 21)) 22,.mv 22 23,.g (.fa (.t 7) 3) 24 23 false,.g (.ld (.t 24) none) 25 23 false,.g (.mv (.t 2)) 26 23 false,.g (.eq .str true (.t 25) (.t 26)) 27 23 false,.op (.pick (.t 23) (.c (.bool true)) (.t 27)) 28] (.cond (.t 28) (.r [.op (.mv (.c (.bool false))) 6] .ret) .skip)) (.r [.mv 0 29,.op (.nc (.t 29)) 30,.op (.fa (.t 30) 1) 31,.op (.ld (.t 31) none) 32,.op (.bin .add (.t 32) (.i 1)) 33,.op (.nc (.t 29)) 34,.op (.fa (.t 34) 1) 35,.s (.st (.t 35) (.t 33) 1)] (.r [.op (.mv (.c (.bool true))) 6] .ret))))
theorem bGt:(Go.Proofs.Tryz.f102.body).bind (aE Go.Proofs.Tryz.prog)=some bDt:=by kernel_rfl
def yN:RC:=.reg [.mv 0 56,.op (.c 107 [.t 56,.t 5,.c (.int .i64 1)]) 57]
def fQ:RC:=.r [.op (.ld (.t 5) (some 17)) 123,.s (.st (.t 2) (.t 123) 17)] .ret
def aAy:RC:=.r [.op (.al [.o,.o,.e,.bool false,.o,.o,.o,.e,.o,.o,.o,.e,.e,.n,.n,.n,.n]) 2] (.seq (.aN [.w 0 0 (.mv (.t 0)) [0] 8,.w 1 0 (.mv (.t 0)) [0] 9,.w 2 2 (.nc (.t 9)) [9] 10,.w 3 6 (.fa (.t 10) 1) [10] 11,.w 4 14 (.ld (.t 11) none) [11] 12,.w 6 0 (.mv (.t 0)) [0] 14,.w 7 0 (.mv (.t 0)) [0] 15,.w 8 128 (.nc (.t 15)) [15] 16,.w 9 384 (.fa (.t 16) 1) [16] 17,.w 10 896 (.ld (.t 17) none) [17] 18,.w 11 1920 (.bin .add (.t 18) (.i 1)) [18] 19,.w 13 0 (.al [.o,.o,.o,.e]) [] 3,.w 14 0 (.al [.o,.o,.o,.e]) [] 4] [(.w 5 31 (.c 100 [.t 8,.t 12]) [8,12] 13,[]),(.w 12 4095 (.c 100 [.t 14,.t 19]) [14,19] 20,[]),(.z 15 32767 (.st (.t 3) (.t 13) 4) [3,13],[]),(.z 16 65535 (.st (.t 4) (.t 20) 4) [4,20],[])] [8,9,10,11,12,13,14,15,16,17,18,19,20,3,4]) (.r [.op (.fa (.t 3) 1) 21,.op (.ld (.t 21) none) 22,.op (.bld [.o,.o,.e,.bool false,.o,.o,.o,.e,.o,.o,.o,.e,.e,.n,.n,.n,.n] [(0,1),(1,1),(2,1),(3,1),(4,11),(15,1),(16,1)] [(1,.t 22)]) 23,.op (.al [.o,.o,.e,.bool false,.o,.o,.o,.e,.o,.o,.o,.e,.e,.n,.n,.n,.n]) 5,.s (.st (.t 5) (.t 23) 17)] (.r [.mv 0 24,.op (.mkF 90 [.t 24] []) 25,.mv 25 6] (.seq (.block 0 (.r [.mv 0 33,.op (.c 102 [.t 33,.c (.int .i64 5),.c (.str [108,101,116])]) 34,.mv 34 32] (.cond (.t 32) (.seq (.r [.mv 0 35,.mv 0 36,.op (.nc (.t 36)) 37,.op (.fa (.t 37) 1) 38,.op (.ld (.t 38) none) 39,.op (.c 100 [.t 35,.t 39]) 40,.op (.al [.o,.o,.o,.e]) 7,.s (.st (.t 7) (.t 40) 4)] (.r [.op (.fa (.t 7) 0) 41,.op (.ld (.t 41) none) 42,.op (.eq .int false (.t 42) (.i 1)) 43] (.cond (.t 43) (.r [.op (.fa (.t 7) 3) 44,.op (.ld (.t 44) none) 45,.op (.fa (.t 5) 2) 46,.s (.st (.t 46) (.t 45) 1)] (.reg [.mv 0 47,.op (.nc (.t 47)) 48,.op (.fa (.t 48) 1) 49,.op (.ld (.t 49) none) 50,.op (.bin .add (.t 50) (.i 1)) 51,.op (.nc (.t 47)) 52,.op (.fa (.t 52) 1) 53,.s (.st (.t 53) (.t 51) 1)])) (.reg [.mv 0 54,.op (.c 89 [.t 54,.c (.int .i64 5)]) 55])))) yN) (.r [.mv 0 59,.op (.c 102 [.t 59,.c (.int .i64 5),.c (.str [114,101,116,117,114,110])]) 60,.mv 60 58] (.cond (.t 58) (.r [.op (.fa (.t 5) 0) 61,.s (.st (.t 61) (.i 3) 1)] (.r [.mv 0 62,.op (.c 102 [.t 62,.c (.int .i64 4),.c (.str [59])]) 63,.op (.un .not (.t 63)) 64] (.cond (.t 64) (.r [.mv 0 65,.op (.c 108 [.t 65]) 66,.op (.fa (.t 5) 3) 67,.s (.st (.t 67) (.c (.bool true)) 1),.op (.fa (.t 5) 4) 68,.s (.st (.t 68) (.t 66) 11)] (.reg [.mv 0 69,.op (.c 101 [.t 69,.c (.str [59])]) 70])) .skip))) (.r [.mv 0 72,.op (.c 102 [.t 72,.c (.int .i64 5),.c (.str [105,102])]) 73,.mv 73 71] (.cond (.t 71) (.r [.mv 0 74,.op (.c 108 [.t 74]) 75,.op (.fa (.t 5) 0) 76,.s (.st (.t 76) (.i 4) 1),.op (.fa (.t 5) 4) 77,.s (.st (.t 77) (.t 75) 11)] (.r [.mv 6 78,.op (.call (.t 78) []) 79,.op (.fa (.t 5) 15) 80,.s (.st (.t 80) (.t 79) 1)] (.r [.mv 0 81,.op (.c 102 [.t 81,.c (.int .i64 5),.c (.str [101,108,115,101])]) 82] (.cond (.t 82) (.reg [.mv 6 83,.op (.call (.t 83) []) 84,.op (.fa (.t 5) 3) 85,.s (.st (.t 85) (.c (.bool true)) 1),.op (.fa (.t 5) 16) 86,.s (.st (.t 86) (.t 84) 1)]) .skip)))) (.r [.mv 0 88,.op (.c 102 [.t 88,.c (.int .i64 5),.c (.str [102,111,114])]) 89,.mv 89 87] (.cond (.t 87) (.r [.mv 0 90,.op (.c 108 [.t 90]) 91,.op (.fa (.t 5) 0) 92,.s (.st (.t 92) (.i 5) 1),.op (.fa (.t 5) 4) 93,.s (.st (.t 93) (.t 91) 11)] (.reg [.mv 6 94,.op (.call (.t 94) []) 95,.op (.fa (.t 5) 15) 96,.s (.st (.t 96) (.t 95) 1)])) (.r [.op (.fa (.t 3) 0) 98,.op (.ld (.t 98) none) 99,.op (.eq .int false (.t 99) (.i 1)) 100,.mv 100 101,.g (.fa (.t 4) 0) 102 101 true,.g (.ld (.t 102) none) 103 101 true,.g (.eq .int false (.t 103) (.i 4)) 104 101 true,.op (.pick (.t 101) (.t 104) (.c (.bool false))) 105,.mv 105 106,.g (.fa (.t 4) 3) 107 106 true,.g (.ld (.t 107) none) 108 106 true,.g (.eq .str false (.t 108) (.c (.str [61]))) 109 106 true,.op (.pick (.t 106) (.t 109) (.c (.bool false))) 110,.mv 110 97] (.cond (.t 97) (.r [.mv 0 111,.op (.nc (.t 111)) 112,.op (.fa (.t 112) 1) 113,.op (.ld (.t 113) none) 114,.op (.bin .add (.t 114) (.i 1)) 115,.op (.nc (.t 111)) 116,.op (.fa (.t 116) 1) 117,.s (.st (.t 117) (.t 115) 1)] (.r [.op (.fa (.t 3) 3) 118,.op (.ld (.t 118) none) 119,.op (.fa (.t 5) 2) 120,.s (.st (.t 120) (.t 119) 1)] (.reg [.mv 0 121,.op (.c 107 [.t 121,.t 5,.c (.int .i64 2)]) 122]))) (.r [.mv 0 26,.op (.c 108 [.t 26]) 27,.op (.fa (.t 5) 0) 28,.s (.st (.t 28) (.i 6) 1),.op (.fa (.t 5) 4) 29,.s (.st (.t 29) (.t 27) 11)] (.reg [.mv 0 30,.op (.c 101 [.t 30,.c (.str [59])]) 31]))))))))))))) fQ))))
theorem bGs:(Go.Proofs.Tryz.f103.body).bind (aE Go.Proofs.Tryz.prog)=some aAy:=by kernel_rfl
def bEv:RC:=.r [.mv 1 6,.mv 2 7,.op (.nc (.t 6)) 8,.op (.fa (.t 8) 0) 9,.s (.st (.t 9) (.t 7) 1)] (.r [.mv 0 10,.op (.c 101 [.t 10,.c (.str [61])]) 11] (.r [.mv 1 12,.mv 0 13,.op (.c 108 [.t 13]) 14,.op (.nc (.t 12)) 15,.op (.fa (.t 15) 4) 16,.s (.st (.t 16) (.t 14) 11)] (.reg [.mv 0 17,.op (.c 101 [.t 17,.c (.str [59])]) 18])))
theorem bHq:(Go.Proofs.Tryz.f107.body).bind (aE Go.Proofs.Tryz.prog)=some bEv:=by kernel_rfl
def tT:RC:=.r [.op (.ld (.t 2) (some 11)) 24,.s (.st (.t 2) (.t 24) 11)] .ret
def aNl:RC:=.r [.op (.al [.o,.o,.o,.e,.o,.o,.o,.e,.e,.n,.n]) 2] (.seq (.r [.mv 0 3,.op (.c 91 [.t 3]) 4] (.cond (.t 4) (.aN [.w 0 0 (.mv (.t 0)) [0] 6,.w 1 0 (.mv (.t 0)) [0] 7,.w 2 0 (.mv (.t 0)) [0] 8,.w 3 4 (.nc (.t 8)) [8] 9,.w 4 12 (.fa (.t 9) 0) [9] 10,.w 5 28 (.ld (.t 10) none) [10] 11,.w 6 0 (.mv (.t 0)) [0] 12,.w 7 64 (.nc (.t 12)) [12] 13,.w 8 192 (.fa (.t 13) 1) [13] 14,.w 9 448 (.ld (.t 14) none) [14] 15] [(.w 10 1020 (.c 110 [.t 11,.t 15]) [11,15] 16,[.w 11 2044 (.mv (.t 16)) [16] 5,.w 12 4092 (.ext (.t 5) 0) [5] 17,.w 13 4092 (.ext (.t 5) 1) [5] 18,.w 14 4092 (.ext (.t 5) 2) [5] 19]),(.z 15 8188 (.st (.t 2) (.t 17) 11) [2,17],[.w 16 49149 (.nc (.t 6)) [6] 20,.w 17 114685 (.fa (.t 20) 1) [20] 21]),(.z 18 245757 (.st (.t 21) (.t 18) 1) [21,18],[.w 19 524287 (.nc (.t 7)) [7] 22,.w 20 1048575 (.fa (.t 22) 3) [22] 23]),(.z 21 2097151 (.st (.t 23) (.t 19) 2) [23,19],[])] [6,7,8,9,10,11,12,13,14,15,16,5,17,18,19,20,21,22,23]) .skip)) tT)
theorem aKv:(Go.Proofs.Tryz.f108.body).bind (aE Go.Proofs.Tryz.prog)=some aNl:=by kernel_rfl
end Go.VM
end
section
/- Statements: what the reader's functions come to. -/
set_option maxRecDepth 100000
namespace Go.VM
open Go.RowKit
inductive Sx where
 |mk (k:Nat) (a:Int) (nm:List Nat) (has:Bool) (x:Ex) (body els:List Sx)
mutual
def kT:Sx→List V
 |.mk k a nm has x body els=>[.int .i64 k,.int .i64 a,.str nm,.bool has]++cA x++[.lst (fW body) .unk,.lst (fW els) .unk]
def fW:List Sx→List (List V)
 |[]=>[]
 |x::l=>kT x::fW l
end
mutual
theorem zZ{D:Nat→Prop}:∀x:Sx,Ins D (kT x)
 |.mk k a nm has (.mk xk xa xe xn xv (.mk tk ta tp tn tl) xs) body els=>⟨trivial,trivial,trivial,trivial,trivial,trivial,trivial,trivial,trivial,trivial,trivial,trivial,trivial,⟨gM tl,trivial⟩,⟨nF xs,trivial⟩,⟨fR body,trivial⟩,⟨fR els,trivial⟩,trivial⟩
theorem fR{D:Nat→Prop}:∀l:List Sx,Inss D (fW l)
 |[]=>trivial
 |x::l=>⟨zZ x,fR l⟩
end
theorem jJ:∀l:List Sx,fW l=l.map kT
 |[]=>rfl
 |x::l=>by simp only[fW,List.map_cons,jJ l]
theorem aTg:∀x:Sx,(kT x).length=17
 |.mk k a nm has (.mk xk xa xe xn xv (.mk tk ta tp tn tl) xs) body els=>rfl
structure Sr where
 a:Nat
 p:Int
 c:Int
def bZ(s:Sr):Bool:=decide (s.c=0)
def gA(l:List Tz)(s:Sr)(code:Int):Sr:=match bZ s with
 |true=>⟨s.a,(aB l s.a).a,code⟩
 |false=>s
def isS(l:List Tz)(s:Sr)(k:Int)(x:List Nat):Bool:=bZ s&&isF l s.a k x
def aR(s:Sr):Sr:=⟨s.a+1,s.p,s.c⟩
def bX(l:List Tz)(s:Sr)(x:List Nat):Sr:=match isS l s 4 x with
 |true=>aR s
 |false=>gA l s 5
def aV(P:Nat→R Ex)(s:Sr):Ex×Sr:=match bZ s with
 |true=>match P s.a with
  |.ok x n=>(x,⟨n,0,0⟩)
  |.er _ _ p c=>(zX,⟨s.a,p,c⟩)
  |.out=>(zX,s)
 |false=>(zX,s)
structure Sf where
 block:Nat→Sr→Option (List Sx×Sr)
 loop:Nat→List Sx→Sr→Option (List Sx×Sr)
 stmt:Nat→Sr→Option (Sx×Sr)
def pG(l:List Tz)(d:Nat)(s:Sr):Bool:=decide (d=30)&&(bZ s&&(decide ((aB l s.a).k=4)&&decide ((aB l s.a).t=[123])))
def dF(l:List Tz)(f:Sf)(d:Nat)(s:Sr):Option (List Sx×Sr):=match pG l d s with
 |true=>some ([],gA l s 6)
 |false=>f.loop (d+1) [] (bX l s [123])
def gB(l:List Tz)(f:Sf)(d:Nat)(acc:List Sx)(s:Sr):Option (List Sx×Sr):=match bZ s with
 |false=>some (acc,s)
 |true=>match isS l s 4 [125]with
  |true=>some (acc,aR s)
  |false=>match f.stmt d s with
   |some (x,s1)=>f.loop d (acc++[x]) s1
   |none=>none
def mQ(l:List Tz)(P:Nat→R Ex)(k:Nat)(p:Int)(nm:List Nat)(s:Sr):Sx×Sr:=
 (.mk k p nm false (aV P (bX l s [61])).1 [] [],bX l (aV P (bX l s [61])).2 [59])
def aVr:List Nat:=[108,101,116]
def aXd:List Nat:=[114,101,116,117,114,110]
def sIf:List Nat:=[105,102]
def wA:List Nat:=[101,108,115,101]
def aZf:List Nat:=[102,111,114]
def wP(l:List Tz)(a:Nat):Bool:=decide ((aB l a).k=1)&&(decide ((aB l (a+1)).k=4)&&decide ((aB l (a+1)).t=[61]))
def gZ(l:List Tz)(P:Nat→R Ex)(f:Sf)(d:Nat)(s:Sr):Option (Sx×Sr):=
 match isS l s 5 aVr with
 |true=>match decide ((aB l (s.a+1)).k=1)with
  |true=>some (mQ l P 1 (aB l s.a).a (aB l (s.a+1)).t (aR (aR s)))
  |false=>some (mQ l P 1 (aB l s.a).a [] (gA l (aR s) 5))
 |false=>match isS l s 5 aXd with
  |true=>match isS l (aR s) 4 [59]with
   |true=>some (.mk 3 (aB l s.a).a [] false zX [] [],aR (aR s))
   |false=>some (.mk 3 (aB l s.a).a [] true (aV P (aR s)).1 [] [],bX l (aV P (aR s)).2 [59])
  |false=>match isS l s 5 sIf with
   |true=>match f.block d (aV P (aR s)).2 with
    |none=>none
    |some (b,s1)=>match isS l s1 5 wA with
     |true=>match f.block d (aR s1)with
      |none=>none
      |some (e,s2)=>some (.mk 4 (aB l s.a).a [] true (aV P (aR s)).1 b e,s2)
     |false=>some (.mk 4 (aB l s.a).a [] false (aV P (aR s)).1 b [],s1)
   |false=>match isS l s 5 aZf with
    |true=>match f.block d (aV P (aR s)).2 with
     |none=>none
     |some (b,s1)=>some (.mk 5 (aB l s.a).a [] false (aV P (aR s)).1 b [],s1)
    |false=>match wP l s.a with
     |true=>some (mQ l P 2 (aB l s.a).a (aB l s.a).t (aR s))
     |false=>some (.mk 6 (aB l s.a).a [] false (aV P s).1 [] [],bX l (aV P s).2 [59])
def cG(l:List Tz)(P:Nat→R Ex):Nat→Sf
 |0=>⟨fun _ _=>none,fun _ _ _=>none,fun _ _=>none⟩
 |n+1=>⟨dF l (cG l P n),gB l (cG l P n),gZ l P (cG l P n)⟩
end Go.VM
end
section
/- Statements: the reader's small functions. -/
set_option maxRecDepth 100000
namespace Go.VM
open Go.RowKit
def srC(l:List Tz)(d:Nat)(s:Sr):List V:=[.lst (l.map dA) .unk,.int .i64 s.a,.int .i64 d,.int .i64 s.p,.int .i64 s.c]
def srO(l:List Tz)(d:Nat)(s:Sr):Obj:=.cells false (srC l d s)
def srL(l:List Tz)(d:Nat)(s:Sr):OL:=[(1000,srO l d s)]
theorem aNc(ρ:Nat→Nat)(l:List Tz)(d:Nat)(s:Sr):Obj.ren ρ (srO l d s)=srO l d s:=by
 simp only[srO,srC,Obj.ren,dI,V.ren,aCv,LC.ren]
theorem aVi{D:Nat→Prop}(l:List Tz)(d:Nat)(s:Sr):Obj.In D (srO l d s):=⟨⟨xY _,trivial⟩,trivial,trivial,trivial,trivial,trivial⟩
theorem jX{D:Nat→Prop}(l:List Tz)(d:Nat)(s:Sr):gP D (srL l d s):=⟨aVi l d s,trivial⟩
theorem lW{f:FuncId}{xs:List V}{l:List Tz}{d d':Nat}{s s':Sr}{v:V}(core:SCall Go.Proofs.Tryz.prog [] f (.ptr 1000 0::xs) none ⟨1001,og (srL l d s),[]⟩ (.ret v) none ⟨1001,og (srL l d' s'),[]⟩)
  (has:Ins (fun _=>False) xs) (hr:v.In (fun _=>False)) {h:H} {R:Nat} (hR:aC≤R) (h1:h.ob R=some (srO l d s)):
  SCall Go.Proofs.Tryz.prog [] f (.ptr R 0::xs) none h (.ret v) none (h.put R (srO l d' s')):=by
 refine SCall.xI (n:=0) [R] rfl core (by simp) (by simp[hR]) (fun i=>?_) rfl (fun i c o hi ho=>?_) (jX _ _ _) ⟨(by show 1000<1001;decide),Ins.mono (fun _ q=>q.elim) has⟩ hr (jX _ _ _) ?_ rfl rfl (fun i hi=>?_) (fun c hc=>?_)
 ·simp only[srL,aT]
  show _↔1000≤i∧i<1001
  split
  ·simp;omega
  ·simp[og];omega
 ·match i,hi with
  |0,hi=>
   cases hi;cases ho
   rw[aNc];exact h1
 ·show _::dI _ xs=_
  rw[gJ (D:=fun _=>False) (fun _ q=>q.elim) has];rfl
 ·have hi:i<1:=hi
  match i,hi with
  |0,_=>
   show(h.put R _).ob R=_
   simp only[H.put,if_true]
   show some _=some (Obj.ren _ (srO l d' s'))
   rw[aNc]
 ·have h0:R≠c:=hc 0 (by show 0<1;decide)
  simp only[H.put]
  rw[if_neg (fun e=>h0 e.symm)]
theorem aFo{f:FuncId}{xs:List V}{l:List Tz}{d:Nat}{s:Sr}{v:V}(core:SCall Go.Proofs.Tryz.prog [] f (.ptr 1000 0::xs) none ⟨1001,og (srL l d s),[]⟩ (.ret v) none ⟨1001,og (srL l d s),[]⟩)
  (has:Ins (fun _=>False) xs) (hr:v.In (fun _=>False)) {h:H} {R:Nat} (hR:aC≤R) (h1:h.ob R=some (srO l d s)):SCall Go.Proofs.Tryz.prog [] f (.ptr R 0::xs) none h (.ret v) none h:=by
 have:=lW core has hr hR h1
 rwa[aAn h1]at this
theorem aTj(l:List Tz)(d:Nat)(s:Sr)(i:Nat)(hl:l.length<4294967296):SCall Go.Proofs.Tryz.prog [] 100 [.ptr 1000 0,.int .i64 i] none ⟨1001,og (srL l d s),[]⟩ (.ret (.agg (dA (aB l i)))) none ⟨1001,og (srL l d s),[]⟩:=by
 refine SCall.aJ (fn:=Go.Proofs.Tryz.f100) (by kernel_rfl) bFy (by kernel_rfl) (by kernel_rfl) (Nat.le_refl _) rfl ((jX _ _ _)) (by exact⟨trivial,trivial,trivial,trivial,trivial⟩) ?_
 unfold bDy
 unfold srL srO srC
 repeat apply sQ
 refine WR.q rfl ?_
 repeat apply sQ
 refine WR.m 6 rfl ?_
 rw[List.length_map]
 by_cases h:i<l.length
 ·refine WQ.m 1 rfl ?_
  rw[show decide ((i:Int)<(l.length:Int))=true from decide_eq_true (by omega)]
  have hc:l[i]? =some l[i]:=List.getElem?_eq_getElem h
  rw[fU hc]
  generalize l[i]=t at hc⊢
  refine WQ.q rfl ?_
  repeat apply sQ
  refine WR.aD rfl ?_
  repeat apply sQ
  refine WR.m 5 rfl ?_
  refine WQ.cE rfl rfl rfl (bT (cs:=dA t) rfl rfl (by rw[List.getElem?_map,hc];rfl) rfl) rfl (WQ.q rfl ?_)
  exact WR.e
 ·refine WQ.m 1 rfl ?_
  rw[show decide ((i:Int)<(l.length:Int))=false from decide_eq_false (by omega)]
  rw[kK (by omega)]
  refine WQ.q rfl ?_
  repeat apply sQ
  refine WR.k rfl ?_
  repeat apply sQ
  refine WR.q rfl ?_
  repeat apply sQ
  refine WR.m 6 rfl ?_
  rw[List.length_map]
  refine WQ.q rfl ?_
  rcases Nat.eq_zero_or_pos l.length with h0|h0
  ·have h0:l=[]:=List.eq_nil_of_length_eq_zero h0
   subst h0
   repeat apply sQ
   refine WR.q rfl ?_
   repeat apply sQ
   refine WR.k rfl ?_
   repeat(first|refine WR.seq ?_|refine WR.block ?_|refine WR.scope ?_|refine WR.skip ?_|refine WR.exit ?_|refine WR.aD rfl ?_|refine WR.aO rfl ?_|refine WR.m 1000 rfl ?_|refine WQ.aK ?_|refine WR.aN aZ (DW.m 1000 rfl ?_))
   exact WR.e
  ·repeat apply sQ
   refine WR.m 2 rfl ?_
   rw[show decide ((l.length:Int)>0)=true from decide_eq_true (by omega)]
   have hc:l[l.length-1]? =some l[l.length-1]:=List.getElem?_eq_getElem (by omega)
   rw[pK hc]
   generalize l[l.length-1]=t at hc⊢
   refine WQ.q rfl ?_
   repeat apply sQ
   refine WR.aD rfl ?_
   repeat apply sQ
   refine WR.m 6 rfl ?_
   rw[rB (by omega) (by unfold big;omega)]
   refine WQ.cE rfl rfl rfl (bT (cs:=dA t) rfl rfl (by rw[List.getElem?_map,hc];rfl) rfl) rfl (WQ.q rfl ?_)
   unfold aGg
   repeat(first|refine WR.seq ?_|refine WR.block ?_|refine WR.scope ?_|refine WR.skip ?_|refine WR.exit ?_|refine WR.aD rfl ?_|refine WR.aO rfl ?_|refine WR.m 1000 rfl ?_|refine WQ.aK ?_|refine WR.aN aZ (DW.m 1000 rfl ?_))
   exact WR.e
theorem uI{l:List Tz}{d:Nat}{s:Sr}{i:Nat}(hl:l.length<4294967296){h:H}{R:Nat}(hR:aC≤R)(h1:h.ob R=some (srO l d s)):
  SCall Go.Proofs.Tryz.prog [] 100 [.ptr R 0,.int .i64 i] none h (.ret (.agg (dA (aB l i)))) none h:=
 aFo (aTj l d s i hl) ⟨trivial,trivial⟩ ⟨trivial,trivial,trivial,trivial,trivial⟩ hR h1
theorem aLc(l:List Tz)(d:Nat)(s:Sr):SCall Go.Proofs.Tryz.prog [] 91 [.ptr 1000 0] none ⟨1001,og (srL l d s),[]⟩ (.ret (.bool (bZ s))) none ⟨1001,og (srL l d s),[]⟩:=by
 refine SCall.aJ (fn:=Go.Proofs.Tryz.f91) (by kernel_rfl) bLz (by kernel_rfl) (by kernel_rfl) (Nat.le_refl _) rfl ((jX _ _ _)) trivial ?_
 unfold bHy
 unfold srL srO srC
 repeat apply sQ
 refine WR.q rfl ?_
 repeat apply sQ
 refine WR.q rfl ?_
 exact WR.e
theorem nG{l:List Tz}{d:Nat}{s:Sr}{h:H}{R:Nat}(hR:aC≤R)(h1:h.ob R=some (srO l d s)):SCall Go.Proofs.Tryz.prog [] 91 [.ptr R 0] none h (.ret (.bool (bZ s))) none h:=
 aFo (aLc l d s) trivial trivial hR h1
theorem aKo(l:List Tz)(d:Nat)(s:Sr)(c:Int)(hl:l.length<4294967296):SCall Go.Proofs.Tryz.prog [] 89 [.ptr 1000 0,.int .i64 c] none ⟨1001,og (srL l d s),[]⟩ (.ret (.tup [])) none ⟨1001,og (srL l d (gA l s c)),[]⟩:=by
 have hf:=nG (l:=l) (d:=d) (s:=s) (h:=⟨1001,og (srL l d s),[]⟩) (R:=1000) (by decide) rfl
 have ht:=uI (l:=l) (d:=d) (s:=s) (i:=s.a) hl (h:=⟨1001,og (srL l d s),[]⟩) (R:=1000) (by decide) rfl
 unfold gA
 refine SCall.aJ (fn:=Go.Proofs.Tryz.f89) (by kernel_rfl) bJk (by kernel_rfl) (by kernel_rfl) (Nat.le_refl _) rfl ((jX _ _ _)) trivial ?_
 unfold bKh
 repeat apply sQ
 refine WR.m 1 rfl ?_
 refine WQ.c rfl hf .base rfl ?_
 cases bZ s with
 |false=>
  refine WQ.q rfl ?_
  repeat apply sQ
  refine WR.k rfl ?_
  exact⟨rfl,rfl,⟨_,rfl,VLe.refl _⟩,fun _ _=>rfl⟩
 |true=>
  refine WQ.q rfl ?_
  repeat apply sQ
  refine WR.aD rfl ?_
  repeat apply sQ
  refine WR.m 6 rfl ?_
  refine WQ.c rfl ht .base rfl ?_
  refine WQ.q rfl ?_
  exact⟨rfl,rfl,⟨_,rfl,VLe.refl _⟩,fun _ _=>rfl⟩
theorem yW{l:List Tz}{d:Nat}{s:Sr}{c:Int}(hl:l.length<4294967296){h:H}{R:Nat}(hR:aC≤R)(h1:h.ob R=some (srO l d s)):
  SCall Go.Proofs.Tryz.prog [] 89 [.ptr R 0,.int .i64 c] none h (.ret (.tup [])) none (h.put R (srO l d (gA l s c))):=
 lW (aKo l d s c hl) ⟨trivial,trivial⟩ trivial hR h1
def isN(l:List Tz)(s:Sr)(k:Int)(x:List Nat):Sr:=match isS l s k x with
 |true=>aR s
 |false=>s
theorem aZc(l:List Tz)(d:Nat)(s:Sr)(k:Int)(x:List Nat)(hl:l.length<4294967296)(hs:s.a≤l.length):SCall Go.Proofs.Tryz.prog [] 102 [.ptr 1000 0,.int .i64 k,.str x] none ⟨1001,og (srL l d s),[]⟩ (.ret (.bool (isS l s k x))) none ⟨1001,og (srL l d (isN l s k x)),[]⟩:=by
 have hf:=nG (l:=l) (d:=d) (s:=s) (h:=⟨1001,og (srL l d s),[]⟩) (R:=1000) (by decide) rfl
 have ht:=uI (l:=l) (d:=d) (s:=s) (i:=s.a) hl (h:=⟨1001,og (srL l d s),[]⟩) (R:=1000) (by decide) rfl
 unfold isN isS isF
 generalize aB l s.a=t at ht
 obtain⟨tk,ta,te,tt⟩:=t
 refine SCall.aJ (fn:=Go.Proofs.Tryz.f102) (by kernel_rfl) bGt (by kernel_rfl) (by kernel_rfl) (Nat.le_refl _) rfl ((jX _ _ _)) trivial ?_
 unfold bDt
 repeat apply sQ
 refine WR.q rfl ?_
 repeat apply sQ
 refine WR.m 5 rfl ?_
 refine WQ.c rfl ht .base rfl ?_
 refine WQ.q rfl ?_
 repeat apply sQ
 refine WR.m 1 rfl ?_
 refine WQ.c rfl (SCall.eJ hf _) .base rfl ?_
 cases bZ s with
 |false=>
  refine WQ.q rfl ?_
  repeat apply sQ
  refine WR.aD rfl ?_
  repeat apply sQ
  refine WR.q rfl ?_
  exact WR.e
 |true=>
  refine WQ.m 6 rfl ?_
  cases hk:decide (tk=k)with
  |false=>
   refine WQ.q rfl ?_
   repeat apply sQ
   refine WR.aD rfl ?_
   repeat apply sQ
   refine WR.q rfl ?_
   exact WR.e
  |true=>
   refine WQ.m 7 rfl ?_
   cases hx:decide (tt=x)with
   |false=>
    refine WQ.q rfl ?_
    repeat apply sQ
    refine WR.aD rfl ?_
    repeat apply sQ
    refine WR.q rfl ?_
    exact WR.e
   |true=>
    refine WQ.q rfl ?_
    repeat apply sQ
    refine WR.k rfl ?_
    repeat apply sQ
    refine WR.m 5 rfl ?_
    rw[bJ (by unfold big;omega)]
    refine WQ.q rfl ?_
    repeat apply sQ
    refine WR.q rfl ?_
    exact WR.e
theorem pS{l:List Tz}{d:Nat}{s:Sr}{k:Int}{x:List Nat}(hl:l.length<4294967296)(hs:s.a≤l.length){h:H}{R:Nat}(hR:aC≤R)(h1:h.ob R=some (srO l d s)):
  SCall Go.Proofs.Tryz.prog [] 102 [.ptr R 0,.int .i64 k,.str x] none h (.ret (.bool (isS l s k x))) none (h.put R (srO l d (isN l s k x))):=
 lW (aZc l d s k x hl hs) ⟨trivial,trivial,trivial⟩ trivial hR h1
theorem aLg(l:List Tz)(d:Nat)(s:Sr)(x:List Nat)(hl:l.length<4294967296)(hs:s.a≤l.length):SCall Go.Proofs.Tryz.prog [] 101 [.ptr 1000 0,.str x] none ⟨1001,og (srL l d s),[]⟩ (.ret (.tup [])) none ⟨1001,og (srL l d (bX l s x)),[]⟩:=by
 have hi:=pS (l:=l) (d:=d) (s:=s) (k:=4) (x:=x) hl hs (h:=⟨1001,og (srL l d s),[]⟩) (R:=1000) (by decide) rfl
 unfold isN at hi
 unfold bX
 refine SCall.aJ (fn:=Go.Proofs.Tryz.f101) (by kernel_rfl) bFd (by kernel_rfl) (by kernel_rfl) (Nat.le_refl _) rfl ((jX _ _ _)) trivial ?_
 unfold bEo
 repeat apply sQ
 refine WR.m 2 rfl ?_
 refine WQ.c rfl hi (.put .base rfl) rfl ?_
 cases isS l s 4 x with
 |true=>
  refine WQ.q rfl ?_
  repeat apply sQ
  refine WR.k rfl ?_
  exact⟨rfl,rfl,⟨_,rfl,VLe.refl _⟩,fun _ _=>rfl⟩
 |false=>
  refine WQ.q rfl ?_
  repeat apply sQ
  refine WR.aD rfl ?_
  repeat apply sQ
  refine WR.m 1 rfl ?_
  refine WQ.c rfl (yW (l:=l) (d:=d) (s:=s) (c:=5) hl (by decide) rfl) (.put .base rfl) rfl ?_
  refine WQ.q rfl ?_
  exact⟨rfl,rfl,⟨_,rfl,VLe.refl _⟩,fun _ _=>rfl⟩
theorem kU{l:List Tz}{d:Nat}{s:Sr}{x:List Nat}(hl:l.length<4294967296)(hs:s.a≤l.length){h:H}{R:Nat}(hR:aC≤R)(h1:h.ob R=some (srO l d s)):
  SCall Go.Proofs.Tryz.prog [] 101 [.ptr R 0,.str x] none h (.ret (.tup [])) none (h.put R (srO l d (bX l s x))):=
 lW (aLg l d s x hl hs) ⟨trivial,trivial⟩ trivial hR h1
end Go.VM
end
section
/- Statements: what is wrong with an expression has a code. -/
set_option maxRecDepth 100000
namespace Go.VM
open Go.RowKit
def ErrC{α:Type}(r:R α):Prop:=∀a d p c,r=.er a d p c→c≠0
theorem ErrC.ok{α:Type}{v:α}{a:Nat}:ErrC (R.ok v a):=fun _ _ _ _ e=>by cases e
theorem ErrC.out{α:Type}:ErrC (R.out (α:=α)):=fun _ _ _ _ e=>by cases e
theorem ErrC.bind{α β:Type}{r:R α}{f:α→Nat→R β}(h:ErrC r)(k:∀v a1,ErrC (f v a1)):ErrC (r.bind f):=by
 intro a d p c e
 cases r with
 |ok v a1=>exact k v a1 a d p c e
 |er a1 d1 p1 c1=>cases e;exact h _ _ _ _ rfl
 |out=>cases e
section
variable{l:List Tz}
theorem ErrC.fail{α:Type}{a d:Nat}{c:Int}(hc:c≠0):ErrC (fZ (α:=α) l a d c):=by
 intro a' d' p c' e
 cases e
 exact hc
theorem ErrC.within{α:Type}{a d:Nat}{f:Nat→Nat→R α}(h:ErrC (f (a+1) (d+1))):ErrC (bC l a d f):=by
 unfold bC
 split
 ·exact .fail (by decide)
 ·exact h
theorem ErrC.eW{a d:Nat}{s:List Nat}:ErrC (cN l a d s):=by
 unfold cN
 split
 ·exact .ok
 ·exact .fail (by decide)
structure ErrD(f:Fns):Prop where
 expr:∀lv a d,ErrC (f.expr lv a d)
 oper:∀a d,ErrC (f.oper a d)
 prim:∀a d,ErrC (f.prim a d)
 list:∀to a d,ErrC (f.list to a d)
 bin:∀lv x a d,ErrC (f.bin lv x a d)
 post:∀x a d,ErrC (f.post x a d)
 elts:∀acc a d,ErrC (f.elts acc a d)
theorem aRi{f:Fns}(h:ErrD f):ErrD ⟨eH f,eU l f,eR l f,dQ l f,jA l f,eO l f,eF l f⟩:=by
 refine⟨fun lv a d=>?_,fun a d=>?_,fun a d=>?_,fun to a d=>?_,fun lv x a d=>?_,fun x a d=>?_,fun acc a d=>?_⟩
 ·show ErrC (eH f lv a d)
  unfold eH
  split
  ·exact h.oper _ _
  ·exact(h.expr _ _ _).bind fun _ _=>h.bin _ _ _ _
 ·show ErrC (eU l f a d)
  unfold eU
  split
  ·exact(ErrC.within (h.oper _ _)).bind fun _ _=>.ok
  ·exact(h.prim _ _).bind fun _ _=>h.post _ _ _
 ·show ErrC (eR l f a d)
  unfold eR
  split
  ·refine ErrC.bind ?_ fun _ _=>.ok
   unfold gN
   split
   ·exact .ok
   ·exact .fail (by decide)
  ·split
   ·split
    ·exact .ok
    ·exact .fail (by decide)
   ·split
    ·exact .ok
    ·split
     ·exact .ok
     ·split
      ·exact .ok
      ·split
       ·exact(ErrC.within (h.expr _ _ _)).bind fun _ _=>ErrC.eW.bind fun _ _=>.ok
       ·split
        ·unfold oM
         split
         ·split
          ·exact(h.list _ _ _).bind fun _ _=>.ok
          ·exact .fail (by decide)
         ·rename_i ht
          intro a' d' p c e
          cases e
          exact(zB ht).1
         ·exact .out
        ·exact .fail (by decide)
 ·show ErrC (dQ l f to a d)
  unfold dQ
  refine(ErrC.within ?_).bind fun _ _=>ErrC.eW.bind fun _ _=>.ok
  unfold fG
  split
  ·exact .ok
  ·exact h.elts _ _ _
 ·show ErrC (jA l f lv x a d)
  unfold jA
  split
  ·exact(h.expr _ _ _).bind fun _ _=>h.bin _ _ _ _
  ·exact .ok
 ·show ErrC (eO l f x a d)
  unfold eO
  split
  ·split
   ·exact h.post _ _ _
   ·exact .fail (by decide)
  ·split
   ·exact(h.list _ _ _).bind fun _ _=>h.post _ _ _
   ·split
    ·exact(ErrC.within (h.expr _ _ _)).bind fun _ _=>ErrC.eW.bind fun _ _=>h.post _ _ _
    ·exact .ok
 ·show ErrC (eF l f acc a d)
  unfold eF
  refine(h.expr _ _ _).bind fun _ _=>?_
  split
  ·exact h.elts _ _ _
  ·exact .ok
theorem zE:∀n,ErrD (fns l n)
 |0=>⟨fun _ _ _=>.out,fun _ _=>.out,fun _ _=>.out,fun _ _ _=>.out,fun _ _ _ _=>.out,fun _ _ _=>.out,fun _ _ _=>.out⟩
 |n+1=>aRi (zE n)
end
end Go.VM
end
section
/- Statements: an expression's reading. -/
set_option maxRecDepth 100000
namespace Go.VM
open Go.RowKit
structure ParseOk(l:List Tz)(P:Nat→R Ex):Prop where
 sp:∀a,a≤l.length→∀h:H,SCall Go.Proofs.Tryz.prog [] 112 [lsV l,.int .i64 a] none h (.ret (exV (P a))) none h
 known:∀a,a≤l.length→(P a).bA=false
 ok:∀a x n,a≤l.length→P a=.ok x n→a<n∧n≤l.length
 er:∀a a1 d p c,P a=.er a1 d p c→c≠0
theorem aXp(l:List Tz)(hl:l.length<19999)(hT:∀t∈l,t.t.length<big)(F:Nat)(hF:∀a,a≤l.length→((fns l F).expr 1 a 0).bA=false):ParseOk l (fun a=>(fns l F).expr 1 a 0):=by
 refine⟨fun a ha h=>SCall.eG rfl (zF l hl hT a F ha (hF a ha)) (by exact⟨rX l,trivial,trivial⟩) (by exact aLm _) h,hF,fun a x n ha e=>?_,fun a a1 d p c e=>(zE F).expr 1 a 0 a1 d p c e⟩
 exact⟨(pN l F).expr 1 a 0 x n e,((dM l F).expr 1 a 0 x n e).2 ha⟩
def pdV(a:Nat)(r:R Ex):V:=match r with
 |.ok x n=>.tup [lN x,.int .i64 n,.agg (dgX 0 0)]
 |.er _ _ p c=>.tup [lN zX,.int .i64 a,.agg (dgX p c)]
 |.out=>.bool false
theorem aLv{D:Nat→Prop}(a:Nat)(r:R Ex):(pdV a r).In D:=by
 cases r with
 |ok x n=>exact⟨cH x,trivial,⟨trivial,trivial,trivial⟩,trivial⟩
 |er a d p c=>exact⟨cH zX,trivial,⟨trivial,trivial,trivial⟩,trivial⟩
 |out=>exact trivial
theorem aSs{l:List Tz}{P:Nat→R Ex}(hP:ParseOk l P)(a:Nat)(ha:a≤l.length)(h:H):SCall Go.Proofs.Tryz.prog [] 110 [lsV l,.int .i64 a] none h (.ret (pdV a (P a))) none h:=by
 refine SCall.eG rfl ?_ (by exact⟨rX l,trivial,trivial⟩) (by exact aLv _ _) h
 have sp:=hP.sp a ha
 have kn:=hP.known a ha
 have er:=hP.er a
 cases hr:P a with
 |out=>rw[hr]at kn;cases kn
 |er a1 d1 p c=>
  rw[hr]at sp
  have hc:=er _ _ _ _ hr
  refine SCall.listed (fn:=Go.Proofs.Tryz.f110) (by kernel_rfl) aUc (by kernel_rfl) (by kernel_rfl) (Nat.le_refl _) rfl (trivial) (by exact aLv _ _) ?_
  unfold aWh
  repeat apply sQ
  refine WR.q rfl ?_
  repeat apply sQ
  refine WR.m 2 rfl ?_
  refine WQ.c rfl (sp _) .base rfl ?_
  refine WQ.q rfl ?_
  repeat apply sQ
  refine WR.m 2 rfl ?_
  refine WQ.m 1 rfl ?_
  rw[show decide (c=0)=false from decide_eq_false hc]
  refine WQ.q rfl ?_
  repeat apply sQ
  refine WR.aD rfl ?_
  repeat apply sQ
  refine WR.q rfl ?_
  unfold aAg
  refine WR.seq (WR.aN aZ (DW.m 1000 rfl ?_))
  refine DW.stS pQ rfl rfl rfl rfl (DW.m 1000 rfl ?_)
  refine DW.stS pQ rfl rfl rfl rfl (DW.m 1000 rfl (DW.bS pQ ?_))
  exact WR.e
 |ok x n=>
  rw[hr]at sp
  obtain⟨xk,xa,xe,xn,xv,⟨xtk,xta,xtp,xtn,xtl⟩,xs⟩:=x
  refine SCall.listed (fn:=Go.Proofs.Tryz.f110) (by kernel_rfl) aUc (by kernel_rfl) (by kernel_rfl) (Nat.le_refl _) rfl (trivial) (by exact aLv _ _) ?_
  unfold aWh
  repeat apply sQ
  refine WR.q rfl ?_
  repeat apply sQ
  refine WR.m 2 rfl ?_
  refine WQ.c rfl (sp _) .base rfl ?_
  refine WQ.q rfl ?_
  repeat apply sQ
  refine WR.q rfl ?_
  repeat apply sQ
  refine WR.k rfl ?_
  unfold aAg
  refine WR.seq (WR.aN aZ (DW.m 1000 rfl ?_))
  refine DW.stS pQ rfl rfl rfl rfl (DW.m 1000 rfl ?_)
  refine DW.stS pQ rfl rfl rfl rfl (DW.m 1000 rfl (DW.bS pQ ?_))
  exact WR.e
theorem aKg{l:List Tz}{P:Nat→R Ex}(hP:ParseOk l P)(d:Nat)(s:Sr)(hs:s.a≤l.length):SCall Go.Proofs.Tryz.prog [] 108 [.ptr 1000 0] none ⟨1001,og (srL l d s),[]⟩ (.ret (lN (aV P s).1)) none ⟨1001,og (srL l d (aV P s).2),[]⟩:=by
 have hf:=nG (l:=l) (d:=d) (s:=s) (h:=⟨1001,og (srL l d s),[]⟩) (R:=1000) (by decide) rfl
 have hp:=aSs hP s.a hs
 have kn:=hP.known s.a hs
 cases hfi:bZ s with
 |false=>
  have e:aV P s=(zX,s):=by unfold aV;rw[hfi]
  rw[e]
  rw[hfi]at hf
  refine SCall.aJ (fn:=Go.Proofs.Tryz.f108) (by kernel_rfl) aKv (by kernel_rfl) (by kernel_rfl) (Nat.le_refl _) rfl ((jX _ _ _)) (by exact cH _) ?_
  unfold aNl
  repeat apply sQ
  refine WR.q rfl ?_
  repeat apply sQ
  refine WR.m 1 rfl ?_
  refine WQ.c rfl (SCall.eJ hf _) .base rfl ?_
  refine WQ.q rfl ?_
  repeat apply sQ
  refine WR.k rfl ?_
  unfold tT
  repeat apply sQ
  refine WR.q rfl ?_
  exact WR.e
 |true=>
  rw[hfi]at hf
  have hc0:s.c=0:=of_decide_eq_true hfi
  cases hr:P s.a with
  |out=>rw[hr]at kn;cases kn
  |er a1 d1 p c=>
   have e:aV P s=(zX,⟨s.a,p,c⟩):=by unfold aV;rw[hfi,hr]
   rw[e]
   rw[hr]at hp
   refine SCall.aJ (fn:=Go.Proofs.Tryz.f108) (by kernel_rfl) aKv (by kernel_rfl) (by kernel_rfl) (Nat.le_refl _) rfl ((jX _ _ _)) (by exact cH _) ?_
   unfold aNl
   repeat apply sQ
   refine WR.q rfl ?_
   repeat apply sQ
   refine WR.m 1 rfl ?_
   refine WQ.c rfl (SCall.eJ hf _) .base rfl ?_
   refine WQ.q rfl ?_
   repeat apply sQ
   refine WR.aD rfl ?_
   refine WR.aN aZ (DW.m 1000 rfl ?_)
   refine DW.dX pQ rfl rfl rfl rfl rfl (hp _) .base rfl (DW.m 1000 rfl ?_)
   refine DW.stS pQ rfl rfl rfl rfl (DW.m 1000 rfl ?_)
   refine DW.stS pQ rfl rfl rfl rfl (DW.m 1000 rfl ?_)
   refine DW.stS pQ rfl rfl rfl rfl (DW.m 1000 rfl (DW.bS pQ ?_))
   unfold tT
   repeat apply sQ
   refine WR.q rfl ?_
   exact WR.e
  |ok x n=>
   have e:aV P s=(x,⟨n,0,0⟩):=by unfold aV;rw[hfi,hr]
   rw[e]
   rw[hr]at hp
   obtain⟨xk,xa,xe,xn,xv,⟨xtk,xta,xtp,xtn,xtl⟩,xs⟩:=x
   refine SCall.aJ (fn:=Go.Proofs.Tryz.f108) (by kernel_rfl) aKv (by kernel_rfl) (by kernel_rfl) (Nat.le_refl _) rfl ((jX _ _ _)) (by exact cH _) ?_
   unfold aNl
   repeat apply sQ
   refine WR.q rfl ?_
   repeat apply sQ
   refine WR.m 1 rfl ?_
   refine WQ.c rfl (SCall.eJ hf _) .base rfl ?_
   refine WQ.q rfl ?_
   repeat apply sQ
   refine WR.aD rfl ?_
   refine WR.aN aZ (DW.m 1000 rfl ?_)
   refine DW.dX pQ rfl rfl rfl rfl rfl (hp _) .base rfl (DW.m 1000 rfl ?_)
   refine DW.stS pQ rfl rfl rfl rfl (DW.m 1000 rfl ?_)
   refine DW.stS pQ rfl rfl rfl rfl (DW.m 1000 rfl ?_)
   refine DW.stS pQ rfl rfl rfl rfl (DW.m 1000 rfl (DW.bS pQ ?_))
   unfold tT
   repeat apply sQ
   refine WR.q rfl ?_
   exact WR.e
theorem lH{l:List Tz}{P:Nat→R Ex}(hP:ParseOk l P){d:Nat}{s:Sr}(hs:s.a≤l.length){h:H}{R:Nat}(hR:aC≤R)(h1:h.ob R=some (srO l d s)):
  SCall Go.Proofs.Tryz.prog [] 108 [.ptr R 0] none h (.ret (lN (aV P s).1)) none (h.put R (srO l d (aV P s).2)):=
 lW (aKg hP d s hs) trivial (cH _) hR h1
end Go.VM
end
section
/- Statements: the reader goes on; a reading ends. -/
set_option maxRecDepth 100000
namespace Go.VM
open Go.RowKit
structure Wk(l:List Tz)(s s':Sr):Prop where
 le:s.a≤s'.a
 len:s'.a≤l.length
 fine:s'.c=0→s.c=0
structure Stp(l:List Tz)(s s':Sr):Prop extends Wk l s s' where
 lt:s'.c=0→s.a<s'.a
theorem Wk.refl{l:List Tz}{s:Sr}(h:s.a≤l.length):Wk l s s:=⟨Nat.le_refl _,h,id⟩
theorem Wk.trans{l:List Tz}{s s1 s2:Sr}(h:Wk l s s1)(k:Wk l s1 s2):Wk l s s2:=⟨Nat.le_trans h.le k.le,k.len,fun e=>h.fine (k.fine e)⟩
theorem Stp.l{l:List Tz}{s s1 s2:Sr}(h:Stp l s s1)(k:Wk l s1 s2):Stp l s s2:=⟨h.toWk.trans k,fun e=>Nat.lt_of_lt_of_le (h.lt (k.fine e)) k.le⟩
theorem Stp.r{l:List Tz}{s s1 s2:Sr}(h:Wk l s s1)(k:Stp l s1 s2):Stp l s s2:=⟨h.trans k.toWk,fun e=>Nat.lt_of_le_of_lt h.le (k.lt e)⟩
section
variable{l:List Tz}{P:Nat→R Ex}
theorem fM{s:Sr}:bZ s=true↔s.c=0:=decide_eq_true_iff
theorem aMd{s:Sr}{k:Int}{x:List Nat}(h:isS l s k x=true):s.c=0∧isF l s.a k x=true:=by
 unfold isS at h
 rw[Bool.and_eq_true]at h
 exact⟨fM.1 h.1,h.2⟩
theorem dN{s:Sr}{k:Int}{x:List Nat}(h:isS l s k x=true)(hk:k≠0):s.a<l.length:=bI (aMd h).2 hk
theorem aW{s:Sr}(h:s.a<l.length):Stp l s (aR s):=⟨⟨Nat.le_succ _,h,id⟩,fun _=>Nat.lt_succ_self _⟩
theorem pF{s:Sr}(h:s.a≤l.length){c:Int}(hc:c≠0):Stp l s (gA l s c):=by
 unfold gA
 cases hf:bZ s with
 |true=>exact⟨⟨Nat.le_refl _,h,fun e=>absurd e hc⟩,fun e=>absurd e hc⟩
 |false=>
  have:s.c≠0:=fun e=>by rw[fM.2 e]at hf;cases hf
  exact⟨⟨Nat.le_refl _,h,fun e=>absurd e this⟩,fun e=>absurd e this⟩
theorem dH{s:Sr}(h:s.a≤l.length){x:List Nat}:Stp l s (bX l s x):=by
 unfold bX
 cases hi:isS l s 4 x with
 |true=>exact aW (dN hi (by decide))
 |false=>exact pF h (by decide)
theorem bY(hP:ParseOk l P){s:Sr}(h:s.a≤l.length):Stp l s (aV P s).2:=by
 unfold aV
 cases hf:bZ s with
 |false=>
  have:s.c≠0:=fun e=>by rw[fM.2 e]at hf;cases hf
  exact⟨⟨Nat.le_refl _,h,fun e=>absurd e this⟩,fun e=>absurd e this⟩
 |true=>
  have h0:=fM.1 hf
  cases hr:P s.a with
  |ok x n=>have:=hP.ok _ _ _ h hr;exact⟨⟨Nat.le_of_lt this.1,this.2,fun _=>h0⟩,fun _=>this.1⟩
  |er a d p c=>have:=hP.er _ _ _ _ _ hr;exact⟨⟨Nat.le_refl _,h,fun e=>absurd e this⟩,fun e=>absurd e this⟩
  |out=>have:=hP.known _ h;rw[hr]at this;cases this
theorem qD(hP:ParseOk l P){s:Sr}(h:s.a≤l.length){k:Nat}{p:Int}{nm:List Nat}:Stp l s (mQ l P k p nm s).2:=by
 have h1:=dH h (x:=[61])
 have h2:=bY hP h1.len
 exact(h1.l h2.toWk).l (dH h2.len).toWk
structure InvS(l:List Tz)(f:Sf):Prop where
 block:∀d s v s',s.a≤l.length→f.block d s=some (v,s')→Stp l s s'
 loop:∀d acc s v s',s.a≤l.length→f.loop d acc s=some (v,s')→Stp l s s'
 stmt:∀d s v s',s.a≤l.length→f.stmt d s=some (v,s')→Stp l s s'
theorem sV(hP:ParseOk l P){f:Sf}(h:InvS l f):InvS l ⟨dF l f,gB l f,gZ l P f⟩:=by
 refine⟨fun d s v s' hs e=>?_,fun d acc s v s' hs e=>?_,fun d s v s' hs e=>?_⟩
 ·have e:dF l f d s=some (v,s'):=e
  unfold dF at e
  split at e
  ·cases e;exact pF hs (by decide)
  ·exact(dH hs).l (h.loop _ _ _ _ _ (dH hs).len e).toWk
 ·have e:gB l f d acc s=some (v,s'):=e
  unfold gB at e
  split at e
  ·rename_i hf
   have:s.c≠0:=fun e=>by rw[fM.2 e]at hf;cases hf
   cases e
   exact⟨⟨Nat.le_refl _,hs,id⟩,fun e=>absurd e this⟩
  ·split at e
   ·rename_i hi
    cases e
    exact aW (dN hi (by decide))
   ·split at e
    ·rename_i x s1 hx
     have h1:=h.stmt _ _ _ _ hs hx
     exact h1.l (h.loop _ _ _ _ _ h1.len e).toWk
    ·cases e
 ·have e:gZ l P f d s=some (v,s'):=e
  unfold gZ at e
  split at e
  ·rename_i hi
   have h0:=dN hi (by decide)
   split at e
   ·rename_i hk
    have h1:=cS (l:=l) (a:=s.a+1) (by rw[of_decide_eq_true hk];decide)
    have h2:=aW (l:=l) (s:=aR s) h1
    have h3:=qD hP h2.len (k:=1) (p:=(aB l s.a).a) (nm:=(aB l (s.a+1)).t)
    rw[Option.some.inj e]at h3
    exact((aW h0).l h2.toWk).l h3.toWk
   ·have h2:=pF (aW h0).len (c:=5) (by decide)
    have h3:=qD hP h2.len (k:=1) (p:=(aB l s.a).a) (nm:=[])
    rw[Option.some.inj e]at h3
    exact((aW h0).l h2.toWk).l h3.toWk
  ·split at e
   ·rename_i hi
    have h0:=dN hi (by decide)
    split at e
    ·rename_i hi2
     have h1:=dN hi2 (by decide)
     cases e
     exact(aW h0).l (aW h1).toWk
    ·cases e
     have h2:=bY hP (aW h0).len
     exact((aW h0).l h2.toWk).l (dH h2.len).toWk
   ·split at e
    ·rename_i hi
     have h0:=dN hi (by decide)
     have h2:=bY hP (aW h0).len
     split at e
     ·cases e
     ·rename_i b s1 hb
      have h3:=h.block _ _ _ _ h2.len hb
      split at e
      ·rename_i hi2
       have h4:=aW (dN hi2 (by decide))
       split at e
       ·cases e
       ·rename_i b2 s2 hb2
        have h5:=h.block _ _ _ _ h4.len hb2
        cases e
        exact((((aW h0).l h2.toWk).l h3.toWk).l h4.toWk).l h5.toWk
      ·cases e
       exact((aW h0).l h2.toWk).l h3.toWk
    ·split at e
     ·rename_i hi
      have h0:=dN hi (by decide)
      have h2:=bY hP (aW h0).len
      split at e
      ·cases e
      ·rename_i b s1 hb
       have h3:=h.block _ _ _ _ h2.len hb
       cases e
       exact((aW h0).l h2.toWk).l h3.toWk
     ·split at e
      ·rename_i hb
       unfold wP at hb
       rw[Bool.and_eq_true]at hb
       have h0:=cS (l:=l) (a:=s.a) (by rw[of_decide_eq_true hb.1];decide)
       have h3:=qD hP (aW h0).len (k:=2) (p:=(aB l s.a).a) (nm:=(aB l s.a).t)
       rw[Option.some.inj e]at h3
       exact(aW h0).l h3.toWk
      ·cases e
       have h2:=bY hP hs
       exact h2.l (dH h2.len).toWk
theorem gX(hP:ParseOk l P):∀n,InvS l (cG l P n)
 |0=>⟨fun _ _ _ _ _ e=>(by cases e),fun _ _ _ _ _ _ e=>(by cases e),fun _ _ _ _ _ e=>(by cases e)⟩
 |n+1=>sV hP (gX hP n)
def Evo{α:Type}(r:Nat→Option α):Prop:=∃N v,∀n,N≤n→r n=some v
theorem Evo.const{α:Type}(v:α):Evo (fun _=>some v):=⟨0,v,fun _ _=>rfl⟩
theorem Evo.up{α:Type}{r:Nat→Option α}(h:Evo (fun n=>r (n+1))):Evo r:=by
 obtain⟨N,v,h2⟩:=h
 refine⟨N+1,v,fun n hn=>?_⟩
 have:r (n-1+1)=some v:=h2 (n-1) (by omega)
 rwa[show n-1+1=n by omega]at this
theorem Evo.then{α β:Type}{r:Nat→Option α}{g:Nat→α→Option β}{q:Nat→Option β}(h:Evo r)(k:∀v,(∃n,r n=some v)→Evo (fun n=>g n v))(e:∀n v,r n=some v→q n=g n v):Evo q:=by
 obtain⟨N,v,h2⟩:=h
 obtain⟨M,w,k2⟩:=k v ⟨N,h2 N (Nat.le_refl _)⟩
 refine⟨max N M,w,fun n hn=>?_⟩
 rw[e n v (h2 n (by omega))]
 exact k2 n (by omega)
structure TotS(l:List Tz)(P:Nat→R Ex)(a:Nat):Prop where
 block:∀d s,s.a=a→Evo (fun n=>(cG l P n).block d s)
 loop:∀d acc s,s.a=a→Evo (fun n=>(cG l P n).loop d acc s)
 stmt:∀d s,s.a=a→Evo (fun n=>(cG l P n).stmt d s)
theorem aBu(l:List Tz)(P:Nat→R Ex)(d:Nat)(acc:List Sx)(s:Sr)(h:s.c≠0):Evo (fun n=>(cG l P n).loop d acc s):=by
 refine .up ?_
 show Evo (fun n=>gB l (cG l P n) d acc s)
 unfold gB
 rw[show bZ s=false from decide_eq_false h]
 exact .const _
theorem aKu(l:List Tz)(P:Nat→R Ex)(d:Nat)(s:Sr)(h:s.c≠0):Evo (fun n=>(cG l P n).block d s):=by
 refine .up ?_
 show Evo (fun n=>dF l (cG l P n) d s)
 unfold dF pG
 rw[show bZ s=false from decide_eq_false h,Bool.false_and,Bool.and_false]
 refine aBu l P _ _ _ ?_
 unfold bX isS gA
 rw[show bZ s=false from decide_eq_false h,Bool.false_and]
 exact h
theorem aBv(hP:ParseOk l P)(a:Nat)(ha:a≤l.length)(ih:∀a',a<a'→a'≤l.length→TotS l P a'):TotS l P a:=by
 have lt_loop:∀d acc s s',s.a=a→Stp l s s'→Evo (fun n=>(cG l P n).loop d acc s'):=by
  intro d acc s s' hs h
  by_cases hc:s'.c=0
  ·exact(ih s'.a (by have:=h.lt hc;omega) h.len).loop d acc s' rfl
  ·exact aBu l P d acc s' hc
 have lt_block:∀d s s',s.a=a→Stp l s s'→Evo (fun n=>(cG l P n).block d s'):=by
  intro d s s' hs h
  by_cases hc:s'.c=0
  ·exact(ih s'.a (by have:=h.lt hc;omega) h.len).block d s' rfl
  ·exact aKu l P d s' hc
 have block:∀d s,s.a=a→Evo (fun n=>(cG l P n).block d s):=by
  intro d s hs
  refine .up ?_
  show Evo (fun n=>dF l (cG l P n) d s)
  unfold dF
  cases pG l d s with
  |true=>exact .const _
  |false=>exact lt_loop _ _ _ _ hs (dH (by omega))
 have stmt:∀d s,s.a=a→Evo (fun n=>(cG l P n).stmt d s):=by
  intro d s hs
  have hsl:s.a≤l.length:=by omega
  refine .up ?_
  show Evo (fun n=>gZ l P (cG l P n) d s)
  unfold gZ
  cases h1:isS l s 5 aVr with
  |true=>cases decide ((aB l (s.a+1)).k=1)<;>exact .const _
  |false=>
  cases h2:isS l s 5 aXd with
  |true=>cases isS l (aR s) 4 [59]<;>exact .const _
  |false=>
  cases h3:isS l s 5 sIf with
  |true=>
   have h0:=dN h3 (by decide)
   have q1:=aW h0
   have q2:=q1.l (bY hP q1.len).toWk
   refine Evo.then (lt_block d s _ hs q2) (g:=fun n (v:List Sx×Sr)=>match isS l v.2 5 wA with
     |true=>match(cG l P n).block d (aR v.2)with
      |none=>none
      |some (e,s2)=>some (Sx.mk 4 (aB l s.a).a [] true (aV P (aR s)).1 v.1 e,s2)
     |false=>some (Sx.mk 4 (aB l s.a).a [] false (aV P (aR s)).1 v.1 [],v.2)) ?_ ?_
   ·intro v ⟨n,hn⟩
    obtain⟨b,s1⟩:=v
    have q3:=q2.l ((gX hP n).block _ _ _ _ q2.len hn).toWk
    dsimp only
    cases h4:isS l s1 5 wA with
    |false=>exact .const _
    |true=>
     have q4:=q3.l (aW (dN h4 (by decide))).toWk
     refine Evo.then (lt_block d s _ hs q4) (g:=fun n (v:List Sx×Sr)=>some (Sx.mk 4 (aB l s.a).a [] true (aV P (aR s)).1 b v.1,v.2)) (fun v _=>.const _) ?_
     intro n v hv
     rw[hv]
   ·intro n v hv
    first|(rw[hv];done)|(rw[hv];obtain⟨b,s1⟩:=v;rfl)
  |false=>
  cases h4:isS l s 5 aZf with
  |true=>
   have h0:=dN h4 (by decide)
   have q1:=aW h0
   have q2:=q1.l (bY hP q1.len).toWk
   refine Evo.then (lt_block d s _ hs q2) (g:=fun n (v:List Sx×Sr)=>some (Sx.mk 5 (aB l s.a).a [] false (aV P (aR s)).1 v.1 [],v.2)) (fun v _=>.const _) ?_
   intro n v hv
   rw[hv]
  |false=>cases wP l s.a<;>exact .const _
 refine⟨block,fun d acc s hs=>?_,stmt⟩
 refine .up ?_
 show Evo (fun n=>gB l (cG l P n) d acc s)
 unfold gB
 cases bZ s with
 |false=>exact .const _
 |true=>
  cases isS l s 4 [125]with
  |true=>exact .const _
  |false=>
   refine Evo.then (stmt d s hs) (g:=fun n (v:Sx×Sr)=>(cG l P n).loop d (acc++[v.1]) v.2) (fun v ⟨n,hn⟩=>?_) ?_
   ·exact lt_loop _ _ _ _ hs ((gX hP n).stmt _ _ _ _ (by omega) hn)
   ·intro n v hv
    rw[hv]
theorem bNe(hP:ParseOk l P):∀k a,l.length≤a+k→a≤l.length→TotS l P a:=by
 intro k
 induction k with
 |zero=>intro a h1 h2;exact aBv hP a h2 fun a' q1 q2=>by omega
 |succ k ih=>intro a h1 h2;exact aBv hP a h2 fun a' q1 q2=>ih a' (by omega) q2
end
end Go.VM
end
