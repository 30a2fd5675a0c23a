/- laid for this seat: RcFx VfA VfB VfC -/
import Derived.Test.YtgadhdnnkdcgkaaGreatDoorVmR
import Derived.Test.YtgadhdnnkdcgkaaGreatDoorVmS
import Derived.Test.YtgadhdnnkdcgkaaGreatDoorProg
import Derived.ProofKit
import Derived.Test.YtgadhdnnkdcgkaaGreatDoorVg9
set_option linter.unusedVariables false
set_option linter.unusedSimpArgs false
section
set_option maxRecDepth 100000
namespace Go.VM
open Go.RowKit
def rc8:RC:=.r [.op (.al [.e,.o,.n,.n]) 2,.op (.al [.o,.o]) 3] (.r [.mv 0 7,.op (.c 12 [.t 7]) 8,.mv 8 6,.op (.ext (.t 6) 0) 9,.op (.ext (.t 6) 1) 10,.op (.al [.o,.o]) 5,.mv 9 4,.s (.st (.t 5) (.t 10) 2)] (.seq (.r [.op (.fa (.t 5) 1) 11,.op (.ld (.t 11) none) 12,.op (.eq .int true (.t 12) (.i 0)) 13] (.cond (.t 13) (.seq (.aP [.op (.bld [.e,.o,.n,.n] [(0,1),(1,1),(2,1),(3,1)] []) 14,.w 1 0 (.ld (.t 5) (some 2)) [5] 15] [(.z 2 1 (.st (.t 2) (.t 14) 4) [2,14],[]),(.z 3 7 (.st (.t 3) (.t 15) 2) [3,15],[])] [14,15]) .ret) .skip)) (.r [.mv 4 16,.op (.c 14 [.t 16]) 17,.op (.ext (.t 17) 0) 18,.op (.ext (.t 17) 1) 19,.s (.st (.t 2) (.t 18) 4),.s (.st (.t 3) (.t 19) 2)] .ret)))
theorem bGe:(Go.Proofs.Tryz.f8.body).bind (aE Go.Proofs.Tryz.prog)=some rc8:=by kernel_rfl
def bMh:RC:=.r [.op (.al [.e,.o,.n,.n]) 2,.op (.al [.o,.o]) 3] (.r [.op (.mkF 19 [] [.t 2,.t 3]) 4,.s (.dfr (.t 4) [])] (.r [.mv 0 5,.op (.bld [.n,.o] [(0,1),(1,1)] [(0,.t 5)]) 6,.op (.bx (.t 6)) 7,.op (.c 20 [.t 7]) 8,.op (.bld [.o,.o] [(0,1),(1,1)] []) 9,.s (.st (.t 2) (.t 8) 4),.s (.st (.t 3) (.t 9) 2)] .ret))
theorem bKa:(Go.Proofs.Tryz.f14.body).bind (aE Go.Proofs.Tryz.prog)=some bMh:=by kernel_rfl
def bHp:RC:=.r [⟨0,0,some .reco,[],some 5,none⟩,.mv 5 2] (.r [.mv 2 7,.op (.ta (.t 7) 28 true (.agg [.o,.o])) 8,.mv 8 6,.op (.ext (.t 6) 0) 9,.op (.ext (.t 6) 1) 10,.op (.al [.o,.o]) 3,.s (.st (.t 3) (.t 9) 2),.mv 10 4] (.r [.mv 4 11] (.cond (.t 11) (.aP [.op (.bld [.e,.o,.n,.n] [(0,1),(1,1),(2,1),(3,1)] []) 12,.w 1 0 (.ld (.t 3) (some 2)) [3] 13] [(.z 2 1 (.st (.t 0) (.t 12) 4) [0,12],[]),(.z 3 7 (.st (.t 1) (.t 13) 2) [1,13],[])] [12,13]) (.r [.mv 2 14,.op (.inil true (.t 14)) 15] (.cond (.t 15) (.reg [.mv 2 16,.s (.pan (.t 16))]) .skip)))))
theorem bFf:(Go.Proofs.Tryz.f19.body).bind (aE Go.Proofs.Tryz.prog)=some bHp:=by kernel_rfl
def aFe:RC:=.seq (.r [.mv 0 17,.op (.c 41 [.t 17,.c (.int .i64 5),.c (.str [105,109,112,111,114,116])]) 18] (.cond (.t 18) .skip (.exit 0))) (.block 1 (.r [.mv 0 19,.op (.c 39 [.t 19]) 20,.op (.al [.o,.o,.o,.e]) 4,.s (.st (.t 4) (.t 20) 4)] (.r [.op (.fa (.t 2) 2) 21,.op (.ld (.t 21) none) 22,.op (.fa (.t 4) 3) 23,.op (.ld (.t 23) none) 24,.op (.fa (.t 4) 1) 25,.op (.ld (.t 25) none) 26,.op (.bld [.e,.o] [(0,1),(1,1)] [(0,.t 24),(1,.t 26)]) 27,.op (.bs 2 1 [.e,.o] [(0,.t 27)]) 28,.op (.app (.t 22) (.t 28) 2 24 [.e,.o]) 29,.op (.fa (.t 2) 2) 30,.s (.st (.t 30) (.t 29) 1)] (.reg [.mv 0 31,.op (.c 40 [.t 31,.c (.str [59])]) 32]))))
def aFm:RC:=.seq (.r [.mv 0 33,.op (.c 42 [.t 33]) 34,.op (.fld (.t 34) 0 none) 35,.op (.eq .int true (.t 35) (.i 0)) 36] (.cond (.t 36) .skip (.exit 2))) (.block 3 (.block 4 (.r [.mv 0 40,.op (.c 41 [.t 40,.c (.int .i64 5),.c (.str [116,121,112,101])]) 41,.mv 41 39] (.cond (.t 39) (.aP [.w 0 0 (.fa (.t 2) 3) [2] 42,.w 1 1 (.ld (.t 42) none) [42] 43,.w 2 0 (.mv (.t 0)) [0] 44] [(.w 3 4 (.c 43 [.t 44]) [44] 45,[.w 4 12 (.bs 22 1 [.o,.o,.o,.e,.bool false,.e,.o,.o,.o,.e,.e,.n,.n,.n,.n,.bool false,.o,.o,.e,.e,.n,.n] [(0,.t 45)]) [45] 46]),(.w 5 31 (.app (.t 43) (.t 46) 22 320 [.o,.o,.o,.e,.bool false,.e,.o,.o,.o,.e,.e,.n,.n,.n,.n,.bool false,.o,.o,.e,.e,.n,.n]) [43,46] 47,[.w 6 63 (.fa (.t 2) 3) [2] 48]),(.z 7 127 (.st (.t 48) (.t 47) 1) [48,47],[])] [42,43,44,45,46,47,48]) (.r [.mv 0 50,.op (.c 41 [.t 50,.c (.int .i64 5),.c (.str [102,117,110,99])]) 51,.mv 51 49] (.cond (.t 49) (.aP [.w 0 0 (.fa (.t 2) 3) [2] 52,.w 1 1 (.ld (.t 52) none) [52] 53,.w 2 0 (.mv (.t 0)) [0] 54] [(.w 3 4 (.c 44 [.t 54]) [54] 55,[.w 4 12 (.bs 22 1 [.o,.o,.o,.e,.bool false,.e,.o,.o,.o,.e,.e,.n,.n,.n,.n,.bool false,.o,.o,.e,.e,.n,.n] [(0,.t 55)]) [55] 56]),(.w 5 31 (.app (.t 53) (.t 56) 22 320 [.o,.o,.o,.e,.bool false,.e,.o,.o,.o,.e,.e,.n,.n,.n,.n,.bool false,.o,.o,.e,.e,.n,.n]) [53,56] 57,[.w 6 63 (.fa (.t 2) 3) [2] 58]),(.z 7 127 (.st (.t 58) (.t 57) 1) [58,57],[])] [52,53,54,55,56,57,58]) (.reg [.mv 0 37,.op (.c 45 [.t 37]) 38])))))))
def aMx:RC:=.r [.op (.ld (.t 2) (some 4)) 59,.s (.st (.t 2) (.t 59) 4)] .ret
def aMr:RC:=.seq (.block 2 (.loop aFm)) aMx
def bJw:RC:=.r [.op (.al [.e,.o,.n,.n]) 2] (.r [.mv 0 5,.op (.c 38 [.t 5,.c (.int .i64 5),.c (.str [112,97,99,107,97,103,101])]) 6] (.r [.mv 0 7,.op (.c 39 [.t 7]) 8,.op (.al [.o,.o,.o,.e]) 3,.s (.st (.t 3) (.t 8) 4)] (.seq (.aP [.w 0 0 (.fa (.t 3) 3) [3] 9,.w 1 1 (.ld (.t 9) none) [9] 10,.w 2 0 (.fa (.t 3) 1) [3] 11,.w 3 4 (.ld (.t 11) none) [11] 12,.w 4 3 (.fa (.t 2) 0) [2] 13] [(.z 5 19 (.st (.t 13) (.t 10) 1) [13,10],[.w 6 63 (.fa (.t 2) 1) [2] 14]),(.z 7 127 (.st (.t 14) (.t 12) 1) [14,12],[])] [9,10,11,12,13,14]) (.r [.mv 0 15,.op (.c 40 [.t 15,.c (.str [59])]) 16] (.seq (.block 0 (.loop aFe)) aMr)))))
theorem bKv:(Go.Proofs.Tryz.f20.body).bind (aE Go.Proofs.Tryz.prog)=some bJw:=by kernel_rfl
def bGu:RC:=.r [.mv 0 6,.mv 1 7,.mv 2 8,.op (.c 41 [.t 6,.t 7,.t 8]) 9,.op (.un .not (.t 9)) 10] (.cond (.t 10) (.reg [.mv 0 11,.op (.c 45 [.t 11]) 12]) .skip)
theorem bDu:(Go.Proofs.Tryz.f38.body).bind (aE Go.Proofs.Tryz.prog)=some bGu:=by kernel_rfl
def aNj:RC:=.r [.mv 0 11,.op (.nc (.t 11)) 12,.op (.fa (.t 12) 1) 13,.op (.ld (.t 13) none) 14,.op (.bin .add (.t 14) (.i 1)) 15,.op (.nc (.t 11)) 16,.op (.fa (.t 16) 1) 17,.s (.st (.t 17) (.t 15) 1)] (.r [.op (.ld (.t 3) (some 4)) 18,.s (.st (.t 2) (.t 18) 4)] .ret)
def bHz:RC:=.r [.op (.al [.o,.o,.o,.e]) 2] (.r [.mv 0 4,.op (.c 42 [.t 4]) 5,.op (.al [.o,.o,.o,.e]) 3,.s (.st (.t 3) (.t 5) 4)] (.seq (.r [.op (.fa (.t 3) 0) 6,.op (.ld (.t 6) none) 7,.op (.eq .int true (.t 7) (.i 1)) 8] (.cond (.t 8) (.reg [.mv 0 9,.op (.c 45 [.t 9]) 10]) .skip)) aNj))
theorem bEx:(Go.Proofs.Tryz.f39.body).bind (aE Go.Proofs.Tryz.prog)=some bHz:=by kernel_rfl
def bGi:RC:=.reg [.mv 0 4,.mv 1 5,.op (.c 38 [.t 4,.c (.int .i64 4),.t 5]) 6]
theorem bFc:(Go.Proofs.Tryz.f40.body).bind (aE Go.Proofs.Tryz.prog)=some bGi:=by kernel_rfl
def aDo:RC:=.r [.mv 7 20,.mv 20 6] .ret
def bJr:RC:=.r [.op (.mv (.c (.bool false))) 6] (.r [.mv 0 8,.mv 1 9,.mv 2 10,.op (.c 73 [.t 8,.t 9,.t 10]) 11,.mv 11 7] (.seq (.r [.mv 7 12] (.cond (.t 12) (.reg [.mv 0 13,.op (.nc (.t 13)) 14,.op (.fa (.t 14) 1) 15,.op (.ld (.t 15) none) 16,.op (.bin .add (.t 16) (.i 1)) 17,.op (.nc (.t 13)) 18,.op (.fa (.t 18) 1) 19,.s (.st (.t 19) (.t 17) 1)]) .skip)) aDo))
theorem bJn:(Go.Proofs.Tryz.f41.body).bind (aE Go.Proofs.Tryz.prog)=some bJr:=by kernel_rfl
def aMv:RC:=.r [.mv 3 41,.mv 3 42,.op (.bld [.o,.o,.o,.e] [(0,1),(1,1),(2,1),(3,1)] [(1,.t 41),(2,.t 42)]) 43,.s (.st (.t 2) (.t 43) 4)] .ret
def bLi:RC:=.r [.op (.al [.o,.o,.o,.e]) 2] (.seq (.seq (.aP [.w 0 0 (.mv (.t 0)) [0] 5,.w 1 1 (.nc (.t 5)) [5] 6,.w 2 3 (.fa (.t 6) 1) [6] 7,.w 3 7 (.ld (.t 7) none) [7] 8,.w 4 0 (.mv (.t 0)) [0] 9,.w 5 16 (.nc (.t 9)) [9] 10,.w 6 48 (.fa (.t 10) 0) [10] 11,.w 7 112 (.ld (.t 11) none) [11] 12,.w 8 240 (.lenL (.t 12)) [12] 13,.w 9 511 (.bin .lss (.t 8) (.t 13)) [8,13] 14] [] [5,6,7,8,9,10,11,12,13,14]) (.cond (.t 14) (.seq (.aP [.w 0 0 (.mv (.t 0)) [0] 15,.w 1 1 (.nc (.t 15)) [15] 16,.w 2 3 (.fa (.t 16) 0) [16] 17,.w 3 7 (.ld (.t 17) none) [17] 18,.w 4 0 (.mv (.t 0)) [0] 19,.w 5 16 (.nc (.t 19)) [19] 20,.w 6 48 (.fa (.t 20) 1) [20] 21,.w 7 112 (.ld (.t 21) none) [21] 22,.w 8 255 (.ia (.t 18) (.t 22) 4) [18,22] 23,.w 9 511 (.ld (.t 23) (some 4)) [23] 24] [(.z 10 1023 (.st (.t 2) (.t 24) 4) [2,24],[])] [15,16,17,18,19,20,21,22,23,24]) .ret) .skip)) (.r [.op (.mv (.i 0)) 3] (.seq (.r [.mv 0 25,.op (.nc (.t 25)) 26,.op (.fa (.t 26) 0) 27,.op (.ld (.t 27) none) 28,.op (.lenL (.t 28)) 29,.mv 29 4] (.r [.mv 4 30,.op (.bin .gtr (.t 30) (.i 0)) 31] (.cond (.t 31) (.reg [.mv 0 32,.op (.nc (.t 32)) 33,.op (.fa (.t 33) 0) 34,.op (.ld (.t 34) none) 35,.mv 4 36,.op (.bin .sub (.t 36) (.i 1)) 37,.op (.ia (.t 35) (.t 37) 4) 38,.op (.fa (.t 38) 2) 39,.op (.ld (.t 39) none) 40,.mv 40 3]) .skip))) aMv)))
theorem bLv:(Go.Proofs.Tryz.f42.body).bind (aE Go.Proofs.Tryz.prog)=some bLi:=by kernel_rfl
def tE:RC:=.seq (.r [.mv 0 19,.op (.c 41 [.t 19,.c (.int .i64 4),.c (.str [125])]) 20,.op (.un .not (.t 20)) 21] (.cond (.t 21) .skip (.exit 0))) (.block 1 (.seq (.r [.op (.fa (.t 4) 0) 22,.op (.ld (.t 22) none) 23,.op (.eq .int false (.t 23) (.i 2)) 24] (.cond (.t 24) (.seq (.aP [.w 0 0 (.fa (.t 4) 14) [4] 25,.w 1 1 (.ld (.t 25) none) [25] 26,.w 2 0 (.mv (.t 0)) [0] 27] [(.w 3 4 (.c 74 [.t 27]) [27] 28,[.w 4 12 (.bs 9 1 [.e,.o,.n,.bool false,.o,.o,.e,.e,.n] [(0,.t 28)]) [28] 29]),(.w 5 31 (.app (.t 26) (.t 29) 9 128 [.e,.o,.n,.bool false,.o,.o,.e,.e,.n]) [26,29] 30,[.w 6 63 (.fa (.t 4) 14) [4] 31]),(.z 7 127 (.st (.t 31) (.t 30) 1) [31,30],[])] [25,26,27,28,29,30,31]) (.exit 1)) .skip)) (.seq (.aP [.w 0 0 (.fa (.t 4) 13) [4] 32,.w 1 1 (.ld (.t 32) none) [32] 33,.w 2 0 (.mv (.t 0)) [0] 34] [(.w 3 4 (.c 75 [.t 34]) [34] 35,[.w 4 12 (.bs 7 1 [.e,.o,.o,.o,.e,.e,.n] [(0,.t 35)]) [35] 36]),(.w 5 31 (.app (.t 33) (.t 36) 7 96 [.e,.o,.o,.o,.e,.e,.n]) [33,36] 37,[.w 6 63 (.fa (.t 4) 13) [4] 38]),(.z 7 127 (.st (.t 38) (.t 37) 1) [38,37],[])] [32,33,34,35,36,37,38]) (.reg [.mv 0 39,.op (.c 40 [.t 39,.c (.str [59])]) 40]))))
def aDz:RC:=.r [.mv 0 41,.op (.c 76 [.t 41]) 42,.op (.fa (.t 4) 2) 43,.s (.st (.t 43) (.t 42) 1)] (.r [.op (.ld (.t 4) (some 22)) 44,.s (.st (.t 2) (.t 44) 22)] .ret)
def aDp:RC:=.r [.mv 0 17,.op (.c 40 [.t 17,.c (.str [123])]) 18] (.seq (.block 0 (.loop tE)) aDz)
def bKn:RC:=.r [.op (.al [.o,.o,.o,.e,.bool false,.e,.o,.o,.o,.e,.e,.n,.n,.n,.n,.bool false,.o,.o,.e,.e,.n,.n]) 2] (.r [.mv 0 5,.op (.c 39 [.t 5]) 6,.op (.al [.o,.o,.o,.e]) 3,.s (.st (.t 3) (.t 6) 4)] (.r [.op (.fa (.t 3) 1) 7,.op (.ld (.t 7) none) 8,.op (.fa (.t 3) 3) 9,.op (.ld (.t 9) none) 10,.op (.bld [.o,.o,.o,.e,.bool false,.e,.o,.o,.o,.e,.e,.n,.n,.n,.n,.bool false,.o,.o,.e,.e,.n,.n] [(0,1),(1,1),(2,1),(3,1),(4,1),(5,7),(12,1),(13,1),(14,1),(15,1),(16,5),(21,1)] [(0,.c (.int .i64 1)),(1,.t 8),(3,.t 10)]) 11,.op (.al [.o,.o,.o,.e,.bool false,.e,.o,.o,.o,.e,.e,.n,.n,.n,.n,.bool false,.o,.o,.e,.e,.n,.n]) 4,.s (.st (.t 4) (.t 11) 22)] (.seq (.r [.mv 0 12,.op (.c 41 [.t 12,.c (.int .i64 5),.c (.str [105,110,116,101,114,102,97,99,101])]) 13] (.cond (.t 13) (.reg [.op (.fa (.t 4) 0) 14,.s (.st (.t 14) (.i 2) 1)]) (.reg [.mv 0 15,.op (.c 38 [.t 15,.c (.int .i64 5),.c (.str [115,116,114,117,99,116])]) 16]))) aDp)))
theorem bKp:(Go.Proofs.Tryz.f43.body).bind (aE Go.Proofs.Tryz.prog)=some bKn:=by kernel_rfl
def aNw:RC:=.r [.mv 0 66,.mv 5 67,.mv 6 68,.op (.fa (.t 3) 21) 69,.s (.st (.t 69) (.t 67) 1),.op (.nc (.t 66)) 70,.op (.fa (.t 70) 1) 71,.s (.st (.t 71) (.t 68) 1)] (.r [.mv 0 72,.op (.c 76 [.t 72]) 73,.op (.fa (.t 3) 2) 74,.s (.st (.t 74) (.t 73) 1)] (.r [.op (.ld (.t 3) (some 22)) 75,.s (.st (.t 2) (.t 75) 22)] .ret))
def aFd:RC:=.seq (.aP [.w 0 0 (.mv (.t 0)) [0] 49,.w 1 1 (.nc (.t 49)) [49] 50,.w 2 3 (.fa (.t 50) 0) [50] 51,.w 3 7 (.ld (.t 51) none) [51] 52,.w 4 0 (.mv (.t 0)) [0] 53,.w 5 16 (.nc (.t 53)) [53] 54,.w 6 48 (.fa (.t 54) 1) [54] 55,.w 7 112 (.ld (.t 55) none) [55] 56,.w 13 0 (.al [.o,.o]) [] 7] [(.w 8 255 (.c 79 [.t 52,.t 56]) [52,56] 57,[.w 9 511 (.mv (.t 57)) [57] 48,.w 10 1023 (.ext (.t 48) 0) [48] 58,.w 11 1023 (.ext (.t 48) 1) [48] 59,.w 12 1023 (.ext (.t 48) 2) [48] 60,.w 14 10239 (.mv (.t 58)) [58] 5,.w 15 28671 (.mv (.t 59)) [59] 6]),(.z 16 65535 (.st (.t 7) (.t 60) 2) [7,60],[])] [49,50,51,52,53,54,55,56,57,48,58,59,60,7,5,6]) (.seq (.r [.op (.fa (.t 7) 1) 61,.op (.ld (.t 61) none) 62,.op (.eq .int true (.t 62) (.i 0)) 63] (.cond (.t 63) (.reg [.op (.ld (.t 7) (some 2)) 64,.op (.mkI 28 (.t 64)) 65,.s (.pan (.t 65))]) .skip)) aNw)
def aDa:RC:=.r [.mv 0 32,.op (.c 40 [.t 32,.c (.str [40])]) 33] (.r [.mv 0 34,.mv 0 35,.op (.mkF 75 [.t 35] []) 36,.op (.c 77 [.t 34,.c (.str [41]),.c (.bool true),.t 36]) 37,.op (.fa (.t 3) 13) 38,.s (.st (.t 38) (.t 37) 1)] (.seq (.r [.mv 0 39,.op (.c 73 [.t 39,.c (.int .i64 4),.c (.str [123])]) 40,.op (.un .not (.t 40)) 41,.op (.fa (.t 3) 15) 42,.s (.st (.t 42) (.t 41) 1)] (.r [.op (.fa (.t 3) 15) 43,.op (.ld (.t 43) none) 44] (.cond (.t 44) (.reg [.mv 0 45,.op (.c 78 [.t 45]) 46,.op (.fa (.t 3) 16) 47,.s (.st (.t 47) (.t 46) 5)]) .skip))) aFd))
def aDw:RC:=.r [.mv 0 17,.op (.c 39 [.t 17]) 18,.op (.al [.o,.o,.o,.e]) 4,.s (.st (.t 4) (.t 18) 4)] (.seq (.aP [.w 0 0 (.fa (.t 4) 1) [4] 19,.w 1 1 (.ld (.t 19) none) [19] 20,.w 2 0 (.fa (.t 4) 3) [4] 21,.w 3 4 (.ld (.t 21) none) [21] 22,.w 4 3 (.fa (.t 3) 1) [3] 23] [(.z 5 19 (.st (.t 23) (.t 20) 1) [23,20],[.w 6 63 (.fa (.t 3) 3) [3] 24]),(.z 7 127 (.st (.t 24) (.t 22) 1) [24,22],[])] [19,20,21,22,23,24]) (.seq (.r [.mv 0 25,.op (.c 41 [.t 25,.c (.int .i64 4),.c (.str [91])]) 26] (.cond (.t 26) (.reg [.mv 0 27,.mv 0 28,.op (.mkF 75 [.t 28] []) 29,.op (.c 77 [.t 27,.c (.str [93]),.c (.bool false),.t 29]) 30,.op (.fa (.t 3) 12) 31,.s (.st (.t 31) (.t 30) 1)]) .skip)) aDa))
def bLa:RC:=.r [.op (.al [.o,.o,.o,.e,.bool false,.e,.o,.o,.o,.e,.e,.n,.n,.n,.n,.bool false,.o,.o,.e,.e,.n,.n]) 2] (.r [.op (.bld [.o,.o,.o,.e,.bool false,.e,.o,.o,.o,.e,.e,.n,.n,.n,.n,.bool false,.o,.o,.e,.e,.n,.n] [(0,1),(1,1),(2,1),(3,1),(4,1),(5,7),(12,1),(13,1),(14,1),(15,1),(16,5),(21,1)] [(0,.c (.int .i64 3))]) 8,.op (.al [.o,.o,.o,.e,.bool false,.e,.o,.o,.o,.e,.e,.n,.n,.n,.n,.bool false,.o,.o,.e,.e,.n,.n]) 3,.s (.st (.t 3) (.t 8) 22)] (.seq (.r [.mv 0 9,.op (.c 41 [.t 9,.c (.int .i64 4),.c (.str [40])]) 10] (.cond (.t 10) (.r [.mv 0 11,.op (.c 75 [.t 11]) 12,.op (.fa (.t 3) 4) 13,.s (.st (.t 13) (.c (.bool true)) 1),.op (.fa (.t 3) 5) 14,.s (.st (.t 14) (.t 12) 7)] (.reg [.mv 0 15,.op (.c 40 [.t 15,.c (.str [41])]) 16])) .skip)) aDw))
theorem bLm:(Go.Proofs.Tryz.f44.body).bind (aE Go.Proofs.Tryz.prog)=some bLa:=by kernel_rfl
def bJg:RC:=.reg [.mv 0 2,.op (.c 42 [.t 2]) 3,.op (.fld (.t 3) 1 none) 4,.op (.bld [.o,.o] [(0,1),(1,1)] [(0,.t 4),(1,.c (.int .i64 5))]) 5,.op (.mkI 28 (.t 5)) 6,.s (.pan (.t 6))]
theorem bKe:(Go.Proofs.Tryz.f45.body).bind (aE Go.Proofs.Tryz.prog)=some bJg:=by kernel_rfl
def bKk:RC:=.r [.op (.mv (.c (.bool false))) 6] (.r [.mv 0 8,.op (.c 42 [.t 8]) 9,.op (.al [.o,.o,.o,.e]) 7,.s (.st (.t 7) (.t 9) 4)] (.r [.op (.fa (.t 7) 0) 10,.op (.ld (.t 10) none) 11,.mv 1 12,.op (.eq .int false (.t 11) (.t 12)) 13,.mv 13 14,.g (.fa (.t 7) 3) 15 14 true,.g (.ld (.t 15) none) 16 14 true,.g (.mv (.t 2)) 17 14 true,.g (.eq .str false (.t 16) (.t 17)) 18 14 true,.op (.pick (.t 14) (.t 18) (.c (.bool false))) 19,.mv 19 6] .ret))
theorem bKm:(Go.Proofs.Tryz.f73.body).bind (aE Go.Proofs.Tryz.prog)=some bKk:=by kernel_rfl
def aEx:RC:=.r [.mv 0 28,.op (.c 40 [.t 28,.c (.str [59])]) 29] (.r [.op (.ld (.t 4) (some 9)) 30,.s (.st (.t 2) (.t 30) 9)] .ret)
def bKu:RC:=.r [.op (.al [.e,.o,.n,.bool false,.o,.o,.e,.e,.n]) 2] (.r [.mv 0 5,.op (.c 39 [.t 5]) 6,.op (.al [.o,.o,.o,.e]) 3,.s (.st (.t 3) (.t 6) 4)] (.r [.op (.fa (.t 3) 3) 7,.op (.ld (.t 7) none) 8,.op (.fa (.t 3) 1) 9,.op (.ld (.t 9) none) 10,.op (.bld [.e,.o,.n,.bool false,.o,.o,.e,.e,.n] [(0,1),(1,1),(2,1),(3,1),(4,5)] [(0,.t 8),(1,.t 10)]) 11,.op (.al [.e,.o,.n,.bool false,.o,.o,.e,.e,.n]) 4,.s (.st (.t 4) (.t 11) 9)] (.r [.mv 0 12,.op (.c 40 [.t 12,.c (.str [40])]) 13] (.r [.mv 0 14,.mv 0 15,.op (.mkF 78 [.t 15] []) 16,.op (.c 87 [.t 14,.c (.str [41]),.c (.bool true),.t 16]) 17,.op (.fa (.t 4) 2) 18,.s (.st (.t 18) (.t 17) 1)] (.seq (.r [.mv 0 19,.op (.c 73 [.t 19,.c (.int .i64 4),.c (.str [59])]) 20,.op (.un .not (.t 20)) 21,.op (.fa (.t 4) 3) 22,.s (.st (.t 22) (.t 21) 1)] (.r [.op (.fa (.t 4) 3) 23,.op (.ld (.t 23) none) 24] (.cond (.t 24) (.reg [.mv 0 25,.op (.c 78 [.t 25]) 26,.op (.fa (.t 4) 4) 27,.s (.st (.t 27) (.t 26) 5)]) .skip))) aEx)))))
theorem bIo:(Go.Proofs.Tryz.f74.body).bind (aE Go.Proofs.Tryz.prog)=some bKu:=by kernel_rfl
def bDk:RC:=.r [.op (.al [.e,.o,.o,.o,.e,.e,.n]) 2] (.r [.mv 0 4,.op (.c 39 [.t 4]) 5,.op (.al [.o,.o,.o,.e]) 3,.s (.st (.t 3) (.t 5) 4)] (.seq (.aP [.w 0 0 (.fa (.t 3) 3) [3] 6,.w 1 1 (.ld (.t 6) none) [6] 7,.w 2 0 (.fa (.t 3) 1) [3] 8,.w 3 4 (.ld (.t 8) none) [8] 9,.w 4 0 (.mv (.t 0)) [0] 10] [(.w 5 16 (.c 78 [.t 10]) [10] 11,[.w 6 63 (.bld [.e,.o,.o,.o,.e,.e,.n] [(0,1),(1,1),(2,5)] [(0,.t 7),(1,.t 9),(2,.t 11)]) [7,9,11] 12]),(.z 7 127 (.st (.t 2) (.t 12) 7) [2,12],[])] [6,7,8,9,10,11,12]) .ret))
theorem aXp:(Go.Proofs.Tryz.f75.body).bind (aE Go.Proofs.Tryz.prog)=some bDk:=by kernel_rfl
def bJp:RC:=.r [.op (.mv (.i 0)) 2] (.seq (.aP [.w 0 0 (.mv (.t 0)) [0] 3,.w 1 1 (.nc (.t 3)) [3] 4,.w 2 3 (.fa (.t 4) 0) [4] 5,.w 3 7 (.ld (.t 5) none) [5] 6,.w 4 0 (.mv (.t 0)) [0] 7,.w 5 16 (.nc (.t 7)) [7] 8,.w 6 48 (.fa (.t 8) 1) [8] 9,.w 7 112 (.ld (.t 9) none) [9] 10,.w 8 240 (.bin .sub (.t 10) (.i 1)) [10] 11,.w 9 511 (.ia (.t 6) (.t 11) 4) [6,11] 12,.w 10 1023 (.fa (.t 12) 2) [12] 13,.w 11 2047 (.ld (.t 13) none) [13] 14,.w 12 4095 (.mv (.t 14)) [14] 2] [] [3,4,5,6,7,8,9,10,11,12,13,14,2]) .ret)
theorem bLl:(Go.Proofs.Tryz.f76.body).bind (aE Go.Proofs.Tryz.prog)=some bJp:=by kernel_rfl
def wO:RC:=.block 1 (.r [.mv 8 15,.mv 3 16,.op (.call (.t 16) []) 17,.op (.bs 7 1 [.e,.o,.o,.o,.e,.e,.n] [(0,.t 17)]) 18,.op (.app (.t 15) (.t 18) 7 96 [.e,.o,.o,.o,.e,.e,.n]) 19,.mv 19 8] (.r [.mv 0 20,.op (.c 41 [.t 20,.c (.int .i64 4),.c (.str [44])]) 21,.op (.un .not (.t 21)) 22] (.cond (.t 22) (.r [.mv 0 23,.mv 1 24,.op (.c 40 [.t 23,.t 24]) 25] (.r [.mv 8 26,.mv 26 8] .ret)) .skip)))
def bDh:RC:=.r [.op (.mv (.c (.n))) 8] (.seq (.r [.mv 2 9,.mv 9 10,.g (.mv (.t 0)) 11 10 true,.g (.mv (.t 1)) 12 10 true,.g (.c 41 [.t 11,.c (.int .i64 4),.t 12]) 13 10 true,.op (.pick (.t 10) (.t 13) (.c (.bool false))) 14] (.cond (.t 14) (.r [.op (.mv (.c (.n))) 8] .ret) .skip)) (.block 0 (.loop wO)))
theorem bAi:(Go.Proofs.Tryz.f77.body).bind (aE Go.Proofs.Tryz.prog)=some bDh:=by kernel_rfl
def aNr:RC:=.r [.mv 0 24,.mv 4 25,.op (.nc (.t 24)) 26,.op (.fa (.t 26) 1) 27,.s (.st (.t 27) (.t 25) 1)] (.r [.op (.ld (.t 3) (some 5)) 28,.s (.st (.t 2) (.t 28) 5)] .ret)
def bIg:RC:=.r [.op (.al [.o,.o,.e,.e,.n]) 2] (.seq (.aP [.w 0 0 (.mv (.t 0)) [0] 7,.w 1 1 (.nc (.t 7)) [7] 8,.w 2 3 (.fa (.t 8) 0) [8] 9,.w 3 7 (.ld (.t 9) none) [9] 10,.w 4 0 (.mv (.t 0)) [0] 11,.w 5 16 (.nc (.t 11)) [11] 12,.w 6 48 (.fa (.t 12) 1) [12] 13,.w 7 112 (.ld (.t 13) none) [13] 14,.w 13 0 (.al [.o,.o,.e,.e,.n]) [] 3,.w 14 0 (.al [.o,.o]) [] 5] [(.w 8 255 (.c 88 [.t 10,.t 14]) [10,14] 15,[.w 9 511 (.mv (.t 15)) [15] 6,.w 10 1023 (.ext (.t 6) 0) [6] 16,.w 11 1023 (.ext (.t 6) 1) [6] 17,.w 12 1023 (.ext (.t 6) 2) [6] 18]),(.z 15 26623 (.st (.t 3) (.t 16) 5) [3,16],[.w 16 61439 (.mv (.t 17)) [17] 4]),(.z 17 131071 (.st (.t 5) (.t 18) 2) [5,18],[])] [7,8,9,10,11,12,13,14,15,6,16,17,18,3,5,4]) (.seq (.r [.op (.fa (.t 5) 1) 19,.op (.ld (.t 19) none) 20,.op (.eq .int true (.t 20) (.i 0)) 21] (.cond (.t 21) (.reg [.op (.ld (.t 5) (some 2)) 22,.op (.mkI 28 (.t 22)) 23,.s (.pan (.t 23))]) .skip)) aNr))
theorem bFe:(Go.Proofs.Tryz.f78.body).bind (aE Go.Proofs.Tryz.prog)=some bIg:=by kernel_rfl
def wM:RC:=.block 1 (.r [.mv 8 15,.mv 3 16,.op (.call (.t 16) []) 17,.op (.bs 5 1 [.o,.o,.e,.e,.n] [(0,.t 17)]) 18,.op (.app (.t 15) (.t 18) 5 72 [.o,.o,.e,.e,.n]) 19,.mv 19 8] (.r [.mv 0 20,.op (.c 41 [.t 20,.c (.int .i64 4),.c (.str [44])]) 21,.op (.un .not (.t 21)) 22] (.cond (.t 22) (.r [.mv 0 23,.mv 1 24,.op (.c 40 [.t 23,.t 24]) 25] (.r [.mv 8 26,.mv 26 8] .ret)) .skip)))
def bCc:RC:=.r [.op (.mv (.c (.n))) 8] (.seq (.r [.mv 2 9,.mv 9 10,.g (.mv (.t 0)) 11 10 true,.g (.mv (.t 1)) 12 10 true,.g (.c 41 [.t 11,.c (.int .i64 4),.t 12]) 13 10 true,.op (.pick (.t 10) (.t 13) (.c (.bool false))) 14] (.cond (.t 14) (.r [.op (.mv (.c (.n))) 8] .ret) .skip)) (.block 0 (.loop wM)))
theorem aYi:(Go.Proofs.Tryz.f87.body).bind (aE Go.Proofs.Tryz.prog)=some bCc:=by kernel_rfl
end Go.VM
end
section
/- Files: the reader in memory; its small functions. -/
set_option maxRecDepth 100000
namespace Go.VM
open Go.RowKit
def frC(l:List Tz)(a:Nat):List V:=[.lst (l.map cD) .unk,.int .i64 a]
def frO(l:List Tz)(a:Nat):Obj:=.cells false (frC l a)
def frL(l:List Tz)(a:Nat):OL:=[(1000,frO l a)]
theorem aNl(ρ:Nat→Nat)(l:List Tz)(a:Nat):Obj.ren ρ (frO l a)=frO l a:=by
 simp only[frO,frC,Obj.ren,dB,V.ren,aCv,LC.ren]
theorem aYj{D:Nat→Prop}(l:List Tz)(a:Nat):Obj.In D (frO l a):=⟨⟨aAa _,trivial⟩,trivial,trivial⟩
theorem cO{D:Nat→Prop}(l:List Tz)(a:Nat):gC D (frL l a):=⟨aYj l a,trivial⟩
theorem nM{f:FuncId}{xs ys:List V}{l:List Tz}{a a':Nat}{r:AEnd}(core:SCall Go.Proofs.Tryz.prog [] f xs none ⟨1001,og (frL l a),[]⟩ r none ⟨1001,og (frL l a'),[]⟩)
  (has:Ins (· <1001) xs) (hr:r.In (fun _=>False)) {h:H} {R:Nat} (hR:aC≤R) (h1:h.ob R=some (frO l a)) (hy:∀ρ:Nat→Nat,ρ 1000=R→dB ρ xs=ys):
  SCall Go.Proofs.Tryz.prog [] f ys none h r none (h.put R (frO l a')):=by
 refine SCall.wT (n:=0) [R] rfl core (by simp) (by simp[hR]) (fun i=>?_) rfl (fun i c o hi ho=>?_) (cO _ _) has hr (cO _ _) (hy _ rfl) rfl rfl (fun i hi=>?_) (fun c hc=>?_)
 ·simp only[frL,aR]
  show _↔1000≤i∧i<1001
  split
  ·simp;omega
  ·simp[og];omega
 ·match i,hi with
  |0,hi=>
   cases hi;cases ho
   rw[aNl];exact h1
 ·have hi:i<1:=hi
  match i,hi with
  |0,_=>
   show(h.put R _).ob R=_
   simp only[H.put,if_true]
   show some _=some (Obj.ren _ (frO l a'))
   rw[aNl]
 ·have h0:R≠c:=hc 0 (by show 0<1;decide)
  simp only[H.put]
  rw[if_neg (fun e=>h0 e.symm)]
theorem aXk{xs:List V}(has:Ins (fun _=>False) xs){R:Nat}(ρ:Nat→Nat)(h:ρ 1000=R):dB ρ (.ptr 1000 0::xs)=.ptr R 0::xs:=by
 show .ptr (ρ 1000) 0::dB _ xs=_
 rw[fG (D:=fun _=>False) (fun _ q=>q.elim) has,h]
theorem fat{f:FuncId}{xs:List V}{l:List Tz}{a a':Nat}{r:AEnd}(core:SCall Go.Proofs.Tryz.prog [] f (.ptr 1000 0::xs) none ⟨1001,og (frL l a),[]⟩ r none ⟨1001,og (frL l a'),[]⟩)
  (has:Ins (fun _=>False) xs) (hr:r.In (fun _=>False)) {h:H} {R:Nat} (hR:aC≤R) (h1:h.ob R=some (frO l a)):SCall Go.Proofs.Tryz.prog [] f (.ptr R 0::xs) none h r none (h.put R (frO l a')):=
 nM core ⟨(by show 1000<1001;decide),Ins.mono (fun _ q=>q.elim) has⟩ hr hR h1 (aXk has)
theorem bCr{f:FuncId}{xs:List V}{l:List Tz}{a:Nat}{r:AEnd}(core:SCall Go.Proofs.Tryz.prog [] f (.ptr 1000 0::xs) none ⟨1001,og (frL l a),[]⟩ r none ⟨1001,og (frL l a),[]⟩)
  (has:Ins (fun _=>False) xs) (hr:r.In (fun _=>False)) {h:H} {R:Nat} (hR:aC≤R) (h1:h.ob R=some (frO l a)):SCall Go.Proofs.Tryz.prog [] f (.ptr R 0::xs) none h r none h:=by
 have:=fat core has hr hR h1
 rwa[yC h1]at this
def Fp{α:Type}(f:FuncId)(xs:List V)(l:List Tz)(a:Nat)(enc:α→V)(r:R α):Prop:=
 r.aY=false→SCall Go.Proofs.Tryz.prog [] f (.ptr 1000 0::xs) none ⟨1001,og (frL l a),[]⟩ (r.pP enc) none ⟨1001,og (frL l r.at'),[]⟩
theorem Fp.ok{α:Type}{f:FuncId}{xs:List V}{l:List Tz}{a:Nat}{enc:α→V}{v:α}{a':Nat}(s:Fp f xs l a enc (.ok v a'))(hx:Ins (fun _=>False) xs)(hv:(enc v).In (fun _=>False)){h:H}{R:Nat}(hR:aC≤R)(h1:h.ob R=some (frO l a)):
  SCall Go.Proofs.Tryz.prog [] f (.ptr R 0::xs) none h (.ret (enc v)) none (h.put R (frO l a')):=fat (r:=.ret (enc v)) (s rfl) hx hv hR h1
theorem Fp.er{α:Type}{f:FuncId}{xs:List V}{l:List Tz}{a:Nat}{enc:α→V}{a' d':Nat}{p c:Int}(s:Fp f xs l a enc (.er a' d' p c))(hx:Ins (fun _=>False) xs){h:H}{R:Nat}(hR:aC≤R)(h1:h.ob R=some (frO l a)):
  SCall Go.Proofs.Tryz.prog [] f (.ptr R 0::xs) none h (.pan (cV p c)) none (h.put R (frO l a')):=fat (r:=.pan (cV p c)) (s rfl) hx bA hR h1
theorem uZ{o:Obj}:∀{rest:OL},rest.all (fun p=>Nat.ble 1001 p.1)=true→∀{b:Nat},b<1001→og [(1000,o)] b=og ((1000,o)::rest) b
 |[],_,_,_=>rfl
 |(k,x)::r,h,b,hb=>by
  rw[List.all_cons,Bool.and_eq_true,Nat.ble_eq]at h
  have ih:=uZ (o:=o) h.2 hb
  simp only[aR]at ih⊢
  split
  ·rfl
  ·rename_i hn
   rw[if_neg hn]at ih
   rw[ih,if_neg hn,if_neg (by have h1:1001≤k:=h.1;omega)]
def bKr(_:Unit):V:=.tup []
def bJx(t:Tz):V:=.agg (cD t)
theorem lS{D:Nat→Prop}(t:Tz):(bJx t).In D:=⟨trivial,trivial,trivial,trivial,trivial⟩
theorem aRm(l:List Tz)(a:Nat)(hl:l.length<4294967296):SCall Go.Proofs.Tryz.prog [] 42 [.ptr 1000 0] none ⟨1001,og (frL l a),[]⟩ (.ret (.agg (cD (aA l a)))) none ⟨1001,og (frL l a),[]⟩:=by
 refine SCall.aI (fn:=Go.Proofs.Tryz.f42) (by kernel_rfl) bLv (by kernel_rfl) (by kernel_rfl) (Nat.le_refl _) rfl ((cO _ _)) (by exact⟨trivial,trivial,trivial,trivial,trivial⟩) ?_
 unfold bLi
 unfold frL frO frC
 repeat(first|refine WR.seq ?_|refine WR.block ?_|refine WR.scope ?_|refine WR.skip ?_|refine WR.exit ?_|refine WR.aD rfl ?_|refine WR.aO rfl ?_|refine WR.m 1000 rfl ?_|refine WQ.aJ ?_|refine WR.aP aZ (DW.m 1000 rfl ?_))
 refine DW.cC pQ ?_
 rw[List.length_map]
 by_cases h:a<l.length
 ·rw[show decide ((a:Int)<(l.length:Int))=true from decide_eq_true (by omega)]
  have hc:l[a]? =some l[a]:=List.getElem?_eq_getElem h
  rw[fP hc]
  generalize l[a]=t at hc⊢
  refine WR.aD rfl ?_
  refine WR.seq (WR.aP aZ (DW.m 8 rfl ?_))
  refine DW.oW rfl (fun h=>gL (cs:=cD t) rfl rfl (by rw[List.getElem?_map,hc];rfl) rfl) rfl (DW.m 1000 rfl ?_)
  refine DW.stS pQ rfl rfl rfl rfl (DW.m 1000 rfl (DW.cC pQ ?_))
  exact WR.e
 ·rw[show decide ((a:Int)<(l.length:Int))=false from decide_eq_false (by omega)]
  rw[gJ (by omega)]
  refine WR.k rfl ?_
  repeat(first|refine WR.seq ?_|refine WR.block ?_|refine WR.scope ?_|refine WR.skip ?_|refine WR.exit ?_|refine WR.aD rfl ?_|refine WR.aO rfl ?_|refine WR.m 1000 rfl ?_|refine WQ.aJ ?_|refine WR.aP aZ (DW.m 1000 rfl ?_))
  rw[List.length_map]
  rcases Nat.eq_zero_or_pos l.length with h0|h0
  ·have h0:l=[]:=List.eq_nil_of_length_eq_zero h0
   subst h0
   repeat(first|refine WR.seq ?_|refine WR.block ?_|refine WR.scope ?_|refine WR.skip ?_|refine WR.exit ?_|refine WR.aD rfl ?_|refine WR.aO rfl ?_|refine WR.m 1000 rfl ?_|refine WQ.aJ ?_|refine WR.aP aZ (DW.m 1000 rfl ?_))
   exact WR.e
  ·rw[show decide ((l.length:Int)>0)=true from decide_eq_true (by omega)]
   have hc:l[l.length-1]? =some l[l.length-1]:=List.getElem?_eq_getElem (by omega)
   rw[nK hc]
   generalize l[l.length-1]=t at hc⊢
   refine WR.aD rfl ?_
   refine WR.m 6 rfl ?_
   rw[pF (by omega) (by unfold big;omega)]
   refine WQ.bD rfl rfl rfl (gL (cs:=cD t) rfl rfl (by rw[List.getElem?_map,hc];rfl) rfl) rfl (WQ.q rfl ?_)
   unfold aMv
   repeat(first|refine WR.seq ?_|refine WR.block ?_|refine WR.scope ?_|refine WR.skip ?_|refine WR.exit ?_|refine WR.aD rfl ?_|refine WR.aO rfl ?_|refine WR.m 1000 rfl ?_|refine WQ.aJ ?_|refine WR.aP aZ (DW.m 1000 rfl ?_))
   exact WR.e
theorem xA{l:List Tz}{a:Nat}(hl:l.length<4294967296){h:H}{R:Nat}(hR:aC≤R)(h1:h.ob R=some (frO l a)):
  SCall Go.Proofs.Tryz.prog [] 42 [.ptr R 0] none h (.ret (.agg (cD (aA l a)))) none h:=
 bCr (aRm l a hl) trivial ⟨trivial,trivial,trivial,trivial,trivial⟩ hR h1
theorem aLn(l:List Tz)(a:Nat)(hl:l.length<4294967296):SCall Go.Proofs.Tryz.prog [] 45 [.ptr 1000 0] none ⟨1001,og (frL l a),[]⟩ (.pan (cV (aA l a).a 5)) none ⟨1001,og (frL l a),[]⟩:=by
 refine SCall.aI (fn:=Go.Proofs.Tryz.f45) (by kernel_rfl) bKe (by kernel_rfl) (by kernel_rfl) (Nat.le_refl _) rfl ((cO _ _)) bA ?_
 unfold bJg
 repeat apply sQ
 refine WR.m 1 rfl ?_
 refine WQ.c rfl (xA (l:=l) (a:=a) hl (R:=1000) (by decide) rfl) .base rfl (WQ.m 1000 rfl ?_)
 refine WQ.aUd rfl rfl rfl ⟨rfl,rfl,rfl,fun _ _=>rfl⟩
theorem zD{l:List Tz}{a:Nat}(hl:l.length<4294967296){h:H}{R:Nat}(hR:aC≤R)(h1:h.ob R=some (frO l a)):
  SCall Go.Proofs.Tryz.prog [] 45 [.ptr R 0] none h (.pan (cV (aA l a).a 5)) none h:=bCr (aLn l a hl) trivial bA hR h1
theorem aIr(l:List Tz)(a:Nat)(hl:l.length<4294967296)(k:Int)(s:List Nat):SCall Go.Proofs.Tryz.prog [] 73 [.ptr 1000 0,.int .i64 k,.str s] none ⟨1001,og (frL l a),[]⟩ (.ret (.bool (isF l a k s))) none ⟨1001,og (frL l a),[]⟩:=by
 have ht:=xA (l:=l) (a:=a) hl (h:=⟨1001,og (frL l a),[]⟩) (R:=1000) (by decide) rfl
 unfold isF
 generalize aA l a=t at ht
 obtain⟨tk,ta,te,tt⟩:=t
 refine SCall.aI (fn:=Go.Proofs.Tryz.f73) (by kernel_rfl) bKm (by kernel_rfl) (by kernel_rfl) (Nat.le_refl _) rfl ((cO _ _)) trivial ?_
 unfold bKk
 repeat apply sQ
 refine WR.q rfl ?_
 repeat apply sQ
 refine WR.m 1 rfl ?_
 refine WQ.c rfl ht .base rfl ?_
 refine WQ.q rfl ?_
 repeat apply sQ
 refine WR.m 5 rfl ?_
 refine WQ.guard 14 rfl (fun e=>?_) (fun e=>?_)
 ·rw[e]
  refine WQ.q rfl ?_
  exact WR.e
 ·rw[e]
  refine WQ.q rfl ?_
  exact WR.e
theorem vH{l:List Tz}{a:Nat}{k:Int}{s:List Nat}(hl:l.length<4294967296){h:H}{R:Nat}(hR:aC≤R)(h1:h.ob R=some (frO l a)):
  SCall Go.Proofs.Tryz.prog [] 73 [.ptr R 0,.int .i64 k,.str s] none h (.ret (.bool (isF l a k s))) none h:=
 bCr (aIr l a hl k s) ⟨trivial,trivial,trivial⟩ trivial hR h1
def isA(l:List Tz)(a:Nat)(k:Int)(x:List Nat):Nat:=match isF l a k x with
 |true=>a+1
 |false=>a
theorem aVt(l:List Tz)(a:Nat)(hl:l.length<4294967296)(ha:a≤l.length)(k:Int)(s:List Nat):SCall Go.Proofs.Tryz.prog [] 41 [.ptr 1000 0,.int .i64 k,.str s] none ⟨1001,og (frL l a),[]⟩ (.ret (.bool (isF l a k s))) none ⟨1001,og (frL l (isA l a k s)),[]⟩:=by
 have ht:=vH (l:=l) (a:=a) (k:=k) (s:=s) hl (h:=⟨1001,og (frL l a),[]⟩) (R:=1000) (by decide) rfl
 unfold isA
 refine SCall.aI (fn:=Go.Proofs.Tryz.f41) (by kernel_rfl) bJn (by kernel_rfl) (by kernel_rfl) (Nat.le_refl _) rfl ((cO _ _)) trivial ?_
 unfold bJr
 repeat apply sQ
 refine WR.q rfl ?_
 repeat apply sQ
 refine WR.m 3 rfl ?_
 refine WQ.c rfl ht .base rfl ?_
 refine WQ.q rfl ?_
 repeat apply sQ
 refine WR.q rfl ?_
 cases isF l a k s with
 |false=>
  repeat apply sQ
  refine WR.k rfl ?_
  unfold aDo
  repeat apply sQ
  refine WR.q rfl ?_
  exact WR.e
 |true=>
  repeat apply sQ
  refine WR.aD rfl ?_
  repeat apply sQ
  refine WR.m 5 rfl ?_
  rw[bI (by unfold big;omega)]
  refine WQ.q rfl ?_
  unfold aDo
  repeat apply sQ
  refine WR.q rfl ?_
  exact WR.e
theorem iF{l:List Tz}{a:Nat}{k:Int}{s:List Nat}(hl:l.length<4294967296)(ha:a≤l.length){h:H}{R:Nat}(hR:aC≤R)(h1:h.ob R=some (frO l a)):
  SCall Go.Proofs.Tryz.prog [] 41 [.ptr R 0,.int .i64 k,.str s] none h (.ret (.bool (isF l a k s))) none (h.put R (frO l (isA l a k s))):=
 fat (aVt l a hl ha k s) ⟨trivial,trivial,trivial⟩ trivial hR h1
def bM(l:List Tz)(k:Int)(x:List Nat)(a:Nat):R Unit:=match isF l a k x with
 |true=>.ok () (a+1)
 |false=>fD l a 0 5
theorem rW(l:List Tz)(a:Nat)(hl:l.length<4294967296)(ha:a≤l.length)(k:Int)(s:List Nat):Fp 38 [.int .i64 k,.str s] l a bKr (bM l k s a):=by
 intro _
 have ht:=iF (l:=l) (a:=a) (k:=k) (s:=s) hl ha (h:=⟨1001,og (frL l a),[]⟩) (R:=1000) (by decide) rfl
 unfold bM
 unfold isA at ht
 cases hi:isF l a k s with
 |false=>
  rw[hi]at ht
  refine SCall.aI (fn:=Go.Proofs.Tryz.f38) (by kernel_rfl) bDu (by kernel_rfl) (by kernel_rfl) (Nat.le_refl _) rfl ((cO _ _)) bA ?_
  unfold bGu
  repeat apply sQ
  refine WR.m 3 rfl ?_
  refine WQ.c rfl ht (.put .base rfl) rfl ?_
  refine WQ.q rfl ?_
  repeat apply sQ
  refine WR.aD rfl ?_
  repeat apply sQ
  refine WR.m 1 rfl ?_
  refine WQ.aL rfl rfl rfl rfl rfl (zD (l:=l) (a:=a) hl (R:=1000) (by decide) rfl) .base ⟨rfl,rfl,rfl,fun _ _=>rfl⟩
 |true=>
  rw[hi]at ht
  refine SCall.aI (fn:=Go.Proofs.Tryz.f38) (by kernel_rfl) bDu (by kernel_rfl) (by kernel_rfl) (Nat.le_refl _) rfl ((cO _ _)) trivial ?_
  unfold bGu
  repeat apply sQ
  refine WR.m 3 rfl ?_
  refine WQ.c rfl ht (.put .base rfl) rfl ?_
  refine WQ.q rfl ?_
  repeat apply sQ
  refine WR.k rfl ?_
  exact⟨rfl,rfl,⟨_,rfl,VLe.refl _⟩,fun _ _=>rfl⟩
theorem eF(l:List Tz)(a:Nat)(hl:l.length<4294967296)(ha:a≤l.length)(s:List Nat):Fp 40 [.str s] l a bKr (bM l 4 s a):=by
 intro _
 have ht:=rW l a hl ha 4 s
 cases hi:bM l 4 s a with
 |out=>unfold bM at hi;split at hi<;>cases hi
 |er a1 d1 p c=>
  rw[hi]at ht
  refine SCall.aI (fn:=Go.Proofs.Tryz.f40) (by kernel_rfl) bFc (by kernel_rfl) (by kernel_rfl) (Nat.le_refl _) rfl ((cO _ _)) bA ?_
  unfold bGi
  repeat apply sQ
  refine WR.m 2 rfl ?_
  refine WQ.aL rfl rfl rfl rfl rfl (ht.er ⟨trivial,trivial,trivial⟩ (R:=1000) (by decide) rfl) (.put .base rfl) ⟨rfl,rfl,rfl,fun _ _=>rfl⟩
 |ok u a1=>
  rw[hi]at ht
  refine SCall.aI (fn:=Go.Proofs.Tryz.f40) (by kernel_rfl) bFc (by kernel_rfl) (by kernel_rfl) (Nat.le_refl _) rfl ((cO _ _)) trivial ?_
  unfold bGi
  repeat apply sQ
  refine WR.m 2 rfl ?_
  refine WQ.c rfl (ht.ok ⟨trivial,trivial,trivial⟩ trivial (R:=1000) (by decide) rfl) (.put .base rfl) rfl ?_
  refine WQ.q rfl ?_
  exact⟨rfl,rfl,⟨_,rfl,VLe.refl _⟩,fun _ _=>rfl⟩
def fName(l:List Tz)(a:Nat):R Tz:=match decide ((aA l a).k=1)with
 |true=>.ok (aA l a) (a+1)
 |false=>fD l a 0 5
theorem jJ(l:List Tz)(a:Nat)(hl:l.length<4294967296)(ha:a≤l.length):Fp 39 [] l a bJx (fName l a):=by
 intro _
 have ht:=xA (l:=l) (a:=a) hl (h:=⟨1001,og (frL l a),[]⟩) (R:=1000) (by decide) rfl
 have hfl:=zD (l:=l) (a:=a) hl (h:=⟨1001,og (frL l a),[]⟩) (R:=1000) (by decide) rfl
 unfold fName fD
 generalize aA l a=t at ht hfl
 obtain⟨tk,ta,te,tt⟩:=t
 cases hk:decide (tk=1)with
 |false=>
  dsimp only
  refine SCall.aI (fn:=Go.Proofs.Tryz.f39) (by kernel_rfl) bEx (by kernel_rfl) (by kernel_rfl) (Nat.le_refl _) rfl ((cO _ _)) bA ?_
  unfold bHz
  repeat apply sQ
  refine WR.q rfl ?_
  repeat apply sQ
  refine WR.m 1 rfl ?_
  refine WQ.c rfl (SCall.fI ht _) .base rfl ?_
  refine WQ.q rfl ?_
  repeat apply sQ
  refine WR.m 3 rfl ?_
  rw[hk]
  refine WQ.q rfl ?_
  repeat apply sQ
  refine WR.aD rfl ?_
  repeat apply sQ
  refine WR.m 1 rfl ?_
  refine WQ.aL rfl rfl rfl rfl rfl (SCall.fI hfl _) .base ⟨rfl,rfl,rfl,fun _ _=>rfl⟩
 |true=>
  dsimp only
  refine SCall.aI (fn:=Go.Proofs.Tryz.f39) (by kernel_rfl) bEx (by kernel_rfl) (by kernel_rfl) (Nat.le_refl _) rfl ((cO _ _)) (lS _) ?_
  unfold bHz
  repeat apply sQ
  refine WR.q rfl ?_
  repeat apply sQ
  refine WR.m 1 rfl ?_
  refine WQ.c rfl (SCall.fI ht _) .base rfl ?_
  refine WQ.q rfl ?_
  repeat apply sQ
  refine WR.m 3 rfl ?_
  rw[hk]
  refine WQ.q rfl ?_
  repeat apply sQ
  refine WR.k rfl ?_
  unfold aNj
  repeat apply sQ
  refine WR.m 5 rfl ?_
  rw[bI (by unfold big;omega)]
  refine WQ.q rfl ?_
  repeat apply sQ
  refine WR.q rfl ?_
  exact WR.e
def aCx(l:List Tz)(a:Nat):Int:=(aA l (a-1)).e
theorem aPx(l:List Tz)(a:Nat)(hl:l.length<4294967296)(ha:a≤l.length)(h1:1≤a):SCall Go.Proofs.Tryz.prog [] 76 [.ptr 1000 0] none ⟨1001,og (frL l a),[]⟩ (.ret (.int .i64 (aCx l a))) none ⟨1001,og (frL l a),[]⟩:=by
 unfold aCx
 have hc:l[a-1]? =some l[a-1]:=List.getElem?_eq_getElem (by omega)
 rw[fP hc]
 generalize l[a-1]=t at hc
 refine SCall.aI (fn:=Go.Proofs.Tryz.f76) (by kernel_rfl) bLl (by kernel_rfl) (by kernel_rfl) (Nat.le_refl _) rfl ((cO _ _)) trivial ?_
 unfold bJp
 unfold frL frO frC
 repeat apply sQ
 refine WR.q rfl ?_
 repeat apply sQ
 refine WR.aP aZ (DW.m 8 rfl ?_)
 refine DW.m 1 rfl ?_
 rw[pF (by omega) (by unfold big;omega)]
 refine DW.oW rfl (fun h=>gL (cs:=cD t) rfl rfl (by rw[List.getElem?_map,hc];rfl) rfl) rfl (DW.m 1000 rfl ?_)
 refine DW.cC pQ ?_
 exact WR.e
theorem aEn{l:List Tz}{a:Nat}(hl:l.length<4294967296)(ha:a≤l.length)(ha1:1≤a){h:H}{R:Nat}(hR:aC≤R)(h1:h.ob R=some (frO l a)):
  SCall Go.Proofs.Tryz.prog [] 76 [.ptr R 0] none h (.ret (.int .i64 (aCx l a))) none h:=
 bCr (aPx l a hl ha ha1) trivial trivial hR h1
end Go.VM
end
section
/- Files: types, parameters. -/
set_option maxRecDepth 100000
namespace Go.VM
open Go.RowKit
def cB(l:List Tz)(a:Nat):R Tx:=match tyF l a with
 |.ok x n=>.ok x n
 |.er _ _ p c=>.er a 0 p c
 |.out=>.out
def bLz(x:Tx):V:=.agg (iG x)
theorem qN{D:Nat→Prop}(x:Tx):(bLz x).In D:=kU x
theorem lX(l:List Tz)(a:Nat)(hl:l.length<4294967296)(ha:a≤l.length):Fp 78 [] l a bLz (cB l a):=by
 intro ho
 have ht:=tF l hl a ha
 unfold cB at ho⊢
 cases hf:tyF l a with
 |out=>rw[hf]at ho;cases ho
 |er a1 d1 p c=>
  have hc:=(xP hf).1
  rw[hf]at ht
  dsimp only
  refine SCall.aI (fn:=Go.Proofs.Tryz.f78) (by kernel_rfl) bFe (by kernel_rfl) (by kernel_rfl) (Nat.le_refl _) rfl ((cO _ _)) bA ?_
  unfold bIg
  unfold frL frO frC
  repeat apply sQ
  refine WR.q rfl ?_
  repeat apply sQ
  refine WR.aP aZ (DW.m 1000 rfl ?_)
  refine DW.eU pQ rfl rfl rfl rfl rfl (ht _) .base rfl (DW.m 1000 rfl ?_)
  refine DW.stS pQ rfl rfl rfl rfl (DW.m 1000 rfl ?_)
  refine DW.stS pQ rfl rfl rfl rfl (DW.m 1000 rfl (DW.cC pQ ?_))
  repeat apply sQ
  refine WR.m 3 rfl ?_
  rw[show decide (c=0)=false from decide_eq_false hc]
  refine WQ.q rfl ?_
  repeat apply sQ
  refine WR.aD rfl ?_
  repeat apply sQ
  refine WR.m 2 rfl ?_
  refine WQ.aUd rfl rfl rfl ⟨rfl,rfl,rfl,fun b hb=>uZ rfl hb⟩
 |ok x n=>
  have hn:=nO hf
  rw[hf]at ht
  obtain⟨xk,xa,xp,xn,xl⟩:=x
  dsimp only
  refine SCall.aI (fn:=Go.Proofs.Tryz.f78) (by kernel_rfl) bFe (by kernel_rfl) (by kernel_rfl) (Nat.le_refl _) rfl ((cO _ _)) (qN _) ?_
  unfold bIg
  unfold frL frO frC
  repeat apply sQ
  refine WR.q rfl ?_
  repeat apply sQ
  refine WR.aP aZ (DW.m 1000 rfl ?_)
  refine DW.eU pQ rfl rfl rfl rfl rfl (ht _) .base rfl (DW.m 1000 rfl ?_)
  refine DW.stS pQ rfl rfl rfl rfl (DW.m 1000 rfl ?_)
  refine DW.stS pQ rfl rfl rfl rfl (DW.m 1000 rfl (DW.cC pQ ?_))
  repeat apply sQ
  refine WR.q rfl ?_
  repeat apply sQ
  refine WR.k rfl ?_
  unfold aNr
  repeat apply sQ
  refine WR.q rfl ?_
  repeat apply sQ
  refine WR.q rfl ?_
  refine WR.ret ⟨rfl,rfl,⟨_,rfl,vQ⟩,fun b hb=>uZ rfl hb⟩
theorem mB{α:Type}{enc:α→V}{r:R α}(ho:r.aY=false)(h:∀(x:α) (_:Nat),(enc x).In (fun _=>False)){D:Nat→Prop}:(r.pP enc).In D:=by
 cases r with
 |out=>cases ho
 |er a d p c=>exact bA
 |ok v a=>exact V.In.mono (fun _ q=>q.elim) (h v a)
structure Pm where
 n:List Nat
 a:Int
 t:Tx
def fC(p:Pm):List V:=[.str p.n,.int .i64 p.a]++iG p.t
def bKw(p:Pm):V:=.agg (fC p)
theorem lD{D:Nat→Prop}:∀p:Pm,Ins D (fC p)
 |⟨n,a,.mk k b q m l⟩=>⟨trivial,trivial,trivial,trivial,trivial,trivial,⟨gH l,trivial⟩,trivial⟩
theorem tH{D:Nat→Prop}(p:Pm):(bKw p).In D:=lD p
theorem aBq:∀p:Pm,(fC p).length=7
 |⟨n,a,.mk k b q m l⟩=>rfl
def cK(l:List Tz)(a:Nat):R Pm:=(fName l a).bind fun t a1=>(cB l a1).bind fun x a2=>.ok ⟨t.t,t.a,x⟩ a2
theorem cI{l:List Tz}{a a1:Nat}{t:Tz}(h:fName l a=.ok t a1):a1=a+1∧a1≤l.length∧t=aA l a∧(aA l a).k=1:=by
 unfold fName at h
 cases hk:decide ((aA l a).k=1)with
 |false=>rw[hk]at h;cases h
 |true=>
  rw[hk]at h
  cases h
  have h1:=of_decide_eq_true hk
  exact⟨rfl,cP (by rw[h1];decide),rfl,h1⟩
theorem iO{l:List Tz}{a:Nat}:(fName l a).aY=false:=by
 unfold fName
 split<;>rfl
theorem eW{l:List Tz}{a a1:Nat}{x:Tx}(h:cB l a=.ok x a1):a<a1∧a1≤l.length:=by
 unfold cB at h
 split at h
 ·rename_i h1;cases h;exact nO h1
 ·cases h
 ·cases h
theorem aN{l:List Tz}{k:Int}{x:List Nat}{a a1:Nat}{u:Unit}(hk:k≠0)(h:bM l k x a=.ok u a1):a1=a+1∧a1≤l.length∧isF l a k x=true:=by
 unfold bM at h
 cases hi:isF l a k x with
 |false=>rw[hi]at h;cases h
 |true=>rw[hi]at h;cases h;exact⟨rfl,bH hi hk,rfl⟩
theorem bO{l:List Tz}{k:Int}{x:List Nat}{a:Nat}:(bM l k x a).aY=false:=by
 unfold bM
 split<;>rfl
theorem bU{l:List Tz}{a a1:Nat}{x:Pm}(h:cK l a=.ok x a1):a<a1∧a1≤l.length:=by
 unfold cK at h
 cases h1:fName l a with
 |out=>rw[h1]at h;cases h
 |er _ _ _ _=>rw[h1]at h;cases h
 |ok t a2=>
  rw[h1]at h
  have h2:=cI h1
  simp only[R.bind]at h
  cases h3:cB l a2 with
  |out=>rw[h3]at h;cases h
  |er _ _ _ _=>rw[h3]at h;cases h
  |ok y a3=>
   rw[h3]at h
   have h4:=eW h3
   cases h
   omega
theorem oZ(l:List Tz)(a:Nat)(hl:l.length<4294967296)(ha:a≤l.length):Fp 75 [] l a bKw (cK l a):=by
 intro ho
 have hn:=jJ l a hl ha
 unfold cK at ho⊢
 cases h1:fName l a with
 |out=>rw[h1]at ho;cases ho
 |er a1 d1 p c=>
  rw[h1]at hn
  simp only[R.bind]
  refine SCall.aI (fn:=Go.Proofs.Tryz.f75) (by kernel_rfl) aXp (by kernel_rfl) (by kernel_rfl) (Nat.le_refl _) rfl ((cO _ _)) bA ?_
  unfold bDk
  repeat apply sQ
  refine WR.q rfl ?_
  repeat apply sQ
  refine WR.m 1 rfl ?_
  refine WQ.aL rfl rfl rfl rfl rfl (hn.er trivial (R:=1000) (by decide) rfl) (.put .base rfl) ⟨rfl,rfl,rfl,fun _ _=>rfl⟩
 |ok t a1=>
  rw[h1]at hn ho
  have ht:=lX l a1 hl (cI h1).2.1
  obtain⟨tk,ta,te,tt⟩:=t
  simp only[R.bind]at ho⊢
  cases h2:cB l a1 with
  |out=>rw[h2]at ho;cases ho
  |er a2 d2 p c=>
   rw[h2]at ht
   refine SCall.aI (fn:=Go.Proofs.Tryz.f75) (by kernel_rfl) aXp (by kernel_rfl) (by kernel_rfl) (Nat.le_refl _) rfl ((cO _ _)) bA ?_
   unfold bDk
   repeat apply sQ
   refine WR.q rfl ?_
   repeat apply sQ
   refine WR.m 1 rfl ?_
   refine WQ.c rfl (hn.ok trivial (lS _) (R:=1000) (by decide) rfl) (.put .base rfl) rfl ?_
   refine WQ.q rfl ?_
   repeat apply sQ
   refine WR.aP aZ (DW.m 1000 rfl ?_)
   refine DW.aL pQ rfl rfl rfl rfl rfl (ht.er trivial (R:=1000) (by decide) rfl) (.put .base rfl) ⟨rfl,rfl,rfl,fun _ _=>rfl⟩
  |ok x a2=>
   rw[h2]at ht
   obtain⟨xk,xa,xp,xn,xl⟩:=x
   refine SCall.aI (fn:=Go.Proofs.Tryz.f75) (by kernel_rfl) aXp (by kernel_rfl) (by kernel_rfl) (Nat.le_refl _) rfl ((cO _ _)) (tH _) ?_
   unfold bDk
   repeat apply sQ
   refine WR.q rfl ?_
   repeat apply sQ
   refine WR.m 1 rfl ?_
   refine WQ.c rfl (hn.ok trivial (lS _) (R:=1000) (by decide) rfl) (.put .base rfl) rfl ?_
   refine WQ.q rfl ?_
   repeat apply sQ
   refine WR.aP aZ (DW.m 1000 rfl ?_)
   refine DW.eU pQ rfl rfl rfl rfl rfl (ht.ok trivial (qN _) (R:=1000) (by decide) rfl) (.put .base rfl) rfl (DW.m 1000 rfl ?_)
   refine DW.stS pQ rfl rfl rfl rfl (DW.m 1000 rfl (DW.cC pQ ?_))
   exact WR.e
end Go.VM
end
section
/- Files: several of something. -/
set_option maxRecDepth 100000
namespace Go.VM
open Go.RowKit
def lvG{α:Type}(e:α→List V):List α→V
 |[]=>.lst [] (.ex 0)
 |x::l=>.lst ((x::l).map e) (.tk 1001)
def vP{α:Type}:List α→OL
 |[]=>[]
 |x::l=>[(1001,.tok (x::l).length)]
def nxG{α:Type}:List α→Nat
 |[]=>1001
 |_::_=>1002
theorem eV{α:Type}{o:Obj}(acc:List α){b:Nat}(h:b<1001):og [(1000,o)] b=og ((1000,o)::vP acc) b:=by
 cases acc with
 |nil=>rfl
 |cons p l=>exact uZ rfl h
theorem kP{α:Type}(e:α→List V)(acc:List α):VLe (lvG e acc) (.lst (acc.map e) .unk):=by
 cases acc with
 |nil=>exact VLe.unk _ _
 |cons x l=>exact VLe.unk _ _
theorem aOh{α:Type}(e:α→List V)(acc:List α):∃c,lvG e acc=.lst (acc.map e) c:=by
 cases acc with
 |nil=>exact⟨_,rfl⟩
 |cons x l=>exact⟨_,rfl⟩
def nV{α:Type}(e:α→List V)(l:List α):V:=.lst (l.map e) .unk
theorem gE{α:Type}{D:Nat→Prop}{e:α→List V}(h:∀x,Ins D (e x)):∀l:List α,(nV e l).In D:=by
 intro l
 refine⟨?_,trivial⟩
 induction l with
 |nil=>trivial
 |cons x l ih=>exact⟨h x,ih⟩
def fT{α:Type}(l:List Tz)(rd:Nat→R α)(to:List Nat):Nat→List α→Nat→R (List α)
 |0,_,_=>.out
 |n+1,acc,a=>(rd a).bind fun x a1=>match isF l a1 4 [44]with
  |true=>fT l rd to n (acc++[x]) (a1+1)
  |false=>(bM l 4 to a1).bind fun _ a2=>.ok (acc++[x]) a2
def bC{α:Type}(l:List Tz)(rd:Nat→R α)(to:List Nat)(none:Bool)(m a:Nat):R (List α):=match none&&isF l a 4 to with
 |true=>.ok [] (a+1)
 |false=>fT l rd to m [] a
theorem aNd{α:Type}{l:List Tz}{rd:Nat→R α}(hr:∀a x a1,rd a=.ok x a1→a<a1∧a1≤l.length){to:List Nat}:∀(n:Nat) (acc:List α) (a:Nat) (xs:List α) (a':Nat),fT l rd to n acc a=.ok xs a'→a<a'∧a'≤l.length:=by
 intro n
 induction n with
 |zero=>intro acc a xs a' h;cases h
 |succ n ih=>
  intro acc a xs a' h
  unfold fT at h
  cases h1:rd a with
  |out=>rw[h1]at h;cases h
  |er _ _ _ _=>rw[h1]at h;cases h
  |ok x a1=>
   rw[h1]at h
   simp only[R.bind]at h
   have hx:=hr a x a1 h1
   split at h
   ·rename_i h2
    have:=ih _ _ _ _ h
    have:=bH h2 (by decide)
    omega
   ·cases h3:bM l 4 to a1 with
    |out=>rw[h3]at h;cases h
    |er _ _ _ _=>rw[h3]at h;cases h
    |ok u a2=>
     rw[h3]at h
     have:=aN (by decide) h3
     cases h
     omega
theorem cM{α:Type}{l:List Tz}{rd:Nat→R α}(hr:∀a x a1,rd a=.ok x a1→a<a1∧a1≤l.length){to:List Nat}{none:Bool}{m a:Nat}{xs:List α}{a':Nat}(h:bC l rd to none m a=.ok xs a'):a<a'∧a'≤l.length:=by
 unfold bC at h
 split at h
 ·rename_i h1
  rw[Bool.and_eq_true]at h1
  have:=bH h1.2 (by decide)
  cases h
  omega
 ·exact aNd hr _ _ _ _ _ h
theorem aKa{α:Type}{l:List Tz}{rd:Nat→R α}(hr:∀a x a1,rd a=.ok x a1→a<a1∧a1≤l.length)(hk:∀a,a≤l.length→(rd a).aY=false){to:List Nat}:∀(n:Nat) (acc:List α) (a:Nat),a≤l.length→l.length<a+n→(fT l rd to n acc a).aY=false:=by
 intro n
 induction n with
 |zero=>intro acc a h1 h2;omega
 |succ n ih=>
  intro acc a h1 h2
  unfold fT
  have h3:=hk a h1
  cases h4:rd a with
  |out=>rw[h4]at h3;cases h3
  |er _ _ _ _=>rfl
  |ok x a1=>
   have hx:=hr a x a1 h4
   simp only[R.bind]
   cases h5:isF l a1 4 [44]with
   |true=>have:=bH h5 (by decide);exact ih _ _ (by omega) (by omega)
   |false=>
    simp only
    have h6:=bO (l:=l) (k:=4) (x:=to) (a:=a1)
    cases h7:bM l 4 to a1 with
    |out=>rw[h7]at h6;cases h6
    |er _ _ _ _=>rfl
    |ok _ _=>rfl
theorem kQ{α:Type}{l:List Tz}{rd:Nat→R α}(hr:∀a x a1,rd a=.ok x a1→a<a1∧a1≤l.length)(hk:∀a,a≤l.length→(rd a).aY=false){to:List Nat}{none:Bool}{m a:Nat}(ha:a≤l.length)(hm:l.length<m):(bC l rd to none m a).aY=false:=by
 unfold bC
 split
 ·rfl
 ·exact aKa hr hk _ _ _ ha (by omega)
def bCg(G:FuncId)(to:List Nat)(v:V):TM:=[(0,.v (.ptr 1000 0)),(1,.v (.str to)),(3,.v (.fn (.func G) [.ptr 1000 0] [])),(8,.v v)]
theorem aMa{QN:S→Prop}{QX:X→S→Prop}(l:List Tz)(hl:l.length<20000)(to:List Nat):∀(n:Nat) (acc:List Pm) (a:Nat),a≤l.length→acc.length≤a→(fT l (cK l) to n acc a).aY=false→
  (∀x s,aAl Go.Proofs.Tryz.prog Go.Proofs.Tryz.f77 ((fT l (cK l) to n acc a).pP (nV fC)) 1001 (frL l (fT l (cK l) to n acc a).at') x s→QX x s)→
  WLr Go.Proofs.Tryz.prog [] ⟨Go.Proofs.Tryz.f77.ntmps,none,77⟩ wO (SL.toS ⟨bCg 75 to (lvG fC acc),[],none,nxG acc,(1000,frO l a)::vP acc,[]⟩) QN QX:=by
 intro n
 have hl':l.length<4294967296:=by omega
 induction n with
 |zero=>intro acc a _ _ ho;cases ho
 |succ n ih=>
  intro acc a ha hacc ho hq
  have sp:=oZ l a hl' ha
  unfold fT at ho hq
  unfold wO
  refine WLr.of (WR.block ?_)
  cases h1:cK l a with
  |out=>rw[h1]at ho;cases ho
  |er a1 d1 p c=>
   rw[h1]at sp hq
   repeat apply sQ
   refine WR.m 2 rfl ?_
   exact WQ.aL rfl rfl rfl rfl rfl (sp.er trivial (R:=1000) (by decide) rfl) (.put .base rfl) (hq (.panic _) _ ⟨rfl,rfl,rfl,fun b hb=>eV acc hb⟩)
  |ok x a1=>
   have hx:=bU h1
   rw[h1]at sp hq ho
   simp only[R.bind]at hq ho
   have sy:=eF l a1 hl' hx.2 to
   have ih:=fun hle ho hq=>ih (acc++[x]) (a1+1) hle (by simp;omega) ho hq
   obtain⟨xn,xa,⟨xtk,xta,xtp,xtn,xtl⟩⟩:=x
   cases acc with
   |nil=>
    repeat apply sQ
    refine WR.m 2 rfl ?_
    refine WQ.c rfl (sp.ok trivial (tH _) (R:=1000) (by decide) rfl) (.put .base rfl) rfl ?_
    refine WQ.m 1 rfl ?_
    refine WQ.dM rfl (iU (n2:=1) (es2:=[fC ⟨xn,xa,⟨xtk,xta,xtp,xtn,xtl⟩⟩]) rfl rfl (Nat.zero_lt_one) (by simp) (by simp) (by show 96*1≤lim;decide) rfl rfl rfl rfl) rfl ?_
    refine WQ.q rfl ?_
    repeat apply sQ
    refine WR.m 1 rfl ?_
    refine WQ.c rfl (iF (k:=4) (s:=[44]) hl' hx.2 (by decide) rfl) (.put .base rfl) rfl ?_
    unfold isA
    cases h2:isF l a1 4 [44]with
    |true=>
     rw[h2]at hq ho
     refine WQ.q rfl ?_
     repeat apply sQ
     refine WR.k rfl ?_
     refine WIr.again (WLr.weak ?_ (ih (by have:=bH h2 (by decide);omega) ho hq))
     refine SW.aM ?_ ?_
     ·exact tQ
     ·exact lQ
    |false=>
     rw[h2]at hq ho
     refine WQ.q rfl ?_
     repeat apply sQ
     refine WR.aD rfl ?_
     repeat apply sQ
     refine WR.m 2 rfl ?_
     cases h3:bM l 4 to a1 with
     |out=>rw[h3]at ho;cases ho
     |er a2 d2 p c=>
      rw[h3]at hq sy
      exact WQ.aL rfl rfl rfl rfl rfl (sy.er ⟨trivial,trivial⟩ (R:=1000) (by decide) rfl) (.put .base rfl) (hq (.panic _) _ ⟨rfl,rfl,rfl,fun b hb=>uZ rfl hb⟩)
     |ok u a2=>
      rw[h3]at hq sy
      refine WQ.c rfl (sy.ok ⟨trivial,trivial⟩ trivial (R:=1000) (by decide) rfl) (.put .base rfl) rfl ?_
      refine WQ.q rfl ?_
      repeat apply sQ
      refine WR.q rfl ?_
      exact WR.ret (hq .ret _ ⟨rfl,rfl,⟨_,rfl,VLe.unk _ _⟩,fun b hb=>uZ rfl hb⟩)
   |cons q r=>
    repeat apply sQ
    refine WR.m 2 rfl ?_
    refine WQ.c rfl (sp.ok trivial (tH _) (R:=1000) (by decide) rfl) (.put .base rfl) rfl ?_
    refine WQ.m 1 rfl ?_
    refine WQ.dM rfl (jD (n:=(q::r).length) (n2:=(q::r++[(⟨xn,xa,⟨xtk,xta,xtp,xtn,xtl⟩⟩:Pm)]).length) (es2:=(q::r++[(⟨xn,xa,⟨xtk,xta,xtp,xtn,xtl⟩⟩:Pm)]).map fC) rfl rfl rfl (List.length_map ..).symm ?_ ?_ ?_ rfl ?_ ?_ rfl) rfl ?_
    ·intro e he
     obtain⟨y,_,rfl⟩:=List.mem_map.1 (show e∈(q::r).map fC from he)
     exact aBq y
    ·simp
    ·simp only[List.length_map,List.length_cons,List.length_nil]at hacc⊢;unfold lim;omega
    ·rw[List.map_append];rfl
    ·simp
    refine WQ.q rfl ?_
    repeat apply sQ
    refine WR.m 1 rfl ?_
    refine WQ.c rfl (iF (k:=4) (s:=[44]) hl' hx.2 (by decide) rfl) (.put .base rfl) rfl ?_
    unfold isA
    cases h2:isF l a1 4 [44]with
    |true=>
     rw[h2]at hq ho
     refine WQ.q rfl ?_
     repeat apply sQ
     refine WR.k rfl ?_
     refine WIr.again (WLr.weak ?_ (ih (by have:=bH h2 (by decide);omega) ho hq))
     refine SW.aM ?_ ?_
     ·exact tQ
     ·exact lQ
    |false=>
     rw[h2]at hq ho
     refine WQ.q rfl ?_
     repeat apply sQ
     refine WR.aD rfl ?_
     repeat apply sQ
     refine WR.m 2 rfl ?_
     cases h3:bM l 4 to a1 with
     |out=>rw[h3]at ho;cases ho
     |er a2 d2 p c=>
      rw[h3]at hq sy
      exact WQ.aL rfl rfl rfl rfl rfl (sy.er ⟨trivial,trivial⟩ (R:=1000) (by decide) rfl) (.put .base rfl) (hq (.panic _) _ ⟨rfl,rfl,rfl,fun b hb=>eV (q::r++[(⟨xn,xa,⟨xtk,xta,xtp,xtn,xtl⟩⟩:Pm)]) hb⟩)
     |ok u a2=>
      rw[h3]at hq sy
      refine WQ.c rfl (sy.ok ⟨trivial,trivial⟩ trivial (R:=1000) (by decide) rfl) (.put .base rfl) rfl ?_
      refine WQ.q rfl ?_
      repeat apply sQ
      refine WR.q rfl ?_
      exact WR.ret (hq .ret _ ⟨rfl,rfl,⟨_,rfl,kP fC (q::r++[(⟨xn,xa,⟨xtk,xta,xtp,xtn,xtl⟩⟩:Pm)])⟩,fun b hb=>eV (q::r++[(⟨xn,xa,⟨xtk,xta,xtp,xtn,xtl⟩⟩:Pm)]) hb⟩)
theorem yE(l:List Tz)(hl:l.length<20000)(to:List Nat)(nn:Bool)(m a:Nat)(ha:a≤l.length):Fp 77 [.str to,.bool nn,.fn (.func 75) [.ptr 1000 0] []] l a (nV fC) (bC l (cK l) to nn m a):=by
 intro ho
 have hl':l.length<4294967296:=by omega
 have ht:=iF (l:=l) (a:=a) (k:=4) (s:=to) hl' ha (h:=⟨1001,og (frL l a),[]⟩) (R:=1000) (by decide) rfl
 have key:∀{QN:S→Prop} {QX:X→S→Prop} {tm:TM},TellT tm [] (bCg 75 to (lvG fC []))→(fT l (cK l) to m [] a).aY=false→
  (∀x s,aAl Go.Proofs.Tryz.prog Go.Proofs.Tryz.f77 ((fT l (cK l) to m [] a).pP (nV fC)) 1001 (frL l (fT l (cK l) to m [] a).at') x s→QX x s)→
  WLr Go.Proofs.Tryz.prog [] ⟨Go.Proofs.Tryz.f77.ntmps,none,77⟩ wO (SL.toS ⟨tm,[],none,1001,[(1000,frO l a)],[]⟩) QN QX:=
  fun htm h1 h2=>WLr.weak (SW.aM htm .nil) (aMa l hl to m [] a ha (Nat.zero_le _) h1 h2)
 unfold isA at ht
 unfold bC at ho⊢
 cases nn with
 |false=>
  refine SCall.aI (fn:=Go.Proofs.Tryz.f77) (by kernel_rfl) bAi (by kernel_rfl) (by kernel_rfl) (Nat.le_refl _) rfl (cO _ _) (by exact mB ho (fun x _=>gE (fun y=>lD y) x)) ?_
  unfold bDh
  repeat apply sQ
  refine WR.q rfl ?_
  repeat apply sQ
  refine WR.q rfl ?_
  repeat apply sQ
  refine WR.k rfl ?_
  refine WR.block (WR.loop (key ?_ ho (fun x s h=>by cases x<;>first|exact h|exact h.elim)))
  exact tQ
 |true=>
  rw[Bool.true_and]at ho⊢
  cases hi:isF l a 4 to with
  |true=>
   rw[hi]at ht
   refine SCall.aI (fn:=Go.Proofs.Tryz.f77) (by kernel_rfl) bAi (by kernel_rfl) (by kernel_rfl) (Nat.le_refl _) rfl ((cO _ _)) (by exact⟨trivial,trivial⟩) ?_
   unfold bDh
   repeat apply sQ
   refine WR.q rfl ?_
   repeat apply sQ
   refine WR.m 4 rfl ?_
   refine WQ.c rfl ht (.put .base rfl) rfl ?_
   refine WQ.q rfl ?_
   repeat apply sQ
   refine WR.aD rfl ?_
   repeat apply sQ
   refine WR.q rfl ?_
   exact WR.e
  |false=>
   rw[hi]at ht ho
   refine SCall.aI (fn:=Go.Proofs.Tryz.f77) (by kernel_rfl) bAi (by kernel_rfl) (by kernel_rfl) (Nat.le_refl _) rfl (cO _ _) (by exact mB ho (fun x _=>gE (fun y=>lD y) x)) ?_
   unfold bDh
   repeat apply sQ
   refine WR.q rfl ?_
   repeat apply sQ
   refine WR.m 4 rfl ?_
   refine WQ.c rfl ht (.put .base rfl) rfl ?_
   refine WQ.q rfl ?_
   repeat apply sQ
   refine WR.k rfl ?_
   refine WR.block (WR.loop (key ?_ ho (fun x s h=>by cases x<;>first|exact h|exact h.elim)))
   exact tQ
theorem aPv:∀x:Tx,(iG x).length=5
 |.mk .. =>rfl
theorem aKi{QN:S→Prop}{QX:X→S→Prop}(l:List Tz)(hl:l.length<20000)(to:List Nat):∀(n:Nat) (acc:List Tx) (a:Nat),a≤l.length→acc.length≤a→(fT l (cB l) to n acc a).aY=false→
  (∀x s,aAl Go.Proofs.Tryz.prog Go.Proofs.Tryz.f87 ((fT l (cB l) to n acc a).pP (nV iG)) 1001 (frL l (fT l (cB l) to n acc a).at') x s→QX x s)→
  WLr Go.Proofs.Tryz.prog [] ⟨Go.Proofs.Tryz.f87.ntmps,none,87⟩ wM (SL.toS ⟨bCg 78 to (lvG iG acc),[],none,nxG acc,(1000,frO l a)::vP acc,[]⟩) QN QX:=by
 intro n
 have hl':l.length<4294967296:=by omega
 induction n with
 |zero=>intro acc a _ _ ho;cases ho
 |succ n ih=>
  intro acc a ha hacc ho hq
  have sp:=lX l a hl' ha
  unfold fT at ho hq
  unfold wM
  refine WLr.of (WR.block ?_)
  cases h1:cB l a with
  |out=>rw[h1]at ho;cases ho
  |er a1 d1 p c=>
   rw[h1]at sp hq
   repeat apply sQ
   refine WR.m 2 rfl ?_
   exact WQ.aL rfl rfl rfl rfl rfl (sp.er trivial (R:=1000) (by decide) rfl) (.put .base rfl) (hq (.panic _) _ ⟨rfl,rfl,rfl,fun b hb=>eV acc hb⟩)
  |ok x a1=>
   have hx:=eW h1
   rw[h1]at sp hq ho
   simp only[R.bind]at hq ho
   have sy:=eF l a1 hl' hx.2 to
   have ih:=fun hle ho hq=>ih (acc++[x]) (a1+1) hle (by simp;omega) ho hq
   obtain⟨xtk,xta,xtp,xtn,xtl⟩:=x
   cases acc with
   |nil=>
    repeat apply sQ
    refine WR.m 2 rfl ?_
    refine WQ.c rfl (sp.ok trivial (qN _) (R:=1000) (by decide) rfl) (.put .base rfl) rfl ?_
    refine WQ.m 1 rfl ?_
    refine WQ.dM rfl (iU (n2:=1) (es2:=[iG ⟨xtk,xta,xtp,xtn,xtl⟩]) rfl rfl (Nat.zero_lt_one) (by simp) (by simp) (by show 72*1≤lim;decide) rfl rfl rfl rfl) rfl ?_
    refine WQ.q rfl ?_
    repeat apply sQ
    refine WR.m 1 rfl ?_
    refine WQ.c rfl (iF (k:=4) (s:=[44]) hl' hx.2 (by decide) rfl) (.put .base rfl) rfl ?_
    unfold isA
    cases h2:isF l a1 4 [44]with
    |true=>
     rw[h2]at hq ho
     refine WQ.q rfl ?_
     repeat apply sQ
     refine WR.k rfl ?_
     refine WIr.again (WLr.weak ?_ (ih (by have:=bH h2 (by decide);omega) ho hq))
     refine SW.aM ?_ ?_
     ·exact tQ
     ·exact lQ
    |false=>
     rw[h2]at hq ho
     refine WQ.q rfl ?_
     repeat apply sQ
     refine WR.aD rfl ?_
     repeat apply sQ
     refine WR.m 2 rfl ?_
     cases h3:bM l 4 to a1 with
     |out=>rw[h3]at ho;cases ho
     |er a2 d2 p c=>
      rw[h3]at hq sy
      exact WQ.aL rfl rfl rfl rfl rfl (sy.er ⟨trivial,trivial⟩ (R:=1000) (by decide) rfl) (.put .base rfl) (hq (.panic _) _ ⟨rfl,rfl,rfl,fun b hb=>uZ rfl hb⟩)
     |ok u a2=>
      rw[h3]at hq sy
      refine WQ.c rfl (sy.ok ⟨trivial,trivial⟩ trivial (R:=1000) (by decide) rfl) (.put .base rfl) rfl ?_
      refine WQ.q rfl ?_
      repeat apply sQ
      refine WR.q rfl ?_
      exact WR.ret (hq .ret _ ⟨rfl,rfl,⟨_,rfl,VLe.unk _ _⟩,fun b hb=>uZ rfl hb⟩)
   |cons q r=>
    repeat apply sQ
    refine WR.m 2 rfl ?_
    refine WQ.c rfl (sp.ok trivial (qN _) (R:=1000) (by decide) rfl) (.put .base rfl) rfl ?_
    refine WQ.m 1 rfl ?_
    refine WQ.dM rfl (jD (n:=(q::r).length) (n2:=(q::r++[(⟨xtk,xta,xtp,xtn,xtl⟩:Tx)]).length) (es2:=(q::r++[(⟨xtk,xta,xtp,xtn,xtl⟩:Tx)]).map iG) rfl rfl rfl (List.length_map ..).symm ?_ ?_ ?_ rfl ?_ ?_ rfl) rfl ?_
    ·intro e he
     obtain⟨y,_,rfl⟩:=List.mem_map.1 (show e∈(q::r).map iG from he)
     exact aPv y
    ·simp
    ·simp only[List.length_map,List.length_cons,List.length_nil]at hacc⊢;unfold lim;omega
    ·rw[List.map_append];rfl
    ·simp
    refine WQ.q rfl ?_
    repeat apply sQ
    refine WR.m 1 rfl ?_
    refine WQ.c rfl (iF (k:=4) (s:=[44]) hl' hx.2 (by decide) rfl) (.put .base rfl) rfl ?_
    unfold isA
    cases h2:isF l a1 4 [44]with
    |true=>
     rw[h2]at hq ho
     refine WQ.q rfl ?_
     repeat apply sQ
     refine WR.k rfl ?_
     refine WIr.again (WLr.weak ?_ (ih (by have:=bH h2 (by decide);omega) ho hq))
     refine SW.aM ?_ ?_
     ·exact tQ
     ·exact lQ
    |false=>
     rw[h2]at hq ho
     refine WQ.q rfl ?_
     repeat apply sQ
     refine WR.aD rfl ?_
     repeat apply sQ
     refine WR.m 2 rfl ?_
     cases h3:bM l 4 to a1 with
     |out=>rw[h3]at ho;cases ho
     |er a2 d2 p c=>
      rw[h3]at hq sy
      exact WQ.aL rfl rfl rfl rfl rfl (sy.er ⟨trivial,trivial⟩ (R:=1000) (by decide) rfl) (.put .base rfl) (hq (.panic _) _ ⟨rfl,rfl,rfl,fun b hb=>eV (q::r++[(⟨xtk,xta,xtp,xtn,xtl⟩:Tx)]) hb⟩)
     |ok u a2=>
      rw[h3]at hq sy
      refine WQ.c rfl (sy.ok ⟨trivial,trivial⟩ trivial (R:=1000) (by decide) rfl) (.put .base rfl) rfl ?_
      refine WQ.q rfl ?_
      repeat apply sQ
      refine WR.q rfl ?_
      exact WR.ret (hq .ret _ ⟨rfl,rfl,⟨_,rfl,kP iG (q::r++[(⟨xtk,xta,xtp,xtn,xtl⟩:Tx)])⟩,fun b hb=>eV (q::r++[(⟨xtk,xta,xtp,xtn,xtl⟩:Tx)]) hb⟩)
theorem aKd(l:List Tz)(hl:l.length<20000)(to:List Nat)(nn:Bool)(m a:Nat)(ha:a≤l.length):Fp 87 [.str to,.bool nn,.fn (.func 78) [.ptr 1000 0] []] l a (nV iG) (bC l (cB l) to nn m a):=by
 intro ho
 have hl':l.length<4294967296:=by omega
 have ht:=iF (l:=l) (a:=a) (k:=4) (s:=to) hl' ha (h:=⟨1001,og (frL l a),[]⟩) (R:=1000) (by decide) rfl
 have key:∀{QN:S→Prop} {QX:X→S→Prop} {tm:TM},TellT tm [] (bCg 78 to (lvG iG []))→(fT l (cB l) to m [] a).aY=false→
  (∀x s,aAl Go.Proofs.Tryz.prog Go.Proofs.Tryz.f87 ((fT l (cB l) to m [] a).pP (nV iG)) 1001 (frL l (fT l (cB l) to m [] a).at') x s→QX x s)→
  WLr Go.Proofs.Tryz.prog [] ⟨Go.Proofs.Tryz.f87.ntmps,none,87⟩ wM (SL.toS ⟨tm,[],none,1001,[(1000,frO l a)],[]⟩) QN QX:=
  fun htm h1 h2=>WLr.weak (SW.aM htm .nil) (aKi l hl to m [] a ha (Nat.zero_le _) h1 h2)
 unfold isA at ht
 unfold bC at ho⊢
 cases nn with
 |false=>
  refine SCall.aI (fn:=Go.Proofs.Tryz.f87) (by kernel_rfl) aYi (by kernel_rfl) (by kernel_rfl) (Nat.le_refl _) rfl (cO _ _) (by exact mB ho (fun x _=>gE (fun y=>kU y) x)) ?_
  unfold bCc
  repeat apply sQ
  refine WR.q rfl ?_
  repeat apply sQ
  refine WR.q rfl ?_
  repeat apply sQ
  refine WR.k rfl ?_
  refine WR.block (WR.loop (key ?_ ho (fun x s h=>by cases x<;>first|exact h|exact h.elim)))
  exact tQ
 |true=>
  rw[Bool.true_and]at ho⊢
  cases hi:isF l a 4 to with
  |true=>
   rw[hi]at ht
   refine SCall.aI (fn:=Go.Proofs.Tryz.f87) (by kernel_rfl) aYi (by kernel_rfl) (by kernel_rfl) (Nat.le_refl _) rfl ((cO _ _)) (by exact⟨trivial,trivial⟩) ?_
   unfold bCc
   repeat apply sQ
   refine WR.q rfl ?_
   repeat apply sQ
   refine WR.m 4 rfl ?_
   refine WQ.c rfl ht (.put .base rfl) rfl ?_
   refine WQ.q rfl ?_
   repeat apply sQ
   refine WR.aD rfl ?_
   repeat apply sQ
   refine WR.q rfl ?_
   exact WR.e
  |false=>
   rw[hi]at ht ho
   refine SCall.aI (fn:=Go.Proofs.Tryz.f87) (by kernel_rfl) aYi (by kernel_rfl) (by kernel_rfl) (Nat.le_refl _) rfl (cO _ _) (by exact mB ho (fun x _=>gE (fun y=>kU y) x)) ?_
   unfold bCc
   repeat apply sQ
   refine WR.q rfl ?_
   repeat apply sQ
   refine WR.m 4 rfl ?_
   refine WQ.c rfl ht (.put .base rfl) rfl ?_
   refine WQ.q rfl ?_
   repeat apply sQ
   refine WR.k rfl ?_
   refine WR.block (WR.loop (key ?_ ho (fun x s h=>by cases x<;>first|exact h|exact h.elim)))
   exact tQ
end Go.VM
end
