/- laid for this seat: RcRf VqA VqB VqC -/
import Derived.Test.YtipiffhjilidlaaGreatDoorVmR
import Derived.Test.YtipiffhjilidlaaGreatDoorVmS
import Derived.Test.YtipiffhjilidlaaGreatDoorProg
import Derived.ProofKit
import Derived.Test.YtipiffhjilidlaaGreatDoorVg9
set_option linter.unusedVariables false
set_option linter.unusedSimpArgs false
section
set_option maxRecDepth 100000
namespace Go.VM
open Go.RowKit
def rc4:RC:=.r [.op (.mv (.c (.bool false))) 2] (.r [.op (.c 5 []) 13,.mv 13 3] (.r [.mv 0 15,.op (.c 9 [.t 15]) 16,.mv 16 14,.op (.ext (.t 14) 0) 17,.op (.ext (.t 14) 1) 18,.op (.al [.o,.o]) 5,.mv 17 4,.s (.st (.t 5) (.t 18) 2)] (.seq (.r [.op (.fa (.t 5) 1) 19,.op (.ld (.t 19) none) 20,.op (.eq .int true (.t 20) (.i 0)) 21] (.cond (.t 21) (.r [.mv 3 22,.mv 22 2] .ret) .skip)) (.r [.mv 4 24,.op (.c 6 [.t 24,.c (.o)]) 25,.mv 25 23,.op (.ext (.t 23) 0) 26,.op (.ext (.t 23) 1) 27,.op (.ext (.t 23) 2) 28,.op (.al [.o,.o]) 8,.mv 26 6,.mv 27 7,.s (.st (.t 8) (.t 28) 2)] (.r [.mv 4 30,.op (.c 7 [.t 30,.c (.o)]) 31,.mv 31 29,.op (.ext (.t 29) 0) 32,.op (.ext (.t 29) 1) 33,.op (.ext (.t 29) 2) 34,.op (.al [.o,.o]) 11,.mv 32 9,.mv 33 10,.s (.st (.t 11) (.t 34) 2)] (.r [.mv 6 35,.mv 9 36,.op (.c 8 [.t 35,.t 36]) 37,.mv 37 12] (.r [.mv 3 38,.mv 38 39,.g (.mv (.t 12)) 40 39 true,.op (.pick (.t 39) (.t 40) (.c (.bool false))) 41,.mv 41 42,.g (.mv (.t 7)) 43 42 true,.g (.mv (.t 10)) 44 42 true,.g (.eq .int false (.t 43) (.t 44)) 45 42 true,.op (.pick (.t 42) (.t 45) (.c (.bool false))) 46,.mv 46 47,.g (.ld (.t 8) (some 2)) 48 47 true,.g (.ld (.t 11) (some 2)) 49 47 true,.g (.eq (.st [(0,.int),(1,.int)]) false (.t 48) (.t 49)) 50 47 true,.op (.pick (.t 47) (.t 50) (.c (.bool false))) 51,.mv 51 2] .ret)))))))
theorem bEh:(Go.Proofs.Tryz.f4.body).bind (aE Go.Proofs.Tryz.prog)=some rc4:=by kernel_rfl
def rc7:RC:=.r [.op (.mv (.c (.n))) 4,.op (.mv (.i 0)) 5,.op (.al [.o,.o]) 6] (.r [.mv 0 9,.mv 1 10,.op (.bld [.n,.o,.o,.o] [(0,1),(1,1),(2,2)] [(0,.t 9),(1,.t 10)]) 11,.op (.bx (.t 11)) 12,.mv 12 7] (.seq (.r [.mv 1 13,.op (.bin .lss (.t 13) (.i 0)) 14,.mv 14 15,.g (.mv (.t 1)) 16 15 false,.g (.mv (.t 0)) 17 15 false,.g (.lenL (.t 17)) 18 15 false,.g (.bin .gtr (.t 16) (.t 18)) 19 15 false,.op (.pick (.t 15) (.c (.bool true)) (.t 19)) 20] (.cond (.t 20) (.r [.mv 7 21,.op (.c 13 [.t 21,.c (.int .i64 5)]) 22] (.seq (.aO [.w 0 0 (.mv (.t 7)) [7] 23,.w 1 1 (.nc (.t 23)) [23] 24,.w 2 3 (.fa (.t 24) 2) [24] 25,.w 3 7 (.ld (.t 25) (some 2)) [25] 26,.w 4 0 (.mv (.c (.n))) [] 4,.w 5 16 (.mv (.i 0)) [] 5] [(.z 6 63 (.st (.t 6) (.t 26) 2) [6,26],[])] [23,24,25,26,4,5]) .ret)) .skip)) (.r [.mv 7 27,.op (.c 14 [.t 27,.c (.o)]) 28,.mv 28 8] (.seq (.r [.mv 7 29,.op (.nc (.t 29)) 30,.op (.fa (.t 30) 2) 31,.op (.fa (.t 31) 1) 32,.op (.ld (.t 32) none) 33,.op (.eq .int true (.t 33) (.i 0)) 34] (.cond (.t 34) (.seq (.aO [.w 0 0 (.mv (.t 7)) [7] 35,.w 1 1 (.nc (.t 35)) [35] 36,.w 2 3 (.fa (.t 36) 2) [36] 37,.w 3 7 (.ld (.t 37) (some 2)) [37] 38,.w 4 0 (.mv (.c (.n))) [] 4,.w 5 16 (.mv (.i 0)) [] 5] [(.z 6 63 (.st (.t 6) (.t 38) 2) [6,38],[])] [35,36,37,38,4,5]) .ret) .skip)) (.seq (.aO [.w 0 0 (.mv (.t 8)) [8] 39,.w 1 0 (.mv (.t 7)) [7] 40,.w 2 2 (.nc (.t 40)) [40] 41,.w 3 6 (.fa (.t 41) 1) [41] 42,.w 4 14 (.ld (.t 42) none) [42] 43,.w 5 0 (.bld [.o,.o] [(0,1),(1,1)] []) [] 44,.w 6 1 (.mv (.t 39)) [39] 4,.w 7 95 (.mv (.t 43)) [43] 5] [(.z 8 255 (.st (.t 6) (.t 44) 2) [6,44],[])] [39,40,41,42,43,44,4,5]) .ret)))))
theorem aXz:(Go.Proofs.Tryz.f7.body).bind (aE Go.Proofs.Tryz.prog)=some rc7:=by kernel_rfl
def bDt:RC:=.r [.mv 0 5,.op (.nc (.t 5)) 6,.op (.fa (.t 6) 2) 7,.op (.fa (.t 7) 1) 8,.op (.ld (.t 8) none) 9,.op (.eq .int false (.t 9) (.i 0)) 10] (.cond (.t 10) (.r [.mv 0 11,.op (.c 21 [.t 11]) 12,.op (.al [.o,.o,.o,.e]) 4,.s (.st (.t 4) (.t 12) 4)] (.reg [.mv 0 13,.op (.fa (.t 4) 1) 14,.op (.ld (.t 14) none) 15,.mv 1 16,.op (.bld [.o,.o] [(0,1),(1,1)] [(0,.t 15),(1,.t 16)]) 17,.op (.nc (.t 13)) 18,.op (.fa (.t 18) 2) 19,.s (.st (.t 19) (.t 17) 2)])) .skip)
theorem aZb:(Go.Proofs.Tryz.f13.body).bind (aE Go.Proofs.Tryz.prog)=some bDt:=by kernel_rfl
def oZ:RC:=.seq (.r [.mv 0 25,.op (.nc (.t 25)) 26,.op (.fa (.t 26) 2) 27,.op (.fa (.t 27) 1) 28,.op (.ld (.t 28) none) 29,.op (.eq .int false (.t 29) (.i 0)) 30] (.cond (.t 30) .skip (.exit 0))) (.block 1 (.r [.mv 0 31,.op (.c 22 [.t 31,.c (.str [125])]) 32,.mv 32 7] (.seq (.r [.mv 7 33] (.cond (.t 33) (.r [.mv 0 34,.op (.nc (.t 34)) 35,.op (.fa (.t 35) 1) 36,.op (.ld (.t 36) none) 37,.op (.bin .add (.t 37) (.i 1)) 38,.op (.nc (.t 34)) 39,.op (.fa (.t 39) 1) 40,.s (.st (.t 40) (.t 38) 1)] (.r [.mv 6 41,.mv 41 4] .ret)) .skip)) (.reg [.mv 6 42,.mv 0 43,.mv 1 44,.op (.c 23 [.t 43,.t 44]) 45,.op (.bs 17 1 [.o,.o,.e,.bool false,.o,.o,.o,.e,.o,.o,.o,.e,.e,.n,.n,.n,.n] [(0,.t 45)]) 46,.op (.app (.t 42) (.t 46) 17 232 [.o,.o,.e,.bool false,.o,.o,.o,.e,.o,.o,.o,.e,.e,.n,.n,.n,.n]) 47,.mv 47 6]))))
def aJc:RC:=.r [.mv 6 48,.mv 48 4] .ret
def aTs:RC:=.r [.op (.mv (.c (.n))) 4] (.r [.mv 0 8,.op (.c 22 [.t 8,.c (.str [123])]) 9,.mv 9 5] (.seq (.r [.mv 5 10,.op (.un .not (.t 10)) 11] (.cond (.t 11) (.r [.mv 0 12,.op (.c 13 [.t 12,.c (.int .i64 5)]) 13] (.r [.op (.mv (.c (.n))) 4] .ret)) .skip)) (.seq (.r [.mv 1 14,.op (.bin .geq (.t 14) (.i 30)) 15] (.cond (.t 15) (.r [.mv 0 16,.op (.c 13 [.t 16,.c (.int .i64 6)]) 17] (.r [.op (.mv (.c (.n))) 4] .ret)) .skip)) (.r [.mv 0 18,.op (.nc (.t 18)) 19,.op (.fa (.t 19) 1) 20,.op (.ld (.t 20) none) 21,.op (.bin .add (.t 21) (.i 1)) 22,.op (.nc (.t 18)) 23,.op (.fa (.t 23) 1) 24,.s (.st (.t 24) (.t 22) 1)] (.r [.op (.mv (.c (.n))) 6] (.seq (.block 0 (.loop oZ)) aJc))))))
theorem aSf:(Go.Proofs.Tryz.f14.body).bind (aE Go.Proofs.Tryz.prog)=some aTs:=by kernel_rfl
def aZj:RC:=.r [.op (.al [.o,.o,.o,.e]) 2] (.seq (.aO [.w 0 0 (.mv (.t 0)) [0] 3,.w 1 1 (.nc (.t 3)) [3] 4,.w 2 3 (.fa (.t 4) 0) [4] 5,.w 3 7 (.ld (.t 5) none) [5] 6,.w 4 0 (.mv (.t 0)) [0] 7,.w 5 16 (.nc (.t 7)) [7] 8,.w 6 48 (.fa (.t 8) 1) [8] 9,.w 7 112 (.ld (.t 9) none) [9] 10] [(.w 8 255 (.c 31 [.t 6,.t 10]) [6,10] 11,[]),(.z 9 511 (.st (.t 2) (.t 11) 4) [2,11],[])] [3,4,5,6,7,8,9,10,11]) .ret)
theorem bAc:(Go.Proofs.Tryz.f21.body).bind (aE Go.Proofs.Tryz.prog)=some aZj:=by kernel_rfl
def bCq:RC:=.r [.op (.mv (.c (.bool false))) 4] (.r [.mv 0 5,.op (.c 21 [.t 5]) 6,.mv 1 7,.op (.c 32 [.t 6,.c (.int .i64 4),.t 7]) 8,.mv 8 4] .ret)
theorem bDj:(Go.Proofs.Tryz.f22.body).bind (aE Go.Proofs.Tryz.prog)=some bCq:=by kernel_rfl
def aAi:RC:=.reg [.mv 0 98,.op (.c 35 [.t 98,.c (.str [59])]) 99]
def aBu:RC:=.r [.mv 0 124,.op (.c 33 [.t 124,.c (.str [101,108,115,101])]) 125,.mv 125 15] (.r [.mv 0 126,.op (.nc (.t 126)) 127,.op (.fa (.t 127) 2) 128,.op (.fa (.t 128) 1) 129,.op (.ld (.t 129) none) 130,.op (.eq .int false (.t 130) (.i 0)) 131,.mv 131 132,.g (.mv (.t 15)) 133 132 true,.op (.pick (.t 132) (.t 133) (.c (.bool false))) 134] (.cond (.t 134) (.r [.mv 0 135,.op (.nc (.t 135)) 136,.op (.fa (.t 136) 1) 137,.op (.ld (.t 137) none) 138,.op (.bin .add (.t 138) (.i 1)) 139,.op (.nc (.t 135)) 140,.op (.fa (.t 140) 1) 141,.s (.st (.t 141) (.t 139) 1)] (.r [.op (.fa (.t 6) 3) 142,.s (.st (.t 142) (.c (.bool true)) 1)] (.reg [.mv 0 143,.mv 1 144,.op (.bin .add (.t 144) (.i 1)) 145,.op (.c 14 [.t 143,.t 145]) 146,.op (.fa (.t 6) 16) 147,.s (.st (.t 147) (.t 146) 1)]))) .skip))
def fT:RC:=.r [.op (.ld (.t 6) (some 17)) 191,.s (.st (.t 4) (.t 191) 17)] .ret
def aMu:RC:=.r [.op (.al [.o,.o,.e,.bool false,.o,.o,.o,.e,.o,.o,.o,.e,.e,.n,.n,.n,.n]) 4] (.r [.mv 0 16,.op (.c 21 [.t 16]) 17,.op (.al [.o,.o,.o,.e]) 5,.s (.st (.t 5) (.t 17) 4)] (.r [.op (.fa (.t 5) 1) 18,.op (.ld (.t 18) none) 19,.op (.bld [.o,.o,.e,.bool false,.o,.o,.o,.e,.o,.o,.o,.e,.e,.n,.n,.n,.n] [(0,1),(1,1),(2,1),(3,1),(4,11),(15,1),(16,1)] [(1,.t 19)]) 20,.op (.al [.o,.o,.e,.bool false,.o,.o,.o,.e,.o,.o,.o,.e,.e,.n,.n,.n,.n]) 6,.s (.st (.t 6) (.t 20) 17)] (.r [.mv 0 21,.op (.c 33 [.t 21,.c (.str [108,101,116])]) 22,.mv 22 7] (.r [.mv 0 23,.op (.c 33 [.t 23,.c (.str [114,101,116,117,114,110])]) 24,.mv 24 8] (.r [.mv 0 25,.op (.c 33 [.t 25,.c (.str [105,102])]) 26,.mv 26 9] (.r [.mv 0 27,.op (.c 33 [.t 27,.c (.str [102,111,114])]) 28,.mv 28 10] (.seq (.aO [.w 0 0 (.mv (.t 0)) [0] 29,.w 1 1 (.nc (.t 29)) [29] 30,.w 2 3 (.fa (.t 30) 0) [30] 31,.w 3 7 (.ld (.t 31) none) [31] 32,.w 4 0 (.mv (.t 0)) [0] 33,.w 5 16 (.nc (.t 33)) [33] 34,.w 6 48 (.fa (.t 34) 1) [34] 35,.w 7 112 (.ld (.t 35) none) [35] 36,.w 8 240 (.bin .add (.t 36) (.i 1)) [36] 37,.w 10 0 (.al [.o,.o,.o,.e]) [] 11] [(.w 9 511 (.c 31 [.t 32,.t 37]) [32,37] 38,[]),(.z 11 2047 (.st (.t 11) (.t 38) 4) [11,38],[])] [29,30,31,32,33,34,35,36,37,38,11]) (.r [.op (.fa (.t 5) 0) 39,.op (.ld (.t 39) none) 40,.op (.eq .int false (.t 40) (.i 1)) 41,.mv 41 42,.g (.fa (.t 11) 0) 43 42 true,.g (.ld (.t 43) none) 44 42 true,.g (.eq .int false (.t 44) (.i 4)) 45 42 true,.op (.pick (.t 42) (.t 45) (.c (.bool false))) 46,.mv 46 47,.g (.fa (.t 11) 3) 48 47 true,.g (.ld (.t 48) none) 49 47 true,.g (.eq .str false (.t 49) (.c (.str [61]))) 50 47 true,.op (.pick (.t 47) (.t 50) (.c (.bool false))) 51,.mv 51 12] (.seq (.block 0 (.r [.mv 7 59,.mv 59 58] (.cond (.t 58) (.r [.mv 0 60,.op (.nc (.t 60)) 61,.op (.fa (.t 61) 1) 62,.op (.ld (.t 62) none) 63,.op (.bin .add (.t 63) (.i 1)) 64,.op (.nc (.t 60)) 65,.op (.fa (.t 65) 1) 66,.s (.st (.t 66) (.t 64) 1)] (.r [.op (.fa (.t 6) 0) 67,.s (.st (.t 67) (.i 1) 1)] (.r [.mv 0 68,.op (.c 34 [.t 68]) 69,.op (.al [.o,.o,.o,.e]) 13,.s (.st (.t 13) (.t 69) 4)] (.r [.op (.fa (.t 13) 3) 70,.op (.ld (.t 70) none) 71,.op (.fa (.t 6) 2) 72,.s (.st (.t 72) (.t 71) 1)] (.r [.mv 0 73,.op (.c 35 [.t 73,.c (.str [61])]) 74] (.r [.mv 0 75,.op (.c 36 [.t 75]) 76,.op (.fa (.t 6) 4) 77,.s (.st (.t 77) (.t 76) 11)] (.reg [.mv 0 78,.op (.c 35 [.t 78,.c (.str [59])]) 79]))))))) (.r [.mv 8 81,.mv 81 80] (.cond (.t 80) (.r [.mv 0 82,.op (.nc (.t 82)) 83,.op (.fa (.t 83) 1) 84,.op (.ld (.t 84) none) 85,.op (.bin .add (.t 85) (.i 1)) 86,.op (.nc (.t 82)) 87,.op (.fa (.t 87) 1) 88,.s (.st (.t 88) (.t 86) 1)] (.r [.op (.fa (.t 6) 0) 89,.s (.st (.t 89) (.i 3) 1)] (.r [.mv 0 90,.op (.c 22 [.t 90,.c (.str [59])]) 91,.mv 91 14] (.seq (.r [.mv 14 92,.op (.un .not (.t 92)) 93] (.cond (.t 93) (.r [.op (.fa (.t 6) 3) 94,.s (.st (.t 94) (.c (.bool true)) 1)] (.reg [.mv 0 95,.op (.c 36 [.t 95]) 96,.op (.fa (.t 6) 4) 97,.s (.st (.t 97) (.t 96) 11)])) .skip)) aAi)))) (.r [.mv 9 101,.mv 101 100] (.cond (.t 100) (.r [.mv 0 102,.op (.nc (.t 102)) 103,.op (.fa (.t 103) 1) 104,.op (.ld (.t 104) none) 105,.op (.bin .add (.t 105) (.i 1)) 106,.op (.nc (.t 102)) 107,.op (.fa (.t 107) 1) 108,.s (.st (.t 108) (.t 106) 1)] (.r [.op (.fa (.t 6) 0) 109,.s (.st (.t 109) (.i 4) 1)] (.r [.mv 0 110,.op (.c 36 [.t 110]) 111,.op (.fa (.t 6) 4) 112,.s (.st (.t 112) (.t 111) 11)] (.seq (.r [.mv 0 113,.op (.nc (.t 113)) 114,.op (.fa (.t 114) 2) 115,.op (.fa (.t 115) 1) 116,.op (.ld (.t 116) none) 117,.op (.eq .int false (.t 117) (.i 0)) 118] (.cond (.t 118) (.reg [.mv 0 119,.mv 1 120,.op (.bin .add (.t 120) (.i 1)) 121,.op (.c 14 [.t 119,.t 121]) 122,.op (.fa (.t 6) 15) 123,.s (.st (.t 123) (.t 122) 1)]) .skip)) aBu)))) (.r [.mv 10 149,.mv 149 148] (.cond (.t 148) (.r [.mv 0 150,.op (.nc (.t 150)) 151,.op (.fa (.t 151) 1) 152,.op (.ld (.t 152) none) 153,.op (.bin .add (.t 153) (.i 1)) 154,.op (.nc (.t 150)) 155,.op (.fa (.t 155) 1) 156,.s (.st (.t 156) (.t 154) 1)] (.r [.op (.fa (.t 6) 0) 157,.s (.st (.t 157) (.i 5) 1)] (.r [.mv 0 158,.op (.c 36 [.t 158]) 159,.op (.fa (.t 6) 4) 160,.s (.st (.t 160) (.t 159) 11)] (.r [.mv 0 161,.op (.nc (.t 161)) 162,.op (.fa (.t 162) 2) 163,.op (.fa (.t 163) 1) 164,.op (.ld (.t 164) none) 165,.op (.eq .int false (.t 165) (.i 0)) 166] (.cond (.t 166) (.reg [.mv 0 167,.mv 1 168,.op (.bin .add (.t 168) (.i 1)) 169,.op (.c 14 [.t 167,.t 169]) 170,.op (.fa (.t 6) 15) 171,.s (.st (.t 171) (.t 170) 1)]) .skip))))) (.r [.mv 12 173,.mv 173 172] (.cond (.t 172) (.r [.mv 0 174,.mv 0 175,.op (.nc (.t 175)) 176,.op (.fa (.t 176) 1) 177,.op (.ld (.t 177) none) 178,.op (.bin .add (.t 178) (.i 2)) 179,.op (.nc (.t 174)) 180,.op (.fa (.t 180) 1) 181,.s (.st (.t 181) (.t 179) 1)] (.r [.op (.fa (.t 6) 0) 182,.s (.st (.t 182) (.i 2) 1)] (.r [.op (.fa (.t 5) 3) 183,.op (.ld (.t 183) none) 184,.op (.fa (.t 6) 2) 185,.s (.st (.t 185) (.t 184) 1)] (.r [.mv 0 186,.op (.c 36 [.t 186]) 187,.op (.fa (.t 6) 4) 188,.s (.st (.t 188) (.t 187) 11)] (.reg [.mv 0 189,.op (.c 35 [.t 189,.c (.str [59])]) 190]))))) (.r [.op (.fa (.t 6) 0) 52,.s (.st (.t 52) (.i 6) 1)] (.r [.mv 0 53,.op (.c 36 [.t 53]) 54,.op (.fa (.t 6) 4) 55,.s (.st (.t 55) (.t 54) 11)] (.reg [.mv 0 56,.op (.c 35 [.t 56,.c (.str [59])]) 57])))))))))))))) fT)))))))))
theorem aZu:(Go.Proofs.Tryz.f23.body).bind (aE Go.Proofs.Tryz.prog)=some aMu:=by kernel_rfl
def aKo:RC:=.r [.mv 5 28,.mv 5 29,.op (.bld [.o,.o,.o,.e] [(0,1),(1,1),(2,1),(3,1)] [(1,.t 28),(2,.t 29)]) 30,.s (.st (.t 4) (.t 30) 4)] .ret
def aGh:RC:=.r [.op (.al [.o,.o,.o,.e]) 4] (.seq (.r [.mv 1 6,.op (.bin .geq (.t 6) (.i 0)) 7,.mv 7 8,.g (.mv (.t 1)) 9 8 true,.g (.mv (.t 0)) 10 8 true,.g (.lenL (.t 10)) 11 8 true,.g (.bin .lss (.t 9) (.t 11)) 12 8 true,.op (.pick (.t 8) (.t 12) (.c (.bool false))) 13] (.cond (.t 13) (.r [.mv 0 14,.mv 1 15,.op (.ia (.t 14) (.t 15) 4) 16,.op (.ld (.t 16) (some 4)) 17,.s (.st (.t 4) (.t 17) 4)] .ret) .skip)) (.r [.op (.mv (.i 0)) 5] (.seq (.r [.mv 0 18,.op (.lenL (.t 18)) 19,.op (.bin .gtr (.t 19) (.i 0)) 20] (.cond (.t 20) (.reg [.mv 0 21,.mv 0 22,.op (.lenL (.t 22)) 23,.op (.bin .sub (.t 23) (.i 1)) 24,.op (.ia (.t 21) (.t 24) 4) 25,.op (.fa (.t 25) 2) 26,.op (.ld (.t 26) none) 27,.mv 27 5]) .skip)) aKo)))
theorem bEa:(Go.Proofs.Tryz.f31.body).bind (aE Go.Proofs.Tryz.prog)=some aGh:=by kernel_rfl
def bAr:RC:=.r [.op (.bx (.t 0)) 3,.op (.mv (.c (.bool false))) 6] (.r [.op (.fa (.t 3) 0) 7,.op (.ld (.t 7) none) 8,.mv 1 9,.op (.eq .int false (.t 8) (.t 9)) 10,.mv 10 11,.g (.fa (.t 3) 3) 12 11 true,.g (.ld (.t 12) none) 13 11 true,.g (.mv (.t 2)) 14 11 true,.g (.eq .str false (.t 13) (.t 14)) 15 11 true,.op (.pick (.t 11) (.t 15) (.c (.bool false))) 16,.mv 16 6] .ret)
theorem bAn:(Go.Proofs.Tryz.f32.body).bind (aE Go.Proofs.Tryz.prog)=some bAr:=by kernel_rfl
def bBc:RC:=.r [.op (.mv (.c (.bool false))) 4] (.r [.mv 0 5,.op (.c 21 [.t 5]) 6,.mv 1 7,.op (.c 32 [.t 6,.c (.int .i64 5),.t 7]) 8,.mv 8 4] .ret)
theorem aZx:(Go.Proofs.Tryz.f33.body).bind (aE Go.Proofs.Tryz.prog)=some bBc:=by kernel_rfl
def aBp:RC:=.r [.mv 0 11,.op (.nc (.t 11)) 12,.op (.fa (.t 12) 1) 13,.op (.ld (.t 13) none) 14,.op (.bin .add (.t 14) (.i 1)) 15,.op (.nc (.t 11)) 16,.op (.fa (.t 16) 1) 17,.s (.st (.t 17) (.t 15) 1)] (.r [.op (.ld (.t 3) (some 4)) 18,.s (.st (.t 2) (.t 18) 4)] .ret)
def bDf:RC:=.r [.op (.al [.o,.o,.o,.e]) 2] (.r [.mv 0 4,.op (.c 21 [.t 4]) 5,.op (.al [.o,.o,.o,.e]) 3,.s (.st (.t 3) (.t 5) 4)] (.seq (.r [.op (.fa (.t 3) 0) 6,.op (.ld (.t 6) none) 7,.op (.eq .int true (.t 7) (.i 1)) 8] (.cond (.t 8) (.reg [.mv 0 9,.op (.c 13 [.t 9,.c (.int .i64 5)]) 10]) .skip)) aBp))
theorem bCw:(Go.Proofs.Tryz.f34.body).bind (aE Go.Proofs.Tryz.prog)=some bDf:=by kernel_rfl
def aAh:RC:=.r [.mv 0 14,.op (.c 21 [.t 14]) 15,.op (.al [.o,.o,.o,.e]) 6,.s (.st (.t 6) (.t 15) 4)] (.r [.mv 0 16,.op (.nc (.t 16)) 17,.op (.fa (.t 17) 1) 18,.op (.ld (.t 18) none) 19,.op (.bin .add (.t 19) (.i 1)) 20,.op (.nc (.t 16)) 21,.op (.fa (.t 21) 1) 22,.s (.st (.t 22) (.t 20) 1)] (.r [.op (.fa (.t 6) 2) 23,.op (.ld (.t 23) none) 24,.mv 24 4] .ret))
def bBz:RC:=.r [.op (.mv (.i 0)) 4] (.r [.mv 0 7,.mv 1 8,.op (.c 22 [.t 7,.t 8]) 9,.mv 9 5] (.seq (.r [.mv 5 10,.op (.un .not (.t 10)) 11] (.cond (.t 11) (.reg [.mv 0 12,.op (.c 13 [.t 12,.c (.int .i64 5)]) 13]) .skip)) aAh))
theorem bBr:(Go.Proofs.Tryz.f35.body).bind (aE Go.Proofs.Tryz.prog)=some bBz:=by kernel_rfl
def aSs:RC:=.r [.op (.al [.o,.o,.o,.e,.o,.o,.o,.e,.e,.n,.n]) 2] (.seq (.r [.mv 0 6,.op (.nc (.t 6)) 7,.op (.fa (.t 7) 2) 8,.op (.fa (.t 8) 1) 9,.op (.ld (.t 9) none) 10,.op (.eq .int true (.t 10) (.i 0)) 11] (.cond (.t 11) (.r [.op (.bld [.o,.o,.o,.e,.o,.o,.o,.e,.e,.n,.n] [(0,1),(1,1),(2,1),(3,1),(4,1),(5,5),(10,1)] []) 12,.s (.st (.t 2) (.t 12) 11)] .ret) .skip)) (.seq (.aO [.w 0 0 (.mv (.t 0)) [0] 14,.w 1 1 (.nc (.t 14)) [14] 15,.w 2 3 (.fa (.t 15) 0) [15] 16,.w 3 7 (.ld (.t 16) none) [16] 17,.w 4 0 (.mv (.t 0)) [0] 18,.w 5 16 (.nc (.t 18)) [18] 19,.w 6 48 (.fa (.t 19) 1) [19] 20,.w 7 112 (.ld (.t 20) none) [20] 21,.w 13 0 (.al [.o,.o,.o,.e,.o,.o,.o,.e,.e,.n,.n]) [] 3,.w 14 0 (.al [.o,.o]) [] 5] [(.w 8 255 (.c 48 [.t 17,.t 21]) [17,21] 22,[.w 9 511 (.mv (.t 22)) [22] 13,.w 10 1023 (.ext (.t 13) 0) [13] 23,.w 11 1023 (.ext (.t 13) 1) [13] 24,.w 12 1023 (.ext (.t 13) 2) [13] 25]),(.z 15 26623 (.st (.t 3) (.t 23) 11) [3,23],[.w 16 61439 (.mv (.t 24)) [24] 4]),(.z 17 131071 (.st (.t 5) (.t 25) 2) [5,25],[])] [14,15,16,17,18,19,20,21,22,13,23,24,25,3,5,4]) (.seq (.r [.op (.fa (.t 5) 1) 26,.op (.ld (.t 26) none) 27,.op (.eq .int true (.t 27) (.i 0)) 28] (.cond (.t 28) (.r [.mv 0 29,.op (.ld (.t 5) (some 2)) 30,.op (.nc (.t 29)) 31,.op (.fa (.t 31) 2) 32,.s (.st (.t 32) (.t 30) 2)] (.r [.op (.bld [.o,.o,.o,.e,.o,.o,.o,.e,.e,.n,.n] [(0,1),(1,1),(2,1),(3,1),(4,1),(5,5),(10,1)] []) 33,.s (.st (.t 2) (.t 33) 11)] .ret)) .skip)) (.r [.mv 0 34,.mv 4 35,.op (.nc (.t 34)) 36,.op (.fa (.t 36) 1) 37,.s (.st (.t 37) (.t 35) 1)] (.r [.op (.ld (.t 3) (some 11)) 38,.s (.st (.t 2) (.t 38) 11)] .ret)))))
theorem aQv:(Go.Proofs.Tryz.f36.body).bind (aE Go.Proofs.Tryz.prog)=some aSs:=by kernel_rfl
def aYn:RC:=.r [.op (.al [.o,.o,.o,.e,.o,.o,.o,.e,.e,.n,.n]) 4,.op (.mv (.i 0)) 5,.op (.al [.o,.o]) 6] (.r [.mv 0 9,.mv 1 10,.op (.bld [.n,.o,.o,.o] [(0,1),(1,1),(2,2)] [(0,.t 9),(1,.t 10)]) 11,.op (.bx (.t 11)) 12,.mv 12 7] (.seq (.r [.mv 1 13,.op (.bin .lss (.t 13) (.i 0)) 14,.mv 14 15,.g (.mv (.t 1)) 16 15 false,.g (.mv (.t 0)) 17 15 false,.g (.lenL (.t 17)) 18 15 false,.g (.bin .gtr (.t 16) (.t 18)) 19 15 false,.op (.pick (.t 15) (.c (.bool true)) (.t 19)) 20] (.cond (.t 20) (.r [.mv 7 21,.op (.c 13 [.t 21,.c (.int .i64 5)]) 22] (.seq (.aO [.op (.bld [.o,.o,.o,.e,.o,.o,.o,.e,.e,.n,.n] [(0,1),(1,1),(2,1),(3,1),(4,1),(5,5),(10,1)] []) 23,.w 1 0 (.mv (.t 7)) [7] 24,.w 2 2 (.nc (.t 24)) [24] 25,.w 3 6 (.fa (.t 25) 2) [25] 26,.w 4 14 (.ld (.t 26) (some 2)) [26] 27] [(.z 5 1 (.st (.t 4) (.t 23) 11) [4,23],[.w 6 33 (.mv (.i 0)) [] 5]),(.z 7 127 (.st (.t 6) (.t 27) 2) [6,27],[])] [23,24,25,26,27,5]) .ret)) .skip)) (.r [.mv 7 28,.op (.c 55 [.t 28,.c (.int .i64 1),.c (.o)]) 29,.op (.al [.o,.o,.o,.e,.o,.o,.o,.e,.e,.n,.n]) 8,.s (.st (.t 8) (.t 29) 11)] (.seq (.r [.mv 7 30,.op (.nc (.t 30)) 31,.op (.fa (.t 31) 2) 32,.op (.fa (.t 32) 1) 33,.op (.ld (.t 33) none) 34,.op (.eq .int true (.t 34) (.i 0)) 35] (.cond (.t 35) (.seq (.aO [.op (.bld [.o,.o,.o,.e,.o,.o,.o,.e,.e,.n,.n] [(0,1),(1,1),(2,1),(3,1),(4,1),(5,5),(10,1)] []) 36,.w 1 0 (.mv (.t 7)) [7] 37,.w 2 2 (.nc (.t 37)) [37] 38,.w 3 6 (.fa (.t 38) 2) [38] 39,.w 4 14 (.ld (.t 39) (some 2)) [39] 40] [(.z 5 1 (.st (.t 4) (.t 36) 11) [4,36],[.w 6 33 (.mv (.i 0)) [] 5]),(.z 7 127 (.st (.t 6) (.t 40) 2) [6,40],[])] [36,37,38,39,40,5]) .ret) .skip)) (.seq (.aO [.w 0 0 (.ld (.t 8) (some 11)) [8] 41,.w 1 0 (.mv (.t 7)) [7] 42,.w 2 2 (.nc (.t 42)) [42] 43,.w 3 6 (.fa (.t 43) 1) [43] 44,.w 4 14 (.ld (.t 44) none) [44] 45,.w 5 0 (.bld [.o,.o] [(0,1),(1,1)] []) [] 46] [(.z 6 1 (.st (.t 4) (.t 41) 11) [4,41],[.w 7 95 (.mv (.t 45)) [45] 5]),(.z 8 255 (.st (.t 6) (.t 46) 2) [6,46],[])] [41,42,43,44,45,46,5]) .ret)))))
theorem aWb:(Go.Proofs.Tryz.f48.body).bind (aE Go.Proofs.Tryz.prog)=some aYn:=by kernel_rfl
def qN:RC:=.seq (.r [.mv 0 20,.op (.nc (.t 20)) 21,.op (.fa (.t 21) 2) 22,.op (.fa (.t 22) 1) 23,.op (.ld (.t 23) none) 24,.op (.eq .int false (.t 24) (.i 0)) 25,.mv 25 26,.g (.mv (.t 0)) 27 26 true,.g (.c 21 [.t 27]) 28 26 true,.g (.c 62 [.t 28]) 29 26 true,.g (.mv (.t 1)) 30 26 true,.g (.eq .int false (.t 29) (.t 30)) 31 26 true,.op (.pick (.t 26) (.t 31) (.c (.bool false))) 32] (.cond (.t 32) .skip (.exit 0))) (.block 1 (.r [.mv 0 33,.op (.c 21 [.t 33]) 34,.op (.al [.o,.o,.o,.e]) 8,.s (.st (.t 8) (.t 34) 4)] (.r [.mv 0 35,.op (.nc (.t 35)) 36,.op (.fa (.t 36) 1) 37,.op (.ld (.t 37) none) 38,.op (.bin .add (.t 38) (.i 1)) 39,.op (.nc (.t 35)) 40,.op (.fa (.t 40) 1) 41,.s (.st (.t 41) (.t 39) 1)] (.r [.mv 0 42,.mv 1 43,.op (.bin .add (.t 43) (.i 1)) 44,.mv 2 45,.op (.c 55 [.t 42,.t 44,.t 45]) 46,.op (.al [.o,.o,.o,.e,.o,.o,.o,.e,.e,.n,.n]) 9,.s (.st (.t 9) (.t 46) 11)] (.reg [.op (.fa (.t 7) 1) 47,.op (.ld (.t 47) none) 48,.op (.fa (.t 9) 2) 49,.op (.ld (.t 49) none) 50,.op (.fa (.t 8) 3) 51,.op (.ld (.t 51) none) 52,.op (.ld (.t 7) (some 11)) 53,.op (.ld (.t 9) (some 11)) 54,.op (.bs 11 2 [.o,.o,.o,.e,.o,.o,.o,.e,.e,.n,.n] [(0,.t 53),(1,.t 54)]) 55,.op (.bld [.o,.o,.o,.e,.o,.o,.o,.e,.e,.n,.n] [(0,1),(1,1),(2,1),(3,1),(4,1),(5,5),(10,1)] [(0,.c (.int .i64 9)),(1,.t 48),(2,.t 50),(3,.t 52),(6,.t 55)]) 56,.s (.st (.t 7) (.t 56) 11)])))))
def uB:RC:=.r [.op (.ld (.t 7) (some 11)) 57,.s (.st (.t 6) (.t 57) 11)] .ret
def aMw:RC:=.r [.op (.al [.o,.o,.o,.e,.o,.o,.o,.e,.e,.n,.n]) 6] (.seq (.r [.mv 1 10,.op (.eq .int false (.t 10) (.i 5)) 11] (.cond (.t 11) (.r [.mv 0 12,.mv 2 13,.op (.c 61 [.t 12,.t 13]) 14,.s (.st (.t 6) (.t 14) 11)] .ret) .skip)) (.r [.mv 0 15,.mv 1 16,.op (.bin .add (.t 16) (.i 1)) 17,.mv 2 18,.op (.c 55 [.t 15,.t 17,.t 18]) 19,.op (.al [.o,.o,.o,.e,.o,.o,.o,.e,.e,.n,.n]) 7,.s (.st (.t 7) (.t 19) 11)] (.seq (.block 0 (.loop qN)) uB)))
theorem aDy:(Go.Proofs.Tryz.f55.body).bind (aE Go.Proofs.Tryz.prog)=some aMw:=by kernel_rfl
def jB:RC:=.seq (.r [.mv 0 51,.op (.nc (.t 51)) 52,.op (.fa (.t 52) 2) 53,.op (.fa (.t 53) 1) 54,.op (.ld (.t 54) none) 55,.op (.eq .int false (.t 55) (.i 0)) 56] (.cond (.t 56) .skip (.exit 0))) (.block 1 (.r [.mv 0 57,.op (.c 22 [.t 57,.c (.str [46])]) 58,.mv 58 10] (.r [.mv 0 59,.op (.c 22 [.t 59,.c (.str [40])]) 60,.mv 60 11] (.r [.mv 0 61,.op (.c 22 [.t 61,.c (.str [91])]) 62,.mv 62 12] (.block 2 (.r [.mv 10 65,.mv 65 64] (.cond (.t 64) (.r [.mv 0 66,.op (.nc (.t 66)) 67,.op (.fa (.t 67) 1) 68,.op (.ld (.t 68) none) 69,.op (.bin .add (.t 69) (.i 1)) 70,.op (.nc (.t 66)) 71,.op (.fa (.t 71) 1) 72,.s (.st (.t 72) (.t 70) 1)] (.r [.mv 0 73,.op (.c 34 [.t 73]) 74,.op (.al [.o,.o,.o,.e]) 13,.s (.st (.t 13) (.t 74) 4)] (.reg [.op (.fa (.t 9) 1) 75,.op (.ld (.t 75) none) 76,.op (.fa (.t 13) 2) 77,.op (.ld (.t 77) none) 78,.op (.fa (.t 13) 3) 79,.op (.ld (.t 79) none) 80,.op (.ld (.t 9) (some 11)) 81,.op (.bs 11 1 [.o,.o,.o,.e,.o,.o,.o,.e,.e,.n,.n] [(0,.t 81)]) 82,.op (.bld [.o,.o,.o,.e,.o,.o,.o,.e,.e,.n,.n] [(0,1),(1,1),(2,1),(3,1),(4,1),(5,5),(10,1)] [(0,.c (.int .i64 5)),(1,.t 76),(2,.t 78),(3,.t 80),(6,.t 82)]) 83,.s (.st (.t 9) (.t 83) 11)]))) (.r [.mv 11 85,.mv 85 84] (.cond (.t 84) (.r [.mv 0 87,.mv 1 88,.op (.c 69 [.t 87,.c (.str [40]),.c (.str [41]),.t 88]) 89,.mv 89 86,.op (.ext (.t 86) 0) 90,.op (.ext (.t 86) 1) 91,.mv 90 14,.mv 91 15] (.aO [.w 0 0 (.fa (.t 9) 1) [9] 92,.w 1 1 (.ld (.t 92) none) [92] 93,.w 2 0 (.mv (.t 15)) [15] 94,.w 3 0 (.ld (.t 9) (some 11)) [9] 95,.w 4 8 (.bs 11 1 [.o,.o,.o,.e,.o,.o,.o,.e,.e,.n,.n] [(0,.t 95)]) [95] 96,.w 5 0 (.mv (.t 14)) [14] 97] [(.w 6 56 (.app (.t 96) (.t 97) 11 144 [.o,.o,.o,.e,.o,.o,.o,.e,.e,.n,.n]) [96,97] 98,[.w 7 127 (.bld [.o,.o,.o,.e,.o,.o,.o,.e,.e,.n,.n] [(0,1),(1,1),(2,1),(3,1),(4,1),(5,5),(10,1)] [(0,.c (.int .i64 6)),(1,.t 93),(2,.t 94),(6,.t 98)]) [93,94,98] 99]),(.z 8 255 (.st (.t 9) (.t 99) 11) [9,99],[])] [92,93,94,95,96,97,98,99])) (.r [.mv 12 101,.mv 101 100] (.cond (.t 100) (.r [.mv 0 102,.mv 1 103,.op (.c 67 [.t 102,.t 103]) 104,.mv 104 16] (.seq (.r [.mv 16 105,.op (.un .not (.t 105)) 106] (.cond (.t 106) (.r [.op (.ld (.t 9) (some 11)) 107,.s (.st (.t 4) (.t 107) 11)] .ret) .skip)) (.r [.mv 0 108,.op (.nc (.t 108)) 109,.op (.fa (.t 109) 1) 110,.op (.ld (.t 110) none) 111,.op (.bin .add (.t 111) (.i 1)) 112,.op (.nc (.t 108)) 113,.op (.fa (.t 113) 1) 114,.s (.st (.t 114) (.t 112) 1)] (.r [.mv 0 115,.mv 1 116,.op (.bin .add (.t 116) (.i 1)) 117,.op (.c 55 [.t 115,.c (.int .i64 1),.t 117]) 118,.op (.al [.o,.o,.o,.e,.o,.o,.o,.e,.e,.n,.n]) 17,.s (.st (.t 17) (.t 118) 11)] (.r [.mv 0 119,.op (.c 35 [.t 119,.c (.str [93])]) 120,.mv 120 18] (.reg [.op (.fa (.t 9) 1) 121,.op (.ld (.t 121) none) 122,.mv 18 123,.op (.ld (.t 9) (some 11)) 124,.op (.ld (.t 17) (some 11)) 125,.op (.bs 11 2 [.o,.o,.o,.e,.o,.o,.o,.e,.e,.n,.n] [(0,.t 124),(1,.t 125)]) 126,.op (.bld [.o,.o,.o,.e,.o,.o,.o,.e,.e,.n,.n] [(0,1),(1,1),(2,1),(3,1),(4,1),(5,5),(10,1)] [(0,.c (.int .i64 7)),(1,.t 122),(2,.t 123),(6,.t 126)]) 127,.s (.st (.t 9) (.t 127) 11)])))))) (.r [.op (.ld (.t 9) (some 11)) 63,.s (.st (.t 4) (.t 63) 11)] .ret))))))))))))
def aAc:RC:=.r [.op (.ld (.t 9) (some 11)) 128,.s (.st (.t 4) (.t 128) 11)] .ret
def aGr:RC:=.r [.op (.al [.o,.o,.o,.e,.o,.o,.o,.e,.e,.n,.n]) 4] (.r [.mv 0 19,.op (.c 21 [.t 19]) 20,.op (.al [.o,.o,.o,.e]) 5,.s (.st (.t 5) (.t 20) 4)] (.r [.mv 0 21,.op (.c 22 [.t 21,.c (.str [33])]) 22,.mv 22 6] (.seq (.r [.mv 6 23] (.cond (.t 23) (.r [.mv 0 24,.mv 1 25,.op (.c 67 [.t 24,.t 25]) 26,.mv 26 7] (.seq (.r [.mv 7 27,.op (.un .not (.t 27)) 28] (.cond (.t 28) (.r [.op (.bld [.o,.o,.o,.e,.o,.o,.o,.e,.e,.n,.n] [(0,1),(1,1),(2,1),(3,1),(4,1),(5,5),(10,1)] []) 29,.s (.st (.t 4) (.t 29) 11)] .ret) .skip)) (.r [.mv 0 30,.op (.nc (.t 30)) 31,.op (.fa (.t 31) 1) 32,.op (.ld (.t 32) none) 33,.op (.bin .add (.t 33) (.i 1)) 34,.op (.nc (.t 30)) 35,.op (.fa (.t 35) 1) 36,.s (.st (.t 36) (.t 34) 1)] (.r [.mv 0 37,.mv 1 38,.op (.bin .add (.t 38) (.i 1)) 39,.op (.c 61 [.t 37,.t 39]) 40,.op (.al [.o,.o,.o,.e,.o,.o,.o,.e,.e,.n,.n]) 8,.s (.st (.t 8) (.t 40) 11)] (.r [.op (.fa (.t 5) 1) 41,.op (.ld (.t 41) none) 42,.op (.fa (.t 8) 2) 43,.op (.ld (.t 43) none) 44,.op (.ld (.t 8) (some 11)) 45,.op (.bs 11 1 [.o,.o,.o,.e,.o,.o,.o,.e,.e,.n,.n] [(0,.t 45)]) 46,.op (.bld [.o,.o,.o,.e,.o,.o,.o,.e,.e,.n,.n] [(0,1),(1,1),(2,1),(3,1),(4,1),(5,5),(10,1)] [(0,.c (.int .i64 10)),(1,.t 42),(2,.t 44),(6,.t 46)]) 47,.s (.st (.t 4) (.t 47) 11)] .ret))))) .skip)) (.r [.mv 0 48,.mv 1 49,.op (.c 68 [.t 48,.t 49]) 50,.op (.al [.o,.o,.o,.e,.o,.o,.o,.e,.e,.n,.n]) 9,.s (.st (.t 9) (.t 50) 11)] (.seq (.block 0 (.loop jB)) aAc)))))
theorem yX:(Go.Proofs.Tryz.f61.body).bind (aE Go.Proofs.Tryz.prog)=some aGr:=by kernel_rfl
def aBw:RC:=.cond (.t 13) (.r [.op (.mv (.i 3)) 2] .ret) (.r [.op (.eq .str false (.t 7) (.c (.str [42]))) 17,.mv 17 16] (.cond (.t 16) (.r [.op (.mv (.i 4)) 2] .ret) .skip))
def zR:RC:=.cond (.t 10) (.r [.op (.mv (.i 2)) 2] .ret) (.seq (.r [.op (.eq .str false (.t 7) (.c (.str [43]))) 14,.mv 14 13] (.cond (.t 13) .skip (.reg [.op (.eq .str false (.t 7) (.c (.str [45]))) 15,.mv 15 13]))) aBw)
def aKz:RC:=.r [.op (.mv (.i 0)) 2] .ret
def bBy:RC:=.r [.op (.bx (.t 0)) 1,.op (.mv (.i 0)) 2] (.seq (.r [.op (.fa (.t 1) 0) 3,.op (.ld (.t 3) none) 4,.op (.eq .int true (.t 4) (.i 4)) 5] (.cond (.t 5) (.r [.op (.mv (.i 0)) 2] .ret) .skip)) (.seq (.r [.op (.fa (.t 1) 3) 6,.op (.ld (.t 6) none) 7] (.block 0 (.r [.op (.eq .str false (.t 7) (.c (.str [38,38]))) 9,.mv 9 8] (.cond (.t 8) (.r [.op (.mv (.i 1)) 2] .ret) (.seq (.r [.op (.eq .str false (.t 7) (.c (.str [61,61]))) 11,.mv 11 10] (.cond (.t 10) .skip (.reg [.op (.eq .str false (.t 7) (.c (.str [60]))) 12,.mv 12 10]))) zR))))) aKz))
theorem bBq:(Go.Proofs.Tryz.f62.body).bind (aE Go.Proofs.Tryz.prog)=some bBy:=by kernel_rfl
def zH:RC:=.r [.mv 0 9,.op (.nc (.t 9)) 10,.op (.fa (.t 10) 2) 11,.op (.fa (.t 11) 1) 12,.op (.ld (.t 12) none) 13,.op (.eq .int false (.t 13) (.i 0)) 14,.mv 14 4] .ret
def bBs:RC:=.r [.op (.mv (.c (.bool false))) 4] (.seq (.r [.mv 1 5,.op (.bin .geq (.t 5) (.i 30)) 6] (.cond (.t 6) (.reg [.mv 0 7,.op (.c 13 [.t 7,.c (.int .i64 6)]) 8]) .skip)) zH)
theorem bDk:(Go.Proofs.Tryz.f67.body).bind (aE Go.Proofs.Tryz.prog)=some bBs:=by kernel_rfl
def zY:RC:=.r [.op (.fa (.t 6) 0) 50,.s (.st (.t 50) (.i 1) 1)] (.reg [.mv 11 51,.op (.fa (.t 6) 4) 52,.s (.st (.t 52) (.t 51) 1)])
def kE:RC:=.r [.mv 0 155,.op (.nc (.t 155)) 156,.op (.fa (.t 156) 1) 157,.op (.ld (.t 157) none) 158,.op (.bin .add (.t 158) (.i 1)) 159,.op (.nc (.t 155)) 160,.op (.fa (.t 160) 1) 161,.s (.st (.t 161) (.t 159) 1)] (.r [.op (.ld (.t 6) (some 11)) 162,.s (.st (.t 4) (.t 162) 11)] .ret)
def oC:RC:=.r [.op (.al [.o,.o,.o,.e,.o,.o,.o,.e,.e,.n,.n]) 4] (.r [.mv 0 19,.op (.c 21 [.t 19]) 20,.op (.al [.o,.o,.o,.e]) 5,.s (.st (.t 5) (.t 20) 4)] (.r [.op (.fa (.t 5) 1) 21,.op (.ld (.t 21) none) 22,.op (.fa (.t 5) 2) 23,.op (.ld (.t 23) none) 24,.op (.bld [.o,.o,.o,.e,.o,.o,.o,.e,.e,.n,.n] [(0,1),(1,1),(2,1),(3,1),(4,1),(5,5),(10,1)] [(1,.t 22),(2,.t 24)]) 25,.op (.al [.o,.o,.o,.e,.o,.o,.o,.e,.e,.n,.n]) 6,.s (.st (.t 6) (.t 25) 11)] (.r [.mv 0 26,.op (.c 33 [.t 26,.c (.str [116,114,117,101])]) 27,.mv 27 7] (.r [.mv 0 28,.op (.c 33 [.t 28,.c (.str [102,97,108,115,101])]) 29,.mv 29 8] (.r [.mv 0 30,.op (.c 33 [.t 30,.c (.str [110,101,119])]) 31,.mv 31 9] (.r [.mv 0 32,.op (.c 22 [.t 32,.c (.str [40])]) 33,.mv 33 10] (.seq (.block 0 (.r [.op (.fa (.t 5) 0) 37,.op (.ld (.t 37) none) 38,.op (.eq .int false (.t 38) (.i 2)) 39,.mv 39 36] (.cond (.t 36) (.r [.op (.fa (.t 5) 3) 41,.op (.ld (.t 41) none) 42,.op (.c 77 [.t 42]) 43,.mv 43 40,.op (.ext (.t 40) 0) 44,.op (.ext (.t 40) 1) 45,.mv 44 11,.mv 45 12] (.seq (.r [.mv 12 46,.op (.un .not (.t 46)) 47] (.cond (.t 47) (.reg [.mv 0 48,.op (.c 13 [.t 48,.c (.int .i64 2)]) 49]) .skip)) zY)) (.r [.op (.fa (.t 5) 0) 54,.op (.ld (.t 54) none) 55,.op (.eq .int false (.t 55) (.i 3)) 56,.mv 56 53] (.cond (.t 53) (.r [.op (.fa (.t 5) 3) 57,.op (.ld (.t 57) none) 58,.op (.lenS (.t 58)) 59,.mv 59 13] (.seq (.r [.mv 13 60,.op (.bin .lss (.t 60) (.i 2)) 61,.mv 61 62,.g (.fa (.t 5) 3) 63 62 false,.g (.ld (.t 63) none) 64 62 false,.g (.idxs (.t 64) (.i 0)) 65 62 false,.g (.eq .int true (.t 65) (.c (.int .u8 34))) 66 62 false,.op (.pick (.t 62) (.c (.bool true)) (.t 66)) 67,.mv 67 68,.g (.fa (.t 5) 3) 69 68 false,.g (.ld (.t 69) none) 70 68 false,.g (.mv (.t 13)) 71 68 false,.g (.bin .sub (.t 71) (.i 1)) 72 68 false,.g (.idxs (.t 70) (.t 72)) 73 68 false,.g (.eq .int true (.t 73) (.c (.int .u8 34))) 74 68 false,.op (.pick (.t 68) (.c (.bool true)) (.t 74)) 75] (.cond (.t 75) (.r [.mv 0 76,.op (.c 13 [.t 76,.c (.int .i64 3)]) 77] (.r [.op (.ld (.t 6) (some 11)) 78,.s (.st (.t 4) (.t 78) 11)] .ret)) .skip)) (.r [.op (.fa (.t 6) 0) 79,.s (.st (.t 79) (.i 2) 1)] (.reg [.op (.fa (.t 5) 3) 80,.op (.ld (.t 80) none) 81,.mv 13 82,.op (.bin .sub (.t 82) (.i 1)) 83,.op (.slc .str (.t 81) (some (.i 1)) (some (.t 83)) none) 84,.op (.fa (.t 6) 3) 85,.s (.st (.t 85) (.t 84) 1)])))) (.r [.mv 7 87,.mv 87 88,.g (.mv (.t 8)) 89 88 false,.op (.pick (.t 88) (.c (.bool true)) (.t 89)) 90,.mv 90 86] (.cond (.t 86) (.r [.op (.fa (.t 6) 0) 91,.s (.st (.t 91) (.i 3) 1)] (.r [.mv 7 92] (.cond (.t 92) (.reg [.op (.fa (.t 6) 4) 93,.s (.st (.t 93) (.i 1) 1)]) .skip))) (.r [.op (.fa (.t 5) 0) 95,.op (.ld (.t 95) none) 96,.op (.eq .int false (.t 96) (.i 1)) 97,.mv 97 94] (.cond (.t 94) (.r [.op (.fa (.t 6) 0) 98,.s (.st (.t 98) (.i 4) 1)] (.reg [.op (.fa (.t 5) 3) 99,.op (.ld (.t 99) none) 100,.op (.fa (.t 6) 3) 101,.s (.st (.t 101) (.t 100) 1)])) (.r [.mv 10 103,.mv 103 102] (.cond (.t 102) (.r [.mv 0 104,.mv 1 105,.op (.c 67 [.t 104,.t 105]) 106,.mv 106 14] (.seq (.r [.mv 14 107,.op (.un .not (.t 107)) 108] (.cond (.t 108) (.r [.op (.ld (.t 6) (some 11)) 109,.s (.st (.t 4) (.t 109) 11)] .ret) .skip)) (.r [.mv 0 110,.op (.nc (.t 110)) 111,.op (.fa (.t 111) 1) 112,.op (.ld (.t 112) none) 113,.op (.bin .add (.t 113) (.i 1)) 114,.op (.nc (.t 110)) 115,.op (.fa (.t 115) 1) 116,.s (.st (.t 116) (.t 114) 1)] (.r [.mv 0 117,.mv 1 118,.op (.bin .add (.t 118) (.i 1)) 119,.op (.c 55 [.t 117,.c (.int .i64 1),.t 119]) 120,.op (.al [.o,.o,.o,.e,.o,.o,.o,.e,.e,.n,.n]) 15,.s (.st (.t 15) (.t 120) 11)] (.r [.mv 0 121,.op (.c 35 [.t 121,.c (.str [41])]) 122] (.r [.op (.ld (.t 15) (some 11)) 123,.s (.st (.t 4) (.t 123) 11)] .ret)))))) (.r [.mv 9 125,.mv 125 124] (.cond (.t 124) (.r [.mv 0 126,.op (.nc (.t 126)) 127,.op (.fa (.t 127) 1) 128,.op (.ld (.t 128) none) 129,.op (.bin .add (.t 129) (.i 1)) 130,.op (.nc (.t 126)) 131,.op (.fa (.t 131) 1) 132,.s (.st (.t 132) (.t 130) 1)] (.r [.op (.fa (.t 6) 0) 133,.s (.st (.t 133) (.i 8) 1)] (.r [.mv 0 134,.op (.c 78 [.t 134]) 135,.op (.fa (.t 6) 5) 136,.s (.st (.t 136) (.t 135) 5)] (.r [.mv 0 137,.op (.c 22 [.t 137,.c (.str [123])]) 138,.mv 138 16] (.seq (.r [.mv 16 139,.op (.un .not (.t 139)) 140] (.cond (.t 140) (.r [.mv 0 141,.op (.c 13 [.t 141,.c (.int .i64 5)]) 142] (.r [.op (.ld (.t 6) (some 11)) 143,.s (.st (.t 4) (.t 143) 11)] .ret)) .skip)) (.r [.mv 0 145,.mv 1 146,.op (.c 69 [.t 145,.c (.str [123]),.c (.str [125]),.t 146]) 147,.mv 147 144,.op (.ext (.t 144) 0) 148,.op (.ext (.t 144) 1) 149,.mv 148 17,.mv 149 18] (.r [.mv 17 150,.op (.fa (.t 6) 10) 151,.s (.st (.t 151) (.t 150) 1)] (.r [.mv 18 152,.op (.fa (.t 6) 2) 153,.s (.st (.t 153) (.t 152) 1)] (.r [.op (.ld (.t 6) (some 11)) 154,.s (.st (.t 4) (.t 154) 11)] .ret))))))))) (.reg [.mv 0 34,.op (.c 13 [.t 34,.c (.int .i64 5)]) 35])))))))))))))) kE)))))))
theorem iX:(Go.Proofs.Tryz.f68.body).bind (aE Go.Proofs.Tryz.prog)=some oC:=by kernel_rfl
def iG:RC:=.seq (.r [.mv 0 33,.op (.nc (.t 33)) 34,.op (.fa (.t 34) 2) 35,.op (.fa (.t 35) 1) 36,.op (.ld (.t 36) none) 37,.op (.eq .int false (.t 37) (.i 0)) 38] (.cond (.t 38) .skip (.exit 0))) (.block 1 (.r [.mv 11 39,.mv 0 40,.mv 3 41,.op (.bin .add (.t 41) (.i 1)) 42,.op (.c 55 [.t 40,.c (.int .i64 1),.t 42]) 43,.op (.bs 11 1 [.o,.o,.o,.e,.o,.o,.o,.e,.e,.n,.n] [(0,.t 43)]) 44,.op (.app (.t 39) (.t 44) 11 144 [.o,.o,.o,.e,.o,.o,.o,.e,.e,.n,.n]) 45,.mv 45 11] (.r [.mv 0 46,.op (.c 22 [.t 46,.c (.str [44])]) 47,.mv 47 13] (.seq (.r [.mv 13 48,.op (.un .not (.t 48)) 49] (.cond (.t 49) (.exit 0) .skip)) (.reg [.mv 0 50,.op (.nc (.t 50)) 51,.op (.fa (.t 51) 1) 52,.op (.ld (.t 52) none) 53,.op (.bin .add (.t 53) (.i 1)) 54,.op (.nc (.t 50)) 55,.op (.fa (.t 55) 1) 56,.s (.st (.t 56) (.t 54) 1)])))))
def aBq:RC:=.r [.mv 11 57,.mv 0 58,.mv 2 59,.op (.c 35 [.t 58,.t 59]) 60,.mv 57 8,.mv 60 9] .ret
def aGi:RC:=.r [.op (.mv (.c (.n))) 8,.op (.mv (.i 0)) 9] (.r [.mv 0 14,.mv 3 15,.op (.c 67 [.t 14,.t 15]) 16,.mv 16 10] (.seq (.r [.mv 10 17,.op (.un .not (.t 17)) 18] (.cond (.t 18) (.r [.op (.mv (.c (.n))) 8,.op (.mv (.i 0)) 9] .ret) .skip)) (.r [.mv 0 19,.op (.nc (.t 19)) 20,.op (.fa (.t 20) 1) 21,.op (.ld (.t 21) none) 22,.op (.bin .add (.t 22) (.i 1)) 23,.op (.nc (.t 19)) 24,.op (.fa (.t 24) 1) 25,.s (.st (.t 25) (.t 23) 1)] (.r [.op (.mv (.c (.n))) 11] (.r [.mv 0 26,.mv 2 27,.op (.c 22 [.t 26,.t 27]) 28,.mv 28 12] (.seq (.r [.mv 12 29] (.cond (.t 29) (.r [.mv 0 30,.mv 2 31,.op (.c 35 [.t 30,.t 31]) 32,.op (.mv (.c (.n))) 8,.mv 32 9] .ret) .skip)) (.seq (.block 0 (.loop iG)) aBq)))))))
theorem xL:(Go.Proofs.Tryz.f69.body).bind (aE Go.Proofs.Tryz.prog)=some aGi:=by kernel_rfl
def aJj:RC:=.reg [.mv 5 18,.op (.bin .add (.t 18) (.i 1)) 19,.mv 19 5]
def tS:RC:=.seq (.r [.mv 5 14,.mv 0 15,.op (.lenS (.t 15)) 16,.op (.bin .lss (.t 14) (.t 16)) 17] (.cond (.t 17) .skip (.exit 0))) (.seq (.block 1 (.seq (.r [.mv 0 20,.mv 5 21,.op (.idxs (.t 20) (.t 21)) 22,.op (.bin .lss (.t 22) (.c (.int .u8 48))) 23,.mv 23 24,.g (.mv (.t 0)) 25 24 false,.g (.mv (.t 5)) 26 24 false,.g (.idxs (.t 25) (.t 26)) 27 24 false,.g (.bin .gtr (.t 27) (.c (.int .u8 57))) 28 24 false,.op (.pick (.t 24) (.c (.bool true)) (.t 28)) 29] (.cond (.t 29) (.r [.op (.mv (.i 0)) 2,.op (.mv (.c (.bool false))) 3] .ret) .skip)) (.reg [.mv 4 30,.op (.bin .mul (.i 10) (.t 30)) 31,.mv 0 32,.mv 5 33,.op (.idxs (.t 32) (.t 33)) 34,.op (.bin .sub (.t 34) (.c (.int .u8 48))) 35,.op (.cvi .i64 (.t 35)) 36,.op (.bin .add (.t 31) (.t 36)) 37,.mv 37 4]))) aJj)
def aKm:RC:=.r [.mv 4 38,.mv 38 2,.op (.mv (.c (.bool true))) 3] .ret
def bDa:RC:=.r [.op (.mv (.i 0)) 2,.op (.mv (.c (.bool false))) 3] (.seq (.r [.mv 0 6,.op (.lenS (.t 6)) 7,.op (.bin .lss (.t 7) (.i 1)) 8,.mv 8 9,.g (.mv (.t 0)) 10 9 false,.g (.lenS (.t 10)) 11 9 false,.g (.bin .gtr (.t 11) (.i 15)) 12 9 false,.op (.pick (.t 9) (.c (.bool true)) (.t 12)) 13] (.cond (.t 13) (.r [.op (.mv (.i 0)) 2,.op (.mv (.c (.bool false))) 3] .ret) .skip)) (.r [.op (.mv (.i 0)) 4] (.seq (.r [.op (.mv (.i 0)) 5] (.block 0 (.loop tS))) aKm)))
theorem bCa:(Go.Proofs.Tryz.f77.body).bind (aE Go.Proofs.Tryz.prog)=some bDa:=by kernel_rfl
def aYk:RC:=.r [.op (.al [.o,.o,.e,.e,.n]) 2] (.seq (.r [.mv 0 6,.op (.nc (.t 6)) 7,.op (.fa (.t 7) 2) 8,.op (.fa (.t 8) 1) 9,.op (.ld (.t 9) none) 10,.op (.eq .int true (.t 10) (.i 0)) 11] (.cond (.t 11) (.r [.op (.bld [.o,.o,.e,.e,.n] [(0,1),(1,1),(2,1),(3,1),(4,1)] []) 12,.s (.st (.t 2) (.t 12) 5)] .ret) .skip)) (.seq (.aO [.w 0 0 (.mv (.t 0)) [0] 14,.w 1 1 (.nc (.t 14)) [14] 15,.w 2 3 (.fa (.t 15) 0) [15] 16,.w 3 7 (.ld (.t 16) none) [16] 17,.w 4 0 (.mv (.t 0)) [0] 18,.w 5 16 (.nc (.t 18)) [18] 19,.w 6 48 (.fa (.t 19) 1) [19] 20,.w 7 112 (.ld (.t 20) none) [20] 21,.w 13 0 (.al [.o,.o,.e,.e,.n]) [] 3,.w 14 0 (.al [.o,.o]) [] 5] [(.w 8 255 (.c 83 [.t 17,.t 21]) [17,21] 22,[.w 9 511 (.mv (.t 22)) [22] 13,.w 10 1023 (.ext (.t 13) 0) [13] 23,.w 11 1023 (.ext (.t 13) 1) [13] 24,.w 12 1023 (.ext (.t 13) 2) [13] 25]),(.z 15 26623 (.st (.t 3) (.t 23) 5) [3,23],[.w 16 61439 (.mv (.t 24)) [24] 4]),(.z 17 131071 (.st (.t 5) (.t 25) 2) [5,25],[])] [14,15,16,17,18,19,20,21,22,13,23,24,25,3,5,4]) (.seq (.r [.op (.fa (.t 5) 1) 26,.op (.ld (.t 26) none) 27,.op (.eq .int true (.t 27) (.i 0)) 28] (.cond (.t 28) (.r [.mv 0 29,.op (.ld (.t 5) (some 2)) 30,.op (.nc (.t 29)) 31,.op (.fa (.t 31) 2) 32,.s (.st (.t 32) (.t 30) 2)] (.r [.op (.bld [.o,.o,.e,.e,.n] [(0,1),(1,1),(2,1),(3,1),(4,1)] []) 33,.s (.st (.t 2) (.t 33) 5)] .ret)) .skip)) (.r [.mv 0 34,.mv 4 35,.op (.nc (.t 34)) 36,.op (.fa (.t 36) 1) 37,.s (.st (.t 37) (.t 35) 1)] (.r [.op (.ld (.t 3) (some 5)) 38,.s (.st (.t 2) (.t 38) 5)] .ret)))))
theorem aVt:(Go.Proofs.Tryz.f78.body).bind (aE Go.Proofs.Tryz.prog)=some aYk:=by kernel_rfl
def bBo:RC:=.r [.op (.al [.o,.o,.e,.e,.n]) 4,.op (.mv (.i 0)) 5,.op (.al [.o,.o]) 6] (.seq (.r [.mv 1 7,.op (.bin .lss (.t 7) (.i 0)) 8,.mv 8 9,.g (.mv (.t 1)) 10 9 false,.g (.mv (.t 0)) 11 9 false,.g (.lenL (.t 11)) 12 9 false,.g (.bin .gtr (.t 10) (.t 12)) 13 9 false,.op (.pick (.t 9) (.c (.bool true)) (.t 13)) 14] (.cond (.t 14) (.r [.mv 0 15,.mv 1 16,.op (.c 31 [.t 15,.t 16]) 17,.op (.c 86 [.t 17,.c (.int .i64 5)]) 18,.op (.ext (.t 18) 0) 19,.op (.ext (.t 18) 1) 20,.op (.ext (.t 18) 2) 21,.s (.st (.t 4) (.t 19) 5),.mv 20 5,.s (.st (.t 6) (.t 21) 2)] .ret) .skip)) (.r [.mv 0 22,.mv 1 23,.op (.c 87 [.t 22,.t 23,.c (.o)]) 24,.op (.ext (.t 24) 0) 25,.op (.ext (.t 24) 1) 26,.op (.ext (.t 24) 2) 27,.s (.st (.t 4) (.t 25) 5),.mv 26 5,.s (.st (.t 6) (.t 27) 2)] .ret))
theorem aYu:(Go.Proofs.Tryz.f83.body).bind (aE Go.Proofs.Tryz.prog)=some bBo:=by kernel_rfl
def bCb:RC:=.r [.op (.bx (.t 0)) 2,.op (.al [.o,.o,.e,.e,.n]) 4,.op (.mv (.i 0)) 5,.op (.al [.o,.o]) 6] (.seq (.aO [.op (.bld [.o,.o,.e,.e,.n] [(0,1),(1,1),(2,1),(3,1),(4,1)] []) 7,.w 1 0 (.fa (.t 2) 1) [2] 8,.w 2 2 (.ld (.t 8) none) [8] 9,.w 3 0 (.mv (.t 1)) [1] 10,.w 4 14 (.bld [.o,.o] [(0,1),(1,1)] [(0,.t 9),(1,.t 10)]) [9,10] 11] [(.z 5 1 (.st (.t 4) (.t 7) 5) [4,7],[.w 6 33 (.mv (.i 0)) [] 5]),(.z 7 127 (.st (.t 6) (.t 11) 2) [6,11],[])] [7,8,9,10,11,5]) .ret)
theorem bDx:(Go.Proofs.Tryz.f86.body).bind (aE Go.Proofs.Tryz.prog)=some bCb:=by kernel_rfl
def bCd:RC:=.r [.op (.al [.o,.o,.e,.e,.n]) 6,.op (.mv (.i 0)) 7,.op (.al [.o,.o]) 8] (.r [.mv 0 17,.mv 1 18,.op (.c 31 [.t 17,.t 18]) 19,.op (.al [.o,.o,.o,.e]) 9,.s (.st (.t 9) (.t 19) 4)] (.seq (.r [.op (.fa (.t 9) 0) 20,.op (.ld (.t 20) none) 21,.op (.eq .int false (.t 21) (.i 5)) 22,.mv 22 23,.g (.fa (.t 9) 3) 24 23 true,.g (.ld (.t 24) none) 25 23 true,.g (.eq .str false (.t 25) (.c (.str [105,110,116]))) 26 23 true,.op (.pick (.t 23) (.t 26) (.c (.bool false))) 27] (.cond (.t 27) (.r [.op (.fa (.t 9) 1) 28,.op (.ld (.t 28) none) 29,.op (.bld [.o,.o,.e,.e,.n] [(0,1),(1,1),(2,1),(3,1),(4,1)] [(0,.c (.int .i64 1)),(1,.t 29)]) 30,.mv 1 31,.op (.bin .add (.t 31) (.i 1)) 32,.op (.bld [.o,.o] [(0,1),(1,1)] []) 33,.s (.st (.t 6) (.t 30) 5),.mv 32 7,.s (.st (.t 8) (.t 33) 2)] .ret) .skip)) (.seq (.r [.op (.fa (.t 9) 0) 34,.op (.ld (.t 34) none) 35,.op (.eq .int false (.t 35) (.i 5)) 36,.mv 36 37,.g (.fa (.t 9) 3) 38 37 true,.g (.ld (.t 38) none) 39 37 true,.g (.eq .str false (.t 39) (.c (.str [98,111,111,108]))) 40 37 true,.op (.pick (.t 37) (.t 40) (.c (.bool false))) 41] (.cond (.t 41) (.r [.op (.fa (.t 9) 1) 42,.op (.ld (.t 42) none) 43,.op (.bld [.o,.o,.e,.e,.n] [(0,1),(1,1),(2,1),(3,1),(4,1)] [(0,.c (.int .i64 2)),(1,.t 43)]) 44,.mv 1 45,.op (.bin .add (.t 45) (.i 1)) 46,.op (.bld [.o,.o] [(0,1),(1,1)] []) 47,.s (.st (.t 6) (.t 44) 5),.mv 46 7,.s (.st (.t 8) (.t 47) 2)] .ret) .skip)) (.seq (.r [.op (.fa (.t 9) 0) 48,.op (.ld (.t 48) none) 49,.op (.eq .int false (.t 49) (.i 5)) 50,.mv 50 51,.g (.fa (.t 9) 3) 52 51 true,.g (.ld (.t 52) none) 53 51 true,.g (.eq .str false (.t 53) (.c (.str [116,101,120,116]))) 54 51 true,.op (.pick (.t 51) (.t 54) (.c (.bool false))) 55] (.cond (.t 55) (.r [.op (.fa (.t 9) 1) 56,.op (.ld (.t 56) none) 57,.op (.bld [.o,.o,.e,.e,.n] [(0,1),(1,1),(2,1),(3,1),(4,1)] [(0,.c (.int .i64 3)),(1,.t 57)]) 58,.mv 1 59,.op (.bin .add (.t 59) (.i 1)) 60,.op (.bld [.o,.o] [(0,1),(1,1)] []) 61,.s (.st (.t 6) (.t 58) 5),.mv 60 7,.s (.st (.t 8) (.t 61) 2)] .ret) .skip)) (.seq (.r [.op (.fa (.t 9) 0) 62,.op (.ld (.t 62) none) 63,.op (.eq .int false (.t 63) (.i 1)) 64] (.cond (.t 64) (.r [.mv 0 65,.mv 1 66,.op (.bin .add (.t 66) (.i 1)) 67,.op (.c 31 [.t 65,.t 67]) 68,.op (.c 32 [.t 68,.c (.int .i64 4),.c (.str [46])]) 69,.mv 69 10] (.seq (.r [.mv 10 70,.op (.un .not (.t 70)) 71] (.cond (.t 71) (.r [.op (.fa (.t 9) 1) 72,.op (.ld (.t 72) none) 73,.op (.fa (.t 9) 3) 74,.op (.ld (.t 74) none) 75,.op (.bld [.o,.o,.e,.e,.n] [(0,1),(1,1),(2,1),(3,1),(4,1)] [(0,.c (.int .i64 4)),(1,.t 73),(3,.t 75)]) 76,.mv 1 77,.op (.bin .add (.t 77) (.i 1)) 78,.op (.bld [.o,.o] [(0,1),(1,1)] []) 79,.s (.st (.t 6) (.t 76) 5),.mv 78 7,.s (.st (.t 8) (.t 79) 2)] .ret) .skip)) (.r [.mv 0 80,.mv 1 81,.op (.bin .add (.t 81) (.i 2)) 82,.op (.c 31 [.t 80,.t 82]) 83,.op (.al [.o,.o,.o,.e]) 11,.s (.st (.t 11) (.t 83) 4)] (.seq (.r [.op (.fa (.t 11) 0) 84,.op (.ld (.t 84) none) 85,.op (.eq .int true (.t 85) (.i 1)) 86] (.cond (.t 86) (.r [.op (.ld (.t 11) (some 4)) 87,.op (.c 86 [.t 87,.c (.int .i64 5)]) 88,.op (.ext (.t 88) 0) 89,.op (.ext (.t 88) 1) 90,.op (.ext (.t 88) 2) 91,.s (.st (.t 6) (.t 89) 5),.mv 90 7,.s (.st (.t 8) (.t 91) 2)] .ret) .skip)) (.r [.op (.fa (.t 9) 1) 92,.op (.ld (.t 92) none) 93,.op (.fa (.t 9) 3) 94,.op (.ld (.t 94) none) 95,.op (.fa (.t 11) 3) 96,.op (.ld (.t 96) none) 97,.op (.bld [.o,.o,.e,.e,.n] [(0,1),(1,1),(2,1),(3,1),(4,1)] [(0,.c (.int .i64 4)),(1,.t 93),(2,.t 95),(3,.t 97)]) 98,.mv 1 99,.op (.bin .add (.t 99) (.i 3)) 100,.op (.bld [.o,.o] [(0,1),(1,1)] []) 101,.s (.st (.t 6) (.t 98) 5),.mv 100 7,.s (.st (.t 8) (.t 101) 2)] .ret))))) .skip)) (.r [.op (.ld (.t 9) (some 4)) 102,.op (.c 32 [.t 102,.c (.int .i64 4),.c (.str [91])]) 103,.mv 103 12] (.seq (.r [.mv 12 104,.op (.un .not (.t 104)) 105] (.cond (.t 105) (.r [.op (.ld (.t 9) (some 4)) 106,.op (.c 86 [.t 106,.c (.int .i64 5)]) 107,.op (.ext (.t 107) 0) 108,.op (.ext (.t 107) 1) 109,.op (.ext (.t 107) 2) 110,.s (.st (.t 6) (.t 108) 5),.mv 109 7,.s (.st (.t 8) (.t 110) 2)] .ret) .skip)) (.seq (.r [.mv 2 111,.op (.bin .geq (.t 111) (.i 30)) 112] (.cond (.t 112) (.r [.op (.ld (.t 9) (some 4)) 113,.op (.c 86 [.t 113,.c (.int .i64 6)]) 114,.op (.ext (.t 114) 0) 115,.op (.ext (.t 114) 1) 116,.op (.ext (.t 114) 2) 117,.s (.st (.t 6) (.t 115) 5),.mv 116 7,.s (.st (.t 8) (.t 117) 2)] .ret) .skip)) (.r [.mv 0 118,.mv 1 119,.op (.bin .add (.t 119) (.i 1)) 120,.op (.c 31 [.t 118,.t 120]) 121,.op (.c 32 [.t 121,.c (.int .i64 4),.c (.str [93])]) 122,.mv 122 13] (.seq (.r [.mv 13 123,.op (.un .not (.t 123)) 124] (.cond (.t 124) (.r [.mv 0 125,.mv 1 126,.op (.bin .add (.t 126) (.i 1)) 127,.op (.c 31 [.t 125,.t 127]) 128,.op (.c 86 [.t 128,.c (.int .i64 5)]) 129,.op (.ext (.t 129) 0) 130,.op (.ext (.t 129) 1) 131,.op (.ext (.t 129) 2) 132,.s (.st (.t 6) (.t 130) 5),.mv 131 7,.s (.st (.t 8) (.t 132) 2)] .ret) .skip)) (.r [.mv 0 134,.mv 1 135,.op (.bin .add (.t 135) (.i 2)) 136,.mv 2 137,.op (.bin .add (.t 137) (.i 1)) 138,.op (.c 87 [.t 134,.t 136,.t 138]) 139,.mv 139 133,.op (.ext (.t 133) 0) 140,.op (.ext (.t 133) 1) 141,.op (.ext (.t 133) 2) 142,.op (.al [.o,.o,.e,.e,.n]) 14,.op (.al [.o,.o]) 16,.s (.st (.t 14) (.t 140) 5),.mv 141 15,.s (.st (.t 16) (.t 142) 2)] (.seq (.r [.op (.fa (.t 16) 1) 143,.op (.ld (.t 143) none) 144,.op (.eq .int true (.t 144) (.i 0)) 145] (.cond (.t 145) (.seq (.aO [.op (.bld [.o,.o,.e,.e,.n] [(0,1),(1,1),(2,1),(3,1),(4,1)] []) 146,.w 1 0 (.ld (.t 16) (some 2)) [16] 147] [(.z 2 1 (.st (.t 6) (.t 146) 5) [6,146],[.w 3 5 (.mv (.i 0)) [] 7]),(.z 4 15 (.st (.t 8) (.t 147) 2) [8,147],[])] [146,147,7]) .ret) .skip)) (.r [.op (.fa (.t 9) 1) 148,.op (.ld (.t 148) none) 149,.op (.ld (.t 14) (some 5)) 150,.op (.bs 5 1 [.o,.o,.e,.e,.n] [(0,.t 150)]) 151,.op (.bld [.o,.o,.e,.e,.n] [(0,1),(1,1),(2,1),(3,1),(4,1)] [(0,.c (.int .i64 5)),(1,.t 149),(4,.t 151)]) 152,.mv 15 153,.op (.bld [.o,.o] [(0,1),(1,1)] []) 154,.s (.st (.t 6) (.t 152) 5),.mv 153 7,.s (.st (.t 8) (.t 154) 2)] .ret)))))))))))))
theorem bBk:(Go.Proofs.Tryz.f87.body).bind (aE Go.Proofs.Tryz.prog)=some bCd:=by kernel_rfl
end Go.VM
end
section
/- The document's types: what they come to. -/
set_option maxRecDepth 100000
namespace Go.VM
open Go.RowKit
def tyG(l:List Tz):Nat→Nat→R Tx
 |m,a=>match eX (aA l a) [91]with
  |false=>match dD l a with
   |.ok x a2=>.ok x (a2+1)
   |.er _ _ p c=>.er 0 0 p c
   |.out=>.out
  |true=>match m with
   |0=>.er 0 0 (aA l a).a 6
   |m+1=>match eX (aA l (a+1)) [93]with
    |false=>.er 0 0 (aA l (a+1)).a 5
    |true=>match tyG l m (a+2)with
     |.ok x a2=>.ok (.mk 5 (aA l a).a [] [] [x]) a2
     |.er _ _ p c=>.er 0 0 p c
     |.out=>.out
theorem pP(l:List Tz):∀(m a:Nat) (ls:List Int),cI l m a ls=match cI l m a []with|.brk a' q=>.brk a' (ls++q)|.er p c=>.er p c
 |0,a,ls=>by
  simp only[cI]
  split<;>simp
 |m+1,a,ls=>by
  simp only[cI]
  split
  ·simp
  ·split
   ·rfl
   ·rw[pP l m (a+2) (ls++[(aA l a).a]),pP l m (a+2) ([]++[(aA l a).a])]
    split<;>simp
def tyH(l:List Tz)(m a:Nat):R Tx:=match cI l m a []with
 |.er p c=>.er 0 0 p c
 |.brk a' ls=>match dD l a' with
  |.ok x a2=>.ok (iC ls x) (a2+1)
  |.er _ _ p c=>.er 0 0 p c
  |.out=>.out
theorem aOm(l:List Tz):∀m a,tyG l m a=tyH l m a
 |0,a=>by
  unfold tyG tyH
  simp only[cI]
  cases eX (aA l a) [91]with
  |false=>
   simp only
   cases dD l a<;>rfl
  |true=>rfl
 |m+1,a=>by
  unfold tyG tyH
  simp only[cI]
  cases eX (aA l a) [91]with
  |false=>
   simp only
   cases dD l a<;>rfl
  |true=>
   simp only
   cases eX (aA l (a+1)) [93]with
   |false=>rfl
   |true=>
    simp only
    rw[aOm l m (a+2),pP l m (a+2) ([]++[(aA l a).a])]
    unfold tyH
    cases cI l m (a+2) []with
    |er p c=>rfl
    |brk a' ls=>
     simp only
     cases dD l a'<;>rfl
theorem aSc(l:List Tz)(a:Nat):tyG l 30 a=tyF l a:=aOm l 30 a
end Go.VM
end
section
/- The document's reader: its small functions. -/
set_option maxRecDepth 100000
namespace Go.VM
open Go.RowKit
def cX(l:List Tz)(i:Int):Tz:=match decide (i≥0)with|true=>aA l i.toNat|false=>⟨0,eI l,eI l,[]⟩
theorem bJ(l:List Tz)(a:Nat):cX l (a:Int)=aA l a:=by
 unfold cX
 rw[show decide ((a:Int)≥0)=true from decide_eq_true (by omega)]
 rw[Int.toNat_natCast]
def isI(l:List Tz)(i:Int)(k:Int)(x:List Nat):Bool:=decide ((cX l i).k=k)&&decide ((cX l i).t=x)
theorem aBs(l:List Tz)(a:Nat)(k:Int)(x:List Nat):isI l (a:Int) k x=isF l a k x:=by
 unfold isI isF
 rw[bJ]
structure Rk where
 k:Int
 p:Int
 c:Int
def live(a:Nat):Rk:=⟨a,0,0⟩
def rrC(l:List Tz)(s:Rk):List V:=[.lst (l.map bS) .unk,.int .i64 s.k,.int .i64 s.p,.int .i64 s.c]
def rrO(l:List Tz)(s:Rk):Obj:=.cells false (rrC l s)
def rrL(l:List Tz)(s:Rk):OL:=[(1000,rrO l s)]
theorem aIv(ρ:Nat→Nat)(l:List Tz)(s:Rk):Obj.ren ρ (rrO l s)=rrO l s:=by
 simp only[rrO,rrC,Obj.ren,dJ,V.ren,zF,LC.ren]
theorem aWu{D:Nat→Prop}(l:List Tz)(s:Rk):Obj.In D (rrO l s):=⟨⟨vO _,trivial⟩,trivial,trivial,trivial,trivial⟩
theorem aX{D:Nat→Prop}(l:List Tz)(s:Rk):fG D (rrL l s):=⟨aWu l s,trivial⟩
theorem gX{f:FuncId}{xs:List V}{l:List Tz}{s s':Rk}{v:V}(core:SCall Go.Proofs.Tryz.prog [] f (.ptr 1000 0::xs) none ⟨1001,og (rrL l s),[]⟩ (.ret v) none ⟨1001,og (rrL l s'),[]⟩)
  (has:Ins (fun _=>False) xs) (hr:v.In (fun _=>False)) {h:H} {R:Nat} (hR:aD≤R) (h1:h.ob R=some (rrO l s)):
  SCall Go.Proofs.Tryz.prog [] f (.ptr R 0::xs) none h (.ret v) none (h.put R (rrO l s')):=by
 refine SCall.tY (n:=0) [R] rfl core (by simp) (by simp[hR]) (fun i=>?_) rfl (fun i c o hi ho=>?_) (aX _ _) ⟨(by show 1000<1001;decide),Ins.mono (fun _ q=>q.elim) has⟩ hr (aX _ _) ?_ rfl rfl (fun i hi=>?_) (fun c hc=>?_)
 ·simp only[rrL,aQ]
  show _↔1000≤i∧i<1001
  split
  ·simp;omega
  ·simp[og];omega
 ·match i,hi with
  |0,hi=>
   cases hi;cases ho
   rw[aIv];exact h1
 ·show _::dJ _ xs=_
  rw[fF (D:=fun _=>False) (fun _ q=>q.elim) has];rfl
 ·have hi:i<1:=hi
  match i,hi with
  |0,_=>
   show(h.put R _).ob R=_
   simp only[H.put,if_true]
   show some _=some (Obj.ren _ (rrO l s'))
   rw[aIv]
 ·have h0:R≠c:=hc 0 (by show 0<1;decide)
  simp only[H.put]
  rw[if_neg (fun e=>h0 e.symm)]
theorem vY{f:FuncId}{xs:List V}{l:List Tz}{s:Rk}{v:V}(core:SCall Go.Proofs.Tryz.prog [] f (.ptr 1000 0::xs) none ⟨1001,og (rrL l s),[]⟩ (.ret v) none ⟨1001,og (rrL l s),[]⟩)
  (has:Ins (fun _=>False) xs) (hr:v.In (fun _=>False)) {h:H} {R:Nat} (hR:aD≤R) (h1:h.ob R=some (rrO l s)):SCall Go.Proofs.Tryz.prog [] f (.ptr R 0::xs) none h (.ret v) none h:=by
 have:=gX core has hr hR h1
 rwa[wA h1]at this
theorem aBt(l:List Tz)(hl:l.length<4294967296)(i:Int)(h:H):SCall Go.Proofs.Tryz.prog [] 31 [lsV l,.int .i64 i] none h (.ret (.agg (bS (cX l i)))) none h:=by
 refine SCall.cK rfl ?_ (by exact⟨gY l,trivial,trivial⟩) (by exact⟨trivial,trivial,trivial,trivial,trivial⟩) h
 have tl:∀tm:TM,TellT tm [(4,[.int .i64 0,.int .i64 0,.int .i64 0,.str []])] [(0,.v (lsV l)),(4,.l 4 0)]→cX l i=⟨0,eI l,eI l,[]⟩→∀{r1 r2 r3 r4:RC},aGh=.seq r1 (.seq (.seq r2 r3) r4)→
   WR Go.Proofs.Tryz.prog [] ⟨Go.Proofs.Tryz.f31.ntmps,none,31⟩ r4 (SL.toS ⟨tm,[],none,1000,[],[(4,[.int .i64 0,.int .i64 0,.int .i64 0,.str []])]⟩) (iO Go.Proofs.Tryz.prog Go.Proofs.Tryz.f31 (.agg (bS (cX l i))) 1000 []) (tK (iO Go.Proofs.Tryz.prog Go.Proofs.Tryz.f31 (.agg (bS (cX l i))) 1000 [])):=by
  intro tm htm he r1 r2 r3 r4 h4
  refine WR.weak (SW.aP htm (.cons rfl (.inl rfl) .nil)) ?_
  unfold aGh at h4
  cases h4
  rw[he]
  unfold lsV
  repeat apply sQ
  refine WR.q rfl ?_
  repeat apply sQ
  refine WR.m 2 rfl ?_
  rw[List.length_map]
  refine WQ.m 1 rfl ?_
  rcases Nat.eq_zero_or_pos l.length with h0|h0
  ·have h0:l=[]:=List.eq_nil_of_length_eq_zero h0
   subst h0
   refine WQ.q rfl ?_
   repeat apply sQ
   refine WR.k rfl ?_
   repeat(first|refine WR.seq ?_|refine WR.block ?_|refine WR.scope ?_|refine WR.skip ?_|refine WR.exit ?_|refine WR.aB rfl ?_|refine WR.aF rfl ?_|refine WR.m 1000 rfl ?_|refine WQ.aL ?_|refine WR.aO aV (DW.m 1000 rfl ?_))
   exact WR.e
  ·rw[show decide ((l.length:Int)>0)=true from decide_eq_true (by omega)]
   have hc:l[l.length-1]? =some l[l.length-1]:=List.getElem?_eq_getElem (by omega)
   rw[nN hc]
   generalize l[l.length-1]=t at hc⊢
   refine WQ.q rfl ?_
   repeat apply sQ
   refine WR.aB rfl ?_
   repeat apply sQ
   refine WR.m 3 rfl ?_
   rw[List.length_map]
   refine WQ.m 1 rfl ?_
   rw[mF (by omega) (by unfold big;omega)]
   refine WQ.bP rfl rfl rfl (hU (cs:=bS t) rfl rfl (by rw[List.getElem?_map,hc];rfl) rfl) rfl (WQ.q rfl ?_)
   unfold aKo
   repeat(first|refine WR.seq ?_|refine WR.block ?_|refine WR.scope ?_|refine WR.skip ?_|refine WR.exit ?_|refine WR.aB rfl ?_|refine WR.aF rfl ?_|refine WR.m 1000 rfl ?_|refine WQ.aL ?_|refine WR.aO aV (DW.m 1000 rfl ?_))
   exact WR.e
 obtain⟨r1,r2,r3,r4,h4⟩:∃r1 r2 r3 r4,aGh=.seq r1 (.seq (.seq r2 r3) r4):=by unfold aGh;exact⟨_,_,_,_,rfl⟩
 have tl:=fun tm htm he=>tl tm htm he h4
 refine SCall.listed (fn:=Go.Proofs.Tryz.f31) (by kernel_rfl) bEa (by kernel_rfl) (by kernel_rfl) (Nat.le_refl _) rfl (trivial) (by exact⟨trivial,trivial,trivial,trivial,trivial⟩) ?_
 unfold aGh
 unfold aGh at h4
 cases h4
 repeat apply sQ
 refine WR.q rfl ?_
 repeat apply sQ
 refine WR.m 2 rfl ?_
 by_cases h0:i≥0
 ·obtain⟨a,rfl⟩:∃a:Nat,i=(a:Int):=⟨i.toNat,by omega⟩
  rw[show decide ((a:Int)≥0)=true from decide_eq_true h0]
  refine WQ.m 4 rfl ?_
  rw[List.length_map]
  refine WQ.m 1 rfl ?_
  by_cases h:a<l.length
  ·rw[show decide ((a:Int)<(l.length:Int))=true from decide_eq_true (by omega)]
   have hc:l[a]? =some l[a]:=List.getElem?_eq_getElem h
   rw[bJ,kU hc]
   generalize l[a]=t at hc⊢
   refine WQ.q rfl ?_
   repeat apply sQ
   refine WR.aB rfl ?_
   repeat apply sQ
   refine WR.m 2 rfl ?_
   refine WQ.bP rfl rfl rfl (hU (cs:=bS t) rfl rfl (by rw[List.getElem?_map,hc];rfl) rfl) rfl (WQ.q rfl ?_)
   exact WR.e
  ·rw[show decide ((a:Int)<(l.length:Int))=false from decide_eq_false (by omega)]
   refine WQ.q rfl ?_
   refine WR.k rfl ?_
   refine tl _ ?_ (by rw[bJ,gM (by omega)])
   exact tQ
 ·rw[show decide (i≥0)=false from decide_eq_false h0]
  refine WQ.q rfl ?_
  refine WR.k rfl ?_
  refine tl _ ?_ (by unfold cX;rw[decide_eq_false h0])
  exact tQ
theorem wJ(t:Tz)(k:Int)(x:List Nat)(h:H):SCall Go.Proofs.Tryz.prog [] 32 [.agg (bS t),.int .i64 k,.str x] none h (.ret (.bool (decide (t.k=k)&&decide (t.t=x)))) none h:=by
 refine SCall.cK rfl ?_ (by exact⟨⟨trivial,trivial,trivial,trivial,trivial⟩,trivial,trivial,trivial⟩) (by exact trivial) h
 refine SCall.listed (fn:=Go.Proofs.Tryz.f32) (by kernel_rfl) bAn (by kernel_rfl) (by kernel_rfl) (Nat.le_refl _) rfl (trivial) trivial ?_
 unfold bAr
 repeat apply sQ
 refine WR.q rfl ?_
 repeat apply sQ
 refine WR.m 4 rfl ?_
 cases hk:decide (t.k=k)with
 |false=>
  refine WQ.q rfl ?_
  exact WR.e
 |true=>
  refine WQ.q rfl ?_
  exact WR.e
theorem aLv(l:List Tz)(hl:l.length<4294967296)(s:Rk):SCall Go.Proofs.Tryz.prog [] 21 [.ptr 1000 0] none ⟨1001,og (rrL l s),[]⟩ (.ret (.agg (bS (cX l s.k)))) none ⟨1001,og (rrL l s),[]⟩:=by
 have tk:=aBt l hl s.k
 refine SCall.aG (fn:=Go.Proofs.Tryz.f21) (by kernel_rfl) bAc (by kernel_rfl) (by kernel_rfl) (Nat.le_refl _) rfl ((aX _ _)) (by exact⟨trivial,trivial,trivial,trivial,trivial⟩) ?_
 unfold aZj
 unfold rrL rrO rrC
 repeat apply sQ
 refine WR.q rfl ?_
 repeat apply sQ
 refine WR.aO aV (DW.m 1000 rfl ?_)
 refine DW.eR pQ rfl rfl rfl rfl rfl (tk _) .base rfl (DW.m 1000 rfl ?_)
 refine DW.stS pQ rfl rfl rfl rfl (DW.m 1000 rfl (DW.cD pQ ?_))
 exact WR.e
theorem bO{l:List Tz}(hl:l.length<4294967296){s:Rk}{h:H}{R:Nat}(hR:aD≤R)(h1:h.ob R=some (rrO l s)):SCall Go.Proofs.Tryz.prog [] 21 [.ptr R 0] none h (.ret (.agg (bS (cX l s.k)))) none h:=
 vY (aLv l hl s) trivial ⟨trivial,trivial,trivial,trivial,trivial⟩ hR h1
def dB(l:List Tz)(s:Rk)(c:Int):Rk:=match decide (s.c=0)with
 |true=>⟨s.k,(cX l s.k).a,c⟩
 |false=>s
theorem aFr(l:List Tz)(hl:l.length<4294967296)(s:Rk)(c:Int):SCall Go.Proofs.Tryz.prog [] 13 [.ptr 1000 0,.int .i64 c] none ⟨1001,og (rrL l s),[]⟩ (.ret (.tup [])) none ⟨1001,og (rrL l (dB l s c)),[]⟩:=by
 have nw:=bO hl (s:=s) (h:=⟨1001,og (rrL l s),[]⟩) (R:=1000) (by decide) rfl
 unfold dB
 refine SCall.aG (fn:=Go.Proofs.Tryz.f13) (by kernel_rfl) aZb (by kernel_rfl) (by kernel_rfl) (Nat.le_refl _) rfl ((aX _ _)) trivial ?_
 unfold bDt
 repeat apply sQ
 refine WR.m 5 rfl ?_
 cases hc:decide (s.c=0)with
 |false=>
  refine WQ.m 1 rfl ?_
  rw[hc]
  refine WQ.q rfl ?_
  repeat apply sQ
  refine WR.k rfl ?_
  exact⟨rfl,rfl,⟨_,rfl,VLe.refl _⟩,fun _ _=>rfl⟩
 |true=>
  refine WQ.m 1 rfl ?_
  rw[hc]
  refine WQ.q rfl ?_
  repeat apply sQ
  refine WR.aB rfl ?_
  repeat apply sQ
  refine WR.m 1 rfl ?_
  refine WQ.c rfl nw .base rfl ?_
  refine WQ.q rfl ?_
  repeat apply sQ
  refine WR.q rfl ?_
  exact⟨rfl,rfl,⟨_,rfl,VLe.refl _⟩,fun _ _=>rfl⟩
theorem dX{l:List Tz}(hl:l.length<4294967296){s:Rk}{c:Int}{h:H}{R:Nat}(hR:aD≤R)(h1:h.ob R=some (rrO l s)):SCall Go.Proofs.Tryz.prog [] 13 [.ptr R 0,.int .i64 c] none h (.ret (.tup [])) none (h.put R (rrO l (dB l s c))):=
 gX (aFr l hl s c) ⟨trivial,trivial⟩ trivial hR h1
theorem aSg(l:List Tz)(hl:l.length<4294967296)(s:Rk)(x:List Nat):SCall Go.Proofs.Tryz.prog [] 22 [.ptr 1000 0,.str x] none ⟨1001,og (rrL l s),[]⟩ (.ret (.bool (isI l s.k 4 x))) none ⟨1001,og (rrL l s),[]⟩:=by
 have nw:=bO hl (s:=s) (h:=⟨1001,og (rrL l s),[]⟩) (R:=1000) (by decide) rfl
 have iq:=wJ (cX l s.k) 4 x
 unfold isI
 refine SCall.aG (fn:=Go.Proofs.Tryz.f22) (by kernel_rfl) bDj (by kernel_rfl) (by kernel_rfl) (Nat.le_refl _) rfl ((aX _ _)) trivial ?_
 unfold bCq
 repeat apply sQ
 refine WR.q rfl ?_
 repeat apply sQ
 refine WR.m 1 rfl ?_
 refine WQ.c rfl nw .base rfl ?_
 refine WQ.m 1 rfl ?_
 refine WQ.c rfl (iq _) .base rfl ?_
 refine WQ.q rfl ?_
 exact WR.e
theorem aU{l:List Tz}(hl:l.length<4294967296){s:Rk}{x:List Nat}{h:H}{R:Nat}(hR:aD≤R)(h1:h.ob R=some (rrO l s)):SCall Go.Proofs.Tryz.prog [] 22 [.ptr R 0,.str x] none h (.ret (.bool (isI l s.k 4 x))) none h:=
 vY (aSg l hl s x) ⟨trivial,trivial⟩ trivial hR h1
theorem aGa(l:List Tz)(hl:l.length<4294967296)(s:Rk)(x:List Nat):SCall Go.Proofs.Tryz.prog [] 33 [.ptr 1000 0,.str x] none ⟨1001,og (rrL l s),[]⟩ (.ret (.bool (isI l s.k 5 x))) none ⟨1001,og (rrL l s),[]⟩:=by
 have nw:=bO hl (s:=s) (h:=⟨1001,og (rrL l s),[]⟩) (R:=1000) (by decide) rfl
 have iq:=wJ (cX l s.k) 5 x
 unfold isI
 refine SCall.aG (fn:=Go.Proofs.Tryz.f33) (by kernel_rfl) aZx (by kernel_rfl) (by kernel_rfl) (Nat.le_refl _) rfl ((aX _ _)) trivial ?_
 unfold bBc
 repeat apply sQ
 refine WR.q rfl ?_
 repeat apply sQ
 refine WR.m 1 rfl ?_
 refine WQ.c rfl nw .base rfl ?_
 refine WQ.m 1 rfl ?_
 refine WQ.c rfl (iq _) .base rfl ?_
 refine WQ.q rfl ?_
 exact WR.e
theorem aM{l:List Tz}(hl:l.length<4294967296){s:Rk}{x:List Nat}{h:H}{R:Nat}(hR:aD≤R)(h1:h.ob R=some (rrO l s)):SCall Go.Proofs.Tryz.prog [] 33 [.ptr R 0,.str x] none h (.ret (.bool (isI l s.k 5 x))) none h:=
 vY (aGa l hl s x) ⟨trivial,trivial⟩ trivial hR h1
def iL(s:Rk):Rk:=⟨IntKind.i64.wrap (s.k+1),s.p,s.c⟩
def hY(l:List Tz)(s:Rk)(x:List Nat):Rk:=match isI l s.k 4 x with|true=>iL s|false=>iL (dB l s 5)
theorem aSt(l:List Tz)(s:Rk)(c:Int):(dB l s c).k=s.k:=by unfold dB;split<;>rfl
theorem aIh(l:List Tz)(hl:l.length<4294967296)(s:Rk)(x:List Nat):SCall Go.Proofs.Tryz.prog [] 35 [.ptr 1000 0,.str x] none ⟨1001,og (rrL l s),[]⟩ (.ret (.int .i64 (cX l s.k).e)) none ⟨1001,og (rrL l (hY l s x)),[]⟩:=by
 have aw:=aU hl (s:=s) (x:=x) (h:=⟨1001,og (rrL l s),[]⟩) (R:=1000) (by decide) rfl
 have fl:=dX hl (s:=s) (c:=5) (h:=⟨1001,og (rrL l s),[]⟩) (R:=1000) (by decide) rfl
 have tail:∀(s2:Rk) (tm:TM),s2.k=s.k→TellT tm [] [(0,.v (.ptr 1000 0))]→WR Go.Proofs.Tryz.prog [] ⟨Go.Proofs.Tryz.f35.ntmps,none,35⟩ aAh (SL.toS ⟨tm,[],none,1001,rrL l s2,[]⟩) (wH Go.Proofs.Tryz.prog Go.Proofs.Tryz.f35 (.ret (.int .i64 (cX l s.k).e)) 1001 (rrL l (iL s2))) (aOc Go.Proofs.Tryz.prog Go.Proofs.Tryz.f35 (.ret (.int .i64 (cX l s.k).e)) 1001 (rrL l (iL s2))):=by
  intro s2 tm hk htm
  refine WR.weak (SW.aP htm .nil) ?_
  have nw:=bO hl (s:=s2) (h:=⟨1001,og (rrL l s2),[]⟩) (R:=1000) (by decide) rfl
  rw[hk]at nw
  unfold aAh
  repeat apply sQ
  refine WR.m 1 rfl ?_
  refine WQ.c rfl nw .base rfl ?_
  refine WQ.q rfl ?_
  repeat apply sQ
  refine WR.q rfl ?_
  repeat apply sQ
  refine WR.q rfl ?_
  exact WR.e
 unfold hY
 refine SCall.aG (fn:=Go.Proofs.Tryz.f35) (by kernel_rfl) bBr (by kernel_rfl) (by kernel_rfl) (Nat.le_refl _) rfl ((aX _ _)) trivial ?_
 unfold bBz
 repeat apply sQ
 refine WR.q rfl ?_
 repeat apply sQ
 refine WR.m 2 rfl ?_
 refine WQ.c rfl aw .base rfl ?_
 cases isI l s.k 4 x with
 |true=>
  refine WQ.q rfl ?_
  repeat apply sQ
  refine WR.q rfl ?_
  repeat apply sQ
  refine WR.k rfl ?_
  refine tail s _ rfl ?_
  exact tQ
 |false=>
  refine WQ.q rfl ?_
  repeat apply sQ
  refine WR.q rfl ?_
  repeat apply sQ
  refine WR.aB rfl ?_
  repeat apply sQ
  refine WR.m 1 rfl ?_
  refine WQ.c rfl fl (.put .base rfl) rfl ?_
  refine WQ.q rfl ?_
  refine tail (dB l s 5) _ (aSt l s 5) ?_
  exact tQ
theorem eK{l:List Tz}(hl:l.length<4294967296){s:Rk}{x:List Nat}{h:H}{R:Nat}(hR:aD≤R)(h1:h.ob R=some (rrO l s)):SCall Go.Proofs.Tryz.prog [] 35 [.ptr R 0,.str x] none h (.ret (.int .i64 (cX l s.k).e)) none (h.put R (rrO l (hY l s x))):=
 gX (aIh l hl s x) ⟨trivial,trivial⟩ trivial hR h1
def mU(l:List Tz)(s:Rk):Rk:=match decide ((cX l s.k).k=1)with|true=>iL s|false=>iL (dB l s 5)
theorem aFu(l:List Tz)(hl:l.length<4294967296)(s:Rk):SCall Go.Proofs.Tryz.prog [] 34 [.ptr 1000 0] none ⟨1001,og (rrL l s),[]⟩ (.ret (.agg (bS (cX l s.k)))) none ⟨1001,og (rrL l (mU l s)),[]⟩:=by
 have nw:=bO hl (s:=s) (h:=⟨1001,og (rrL l s),[(2,[.int .i64 0,.int .i64 0,.int .i64 0,.str []])]⟩) (R:=1000) (by decide) rfl
 have fl:=fun lc=>dX hl (s:=s) (c:=5) (h:=⟨1001,og (rrL l s),lc⟩) (R:=1000) (by decide) rfl
 unfold mU
 refine SCall.aG (fn:=Go.Proofs.Tryz.f34) (by kernel_rfl) bCw (by kernel_rfl) (by kernel_rfl) (Nat.le_refl _) rfl ((aX _ _)) (by exact⟨trivial,trivial,trivial,trivial,trivial⟩) ?_
 unfold bDf
 repeat apply sQ
 refine WR.q rfl ?_
 repeat apply sQ
 refine WR.m 1 rfl ?_
 refine WQ.c rfl nw .base rfl ?_
 generalize cX l s.k=t
 refine WQ.q rfl ?_
 repeat apply sQ
 refine WR.m 2 rfl ?_
 cases hk:decide (t.k=1)with
 |true=>
  refine WQ.m 1 rfl ?_
  rw[hk]
  refine WQ.q rfl ?_
  repeat apply sQ
  refine WR.k rfl ?_
  unfold aBp
  repeat apply sQ
  refine WR.q rfl ?_
  repeat apply sQ
  refine WR.q rfl ?_
  exact WR.e
 |false=>
  refine WQ.m 1 rfl ?_
  rw[hk]
  refine WQ.q rfl ?_
  repeat apply sQ
  refine WR.aB rfl ?_
  repeat apply sQ
  refine WR.m 1 rfl ?_
  refine WQ.c rfl (fl _) (.put .base rfl) rfl ?_
  refine WQ.q rfl ?_
  unfold aBp
  repeat apply sQ
  refine WR.q rfl ?_
  repeat apply sQ
  refine WR.q rfl ?_
  exact WR.e
theorem aEn{l:List Tz}(hl:l.length<4294967296){s:Rk}{h:H}{R:Nat}(hR:aD≤R)(h1:h.ob R=some (rrO l s)):SCall Go.Proofs.Tryz.prog [] 34 [.ptr R 0] none h (.ret (.agg (bS (cX l s.k)))) none (h.put R (rrO l (mU l s))):=
 gX (aFu l hl s) trivial ⟨trivial,trivial,trivial,trivial,trivial⟩ hR h1
def lB(l:List Tz)(s:Rk)(d:Nat):Rk:=match Nat.ble 30 d with|true=>dB l s 6|false=>s
theorem aHt(l:List Tz)(hl:l.length<4294967296)(s:Rk)(d:Nat):SCall Go.Proofs.Tryz.prog [] 67 [.ptr 1000 0,.int .i64 d] none ⟨1001,og (rrL l s),[]⟩ (.ret (.bool (decide ((lB l s d).c=0)))) none ⟨1001,og (rrL l (lB l s d)),[]⟩:=by
 have fl:=dX hl (s:=s) (c:=6) (h:=⟨1001,og (rrL l s),[]⟩) (R:=1000) (by decide) rfl
 unfold lB
 refine SCall.aG (fn:=Go.Proofs.Tryz.f67) (by kernel_rfl) bDk (by kernel_rfl) (by kernel_rfl) (Nat.le_refl _) rfl ((aX _ _)) trivial ?_
 unfold bBs
 repeat apply sQ
 refine WR.q rfl ?_
 repeat apply sQ
 refine WR.m 2 rfl ?_
 cases hd:Nat.ble 30 d with
 |true=>
  have hd:=Nat.le_of_ble_eq_true hd
  rw[show decide ((d:Int)≥30)=true from decide_eq_true (by omega)]
  refine WQ.q rfl ?_
  repeat apply sQ
  refine WR.aB rfl ?_
  repeat apply sQ
  refine WR.m 1 rfl ?_
  refine WQ.c rfl fl (.put .base rfl) rfl ?_
  refine WQ.q rfl ?_
  unfold zH
  repeat apply sQ
  refine WR.q rfl ?_
  exact WR.e
 |false=>
  have hd:¬30≤d:=fun h=>by rw[Nat.ble_eq_true_of_le h]at hd;cases hd
  rw[show decide ((d:Int)≥30)=false from decide_eq_false (by omega)]
  refine WQ.q rfl ?_
  repeat apply sQ
  refine WR.k rfl ?_
  unfold zH
  repeat apply sQ
  refine WR.q rfl ?_
  exact WR.e
theorem dM{l:List Tz}(hl:l.length<4294967296){s:Rk}{d:Nat}{h:H}{R:Nat}(hR:aD≤R)(h1:h.ob R=some (rrO l s)):SCall Go.Proofs.Tryz.prog [] 67 [.ptr R 0,.int .i64 d] none h (.ret (.bool (decide ((lB l s d).c=0)))) none (h.put R (rrO l (lB l s d))):=
 gX (aHt l hl s d) ⟨trivial,trivial⟩ trivial hR h1
end Go.VM
end
section
/- The document's reader: levels, numbers, types. -/
set_option maxRecDepth 100000
namespace Go.VM
open Go.RowKit
def lvF(t:Tz):Nat:=match decide (t.k=4)with|true=>lev t.t|false=>0
theorem aQn(t:Tz)(h:H):SCall Go.Proofs.Tryz.prog [] 62 [.agg (bS t)] none h (.ret (.int .i64 (lvF t))) none h:=by
 refine SCall.cK rfl ?_ (by exact⟨⟨trivial,trivial,trivial,trivial,trivial⟩,trivial⟩) (by exact trivial) h
 obtain⟨tk,ta,te,tt⟩:=t
 refine SCall.listed (fn:=Go.Proofs.Tryz.f62) (by kernel_rfl) bBq (by kernel_rfl) (by kernel_rfl) (Nat.le_refl _) rfl (trivial) trivial ?_
 unfold bBy
 unfold lvF
 repeat apply sQ
 refine WR.q rfl ?_
 repeat apply sQ
 refine WR.m 2 rfl ?_
 cases hk:decide (tk=4)with
 |false=>
  refine WQ.m 1 rfl ?_
  rw[hk]
  refine WQ.q rfl ?_
  repeat apply sQ
  refine WR.aB rfl ?_
  repeat apply sQ
  refine WR.q rfl ?_
  simp only[hk]
  exact WR.e
 |true=>
  refine WQ.m 1 rfl ?_
  rw[hk]
  refine WQ.q rfl ?_
  repeat apply sQ
  refine WR.k rfl ?_
  simp only[hk]
  repeat apply sQ
  refine WR.q rfl ?_
  unfold lev
  repeat(first|refine WR.seq ?_|refine WR.block ?_)
  refine WR.q rfl ?_
  cases h1:decide (tt=[38,38])with
  |true=>
   refine WR.aB rfl ?_
   repeat apply sQ
   refine WR.q rfl ?_
   exact WR.e
  |false=>
  refine WR.aF rfl ?_
  repeat apply sQ
  refine WR.q rfl ?_
  cases h2:decide (tt=[61,61])with
  |true=>
   refine WR.aB rfl (WR.skip ?_)
   unfold zR
   refine WR.aB rfl ?_
   repeat apply sQ
   refine WR.q rfl ?_
   exact WR.e
  |false=>
  refine WR.aF rfl ?_
  repeat apply sQ
  refine WR.q rfl ?_
  unfold zR
  cases h3:decide (tt=[60])with
  |true=>
   refine WR.aB rfl ?_
   repeat apply sQ
   refine WR.q rfl ?_
   exact WR.e
  |false=>
  refine WR.aF rfl ?_
  repeat apply sQ
  refine WR.q rfl ?_
  cases h4:decide (tt=[43])with
  |true=>
   refine WR.aB rfl (WR.skip ?_)
   unfold aBw
   refine WR.aB rfl ?_
   repeat apply sQ
   refine WR.q rfl ?_
   exact WR.e
  |false=>
  refine WR.aF rfl ?_
  repeat apply sQ
  refine WR.q rfl ?_
  unfold aBw
  cases h5:decide (tt=[45])with
  |true=>
   refine WR.aB rfl ?_
   repeat apply sQ
   refine WR.q rfl ?_
   exact WR.e
  |false=>
  refine WR.aF rfl ?_
  repeat apply sQ
  refine WR.q rfl ?_
  cases h6:decide (tt=[42])with
  |true=>
   refine WR.aB rfl ?_
   repeat apply sQ
   refine WR.q rfl ?_
   exact WR.e
  |false=>
  refine WR.k rfl ?_
  unfold aKz
  repeat apply sQ
  refine WR.q rfl ?_
  exact WR.e
def aRx(s:List Nat)(n i:Nat):TM:=[(0,.v (.str s)),(4,.v (.int .i64 n)),(5,.v (.int .i64 i))]
theorem aNh{QN:S→Prop}{QX:X→S→Prop}(s:List Nat)(hl:s.length≤15)
  (h0:digits s=true→∀tm,TellT tm [] [(4,.v (.int .i64 (sS s)))]→QX (.exit 0) (SL.toS ⟨tm,[],none,1000,[],[]⟩))
  (h1:digits s=false→∀st,iO Go.Proofs.Tryz.prog Go.Proofs.Tryz.f77 (.tup [.int .i64 0,.bool false]) 1000 [] st→QX .ret st):∀(m i n:Nat),i+m=s.length→n<pw i→aMp n (s.drop i)=sS s→digits s=digits (s.drop i)→
  WLr Go.Proofs.Tryz.prog [] ⟨Go.Proofs.Tryz.f77.ntmps,none,77⟩ tS (SL.toS ⟨aRx s n i,[],none,1000,[],[]⟩) QN QX:=by
 intro m
 induction m with
 |zero=>
  intro i n hi hn he hd
  rw[List.drop_eq_nil_iff.2 (by omega)]at he hd
  have he:n=sS s:=he
  subst he
  unfold tS
  refine WLr.of ?_
  repeat apply sQ
  refine WR.m 3 rfl ?_
  refine WQ.m 1 rfl ?_
  rw[show decide ((i:Int)<(s.length:Int))=false from decide_eq_false (by omega)]
  refine WQ.q rfl ?_
  repeat apply sQ
  refine WR.aF rfl (WR.exit (h0 hd _ ?_))
  exact tQ
 |succ m ih=>
  intro i n hi hn he hd
  obtain⟨c,hc,hdr⟩:∃c,s[i]? =some c∧s.drop i=c::s.drop (i+1):=⟨s[i],List.getElem?_eq_getElem (by omega),List.drop_eq_getElem_cons (by omega)⟩
  rw[hdr,zE]at he
  rw[hdr]at hd
  have hd2:digits s=((Nat.ble 48 c&&Nat.ble c 57)&&digits (s.drop (i+1))):=hd
  unfold tS
  refine WLr.of ?_
  repeat apply sQ
  refine WR.m 3 rfl ?_
  refine WQ.m 1 rfl ?_
  rw[show decide ((i:Int)<(s.length:Int))=true from decide_eq_true (by omega)]
  refine WQ.q rfl ?_
  repeat apply sQ
  refine WR.aB rfl (WR.skip ?_)
  repeat(first|refine WR.seq ?_|refine WR.block ?_)
  refine WR.m 2 rfl ?_
  refine WQ.bP rfl rfl rfl (fW rfl rfl hc) rfl ?_
  refine WQ.m 1 rfl ?_
  by_cases c1:c<48
  ·rw[show decide ((c:Int)<48)=true from decide_eq_true (by omega)]
   have hf:digits s=false:=by rw[hd2];simp;omega
   refine WQ.q rfl ?_
   repeat apply sQ
   refine WR.aB rfl ?_
   repeat apply sQ
   refine WR.q rfl ?_
   exact WR.ret (h1 hf _ ⟨rfl,rfl,⟨_,rfl,VLe.refl _⟩,fun _ _=>rfl⟩)
  rw[show decide ((c:Int)<48)=false from decide_eq_false (by omega)]
  refine WQ.m 3 rfl ?_
  refine WQ.bP rfl rfl rfl (fW rfl rfl hc) rfl ?_
  refine WQ.m 1 rfl ?_
  by_cases c2:c>57
  ·rw[show decide ((c:Int)>57)=true from decide_eq_true (by omega)]
   have hf:digits s=false:=by rw[hd2];simp;omega
   refine WQ.q rfl ?_
   repeat apply sQ
   refine WR.aB rfl ?_
   repeat apply sQ
   refine WR.q rfl ?_
   exact WR.ret (h1 hf _ ⟨rfl,rfl,⟨_,rfl,VLe.refl _⟩,fun _ _=>rfl⟩)
  rw[show decide ((c:Int)>57)=false from decide_eq_false (by omega)]
  have hd3:digits s=digits (s.drop (i+1)):=by
   rw[hd2,Nat.ble_eq_true_of_le (by omega),Nat.ble_eq_true_of_le (by omega)]
   simp
  have hq:=aEc n c
  generalize dstep n c=q at he hq
  have hp:=aWj (k:=i+1) (by omega)
  have hn2:q<pw (i+1):=by rw[aKk];omega
  refine WQ.q rfl ?_
  repeat apply sQ
  refine WR.k rfl ?_
  repeat apply sQ
  refine WR.m 2 rfl ?_
  rw[show IntKind.i64.wrap ((10:Int)*(n:Int))=((n*10:Nat):Int)from by rw[wrap64 (by omega) (by omega)];omega]
  refine WQ.m 2 rfl ?_
  refine WQ.bP rfl rfl rfl (fW rfl rfl hc) rfl ?_
  refine WQ.m 1 rfl ?_
  rw[show IntKind.u8.wrap ((c:Int)-48)=((c-48:Nat):Int)from by rw[show((c:Int)-48)=((c-48:Nat):Int) by omega,aWa];congr 1;omega]
  refine WQ.m 1 rfl ?_
  rw[wrap64 (by omega) (by omega)]
  refine WQ.m 1 rfl ?_
  rw[show IntKind.i64.wrap (((n*10:Nat):Int)+((c-48:Nat):Int))=(q:Int)from by rw[wrap64 (by omega) (by omega)];omega]
  refine WQ.q rfl ?_
  unfold aJj
  repeat apply sQ
  refine WR.m 2 rfl ?_
  rw[aN (by unfold big;omega)]
  refine WQ.q rfl ?_
  refine WIr.again (WLr.weak ?_ (ih (i+1) q (by omega) hn2 he hd3))
  refine SW.aP ?_ ?_
  ·exact tQ
  ·exact lQ
def tN(s:List Nat):V:=match kS s with|true=>.tup [.int .i64 (sS s),.bool true]|false=>.tup [.int .i64 0,.bool false]
theorem aKl{D:Nat→Prop}(s:List Nat):(tN s).In D:=by unfold tN;split<;>exact⟨trivial,trivial,trivial⟩
theorem aIb(s:List Nat)(h:H):SCall Go.Proofs.Tryz.prog [] 77 [.str s] none h (.ret (tN s)) none h:=by
 refine SCall.cK rfl ?_ (by exact⟨trivial,trivial⟩) (by exact aKl s) h
 refine SCall.listed (fn:=Go.Proofs.Tryz.f77) (by kernel_rfl) bCa (by kernel_rfl) (by kernel_rfl) (Nat.le_refl _) rfl (trivial) (by exact aKl s) ?_
 unfold bDa
 repeat apply sQ
 refine WR.q rfl ?_
 repeat apply sQ
 refine WR.m 3 rfl ?_
 by_cases l1:s.length<1
 ·rw[show decide ((s.length:Int)<1)=true from decide_eq_true (by omega)]
  have e:tN s=.tup [.int .i64 0,.bool false]:=by
   have:kS s=false:=by unfold kS;simp;omega
   unfold tN;rw[this]
  rw[e]
  refine WQ.q rfl ?_
  repeat apply sQ
  refine WR.aB rfl ?_
  repeat apply sQ
  refine WR.q rfl ?_
  exact WR.e
 rw[show decide ((s.length:Int)<1)=false from decide_eq_false (by omega)]
 refine WQ.m 4 rfl ?_
 by_cases l2:s.length>15
 ·rw[show decide ((s.length:Int)>15)=true from decide_eq_true (by omega)]
  have e:tN s=.tup [.int .i64 0,.bool false]:=by
   have h15:Nat.ble s.length 15=false:=by
    cases h:Nat.ble s.length 15 with
    |false=>rfl
    |true=>have:=Nat.le_of_ble_eq_true h;omega
   have:kS s=false:=by unfold kS;rw[h15];simp
   unfold tN;rw[this]
  rw[e]
  refine WQ.q rfl ?_
  repeat apply sQ
  refine WR.aB rfl ?_
  repeat apply sQ
  refine WR.q rfl ?_
  exact WR.e
 rw[show decide ((s.length:Int)>15)=false from decide_eq_false (by omega)]
 refine WQ.q rfl ?_
 repeat apply sQ
 refine WR.k rfl ?_
 repeat apply sQ
 refine WR.q rfl ?_
 repeat apply sQ
 refine WR.q rfl ?_
 have hok:kS s=digits s:=by
  unfold kS
  rw[Nat.ble_eq_true_of_le (by omega),Nat.ble_eq_true_of_le (by omega)]
  simp
 repeat apply sQ
 refine WR.block (WR.loop (WLr.weak (s:=SL.toS ⟨aRx s 0 0,[],none,1000,[],[]⟩) ?_ (aNh s (by omega) (fun hd tm ht=>?_) (fun hd st hst=>?_) s.length 0 0 (by omega) (by decide) rfl rfl)))
 ·refine SW.aP ?_ ?_
  ·exact tQ
  ·exact lQ
 ·refine WR.weak (SW.aP ht .nil) ?_
  have e:tN s=.tup [.int .i64 (sS s),.bool true]:=by unfold tN;rw[hok,hd]
  rw[e]
  unfold aKm
  repeat apply sQ
  refine WR.q rfl ?_
  exact WR.e
 ·have e:tN s=.tup [.int .i64 0,.bool false]:=by unfold tN;rw[hok,hd]
  rw[e]
  exact hst
end Go.VM
end
