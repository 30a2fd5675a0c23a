/- laid for this seat: RcF9 VfT VfU -/
import Derived.Test.YtgadhdnnkdcgkaaGreatDoorVmR
import Derived.Test.YtgadhdnnkdcgkaaGreatDoorVmS
import Derived.Test.YtgadhdnnkdcgkaaGreatDoorProg
import Derived.ProofKit
import Derived.Test.YtgadhdnnkdcgkaaGreatDoorVh3
set_option linter.unusedVariables false
set_option linter.unusedSimpArgs false
section
set_option maxRecDepth 100000
namespace Go.VM
open Go.RowKit
def aNa:RC:=.reg [.mv 5 43,.op (.bin .add (.t 43) (.i 1)) 44,.mv 44 5]
def xO:RC:=.seq (.r [.mv 5 38,.op (.fa (.t 2) 2) 39,.op (.ld (.t 39) none) 40,.op (.lenL (.t 40)) 41,.op (.bin .lss (.t 38) (.t 41)) 42] (.cond (.t 42) .skip (.exit 0))) (.seq (.block 1 (.seq (.aN [.w 0 0 (.fa (.t 2) 2) [2] 45,.w 1 1 (.ld (.t 45) none) [45] 46,.w 2 0 (.mv (.t 5)) [5] 47,.w 3 7 (.ia (.t 46) (.t 47) 2) [46,47] 48,.w 4 15 (.ld (.t 48) (some 2)) [48] 49,.w 5 0 (.fa (.t 3) 2) [3] 50,.w 6 32 (.ld (.t 50) none) [50] 51,.w 7 0 (.mv (.t 5)) [5] 52,.w 8 224 (.ia (.t 51) (.t 52) 2) [51,52] 53,.w 9 480 (.ld (.t 53) (some 2)) [53] 54,.w 10 1023 (.eq (.st [(0,.str),(1,.int)]) true (.t 49) (.t 54)) [49,54] 55] [] [45,46,47,48,49,50,51,52,53,54,55]) (.cond (.t 55) (.r [.op (.mv (.c (.bool false))) 4] .ret) .skip))) aNa)
def aOa:RC:=.reg [.mv 6 61,.op (.bin .add (.t 61) (.i 1)) 62,.mv 62 6]
def xK:RC:=.seq (.r [.mv 6 56,.op (.fa (.t 2) 3) 57,.op (.ld (.t 57) none) 58,.op (.lenL (.t 58)) 59,.op (.bin .lss (.t 56) (.t 59)) 60] (.cond (.t 60) .skip (.exit 2))) (.seq (.block 3 (.seq (.aN [.w 0 0 (.fa (.t 2) 3) [2] 63,.w 1 1 (.ld (.t 63) none) [63] 64,.w 2 0 (.mv (.t 6)) [6] 65,.w 3 7 (.ia (.t 64) (.t 65) 22) [64,65] 66,.w 4 15 (.ld (.t 66) (some 22)) [66] 67,.w 5 0 (.fa (.t 3) 3) [3] 68,.w 6 32 (.ld (.t 68) none) [68] 69,.w 7 0 (.mv (.t 6)) [6] 70,.w 8 224 (.ia (.t 69) (.t 70) 22) [69,70] 71,.w 9 480 (.ld (.t 71) (some 22)) [71] 72] [(.w 10 1023 (.c 17 [.t 67,.t 72]) [67,72] 73,[.w 11 2047 (.mv (.t 73)) [73] 7])] [63,64,65,66,67,68,69,70,71,72,73,7]) (.r [.mv 7 74,.op (.un .not (.t 74)) 75] (.cond (.t 75) (.r [.op (.mv (.c (.bool false))) 4] .ret) .skip)))) aOa)
def aMw:RC:=.r [.op (.mv (.c (.bool true))) 4] .ret
def aOw:RC:=.seq (.r [.op (.mv (.i 0)) 6] (.block 2 (.loop xK))) aMw
def bIh:RC:=.r [.op (.bx (.t 0)) 2,.op (.bx (.t 1)) 3,.op (.mv (.c (.bool false))) 4] (.seq (.r [.op (.fa (.t 2) 0) 8,.op (.ld (.t 8) none) 9,.op (.fa (.t 3) 0) 10,.op (.ld (.t 10) none) 11,.op (.eq .str true (.t 9) (.t 11)) 12,.mv 12 13,.g (.fa (.t 2) 1) 14 13 false,.g (.ld (.t 14) none) 15 13 false,.g (.fa (.t 3) 1) 16 13 false,.g (.ld (.t 16) none) 17 13 false,.g (.eq .int true (.t 15) (.t 17)) 18 13 false,.op (.pick (.t 13) (.c (.bool true)) (.t 18)) 19,.mv 19 20,.g (.fa (.t 2) 2) 21 20 false,.g (.ld (.t 21) none) 22 20 false,.g (.lenL (.t 22)) 23 20 false,.g (.fa (.t 3) 2) 24 20 false,.g (.ld (.t 24) none) 25 20 false,.g (.lenL (.t 25)) 26 20 false,.g (.eq .int true (.t 23) (.t 26)) 27 20 false,.op (.pick (.t 20) (.c (.bool true)) (.t 27)) 28,.mv 28 29,.g (.fa (.t 2) 3) 30 29 false,.g (.ld (.t 30) none) 31 29 false,.g (.lenL (.t 31)) 32 29 false,.g (.fa (.t 3) 3) 33 29 false,.g (.ld (.t 33) none) 34 29 false,.g (.lenL (.t 34)) 35 29 false,.g (.eq .int true (.t 32) (.t 35)) 36 29 false,.op (.pick (.t 29) (.c (.bool true)) (.t 36)) 37] (.cond (.t 37) (.r [.op (.mv (.c (.bool false))) 4] .ret) .skip)) (.seq (.r [.op (.mv (.i 0)) 5] (.block 0 (.loop xO))) aOw))
theorem bLa:(Go.Proofs.Tryz.f10.body).bind (aE Go.Proofs.Tryz.prog)=some bIh:=by kernel_rfl
def bKs:RC:=.r [.op (.bx (.t 0)) 2,.op (.bx (.t 1)) 3,.op (.mv (.c (.bool false))) 4] (.seq (.r [.op (.fa (.t 2) 0) 11,.op (.ld (.t 11) none) 12,.op (.fa (.t 3) 0) 13,.op (.ld (.t 13) none) 14,.op (.eq .int true (.t 12) (.t 14)) 15,.mv 15 16,.g (.fa (.t 2) 1) 17 16 false,.g (.ld (.t 17) none) 18 16 false,.g (.fa (.t 3) 1) 19 16 false,.g (.ld (.t 19) none) 20 16 false,.g (.eq .int true (.t 18) (.t 20)) 21 16 false,.op (.pick (.t 16) (.c (.bool true)) (.t 21)) 22,.mv 22 23,.g (.fa (.t 2) 2) 24 23 false,.g (.ld (.t 24) none) 25 23 false,.g (.fa (.t 3) 2) 26 23 false,.g (.ld (.t 26) none) 27 23 false,.g (.eq .int true (.t 25) (.t 27)) 28 23 false,.op (.pick (.t 23) (.c (.bool true)) (.t 28)) 29,.mv 29 30,.g (.fa (.t 2) 3) 31 30 false,.g (.ld (.t 31) none) 32 30 false,.g (.fa (.t 3) 3) 33 30 false,.g (.ld (.t 33) none) 34 30 false,.g (.eq .str true (.t 32) (.t 34)) 35 30 false,.op (.pick (.t 30) (.c (.bool true)) (.t 35)) 36,.mv 36 37,.g (.fa (.t 2) 4) 38 37 false,.g (.ld (.t 38) none) 39 37 false,.g (.fa (.t 3) 4) 40 37 false,.g (.ld (.t 40) none) 41 37 false,.g (.eq .bool true (.t 39) (.t 41)) 42 37 false,.op (.pick (.t 37) (.c (.bool true)) (.t 42)) 43,.mv 43 44,.g (.fa (.t 2) 15) 45 44 false,.g (.ld (.t 45) none) 46 44 false,.g (.fa (.t 3) 15) 47 44 false,.g (.ld (.t 47) none) 48 44 false,.g (.eq .bool true (.t 46) (.t 48)) 49 44 false,.op (.pick (.t 44) (.c (.bool true)) (.t 49)) 50] (.cond (.t 50) (.r [.op (.mv (.c (.bool false))) 4] .ret) .skip)) (.r [.op (.fa (.t 2) 5) 51,.op (.ld (.t 51) (some 7)) 52,.op (.bs 7 1 [.e,.o,.o,.o,.e,.e,.n] [(0,.t 52)]) 53,.op (.fa (.t 3) 5) 54,.op (.ld (.t 54) (some 7)) 55,.op (.bs 7 1 [.e,.o,.o,.o,.e,.e,.n] [(0,.t 55)]) 56,.op (.c 30 [.t 53,.t 56]) 57,.mv 57 5] (.r [.op (.fa (.t 2) 12) 58,.op (.ld (.t 58) none) 59,.op (.fa (.t 3) 12) 60,.op (.ld (.t 60) none) 61,.op (.c 30 [.t 59,.t 61]) 62,.mv 62 6] (.r [.op (.fa (.t 2) 13) 63,.op (.ld (.t 63) none) 64,.op (.fa (.t 3) 13) 65,.op (.ld (.t 65) none) 66,.op (.c 30 [.t 64,.t 66]) 67,.mv 67 7] (.r [.op (.fa (.t 2) 14) 68,.op (.ld (.t 68) none) 69,.op (.fa (.t 3) 14) 70,.op (.ld (.t 70) none) 71,.op (.c 31 [.t 69,.t 71]) 72,.mv 72 8] (.r [.op (.fa (.t 2) 16) 73,.op (.ld (.t 73) (some 5)) 74,.op (.fa (.t 3) 16) 75,.op (.ld (.t 75) (some 5)) 76,.op (.c 32 [.t 74,.t 76]) 77,.mv 77 9] (.r [.op (.fa (.t 2) 21) 78,.op (.ld (.t 78) none) 79,.op (.fa (.t 3) 21) 80,.op (.ld (.t 80) none) 81,.op (.c 33 [.t 79,.t 81]) 82,.mv 82 10] (.r [.mv 5 83,.mv 83 84,.g (.mv (.t 6)) 85 84 true,.op (.pick (.t 84) (.t 85) (.c (.bool false))) 86,.mv 86 87,.g (.mv (.t 7)) 88 87 true,.op (.pick (.t 87) (.t 88) (.c (.bool false))) 89,.mv 89 90,.g (.mv (.t 8)) 91 90 true,.op (.pick (.t 90) (.t 91) (.c (.bool false))) 92,.mv 92 93,.g (.mv (.t 9)) 94 93 true,.op (.pick (.t 93) (.t 94) (.c (.bool false))) 95,.mv 95 96,.g (.mv (.t 10)) 97 96 true,.op (.pick (.t 96) (.t 97) (.c (.bool false))) 98,.mv 98 4] .ret))))))))
theorem bJs:(Go.Proofs.Tryz.f17.body).bind (aE Go.Proofs.Tryz.prog)=some bKs:=by kernel_rfl
def aMy:RC:=.reg [.mv 5 16,.op (.bin .add (.t 16) (.i 1)) 17,.mv 17 5]
def xW:RC:=.seq (.r [.mv 5 12,.mv 0 13,.op (.lenL (.t 13)) 14,.op (.bin .lss (.t 12) (.t 14)) 15] (.cond (.t 15) .skip (.exit 0))) (.seq (.block 1 (.seq (.aN [.w 0 0 (.mv (.t 0)) [0] 18,.w 1 0 (.mv (.t 5)) [5] 19,.w 2 3 (.ia (.t 18) (.t 19) 7) [18,19] 20,.w 3 7 (.fa (.t 20) 2) [20] 21,.w 4 15 (.ld (.t 21) (some 5)) [21] 22,.w 5 0 (.mv (.t 1)) [1] 23,.w 6 0 (.mv (.t 5)) [5] 24,.w 7 96 (.ia (.t 23) (.t 24) 7) [23,24] 25,.w 8 224 (.fa (.t 25) 2) [25] 26,.w 9 480 (.ld (.t 26) (some 5)) [26] 27] [(.w 10 1023 (.c 32 [.t 22,.t 27]) [22,27] 28,[.w 11 2047 (.mv (.t 28)) [28] 6])] [18,19,20,21,22,23,24,25,26,27,28,6]) (.seq (.aN [.w 0 0 (.mv (.t 6)) [6] 29,.w 1 1 (.un .not (.t 29)) [29] 30,.w 2 3 (.mv (.t 30)) [30] 31,⟨3,7,some (.mv (.t 0)),[0,31],some 32,some (31,false)⟩,⟨4,7,some (.mv (.t 5)),[5,31],some 33,some (31,false)⟩,⟨5,31,some (.ia (.t 32) (.t 33) 7),[32,33,31],some 34,some (31,false)⟩,⟨6,63,some (.fa (.t 34) 0),[34,31],some 35,some (31,false)⟩,⟨7,127,some (.ld (.t 35) none),[35,31],some 36,some (31,false)⟩,⟨8,7,some (.mv (.t 1)),[1,31],some 37,some (31,false)⟩,⟨9,7,some (.mv (.t 5)),[5,31],some 38,some (31,false)⟩,⟨10,775,some (.ia (.t 37) (.t 38) 7),[37,38,31],some 39,some (31,false)⟩,⟨11,1799,some (.fa (.t 39) 0),[39,31],some 40,some (31,false)⟩,⟨12,3847,some (.ld (.t 40) none),[40,31],some 41,some (31,false)⟩,⟨13,8191,some (.eq .str true (.t 36) (.t 41)),[36,41,31],some 42,some (31,false)⟩,.w 14 16383 (.pick (.t 31) (.c (.bool true)) (.t 42)) [31,42] 43,.w 15 32767 (.mv (.t 43)) [43] 44,⟨16,65535,some (.mv (.t 0)),[0,44],some 45,some (44,false)⟩,⟨17,65535,some (.mv (.t 5)),[5,44],some 46,some (44,false)⟩,⟨18,262143,some (.ia (.t 45) (.t 46) 7),[45,46,44],some 47,some (44,false)⟩,⟨19,524287,some (.fa (.t 47) 1),[47,44],some 48,some (44,false)⟩,⟨20,1048575,some (.ld (.t 48) none),[48,44],some 49,some (44,false)⟩,⟨21,65535,some (.mv (.t 1)),[1,44],some 50,some (44,false)⟩,⟨22,65535,some (.mv (.t 5)),[5,44],some 51,some (44,false)⟩,⟨23,6356991,some (.ia (.t 50) (.t 51) 7),[50,51,44],some 52,some (44,false)⟩,⟨24,14745599,some (.fa (.t 52) 1),[52,44],some 53,some (44,false)⟩,⟨25,31522815,some (.ld (.t 53) none),[53,44],some 54,some (44,false)⟩,⟨26,67108863,some (.eq .int true (.t 49) (.t 54)),[49,54,44],some 55,some (44,false)⟩,.w 27 134217727 (.pick (.t 44) (.c (.bool true)) (.t 55)) [44,55] 56] [] [29,30,31,32,33,34,35,36,37,38,39,40,41,42,43,44,45,46,47,48,49,50,51,52,53,54,55,56]) (.cond (.t 56) (.r [.op (.mv (.c (.bool false))) 4] .ret) .skip)))) aMy)
def aMp:RC:=.r [.op (.mv (.c (.bool true))) 4] .ret
def bIq:RC:=.r [.op (.mv (.c (.bool false))) 4] (.seq (.r [.mv 0 7,.op (.lenL (.t 7)) 8,.mv 1 9,.op (.lenL (.t 9)) 10,.op (.eq .int true (.t 8) (.t 10)) 11] (.cond (.t 11) (.r [.op (.mv (.c (.bool false))) 4] .ret) .skip)) (.seq (.r [.op (.mv (.i 0)) 5] (.block 0 (.loop xW))) aMp))
theorem bKm:(Go.Proofs.Tryz.f30.body).bind (aE Go.Proofs.Tryz.prog)=some bIq:=by kernel_rfl
def aNe:RC:=.reg [.mv 7 95,.op (.bin .add (.t 95) (.i 1)) 96,.mv 96 7]
def xN:RC:=.seq (.r [.mv 7 87,.mv 0 88,.mv 5 89,.op (.ia (.t 88) (.t 89) 9) 90,.op (.fa (.t 90) 2) 91,.op (.ld (.t 91) none) 92,.op (.lenL (.t 92)) 93,.op (.bin .lss (.t 87) (.t 93)) 94] (.cond (.t 94) .skip (.exit 2))) (.seq (.block 3 (.seq (.aN [.w 0 0 (.mv (.t 0)) [0] 97,.w 1 0 (.mv (.t 5)) [5] 98,.w 2 3 (.ia (.t 97) (.t 98) 9) [97,98] 99,.w 3 7 (.fa (.t 99) 2) [99] 100,.w 4 15 (.ld (.t 100) none) [100] 101,.w 5 0 (.mv (.t 7)) [7] 102,.w 6 63 (.ia (.t 101) (.t 102) 5) [101,102] 103,.w 7 127 (.ld (.t 103) (some 5)) [103] 104,.w 8 0 (.mv (.t 1)) [1] 105,.w 9 0 (.mv (.t 5)) [5] 106,.w 10 768 (.ia (.t 105) (.t 106) 9) [105,106] 107,.w 11 1792 (.fa (.t 107) 2) [107] 108,.w 12 3840 (.ld (.t 108) none) [108] 109,.w 13 0 (.mv (.t 7)) [7] 110,.w 14 16128 (.ia (.t 109) (.t 110) 5) [109,110] 111,.w 15 32512 (.ld (.t 111) (some 5)) [111] 112] [(.w 16 65535 (.c 32 [.t 104,.t 112]) [104,112] 113,[.w 17 131071 (.mv (.t 113)) [113] 8])] [97,98,99,100,101,102,103,104,105,106,107,108,109,110,111,112,113,8]) (.r [.mv 8 114,.op (.un .not (.t 114)) 115] (.cond (.t 115) (.r [.op (.mv (.c (.bool false))) 4] .ret) .skip)))) aNe)
def aNi:RC:=.reg [.mv 5 18,.op (.bin .add (.t 18) (.i 1)) 19,.mv 19 5]
def xB:RC:=.seq (.r [.mv 5 14,.mv 0 15,.op (.lenL (.t 15)) 16,.op (.bin .lss (.t 14) (.t 16)) 17] (.cond (.t 17) .skip (.exit 0))) (.seq (.block 1 (.seq (.aN [.w 0 0 (.mv (.t 0)) [0] 20,.w 1 0 (.mv (.t 5)) [5] 21,.w 2 3 (.ia (.t 20) (.t 21) 9) [20,21] 22,.w 3 7 (.fa (.t 22) 4) [22] 23,.w 4 15 (.ld (.t 23) (some 5)) [23] 24,.w 5 0 (.mv (.t 1)) [1] 25,.w 6 0 (.mv (.t 5)) [5] 26,.w 7 96 (.ia (.t 25) (.t 26) 9) [25,26] 27,.w 8 224 (.fa (.t 27) 4) [27] 28,.w 9 480 (.ld (.t 28) (some 5)) [28] 29] [(.w 10 1023 (.c 32 [.t 24,.t 29]) [24,29] 30,[.w 11 2047 (.mv (.t 30)) [30] 6])] [20,21,22,23,24,25,26,27,28,29,30,6]) (.seq (.seq (.aN [.w 0 0 (.mv (.t 6)) [6] 31,.w 1 1 (.un .not (.t 31)) [31] 32,.w 2 3 (.mv (.t 32)) [32] 33,⟨3,7,some (.mv (.t 0)),[0,33],some 34,some (33,false)⟩,⟨4,7,some (.mv (.t 5)),[5,33],some 35,some (33,false)⟩,⟨5,31,some (.ia (.t 34) (.t 35) 9),[34,35,33],some 36,some (33,false)⟩,⟨6,63,some (.fa (.t 36) 0),[36,33],some 37,some (33,false)⟩,⟨7,127,some (.ld (.t 37) none),[37,33],some 38,some (33,false)⟩,⟨8,7,some (.mv (.t 1)),[1,33],some 39,some (33,false)⟩,⟨9,7,some (.mv (.t 5)),[5,33],some 40,some (33,false)⟩,⟨10,775,some (.ia (.t 39) (.t 40) 9),[39,40,33],some 41,some (33,false)⟩,⟨11,1799,some (.fa (.t 41) 0),[41,33],some 42,some (33,false)⟩,⟨12,3847,some (.ld (.t 42) none),[42,33],some 43,some (33,false)⟩,⟨13,8191,some (.eq .str true (.t 38) (.t 43)),[38,43,33],some 44,some (33,false)⟩,.w 14 16383 (.pick (.t 33) (.c (.bool true)) (.t 44)) [33,44] 45,.w 15 32767 (.mv (.t 45)) [45] 46,⟨16,65535,some (.mv (.t 0)),[0,46],some 47,some (46,false)⟩,⟨17,65535,some (.mv (.t 5)),[5,46],some 48,some (46,false)⟩,⟨18,262143,some (.ia (.t 47) (.t 48) 9),[47,48,46],some 49,some (46,false)⟩,⟨19,524287,some (.fa (.t 49) 1),[49,46],some 50,some (46,false)⟩,⟨20,1048575,some (.ld (.t 50) none),[50,46],some 51,some (46,false)⟩,⟨21,65535,some (.mv (.t 1)),[1,46],some 52,some (46,false)⟩,⟨22,65535,some (.mv (.t 5)),[5,46],some 53,some (46,false)⟩,⟨23,6356991,some (.ia (.t 52) (.t 53) 9),[52,53,46],some 54,some (46,false)⟩,⟨24,14745599,some (.fa (.t 54) 1),[54,46],some 55,some (46,false)⟩,⟨25,31522815,some (.ld (.t 55) none),[55,46],some 56,some (46,false)⟩,⟨26,67108863,some (.eq .int true (.t 51) (.t 56)),[51,56,46],some 57,some (46,false)⟩,.w 27 134217727 (.pick (.t 46) (.c (.bool true)) (.t 57)) [46,57] 58,.w 28 268435455 (.mv (.t 58)) [58] 59,⟨29,536870911,some (.mv (.t 0)),[0,59],some 60,some (59,false)⟩,⟨30,536870911,some (.mv (.t 5)),[5,59],some 61,some (59,false)⟩,⟨31,2147483647,some (.ia (.t 60) (.t 61) 9),[60,61,59],some 62,some (59,false)⟩,⟨32,4294967295,some (.fa (.t 62) 3),[62,59],some 63,some (59,false)⟩,⟨33,8589934591,some (.ld (.t 63) none),[63,59],some 64,some (59,false)⟩,⟨34,536870911,some (.mv (.t 1)),[1,59],some 65,some (59,false)⟩,⟨35,536870911,some (.mv (.t 5)),[5,59],some 66,some (59,false)⟩,⟨36,52076478463,some (.ia (.t 65) (.t 66) 9),[65,66,59],some 67,some (59,false)⟩,⟨37,120795955199,some (.fa (.t 67) 3),[67,59],some 68,some (59,false)⟩,⟨38,258234908671,some (.ld (.t 68) none),[68,59],some 69,some (59,false)⟩,⟨39,549755813887,some (.eq .bool true (.t 64) (.t 69)),[64,69,59],some 70,some (59,false)⟩,.w 40 1099511627775 (.pick (.t 59) (.c (.bool true)) (.t 70)) [59,70] 71,.w 41 2199023255551 (.mv (.t 71)) [71] 72,⟨42,4398046511103,some (.mv (.t 0)),[0,72],some 73,some (72,false)⟩,⟨43,4398046511103,some (.mv (.t 5)),[5,72],some 74,some (72,false)⟩,⟨44,17592186044415,some (.ia (.t 73) (.t 74) 9),[73,74,72],some 75,some (72,false)⟩,⟨45,35184372088831,some (.fa (.t 75) 2),[75,72],some 76,some (72,false)⟩,⟨46,70368744177663,some (.ld (.t 76) none),[76,72],some 77,some (72,false)⟩,⟨47,140737488355327,some (.lenL (.t 77)),[77,72],some 78,some (72,false)⟩,⟨48,4398046511103,some (.mv (.t 1)),[1,72],some 79,some (72,false)⟩,⟨49,4398046511103,some (.mv (.t 5)),[5,72],some 80,some (72,false)⟩,⟨50,848822976643071,some (.ia (.t 79) (.t 80) 9),[79,80,72],some 81,some (72,false)⟩,⟨51,1974722883485695,some (.fa (.t 81) 2),[81,72],some 82,some (72,false)⟩,⟨52,4226522697170943,some (.ld (.t 82) none),[82,72],some 83,some (72,false)⟩,⟨53,8730122324541439,some (.lenL (.t 83)),[83,72],some 84,some (72,false)⟩,⟨54,18014398509481983,some (.eq .int true (.t 78) (.t 84)),[78,84,72],some 85,some (72,false)⟩,.w 55 36028797018963967 (.pick (.t 72) (.c (.bool true)) (.t 85)) [72,85] 86] [] [31,32,33,34,35,36,37,38,39,40,41,42,43,44,45,46,47,48,49,50,51,52,53,54,55,56,57,58,59,60,61,62,63,64,65,66,67,68,69,70,71,72,73,74,75,76,77,78,79,80,81,82,83,84,85,86]) (.cond (.t 86) (.r [.op (.mv (.c (.bool false))) 4] .ret) .skip)) (.r [.op (.mv (.i 0)) 7] (.block 2 (.loop xN)))))) aNi)
def aNy:RC:=.r [.op (.mv (.c (.bool true))) 4] .ret
def bHw:RC:=.r [.op (.mv (.c (.bool false))) 4] (.seq (.r [.mv 0 9,.op (.lenL (.t 9)) 10,.mv 1 11,.op (.lenL (.t 11)) 12,.op (.eq .int true (.t 10) (.t 12)) 13] (.cond (.t 13) (.r [.op (.mv (.c (.bool false))) 4] .ret) .skip)) (.seq (.r [.op (.mv (.i 0)) 5] (.block 0 (.loop xB))) aNy))
theorem bJb:(Go.Proofs.Tryz.f31.body).bind (aE Go.Proofs.Tryz.prog)=some bHw:=by kernel_rfl
end Go.VM
end
section
/- Files: a file is the same as itself. -/
set_option maxRecDepth 100000
namespace Go.VM
open Go.RowKit
theorem tG{K:Nat}(hK:K<big){x:Tx}(ho:okT K x)(h:H):SCall Go.Proofs.Tryz.prog [] 32 [.agg (cD x),.agg (cD x)] none h (.ret (.bool true)) none h:=
 SCall.eG rfl (yX K hK _ x (Nat.lt_succ_self _) ho) (by exact⟨jB x,jB x,trivial⟩) trivial h
theorem aYw{K:Nat}(hK:K<big){l:List Sx}(ho:vM K l)(hl:l.length≤K)(h:H):SCall Go.Proofs.Tryz.prog [] 33 [slC l,slC l] none h (.ret (.bool true)) none h:=
 SCall.eG rfl (yG K hK _ l (Nat.lt_succ_self _) ho hl) (by exact⟨⟨fR l,trivial⟩,⟨fR l,trivial⟩,trivial⟩) trivial h
def bNb(xs:List Pm)(i:Nat):TM:=[(0,.v (iG cM xs)),(1,.v (iG cM xs)),(4,.v (.bool false)),(5,.v (.int .i64 i))]
theorem bAr{QN:S→Prop}{QX:X→S→Prop}{K:Nat}(hK:K<big)(xs:List Pm)(ho:∀p∈xs,okT K p.t)(hb:xs.length<big)(h0:∀tm,QX (.exit 0) (SL.toS ⟨tm,[],none,1000,[],[]⟩)):∀m i,i+m=xs.length→
  WLr Go.Proofs.Tryz.prog [] ⟨Go.Proofs.Tryz.f30.ntmps,none,30⟩ xW (SL.toS ⟨bNb xs i,[],none,1000,[],[]⟩) QN QX:=by
 intro m
 induction m with
 |zero=>
  intro i hi
  unfold xW
  refine WLr.of ?_
  repeat apply sQ
  refine WR.m 3 rfl ?_
  rw[List.length_map]
  refine WQ.m 1 rfl ?_
  rw[show decide ((i:Int)<(xs.length:Int))=false from decide_eq_false (by omega)]
  refine WQ.q rfl ?_
  repeat apply sQ
  exact WR.aO rfl (WR.exit (h0 _))
 |succ m ih=>
  intro i hi
  obtain⟨p,hp⟩:∃p,xs[i]? =some p:=⟨xs[i],List.getElem?_eq_getElem (by omega)⟩
  have s3:=fun h=>tG hK (ho p (List.mem_of_getElem? hp)) h
  have ih:=ih (i+1) (by omega)
  obtain⟨xn,xa,⟨xtk,xta,xtp,xtn,xtl⟩⟩:=p
  have hpe:(xs.map cM)[i]? =some (cM ⟨xn,xa,⟨xtk,xta,xtp,xtn,xtl⟩⟩):=by rw[List.getElem?_map,hp];rfl
  unfold xW
  refine WLr.of ?_
  repeat apply sQ
  refine WR.m 3 rfl ?_
  rw[List.length_map]
  refine WQ.m 1 rfl ?_
  rw[show decide ((i:Int)<(xs.length:Int))=true from decide_eq_true (by omega)]
  refine WQ.q rfl ?_
  repeat apply sQ
  refine WR.aD rfl (WR.skip ?_)
  repeat(first|refine WR.seq ?_|refine WR.block ?_)
  refine WR.aN aZ ?_
  refine DW.m 2 rfl ?_
  refine DW.cX rfl (fun h=>bT (cs:=cM ⟨xn,xa,⟨xtk,xta,xtp,xtn,xtl⟩⟩) rfl rfl hpe rfl) rfl (DW.m 4 rfl ?_)
  refine DW.cX rfl (fun h=>bT (cs:=cM ⟨xn,xa,⟨xtk,xta,xtp,xtn,xtl⟩⟩) rfl rfl hpe rfl) rfl (DW.m 1000 rfl ?_)
  refine DW.dX pQ rfl rfl rfl rfl rfl (s3 _) .base rfl (DW.m 1000 rfl (DW.bS pQ ?_))
  repeat apply sQ
  refine WR.aN aZ ?_
  refine DW.m 5 rfl ?_
  refine DW.cX rfl (fun h=>bT (cs:=cM ⟨xn,xa,⟨xtk,xta,xtp,xtn,xtl⟩⟩) rfl rfl hpe rfl) rfl (DW.m 4 rfl ?_)
  refine DW.cX rfl (fun h=>bT (cs:=cM ⟨xn,xa,⟨xtk,xta,xtp,xtn,xtl⟩⟩) rfl rfl hpe rfl) rfl (DW.m 3 rfl ?_)
  rw[show decide (xn=xn)=true from decide_eq_true rfl]
  refine DW.m 4 rfl ?_
  refine DW.cX rfl (fun h=>bT (cs:=cM ⟨xn,xa,⟨xtk,xta,xtp,xtn,xtl⟩⟩) rfl rfl hpe rfl) rfl (DW.m 4 rfl ?_)
  refine DW.cX rfl (fun h=>bT (cs:=cM ⟨xn,xa,⟨xtk,xta,xtp,xtn,xtl⟩⟩) rfl rfl hpe rfl) rfl (DW.m 3 rfl ?_)
  rw[show decide (xa=xa)=true from decide_eq_true rfl]
  refine DW.m 1000 rfl (DW.bS pQ ?_)
  repeat apply sQ
  refine WR.k rfl ?_
  unfold aMy
  repeat apply sQ
  refine WR.m 2 rfl ?_
  rw[bJ (by omega)]
  refine WQ.q rfl ?_
  refine WIr.again (WLr.weak ?_ ih)
  refine SW.aQ ?_ ?_
  ·exact tQ
  ·exact lQ
theorem vK{K:Nat}(hK:K<big)(xs:List Pm)(ho:∀p∈xs,okT K p.t)(hb:xs.length<big)(h:H):SCall Go.Proofs.Tryz.prog [] 30 [iG cM xs,iG cM xs] none h (.ret (.bool true)) none h:=by
 refine SCall.eG rfl ?_ (by exact⟨eP jD xs,eP jD xs,trivial⟩) (by exact trivial) h
 refine SCall.listed (fn:=Go.Proofs.Tryz.f30) (by kernel_rfl) bKm (by kernel_rfl) (by kernel_rfl) (Nat.le_refl _) rfl (trivial) trivial ?_
 unfold bIq
 repeat apply sQ
 refine WR.q rfl ?_
 repeat apply sQ
 refine WR.m 4 rfl ?_
 refine WQ.m 1 rfl ?_
 rw[show decide (((xs.map cM).length:Int)=((xs.map cM).length:Int))=true from decide_eq_true rfl]
 refine WQ.q rfl ?_
 repeat apply sQ
 refine WR.k rfl ?_
 repeat apply sQ
 refine WR.q rfl ?_
 repeat apply sQ
 refine WR.block (WR.loop (WLr.weak ?_ (bAr hK xs ho hb (fun tm=>?_) xs.length 0 (by omega))))
 ·refine SW.aQ ?_ ?_
  ·exact tQ
  ·exact lQ
 ·unfold aMp
  repeat apply sQ
  refine WR.q rfl ?_
  exact WR.e
def bNn(xs:List Mx)(i k:Nat):TM:=[(0,.v (iG cU xs)),(1,.v (iG cU xs)),(4,.v (.bool false)),(5,.v (.int .i64 i)),(7,.v (.int .i64 k))]
theorem bCg{QN:S→Prop}{QX:X→S→Prop}{K:Nat}(hK:K<big)(xs:List Mx)(i:Nat)(y:Mx)(hy:xs[i]? =some y)(ho:∀t∈y.ps,okT K t)(hb:y.ps.length<big)(h0:∀tm,TellT tm [] [(0,.v (iG cU xs)),(1,.v (iG cU xs)),(4,.v (.bool false)),(5,.v (.int .i64 i))]→QX (.exit 2) (SL.toS ⟨tm,[],none,1000,[],[]⟩)):∀m k,k+m=y.ps.length→
  WLr Go.Proofs.Tryz.prog [] ⟨Go.Proofs.Tryz.f31.ntmps,none,31⟩ xN (SL.toS ⟨bNn xs i k,[],none,1000,[],[]⟩) QN QX:=by
 obtain⟨yn,ya,ps,yh,⟨xtk,xta,xtp,xtn,xtl⟩⟩:=y
 have hye:(xs.map cU)[i]? =some (cU ⟨yn,ya,ps,yh,⟨xtk,xta,xtp,xtn,xtl⟩⟩):=by rw[List.getElem?_map,hy];rfl
 dsimp only at ho hb
 intro m
 induction m with
 |zero=>
  intro k hk
  have hk:k=ps.length:=hk
  unfold xN
  refine WLr.of ?_
  repeat apply sQ
  refine WR.m 3 rfl ?_
  refine WQ.cE rfl rfl rfl (bT (cs:=cU ⟨yn,ya,ps,yh,⟨xtk,xta,xtp,xtn,xtl⟩⟩) rfl rfl hye rfl) rfl ?_
  refine WQ.m 3 rfl ?_
  rw[List.length_map]
  refine WQ.m 1 rfl ?_
  rw[show decide ((k:Int)<(ps.length:Int))=false from decide_eq_false (by omega)]
  refine WQ.q rfl ?_
  repeat apply sQ
  refine WR.aO rfl (WR.exit (h0 _ ?_))
  exact tQ
 |succ m ih=>
  intro k hk
  have hk:k+(m+1)=ps.length:=hk
  obtain⟨p,hp⟩:∃p,ps[k]? =some p:=⟨ps[k],List.getElem?_eq_getElem (by omega)⟩
  have s3:=fun h=>tG hK (ho p (List.mem_of_getElem? hp)) h
  have ih:=ih (k+1) (by show k+1+m=ps.length;omega)
  obtain⟨qk,qa,qp,qn,ql⟩:=p
  have hpe:(ps.map cD)[k]? =some (cD ⟨qk,qa,qp,qn,ql⟩):=by rw[List.getElem?_map,hp];rfl
  unfold xN
  refine WLr.of ?_
  repeat apply sQ
  refine WR.m 3 rfl ?_
  refine WQ.cE rfl rfl rfl (bT (cs:=cU ⟨yn,ya,ps,yh,⟨xtk,xta,xtp,xtn,xtl⟩⟩) rfl rfl hye rfl) rfl ?_
  refine WQ.m 3 rfl ?_
  rw[List.length_map]
  refine WQ.m 1 rfl ?_
  rw[show decide ((k:Int)<(ps.length:Int))=true from decide_eq_true (by omega)]
  refine WQ.q rfl ?_
  repeat apply sQ
  refine WR.aD rfl (WR.skip ?_)
  repeat(first|refine WR.seq ?_|refine WR.block ?_)
  refine WR.aN aZ ?_
  refine DW.m 2 rfl ?_
  refine DW.cX rfl (fun h=>bT (cs:=cU ⟨yn,ya,ps,yh,⟨xtk,xta,xtp,xtn,xtl⟩⟩) rfl rfl hye rfl) rfl (DW.m 3 rfl ?_)
  refine DW.cX rfl (fun h=>bT (cs:=cD ⟨qk,qa,qp,qn,ql⟩) rfl rfl hpe rfl) rfl (DW.m 3 rfl ?_)
  refine DW.cX rfl (fun h=>bT (cs:=cU ⟨yn,ya,ps,yh,⟨xtk,xta,xtp,xtn,xtl⟩⟩) rfl rfl hye rfl) rfl (DW.m 3 rfl ?_)
  refine DW.cX rfl (fun h=>bT (cs:=cD ⟨qk,qa,qp,qn,ql⟩) rfl rfl hpe rfl) rfl (DW.m 1000 rfl ?_)
  refine DW.dX pQ rfl rfl rfl rfl rfl (s3 _) .base rfl (DW.m 1000 rfl (DW.bS pQ ?_))
  repeat apply sQ
  refine WR.q rfl ?_
  repeat apply sQ
  refine WR.k rfl ?_
  unfold aNe
  repeat apply sQ
  refine WR.m 2 rfl ?_
  rw[bJ (by omega)]
  refine WQ.q rfl ?_
  refine WIr.again (WLr.weak ?_ ih)
  refine SW.aQ ?_ ?_
  ·exact tQ
  ·exact lQ
def okM(K:Nat)(m:Mx):Prop:=(∀t∈m.ps,okT K t)∧m.ps.length<big∧okT K m.res
def bNh(xs:List Mx)(i:Nat):TM:=[(0,.v (iG cU xs)),(1,.v (iG cU xs)),(4,.v (.bool false)),(5,.v (.int .i64 i))]
theorem bCn{QN:S→Prop}{QX:X→S→Prop}{K:Nat}(hK:K<big)(xs:List Mx)(ho:∀p∈xs,okM K p)(hb:xs.length<big)(h0:∀tm,QX (.exit 0) (SL.toS ⟨tm,[],none,1000,[],[]⟩)):∀m i,i+m=xs.length→
  WLr Go.Proofs.Tryz.prog [] ⟨Go.Proofs.Tryz.f31.ntmps,none,31⟩ xB (SL.toS ⟨bNh xs i,[],none,1000,[],[]⟩) QN QX:=by
 intro m
 induction m with
 |zero=>
  intro i hi
  unfold xB
  refine WLr.of ?_
  repeat apply sQ
  refine WR.m 3 rfl ?_
  rw[List.length_map]
  refine WQ.m 1 rfl ?_
  rw[show decide ((i:Int)<(xs.length:Int))=false from decide_eq_false (by omega)]
  refine WQ.q rfl ?_
  repeat apply sQ
  exact WR.aO rfl (WR.exit (h0 _))
 |succ m ih=>
  intro i hi
  obtain⟨p,hp⟩:∃p,xs[i]? =some p:=⟨xs[i],List.getElem?_eq_getElem (by omega)⟩
  obtain⟨o1,o2,o3⟩:=ho p (List.mem_of_getElem? hp)
  have s3:=fun h=>tG hK o3 h
  have ih:=ih (i+1) (by omega)
  have lp:=fun QN QX h0=>bCg (QN:=QN) (QX:=QX) hK xs i p hp o1 o2 h0 p.ps.length 0 (by omega)
  obtain⟨xn,xa,ps,xh,⟨xtk,xta,xtp,xtn,xtl⟩⟩:=p
  have hpe:(xs.map cU)[i]? =some (cU ⟨xn,xa,ps,xh,⟨xtk,xta,xtp,xtn,xtl⟩⟩):=by rw[List.getElem?_map,hp];rfl
  unfold xB
  refine WLr.of ?_
  repeat apply sQ
  refine WR.m 3 rfl ?_
  rw[List.length_map]
  refine WQ.m 1 rfl ?_
  rw[show decide ((i:Int)<(xs.length:Int))=true from decide_eq_true (by omega)]
  refine WQ.q rfl ?_
  repeat apply sQ
  refine WR.aD rfl (WR.skip ?_)
  repeat(first|refine WR.seq ?_|refine WR.block ?_)
  refine WR.aN aZ ?_
  refine DW.m 2 rfl ?_
  refine DW.cX rfl (fun h=>bT (cs:=cU ⟨xn,xa,ps,xh,⟨xtk,xta,xtp,xtn,xtl⟩⟩) rfl rfl hpe rfl) rfl (DW.m 4 rfl ?_)
  refine DW.cX rfl (fun h=>bT (cs:=cU ⟨xn,xa,ps,xh,⟨xtk,xta,xtp,xtn,xtl⟩⟩) rfl rfl hpe rfl) rfl (DW.m 1000 rfl ?_)
  refine DW.dX pQ rfl rfl rfl rfl rfl (s3 _) .base rfl (DW.m 1000 rfl (DW.bS pQ ?_))
  repeat apply sQ
  refine WR.aN aZ ?_
  refine DW.m 5 rfl ?_
  refine DW.cX rfl (fun h=>bT (cs:=cU ⟨xn,xa,ps,xh,⟨xtk,xta,xtp,xtn,xtl⟩⟩) rfl rfl hpe rfl) rfl (DW.m 4 rfl ?_)
  refine DW.cX rfl (fun h=>bT (cs:=cU ⟨xn,xa,ps,xh,⟨xtk,xta,xtp,xtn,xtl⟩⟩) rfl rfl hpe rfl) rfl (DW.m 3 rfl ?_)
  rw[show decide (xn=xn)=true from decide_eq_true rfl]
  refine DW.m 4 rfl ?_
  refine DW.cX rfl (fun h=>bT (cs:=cU ⟨xn,xa,ps,xh,⟨xtk,xta,xtp,xtn,xtl⟩⟩) rfl rfl hpe rfl) rfl (DW.m 4 rfl ?_)
  refine DW.cX rfl (fun h=>bT (cs:=cU ⟨xn,xa,ps,xh,⟨xtk,xta,xtp,xtn,xtl⟩⟩) rfl rfl hpe rfl) rfl (DW.m 3 rfl ?_)
  rw[show decide (xa=xa)=true from decide_eq_true rfl]
  refine DW.m 4 rfl ?_
  refine DW.cX rfl (fun h=>bT (cs:=cU ⟨xn,xa,ps,xh,⟨xtk,xta,xtp,xtn,xtl⟩⟩) rfl rfl hpe rfl) rfl (DW.m 4 rfl ?_)
  refine DW.cX rfl (fun h=>bT (cs:=cU ⟨xn,xa,ps,xh,⟨xtk,xta,xtp,xtn,xtl⟩⟩) rfl rfl hpe rfl) rfl (DW.m 2 rfl ?_)
  refine DW.m 1 rfl ?_
  rw[show(xh==xh)=true from by cases xh<;>rfl]
  refine DW.m 4 rfl ?_
  refine DW.cX rfl (fun h=>bT (cs:=cU ⟨xn,xa,ps,xh,⟨xtk,xta,xtp,xtn,xtl⟩⟩) rfl rfl hpe rfl) rfl (DW.m 5 rfl ?_)
  refine DW.cX rfl (fun h=>bT (cs:=cU ⟨xn,xa,ps,xh,⟨xtk,xta,xtp,xtn,xtl⟩⟩) rfl rfl hpe rfl) rfl (DW.m 3 rfl ?_)
  refine DW.m 1 rfl ?_
  rw[show decide (((ps.map cD).length:Int)=((ps.map cD).length:Int))=true from decide_eq_true rfl]
  refine DW.m 1000 rfl (DW.bS pQ ?_)
  repeat apply sQ
  refine WR.k rfl ?_
  repeat apply sQ
  refine WR.q rfl ?_
  repeat(first|refine WR.seq ?_|refine WR.block ?_)
  refine WR.loop (WLr.weak ?_ (lp _ _ (fun tm htm=>?_)))
  ·refine SW.aQ ?_ ?_
   ·exact tQ
   ·exact lQ
  ·refine WR.weak (SW.aQ htm .nil) ?_
   unfold aNi
   repeat apply sQ
   refine WR.m 2 rfl ?_
   rw[bJ (by omega)]
   refine WQ.q rfl ?_
   refine WIr.again (WLr.weak ?_ ih)
   refine SW.aQ ?_ ?_
   ·exact tQ
   ·exact lQ
theorem aJk{K:Nat}(hK:K<big)(xs:List Mx)(ho:∀p∈xs,okM K p)(hb:xs.length<big)(h:H):SCall Go.Proofs.Tryz.prog [] 31 [iG cU xs,iG cU xs] none h (.ret (.bool true)) none h:=by
 refine SCall.eG rfl ?_ (by exact⟨eP uC xs,eP uC xs,trivial⟩) (by exact trivial) h
 refine SCall.listed (fn:=Go.Proofs.Tryz.f31) (by kernel_rfl) bJb (by kernel_rfl) (by kernel_rfl) (Nat.le_refl _) rfl (trivial) trivial ?_
 unfold bHw
 repeat apply sQ
 refine WR.q rfl ?_
 repeat apply sQ
 refine WR.m 4 rfl ?_
 refine WQ.m 1 rfl ?_
 rw[show decide (((xs.map cU).length:Int)=((xs.map cU).length:Int))=true from decide_eq_true rfl]
 refine WQ.q rfl ?_
 repeat apply sQ
 refine WR.k rfl ?_
 repeat apply sQ
 refine WR.q rfl ?_
 repeat apply sQ
 refine WR.block (WR.loop (WLr.weak ?_ (bCn hK xs ho hb (fun tm=>?_) xs.length 0 (by omega))))
 ·refine SW.aQ ?_ ?_
  ·exact tQ
  ·exact lQ
 ·unfold aNy
  repeat apply sQ
  refine WR.q rfl ?_
  exact WR.e
end Go.VM
end
section
/- Files: a declaration and a file are the same as themselves. -/
set_option maxRecDepth 100000
namespace Go.VM
open Go.RowKit
structure okD(K:Nat)(d:Dx):Prop where
 rv:okT K d.rv.t
 bs:∀p∈d.bs,okT K p.t
 bl:d.bs.length<big
 fs:∀p∈d.fs,okT K p.t
 fl:d.fs.length<big
 ms:∀p∈d.ms,okM K p
 ml:d.ms.length<big
 res:okT K d.res
 body:vM K d.body
 len:d.body.length≤K
theorem aMx{a b:Obj}(x:Nat)(h:x<1000):og [] x=og [(1000,a),(1001,b)] x:=by
 simp only[aT]
 repeat rw[if_neg (by omega)]
theorem bCu{K:Nat}(hK:K<big)(d:Dx)(ho:okD K d)(h:H):SCall Go.Proofs.Tryz.prog [] 17 [yJ d,yJ d] none h (.ret (.bool true)) none h:=by
 refine SCall.eG rfl ?_ (by exact⟨qN d,qN d,trivial⟩) (by exact trivial) h
 have s1:=fun h=>SCall.args (vK hK [d.rv] (fun p hp=>by rw[List.mem_singleton]at hp;subst hp;exact ho.rv) (by show 1<big;unfold big;omega) h) (args2:=[.lst [cM d.rv] (.ex 1),.lst [cM d.rv] (.ex 1)]) (fun E xs h=>VLL.ars (.cons (VLe.unk _ _) (.cons (VLe.unk _ _) .nil)) h)
 have s2:=fun h=>vK hK d.bs ho.bs ho.bl h
 have s3:=fun h=>vK hK d.fs ho.fs ho.fl h
 have s4:=fun h=>aJk hK d.ms ho.ms ho.ml h
 have s5:=fun h=>tG hK ho.res h
 have s6:=fun h=>aYw hK ho.body ho.len h
 obtain⟨dk,da,de,dn,dmt,⟨rn,ra,⟨k1,b1,q1,m1,l1⟩⟩,bs,fs,ms,has,⟨k2,b2,q2,m2,l2⟩,body⟩:=d
 dsimp only at s1 s2 s3 s4 s5 s6
 refine SCall.listed (fn:=Go.Proofs.Tryz.f17) (by kernel_rfl) bJs (by kernel_rfl) (by kernel_rfl) (Nat.le_refl _) rfl (trivial) trivial ?_
 unfold bKs
 repeat apply sQ
 refine WR.reg (WQ.aG [2,3] 1000 _ _ _ _ rfl (WQ.aK ?_))
 repeat apply sQ
 refine WR.m 4 rfl ?_
 refine WQ.m 1 rfl ?_
 rw[show decide ((dk:Int)=(dk:Int))=true from decide_eq_true rfl]
 refine WQ.m 6 rfl ?_
 rw[show decide (da=da)=true from decide_eq_true rfl]
 refine WQ.m 7 rfl ?_
 rw[show decide (de=de)=true from decide_eq_true rfl]
 refine WQ.m 7 rfl ?_
 rw[show decide (dn=dn)=true from decide_eq_true rfl]
 refine WQ.m 6 rfl ?_
 refine WQ.m 1 rfl ?_
 rw[show(dmt==dmt)=true from by cases dmt<;>rfl]
 refine WQ.m 6 rfl ?_
 refine WQ.m 1 rfl ?_
 rw[show(has==has)=true from by cases has<;>rfl]
 refine WQ.q rfl ?_
 repeat apply sQ
 refine WR.k rfl ?_
 repeat apply sQ
 refine WR.m 6 rfl ?_
 refine WQ.c rfl (s1 _) .base rfl ?_
 refine WQ.q rfl ?_
 repeat apply sQ
 refine WR.m 4 rfl ?_
 refine WQ.c rfl (s2 _) .base rfl ?_
 refine WQ.q rfl ?_
 repeat apply sQ
 refine WR.m 4 rfl ?_
 refine WQ.c rfl (s3 _) .base rfl ?_
 refine WQ.q rfl ?_
 repeat apply sQ
 refine WR.m 4 rfl ?_
 refine WQ.c rfl (s4 _) .base rfl ?_
 refine WQ.q rfl ?_
 repeat apply sQ
 refine WR.m 4 rfl ?_
 refine WQ.c rfl (s5 _) .base rfl ?_
 refine WQ.q rfl ?_
 repeat apply sQ
 refine WR.m 4 rfl ?_
 refine WQ.c rfl (s6 _) .base rfl ?_
 refine WQ.q rfl ?_
 repeat apply sQ
 refine WR.q rfl ?_
 exact WR.ret ⟨rfl,rfl,⟨_,rfl,VLe.refl _⟩,fun b hb=>aMx b hb⟩
structure okF(K:Nat)(f:FileX):Prop where
 il:f.is.length<big
 ds:∀d∈f.ds,okD K d
 dl:f.ds.length<big
def f6M(f:FileX):OL:=[(1000,.cells false (wJ f)),(1001,.cells false (wJ f))]
def bMx(i:Nat):TM:=[(2,.v (.ptr 1000 0)),(3,.v (.ptr 1001 0)),(5,.v (.int .i64 i))]
def bMv(i:Nat):TM:=[(2,.v (.ptr 1000 0)),(3,.v (.ptr 1001 0)),(6,.v (.int .i64 i))]
theorem bDl{QN:S→Prop}{QX:X→S→Prop}(f:FileX)(hb:f.is.length<big)(h0:∀tm,TellT tm [] [(2,.v (.ptr 1000 0)),(3,.v (.ptr 1001 0))]→QX (.exit 0) (SL.toS ⟨tm,[],none,1002,f6M f,[]⟩)):∀m i,i+m=f.is.length→
  WLr Go.Proofs.Tryz.prog [] ⟨Go.Proofs.Tryz.f10.ntmps,none,10⟩ xO (SL.toS ⟨bMx i,[],none,1002,f6M f,[]⟩) QN QX:=by
 obtain⟨fn,fa,is,ds⟩:=f
 dsimp only at hb⊢
 intro m
 induction m with
 |zero=>
  intro i hi
  unfold xO
  refine WLr.of ?_
  repeat apply sQ
  refine WR.m 4 rfl ?_
  rw[List.length_map]
  refine WQ.m 1 rfl ?_
  rw[show decide ((i:Int)<(is.length:Int))=false from decide_eq_false (by omega)]
  refine WQ.q rfl ?_
  repeat apply sQ
  refine WR.aO rfl (WR.exit (h0 _ ?_))
  exact tQ
 |succ m ih=>
  intro i hi
  obtain⟨⟨xn,xa⟩,hp⟩:∃p,is[i]? =some p:=⟨is[i],List.getElem?_eq_getElem (by omega)⟩
  have ih:=ih (i+1) (by omega)
  have hpe:(is.map iU)[i]? =some (iU ⟨xn,xa⟩):=by rw[List.getElem?_map,hp];rfl
  unfold xO
  refine WLr.of ?_
  repeat apply sQ
  refine WR.m 4 rfl ?_
  rw[List.length_map]
  refine WQ.m 1 rfl ?_
  rw[show decide ((i:Int)<(is.length:Int))=true from decide_eq_true (by omega)]
  refine WQ.q rfl ?_
  repeat apply sQ
  refine WR.aD rfl (WR.skip ?_)
  repeat(first|refine WR.seq ?_|refine WR.block ?_)
  refine WR.aN aZ ?_
  refine DW.m 3 rfl ?_
  refine DW.cX rfl (fun h=>bT (cs:=iU ⟨xn,xa⟩) rfl rfl hpe rfl) rfl (DW.m 4 rfl ?_)
  refine DW.cX rfl (fun h=>bT (cs:=iU ⟨xn,xa⟩) rfl rfl hpe rfl) rfl (DW.m 1 rfl ?_)
  refine DW.m 1 rfl ?_
  rw[show(decide (xn=xn)&&(decide (xa=xa)&&true))=true from by rw[decide_eq_true rfl,decide_eq_true rfl];rfl]
  refine DW.m 1000 rfl (DW.bS pQ ?_)
  repeat apply sQ
  refine WR.k rfl ?_
  unfold aNa
  repeat apply sQ
  refine WR.m 2 rfl ?_
  rw[bJ (by omega)]
  refine WQ.q rfl ?_
  refine WIr.again (WLr.weak ?_ ih)
  refine SW.aQ ?_ ?_
  ·exact tQ
  ·exact lQ
theorem bBa{QN:S→Prop}{QX:X→S→Prop}{K:Nat}(hK:K<big)(f:FileX)(ho:∀d∈f.ds,okD K d)(hb:f.ds.length<big)(h0:∀tm,QX (.exit 2) (SL.toS ⟨tm,[],none,1002,f6M f,[]⟩)):∀m i,i+m=f.ds.length→
  WLr Go.Proofs.Tryz.prog [] ⟨Go.Proofs.Tryz.f10.ntmps,none,10⟩ xK (SL.toS ⟨bMv i,[],none,1002,f6M f,[]⟩) QN QX:=by
 obtain⟨fn,fa,is,ds⟩:=f
 dsimp only at ho hb⊢
 intro m
 induction m with
 |zero=>
  intro i hi
  unfold xK
  refine WLr.of ?_
  repeat apply sQ
  refine WR.m 4 rfl ?_
  rw[List.length_map]
  refine WQ.m 1 rfl ?_
  rw[show decide ((i:Int)<(ds.length:Int))=false from decide_eq_false (by omega)]
  refine WQ.q rfl ?_
  repeat apply sQ
  exact WR.aO rfl (WR.exit (h0 _))
 |succ m ih=>
  intro i hi
  obtain⟨d,hp⟩:∃p,ds[i]? =some p:=⟨ds[i],List.getElem?_eq_getElem (by omega)⟩
  have ih:=ih (i+1) (by omega)
  have sd:=fun h=>bCu hK d (ho d (List.mem_of_getElem? hp)) h
  obtain⟨dk,da,de,dn,dmt,⟨rn,ra,⟨k1,b1,q1,m1,l1⟩⟩,bs,fs,ms,has,⟨k2,b2,q2,m2,l2⟩,body⟩:=d
  have hpe:(ds.map dR)[i]? =some (dR ⟨dk,da,de,dn,dmt,⟨rn,ra,⟨k1,b1,q1,m1,l1⟩⟩,bs,fs,ms,has,⟨k2,b2,q2,m2,l2⟩,body⟩):=by rw[List.getElem?_map,hp];rfl
  unfold xK
  refine WLr.of ?_
  repeat apply sQ
  refine WR.m 4 rfl ?_
  rw[List.length_map]
  refine WQ.m 1 rfl ?_
  rw[show decide ((i:Int)<(ds.length:Int))=true from decide_eq_true (by omega)]
  refine WQ.q rfl ?_
  repeat apply sQ
  refine WR.aD rfl (WR.skip ?_)
  repeat(first|refine WR.seq ?_|refine WR.block ?_)
  refine WR.aN aZ ?_
  refine DW.m 3 rfl ?_
  refine DW.cX rfl (fun h=>bT (cs:=dR ⟨dk,da,de,dn,dmt,⟨rn,ra,⟨k1,b1,q1,m1,l1⟩⟩,bs,fs,ms,has,⟨k2,b2,q2,m2,l2⟩,body⟩) rfl rfl hpe rfl) rfl (DW.m 4 rfl ?_)
  refine DW.cX rfl (fun h=>bT (cs:=dR ⟨dk,da,de,dn,dmt,⟨rn,ra,⟨k1,b1,q1,m1,l1⟩⟩,bs,fs,ms,has,⟨k2,b2,q2,m2,l2⟩,body⟩) rfl rfl hpe rfl) rfl (DW.m 1000 rfl ?_)
  refine DW.dX pQ rfl rfl rfl rfl rfl (sd _) .base rfl (DW.m 1000 rfl (DW.bS pQ ?_))
  repeat apply sQ
  refine WR.q rfl ?_
  repeat apply sQ
  refine WR.k rfl ?_
  unfold aOa
  repeat apply sQ
  refine WR.m 2 rfl ?_
  rw[bJ (by omega)]
  refine WQ.q rfl ?_
  refine WIr.again (WLr.weak ?_ ih)
  refine SW.aQ ?_ ?_
  ·exact tQ
  ·exact lQ
theorem aRj{K:Nat}(hK:K<big)(f:FileX)(ho:okF K f)(h:H):SCall Go.Proofs.Tryz.prog [] 10 [mF f,mF f] none h (.ret (.bool true)) none h:=by
 refine SCall.eG rfl ?_ (by exact⟨kF f,kF f,trivial⟩) (by exact trivial) h
 have l1:=fun QN QX h0=>bDl (QN:=QN) (QX:=QX) f ho.il h0 f.is.length 0 (by omega)
 have l2:=fun QN QX h0=>bBa (QN:=QN) (QX:=QX) hK f ho.ds ho.dl h0 f.ds.length 0 (by omega)
 obtain⟨fn,fa,is,ds⟩:=f
 skip
 refine SCall.listed (fn:=Go.Proofs.Tryz.f10) (by kernel_rfl) bLa (by kernel_rfl) (by kernel_rfl) (Nat.le_refl _) rfl (trivial) trivial ?_
 unfold bIh
 repeat apply sQ
 refine WR.reg (WQ.aG [2,3] 1000 _ _ _ _ rfl (WQ.aK ?_))
 repeat apply sQ
 refine WR.m 4 rfl ?_
 refine WQ.m 1 rfl ?_
 rw[show decide (fn=fn)=true from decide_eq_true rfl]
 refine WQ.m 6 rfl ?_
 rw[show decide (fa=fa)=true from decide_eq_true rfl]
 refine WQ.m 8 rfl ?_
 refine WQ.m 1 rfl ?_
 rw[show decide (((is.map iU).length:Int)=((is.map iU).length:Int))=true from decide_eq_true rfl]
 refine WQ.m 8 rfl ?_
 refine WQ.m 1 rfl ?_
 rw[show decide (((ds.map dR).length:Int)=((ds.map dR).length:Int))=true from decide_eq_true rfl]
 refine WQ.q rfl ?_
 repeat apply sQ
 refine WR.k rfl ?_
 repeat apply sQ
 refine WR.q rfl ?_
 repeat(first|refine WR.seq ?_|refine WR.block ?_)
 refine WR.loop (WLr.weak ?_ (l1 _ _ (fun tm htm=>?_)))
 ·refine SW.aQ ?_ ?_
  ·exact tQ
  ·exact lQ
 ·refine WR.weak (SW.aQ htm .nil) ?_
  unfold aOw
  repeat apply sQ
  refine WR.q rfl ?_
  repeat(first|refine WR.seq ?_|refine WR.block ?_)
  refine WR.loop (WLr.weak ?_ (l2 _ _ (fun tm=>?_)))
  ·refine SW.aQ ?_ ?_
   ·exact tQ
   ·exact lQ
  ·unfold aMw
   repeat apply sQ
   refine WR.q rfl ?_
   exact WR.ret ⟨rfl,rfl,⟨_,rfl,VLe.refl _⟩,fun b hb=>aMx b hb⟩
end Go.VM
end
