/- laid for this seat: RcSt VzA VzB VzP VzC VzD -/
import Derived.Test.YtgadhdnnkdcgkaaGreatDoorVmR
import Derived.Test.YtgadhdnnkdcgkaaGreatDoorVmS
import Derived.Test.YtgadhdnnkdcgkaaGreatDoorProg
import Derived.ProofKit
import Derived.Test.YtgadhdnnkdcgkaaGreatDoorVg7
set_option linter.unusedVariables false
set_option linter.unusedSimpArgs false
section
set_option maxRecDepth 100000
namespace Go.VM
open Go.RowKit
def aMy:RC:=.r [.mv 7 28,.op (.c 90 [.t 28]) 29,.mv 29 8] (.seq (.r [.mv 7 30,.op (.c 91 [.t 30]) 31,.op (.un .not (.t 31)) 32] (.cond (.t 32) (.seq (.aP [.w 0 0 (.mv (.t 7)) [7] 33,.w 1 1 (.nc (.t 33)) [33] 34,.w 2 3 (.fa (.t 34) 3) [34] 35,.w 3 7 (.ld (.t 35) (some 2)) [35] 36,.w 4 0 (.mv (.c (.n))) [] 4,.w 5 16 (.mv (.i 0)) [] 5] [(.z 6 63 (.st (.t 6) (.t 36) 2) [6,36],[])] [33,34,35,36,4,5]) .ret) .skip)) (.seq (.aP [.w 0 0 (.mv (.t 8)) [8] 37,.w 1 0 (.mv (.t 7)) [7] 38,.w 2 2 (.nc (.t 38)) [38] 39,.w 3 6 (.fa (.t 39) 1) [39] 40,.w 4 14 (.ld (.t 40) none) [40] 41,.w 5 0 (.bld [.o,.o] [(0,1),(1,1)] []) [] 42,.w 6 1 (.mv (.t 37)) [37] 4,.w 7 95 (.mv (.t 41)) [41] 5] [(.z 8 255 (.st (.t 6) (.t 42) 2) [6,42],[])] [37,38,39,40,41,42,4,5]) .ret))
def bJb:RC:=.r [.op (.mv (.c (.n))) 4,.op (.mv (.i 0)) 5,.op (.al [.o,.o]) 6] (.r [.mv 0 9,.mv 1 10,.op (.bld [.n,.o,.o,.o,.o] [(0,1),(1,1),(2,1),(3,2)] [(0,.t 9),(1,.t 10)]) 11,.op (.bx (.t 11)) 12,.mv 12 7] (.seq (.r [.mv 1 13,.op (.bin .lss (.t 13) (.i 0)) 14,.mv 14 15,.g (.mv (.t 1)) 16 15 false,.g (.mv (.t 0)) 17 15 false,.g (.lenL (.t 17)) 18 15 false,.g (.bin .gtr (.t 16) (.t 18)) 19 15 false,.op (.pick (.t 15) (.c (.bool true)) (.t 19)) 20] (.cond (.t 20) (.r [.mv 7 21,.mv 0 22,.op (.lenL (.t 22)) 23,.op (.nc (.t 21)) 24,.op (.fa (.t 24) 1) 25,.s (.st (.t 25) (.t 23) 1)] (.reg [.mv 7 26,.op (.c 89 [.t 26,.c (.int .i64 5)]) 27])) .skip)) aMy))
theorem bLh:(Go.Proofs.Tryz.f79.body).bind (aE Go.Proofs.Tryz.prog)=some bJb:=by kernel_rfl
def bIx:RC:=.r [.mv 0 4,.op (.c 91 [.t 4]) 5] (.cond (.t 5) (.reg [.mv 0 6,.mv 0 7,.mv 0 8,.op (.nc (.t 8)) 9,.op (.fa (.t 9) 1) 10,.op (.ld (.t 10) none) 11,.op (.c 100 [.t 7,.t 11]) 12,.op (.fld (.t 12) 1 none) 13,.mv 1 14,.op (.bld [.o,.o] [(0,1),(1,1)] [(0,.t 13),(1,.t 14)]) 15,.op (.nc (.t 6)) 16,.op (.fa (.t 16) 3) 17,.s (.st (.t 17) (.t 15) 2)]) .skip)
theorem bKx:(Go.Proofs.Tryz.f89.body).bind (aE Go.Proofs.Tryz.prog)=some bIx:=by kernel_rfl
def aDd:RC:=.seq (.r [.mv 0 43,.op (.c 91 [.t 43]) 44] (.cond (.t 44) .skip (.exit 0))) (.block 1 (.seq (.r [.mv 0 45,.op (.c 102 [.t 45,.c (.int .i64 4),.c (.str [125])]) 46] (.cond (.t 46) (.exit 0) .skip)) (.reg [.mv 2 47,.mv 0 48,.op (.c 103 [.t 48]) 49,.op (.bs 17 1 [.o,.o,.e,.bool false,.o,.o,.o,.e,.o,.o,.o,.e,.e,.n,.n,.n,.n] [(0,.t 49)]) 50,.op (.app (.t 47) (.t 50) 17 232 [.o,.o,.e,.bool false,.o,.o,.o,.e,.o,.o,.o,.e,.e,.n,.n,.n,.n]) 51,.mv 51 2])))
def aPe:RC:=.r [.mv 0 52,.op (.nc (.t 52)) 53,.op (.fa (.t 53) 2) 54,.op (.ld (.t 54) none) 55,.op (.bin .sub (.t 55) (.i 1)) 56,.op (.nc (.t 52)) 57,.op (.fa (.t 57) 2) 58,.s (.st (.t 58) (.t 56) 1)] (.r [.mv 2 59,.mv 59 2] .ret)
def aSx:RC:=.r [.op (.mv (.c (.n))) 2] (.scope (.seq (.r [.mv 0 3,.op (.nc (.t 3)) 4,.op (.fa (.t 4) 2) 5,.op (.ld (.t 5) none) 6,.op (.eq .int false (.t 6) (.i 30)) 7,.mv 7 8,.g (.mv (.t 0)) 9 8 true,.g (.c 91 [.t 9]) 10 8 true,.op (.pick (.t 8) (.t 10) (.c (.bool false))) 11,.mv 11 12,.g (.mv (.t 0)) 13 12 true,.g (.mv (.t 0)) 14 12 true,.g (.nc (.t 14)) 15 12 true,.g (.fa (.t 15) 1) 16 12 true,.g (.ld (.t 16) none) 17 12 true,.g (.c 100 [.t 13,.t 17]) 18 12 true,.g (.fld (.t 18) 0 none) 19 12 true,.g (.eq .int false (.t 19) (.i 4)) 20 12 true,.op (.pick (.t 12) (.t 20) (.c (.bool false))) 21,.mv 21 22,.g (.mv (.t 0)) 23 22 true,.g (.mv (.t 0)) 24 22 true,.g (.nc (.t 24)) 25 22 true,.g (.fa (.t 25) 1) 26 22 true,.g (.ld (.t 26) none) 27 22 true,.g (.c 100 [.t 23,.t 27]) 28 22 true,.g (.fld (.t 28) 3 none) 29 22 true,.g (.eq .str false (.t 29) (.c (.str [123]))) 30 22 true,.op (.pick (.t 22) (.t 30) (.c (.bool false))) 31] (.cond (.t 31) (.r [.mv 0 32,.op (.c 89 [.t 32,.c (.int .i64 6)]) 33] (.r [.op (.mv (.c (.n))) 2] .ret)) .skip)) (.r [.mv 0 34,.op (.c 101 [.t 34,.c (.str [123])]) 35] (.r [.mv 0 36,.op (.nc (.t 36)) 37,.op (.fa (.t 37) 2) 38,.op (.ld (.t 38) none) 39,.op (.bin .add (.t 39) (.i 1)) 40,.op (.nc (.t 36)) 41,.op (.fa (.t 41) 2) 42,.s (.st (.t 42) (.t 40) 1)] (.seq .skip (.seq (.block 0 (.loop aDd)) aPe))))))
theorem bKg:(Go.Proofs.Tryz.f90.body).bind (aE Go.Proofs.Tryz.prog)=some aSx:=by kernel_rfl
def bLu:RC:=.r [.op (.mv (.c (.bool false))) 2] (.r [.mv 0 3,.op (.nc (.t 3)) 4,.op (.fa (.t 4) 3) 5,.op (.fa (.t 5) 1) 6,.op (.ld (.t 6) none) 7,.op (.eq .int false (.t 7) (.i 0)) 8,.mv 8 2] .ret)
theorem bMp:(Go.Proofs.Tryz.f91.body).bind (aE Go.Proofs.Tryz.prog)=some bLu:=by kernel_rfl
def aHe:RC:=.r [.mv 5 37,.mv 5 38,.op (.bld [.o,.o,.o,.e] [(0,1),(1,1),(2,1),(3,1)] [(1,.t 37),(2,.t 38)]) 39,.s (.st (.t 4) (.t 39) 4)] .ret
def bFh:RC:=.r [.op (.al [.o,.o,.o,.e]) 4] (.seq (.r [.mv 1 7,.mv 0 8,.op (.nc (.t 8)) 9,.op (.fa (.t 9) 0) 10,.op (.ld (.t 10) none) 11,.op (.lenL (.t 11)) 12,.op (.bin .lss (.t 7) (.t 12)) 13] (.cond (.t 13) (.r [.mv 0 14,.op (.nc (.t 14)) 15,.op (.fa (.t 15) 0) 16,.op (.ld (.t 16) none) 17,.mv 1 18,.op (.ia (.t 17) (.t 18) 4) 19,.op (.ld (.t 19) (some 4)) 20,.s (.st (.t 4) (.t 20) 4)] .ret) .skip)) (.r [.op (.mv (.i 0)) 5] (.seq (.r [.mv 0 21,.op (.nc (.t 21)) 22,.op (.fa (.t 22) 0) 23,.op (.ld (.t 23) none) 24,.op (.lenL (.t 24)) 25,.mv 25 6] (.r [.mv 6 26,.op (.bin .gtr (.t 26) (.i 0)) 27] (.cond (.t 27) (.reg [.mv 0 28,.op (.nc (.t 28)) 29,.op (.fa (.t 29) 0) 30,.op (.ld (.t 30) none) 31,.mv 6 32,.op (.bin .sub (.t 32) (.i 1)) 33,.op (.ia (.t 31) (.t 33) 4) 34,.op (.fa (.t 34) 2) 35,.op (.ld (.t 35) none) 36,.mv 36 5]) .skip))) aHe)))
theorem bHi:(Go.Proofs.Tryz.f100.body).bind (aE Go.Proofs.Tryz.prog)=some bFh:=by kernel_rfl
def bFk:RC:=.r [.mv 0 4,.mv 1 5,.op (.c 102 [.t 4,.c (.int .i64 4),.t 5]) 6,.op (.un .not (.t 6)) 7] (.cond (.t 7) (.reg [.mv 0 8,.op (.c 89 [.t 8,.c (.int .i64 5)]) 9]) .skip)
theorem bHh:(Go.Proofs.Tryz.f101.body).bind (aE Go.Proofs.Tryz.prog)=some bFk:=by kernel_rfl
def bEf:RC:=.r [.op (.mv (.c (.bool false))) 6] (.r [.mv 0 8,.mv 0 9,.op (.nc (.t 9)) 10,.op (.fa (.t 10) 1) 11,.op (.ld (.t 11) none) 12,.op (.c 100 [.t 8,.t 12]) 13,.op (.al [.o,.o,.o,.e]) 7,.s (.st (.t 7) (.t 13) 4)] (.seq (.r [.mv 0 14,.op (.c 91 [.t 14]) 15,.op (.un .not (.t 15)) 16,.mv 16 17,.g (.fa (.t 7) 0) 18 17 false,.g (.ld (.t 18) none) 19 17 false,.g (.mv (.t 1)) 20 17 false,.g (.eq .int true (.t 19) (.t 20)) 21 17 false,.op (.pick (.t 17) (.c (.bool true)) (.t 21)) 22,.mv 22 23,.g (.fa (.t 7) 3) 24 23 false,.g (.ld (.t 24) none) 25 23 false,.g (.mv (.t 2)) 26 23 false,.g (.eq .str true (.t 25) (.t 26)) 27 23 false,.op (.pick (.t 23) (.c (.bool true)) (.t 27)) 28] (.cond (.t 28) (.r [.op (.mv (.c (.bool false))) 6] .ret) .skip)) (.r [.mv 0 29,.op (.nc (.t 29)) 30,.op (.fa (.t 30) 1) 31,.op (.ld (.t 31) none) 32,.op (.bin .add (.t 32) (.i 1)) 33,.op (.nc (.t 29)) 34,.op (.fa (.t 34) 1) 35,.s (.st (.t 35) (.t 33) 1)] (.r [.op (.mv (.c (.bool true))) 6] .ret))))
theorem bHt:(Go.Proofs.Tryz.f102.body).bind (aE Go.Proofs.Tryz.prog)=some bEf:=by kernel_rfl
def yW:RC:=.reg [.mv 0 56,.op (.c 107 [.t 56,.t 5,.c (.int .i64 1)]) 57]
def fO:RC:=.r [.op (.ld (.t 5) (some 17)) 123,.s (.st (.t 2) (.t 123) 17)] .ret
def aBt:RC:=.r [.op (.al [.o,.o,.e,.bool false,.o,.o,.o,.e,.o,.o,.o,.e,.e,.n,.n,.n,.n]) 2] (.seq (.aP [.w 0 0 (.mv (.t 0)) [0] 8,.w 1 0 (.mv (.t 0)) [0] 9,.w 2 2 (.nc (.t 9)) [9] 10,.w 3 6 (.fa (.t 10) 1) [10] 11,.w 4 14 (.ld (.t 11) none) [11] 12,.w 6 0 (.mv (.t 0)) [0] 14,.w 7 0 (.mv (.t 0)) [0] 15,.w 8 128 (.nc (.t 15)) [15] 16,.w 9 384 (.fa (.t 16) 1) [16] 17,.w 10 896 (.ld (.t 17) none) [17] 18,.w 11 1920 (.bin .add (.t 18) (.i 1)) [18] 19,.w 13 0 (.al [.o,.o,.o,.e]) [] 3,.w 14 0 (.al [.o,.o,.o,.e]) [] 4] [(.w 5 31 (.c 100 [.t 8,.t 12]) [8,12] 13,[]),(.w 12 4095 (.c 100 [.t 14,.t 19]) [14,19] 20,[]),(.z 15 32767 (.st (.t 3) (.t 13) 4) [3,13],[]),(.z 16 65535 (.st (.t 4) (.t 20) 4) [4,20],[])] [8,9,10,11,12,13,14,15,16,17,18,19,20,3,4]) (.r [.op (.fa (.t 3) 1) 21,.op (.ld (.t 21) none) 22,.op (.bld [.o,.o,.e,.bool false,.o,.o,.o,.e,.o,.o,.o,.e,.e,.n,.n,.n,.n] [(0,1),(1,1),(2,1),(3,1),(4,11),(15,1),(16,1)] [(1,.t 22)]) 23,.op (.al [.o,.o,.e,.bool false,.o,.o,.o,.e,.o,.o,.o,.e,.e,.n,.n,.n,.n]) 5,.s (.st (.t 5) (.t 23) 17)] (.r [.mv 0 24,.op (.mkF 90 [.t 24] []) 25,.mv 25 6] (.seq (.block 0 (.r [.mv 0 33,.op (.c 102 [.t 33,.c (.int .i64 5),.c (.str [108,101,116])]) 34,.mv 34 32] (.cond (.t 32) (.seq (.r [.mv 0 35,.mv 0 36,.op (.nc (.t 36)) 37,.op (.fa (.t 37) 1) 38,.op (.ld (.t 38) none) 39,.op (.c 100 [.t 35,.t 39]) 40,.op (.al [.o,.o,.o,.e]) 7,.s (.st (.t 7) (.t 40) 4)] (.r [.op (.fa (.t 7) 0) 41,.op (.ld (.t 41) none) 42,.op (.eq .int false (.t 42) (.i 1)) 43] (.cond (.t 43) (.r [.op (.fa (.t 7) 3) 44,.op (.ld (.t 44) none) 45,.op (.fa (.t 5) 2) 46,.s (.st (.t 46) (.t 45) 1)] (.reg [.mv 0 47,.op (.nc (.t 47)) 48,.op (.fa (.t 48) 1) 49,.op (.ld (.t 49) none) 50,.op (.bin .add (.t 50) (.i 1)) 51,.op (.nc (.t 47)) 52,.op (.fa (.t 52) 1) 53,.s (.st (.t 53) (.t 51) 1)])) (.reg [.mv 0 54,.op (.c 89 [.t 54,.c (.int .i64 5)]) 55])))) yW) (.r [.mv 0 59,.op (.c 102 [.t 59,.c (.int .i64 5),.c (.str [114,101,116,117,114,110])]) 60,.mv 60 58] (.cond (.t 58) (.r [.op (.fa (.t 5) 0) 61,.s (.st (.t 61) (.i 3) 1)] (.r [.mv 0 62,.op (.c 102 [.t 62,.c (.int .i64 4),.c (.str [59])]) 63,.op (.un .not (.t 63)) 64] (.cond (.t 64) (.r [.mv 0 65,.op (.c 108 [.t 65]) 66,.op (.fa (.t 5) 3) 67,.s (.st (.t 67) (.c (.bool true)) 1),.op (.fa (.t 5) 4) 68,.s (.st (.t 68) (.t 66) 11)] (.reg [.mv 0 69,.op (.c 101 [.t 69,.c (.str [59])]) 70])) .skip))) (.r [.mv 0 72,.op (.c 102 [.t 72,.c (.int .i64 5),.c (.str [105,102])]) 73,.mv 73 71] (.cond (.t 71) (.r [.mv 0 74,.op (.c 108 [.t 74]) 75,.op (.fa (.t 5) 0) 76,.s (.st (.t 76) (.i 4) 1),.op (.fa (.t 5) 4) 77,.s (.st (.t 77) (.t 75) 11)] (.r [.mv 6 78,.op (.call (.t 78) []) 79,.op (.fa (.t 5) 15) 80,.s (.st (.t 80) (.t 79) 1)] (.r [.mv 0 81,.op (.c 102 [.t 81,.c (.int .i64 5),.c (.str [101,108,115,101])]) 82] (.cond (.t 82) (.reg [.mv 6 83,.op (.call (.t 83) []) 84,.op (.fa (.t 5) 3) 85,.s (.st (.t 85) (.c (.bool true)) 1),.op (.fa (.t 5) 16) 86,.s (.st (.t 86) (.t 84) 1)]) .skip)))) (.r [.mv 0 88,.op (.c 102 [.t 88,.c (.int .i64 5),.c (.str [102,111,114])]) 89,.mv 89 87] (.cond (.t 87) (.r [.mv 0 90,.op (.c 108 [.t 90]) 91,.op (.fa (.t 5) 0) 92,.s (.st (.t 92) (.i 5) 1),.op (.fa (.t 5) 4) 93,.s (.st (.t 93) (.t 91) 11)] (.reg [.mv 6 94,.op (.call (.t 94) []) 95,.op (.fa (.t 5) 15) 96,.s (.st (.t 96) (.t 95) 1)])) (.r [.op (.fa (.t 3) 0) 98,.op (.ld (.t 98) none) 99,.op (.eq .int false (.t 99) (.i 1)) 100,.mv 100 101,.g (.fa (.t 4) 0) 102 101 true,.g (.ld (.t 102) none) 103 101 true,.g (.eq .int false (.t 103) (.i 4)) 104 101 true,.op (.pick (.t 101) (.t 104) (.c (.bool false))) 105,.mv 105 106,.g (.fa (.t 4) 3) 107 106 true,.g (.ld (.t 107) none) 108 106 true,.g (.eq .str false (.t 108) (.c (.str [61]))) 109 106 true,.op (.pick (.t 106) (.t 109) (.c (.bool false))) 110,.mv 110 97] (.cond (.t 97) (.r [.mv 0 111,.op (.nc (.t 111)) 112,.op (.fa (.t 112) 1) 113,.op (.ld (.t 113) none) 114,.op (.bin .add (.t 114) (.i 1)) 115,.op (.nc (.t 111)) 116,.op (.fa (.t 116) 1) 117,.s (.st (.t 117) (.t 115) 1)] (.r [.op (.fa (.t 3) 3) 118,.op (.ld (.t 118) none) 119,.op (.fa (.t 5) 2) 120,.s (.st (.t 120) (.t 119) 1)] (.reg [.mv 0 121,.op (.c 107 [.t 121,.t 5,.c (.int .i64 2)]) 122]))) (.r [.mv 0 26,.op (.c 108 [.t 26]) 27,.op (.fa (.t 5) 0) 28,.s (.st (.t 28) (.i 6) 1),.op (.fa (.t 5) 4) 29,.s (.st (.t 29) (.t 27) 11)] (.reg [.mv 0 30,.op (.c 101 [.t 30,.c (.str [59])]) 31]))))))))))))) fO))))
theorem bIe:(Go.Proofs.Tryz.f103.body).bind (aE Go.Proofs.Tryz.prog)=some aBt:=by kernel_rfl
def bEj:RC:=.r [.mv 1 6,.mv 2 7,.op (.nc (.t 6)) 8,.op (.fa (.t 8) 0) 9,.s (.st (.t 9) (.t 7) 1)] (.r [.mv 0 10,.op (.c 101 [.t 10,.c (.str [61])]) 11] (.r [.mv 1 12,.mv 0 13,.op (.c 108 [.t 13]) 14,.op (.nc (.t 12)) 15,.op (.fa (.t 15) 4) 16,.s (.st (.t 16) (.t 14) 11)] (.reg [.mv 0 17,.op (.c 101 [.t 17,.c (.str [59])]) 18])))
theorem bFy:(Go.Proofs.Tryz.f107.body).bind (aE Go.Proofs.Tryz.prog)=some bEj:=by kernel_rfl
def tI:RC:=.r [.op (.ld (.t 2) (some 11)) 24,.s (.st (.t 2) (.t 24) 11)] .ret
def aOx:RC:=.r [.op (.al [.o,.o,.o,.e,.o,.o,.o,.e,.e,.n,.n]) 2] (.seq (.r [.mv 0 3,.op (.c 91 [.t 3]) 4] (.cond (.t 4) (.aP [.w 0 0 (.mv (.t 0)) [0] 6,.w 1 0 (.mv (.t 0)) [0] 7,.w 2 0 (.mv (.t 0)) [0] 8,.w 3 4 (.nc (.t 8)) [8] 9,.w 4 12 (.fa (.t 9) 0) [9] 10,.w 5 28 (.ld (.t 10) none) [10] 11,.w 6 0 (.mv (.t 0)) [0] 12,.w 7 64 (.nc (.t 12)) [12] 13,.w 8 192 (.fa (.t 13) 1) [13] 14,.w 9 448 (.ld (.t 14) none) [14] 15] [(.w 10 1020 (.c 110 [.t 11,.t 15]) [11,15] 16,[.w 11 2044 (.mv (.t 16)) [16] 5,.w 12 4092 (.ext (.t 5) 0) [5] 17,.w 13 4092 (.ext (.t 5) 1) [5] 18,.w 14 4092 (.ext (.t 5) 2) [5] 19]),(.z 15 8188 (.st (.t 2) (.t 17) 11) [2,17],[.w 16 49149 (.nc (.t 6)) [6] 20,.w 17 114685 (.fa (.t 20) 1) [20] 21]),(.z 18 245757 (.st (.t 21) (.t 18) 1) [21,18],[.w 19 524287 (.nc (.t 7)) [7] 22,.w 20 1048575 (.fa (.t 22) 3) [22] 23]),(.z 21 2097151 (.st (.t 23) (.t 19) 2) [23,19],[])] [6,7,8,9,10,11,12,13,14,15,16,5,17,18,19,20,21,22,23]) .skip)) tI)
theorem aLe:(Go.Proofs.Tryz.f108.body).bind (aE Go.Proofs.Tryz.prog)=some aOx:=by kernel_rfl
end Go.VM
end
section
/- Statements: what the reader's functions come to. -/
set_option maxRecDepth 100000
namespace Go.VM
open Go.RowKit
inductive Sx where
 |mk (k:Nat) (a:Int) (nm:List Nat) (has:Bool) (x:Ex) (body els:List Sx)
mutual
def jZ:Sx→List V
 |.mk k a nm has x body els=>[.int .i64 k,.int .i64 a,.str nm,.bool has]++eA x++[.lst (iC body) .unk,.lst (iC els) .unk]
def iC:List Sx→List (List V)
 |[]=>[]
 |x::l=>jZ x::iC l
end
mutual
theorem yZ{D:Nat→Prop}:∀x:Sx,Ins D (jZ x)
 |.mk k a nm has (.mk xk xa xe xn xv (.mk tk ta tp tn tl) xs) body els=>⟨trivial,trivial,trivial,trivial,trivial,trivial,trivial,trivial,trivial,trivial,trivial,trivial,trivial,⟨gH tl,trivial⟩,⟨nH xs,trivial⟩,⟨iQ body,trivial⟩,⟨iQ els,trivial⟩,trivial⟩
theorem iQ{D:Nat→Prop}:∀l:List Sx,Inss D (iC l)
 |[]=>trivial
 |x::l=>⟨yZ x,iQ l⟩
end
theorem lJ:∀l:List Sx,iC l=l.map jZ
 |[]=>rfl
 |x::l=>by simp only[iC,List.map_cons,lJ l]
theorem aRj:∀x:Sx,(jZ x).length=17
 |.mk k a nm has (.mk xk xa xe xn xv (.mk tk ta tp tn tl) xs) body els=>rfl
structure Sr where
 a:Nat
 p:Int
 c:Int
def bW(s:Sr):Bool:=decide (s.c=0)
def eO(l:List Tz)(s:Sr)(code:Int):Sr:=match bW s with
 |true=>⟨s.a,(aA l s.a).a,code⟩
 |false=>s
def isS(l:List Tz)(s:Sr)(k:Int)(x:List Nat):Bool:=bW s&&isF l s.a k x
def aK(s:Sr):Sr:=⟨s.a+1,s.p,s.c⟩
def bN(l:List Tz)(s:Sr)(x:List Nat):Sr:=match isS l s 4 x with
 |true=>aK s
 |false=>eO l s 5
def aT(P:Nat→R Ex)(s:Sr):Ex×Sr:=match bW s with
 |true=>match P s.a with
  |.ok x n=>(x,⟨n,0,0⟩)
  |.er _ _ p c=>(zX,⟨s.a,p,c⟩)
  |.out=>(zX,s)
 |false=>(zX,s)
structure Sf where
 block:Nat→Sr→Option (List Sx×Sr)
 loop:Nat→List Sx→Sr→Option (List Sx×Sr)
 stmt:Nat→Sr→Option (Sx×Sr)
def mF(l:List Tz)(d:Nat)(s:Sr):Bool:=decide (d=30)&&(bW s&&(decide ((aA l s.a).k=4)&&decide ((aA l s.a).t=[123])))
def cA(l:List Tz)(f:Sf)(d:Nat)(s:Sr):Option (List Sx×Sr):=match mF l d s with
 |true=>some ([],eO l s 6)
 |false=>f.loop (d+1) [] (bN l s [123])
def dX(l:List Tz)(f:Sf)(d:Nat)(acc:List Sx)(s:Sr):Option (List Sx×Sr):=match bW s with
 |false=>some (acc,s)
 |true=>match isS l s 4 [125]with
  |true=>some (acc,aK s)
  |false=>match f.stmt d s with
   |some (x,s1)=>f.loop d (acc++[x]) s1
   |none=>none
def mI(l:List Tz)(P:Nat→R Ex)(k:Nat)(p:Int)(nm:List Nat)(s:Sr):Sx×Sr:=
 (.mk k p nm false (aT P (bN l s [61])).1 [] [],bN l (aT P (bN l s [61])).2 [59])
def bAd:List Nat:=[108,101,116]
def bAj:List Nat:=[114,101,116,117,114,110]
def sIf:List Nat:=[105,102]
def wA:List Nat:=[101,108,115,101]
def aVo:List Nat:=[102,111,114]
def rI(l:List Tz)(a:Nat):Bool:=decide ((aA l a).k=1)&&(decide ((aA l (a+1)).k=4)&&decide ((aA l (a+1)).t=[61]))
def eP(l:List Tz)(P:Nat→R Ex)(f:Sf)(d:Nat)(s:Sr):Option (Sx×Sr):=
 match isS l s 5 bAd with
 |true=>match decide ((aA l (s.a+1)).k=1)with
  |true=>some (mI l P 1 (aA l s.a).a (aA l (s.a+1)).t (aK (aK s)))
  |false=>some (mI l P 1 (aA l s.a).a [] (eO l (aK s) 5))
 |false=>match isS l s 5 bAj with
  |true=>match isS l (aK s) 4 [59]with
   |true=>some (.mk 3 (aA l s.a).a [] false zX [] [],aK (aK s))
   |false=>some (.mk 3 (aA l s.a).a [] true (aT P (aK s)).1 [] [],bN l (aT P (aK s)).2 [59])
  |false=>match isS l s 5 sIf with
   |true=>match f.block d (aT P (aK s)).2 with
    |none=>none
    |some (b,s1)=>match isS l s1 5 wA with
     |true=>match f.block d (aK s1)with
      |none=>none
      |some (e,s2)=>some (.mk 4 (aA l s.a).a [] true (aT P (aK s)).1 b e,s2)
     |false=>some (.mk 4 (aA l s.a).a [] false (aT P (aK s)).1 b [],s1)
   |false=>match isS l s 5 aVo with
    |true=>match f.block d (aT P (aK s)).2 with
     |none=>none
     |some (b,s1)=>some (.mk 5 (aA l s.a).a [] false (aT P (aK s)).1 b [],s1)
    |false=>match rI l s.a with
     |true=>some (mI l P 2 (aA l s.a).a (aA l s.a).t (aK s))
     |false=>some (.mk 6 (aA l s.a).a [] false (aT P s).1 [] [],bN l (aT P s).2 [59])
def cF(l:List Tz)(P:Nat→R Ex):Nat→Sf
 |0=>⟨fun _ _=>none,fun _ _ _=>none,fun _ _=>none⟩
 |n+1=>⟨cA l (cF l P n),dX l (cF l P n),eP l P (cF l P n)⟩
end Go.VM
end
section
/- Statements: the reader's small functions. -/
set_option maxRecDepth 100000
namespace Go.VM
open Go.RowKit
def srC(l:List Tz)(d:Nat)(s:Sr):List V:=[.lst (l.map cD) .unk,.int .i64 s.a,.int .i64 d,.int .i64 s.p,.int .i64 s.c]
def srO(l:List Tz)(d:Nat)(s:Sr):Obj:=.cells false (srC l d s)
def srL(l:List Tz)(d:Nat)(s:Sr):OL:=[(1000,srO l d s)]
theorem aOc(ρ:Nat→Nat)(l:List Tz)(d:Nat)(s:Sr):Obj.ren ρ (srO l d s)=srO l d s:=by
 simp only[srO,srC,Obj.ren,dB,V.ren,aCv,LC.ren]
theorem aVw{D:Nat→Prop}(l:List Tz)(d:Nat)(s:Sr):Obj.In D (srO l d s):=⟨⟨aAa _,trivial⟩,trivial,trivial,trivial,trivial,trivial⟩
theorem jY{D:Nat→Prop}(l:List Tz)(d:Nat)(s:Sr):gC D (srL l d s):=⟨aVw l d s,trivial⟩
theorem lZ{f:FuncId}{xs:List V}{l:List Tz}{d d':Nat}{s s':Sr}{v:V}(core:SCall Go.Proofs.Tryz.prog [] f (.ptr 1000 0::xs) none ⟨1001,og (srL l d s),[]⟩ (.ret v) none ⟨1001,og (srL l d' s'),[]⟩)
  (has:Ins (fun _=>False) xs) (hr:v.In (fun _=>False)) {h:H} {R:Nat} (hR:aC≤R) (h1:h.ob R=some (srO l d s)):
  SCall Go.Proofs.Tryz.prog [] f (.ptr R 0::xs) none h (.ret v) none (h.put R (srO l d' s')):=by
 refine SCall.wT (n:=0) [R] rfl core (by simp) (by simp[hR]) (fun i=>?_) rfl (fun i c o hi ho=>?_) (jY _ _ _) ⟨(by show 1000<1001;decide),Ins.mono (fun _ q=>q.elim) has⟩ hr (jY _ _ _) ?_ rfl rfl (fun i hi=>?_) (fun c hc=>?_)
 ·simp only[srL,aR]
  show _↔1000≤i∧i<1001
  split
  ·simp;omega
  ·simp[og];omega
 ·match i,hi with
  |0,hi=>
   cases hi;cases ho
   rw[aOc];exact h1
 ·show _::dB _ xs=_
  rw[fG (D:=fun _=>False) (fun _ q=>q.elim) has];rfl
 ·have hi:i<1:=hi
  match i,hi with
  |0,_=>
   show(h.put R _).ob R=_
   simp only[H.put,if_true]
   show some _=some (Obj.ren _ (srO l d' s'))
   rw[aOc]
 ·have h0:R≠c:=hc 0 (by show 0<1;decide)
  simp only[H.put]
  rw[if_neg (fun e=>h0 e.symm)]
theorem aJl{f:FuncId}{xs:List V}{l:List Tz}{d:Nat}{s:Sr}{v:V}(core:SCall Go.Proofs.Tryz.prog [] f (.ptr 1000 0::xs) none ⟨1001,og (srL l d s),[]⟩ (.ret v) none ⟨1001,og (srL l d s),[]⟩)
  (has:Ins (fun _=>False) xs) (hr:v.In (fun _=>False)) {h:H} {R:Nat} (hR:aC≤R) (h1:h.ob R=some (srO l d s)):SCall Go.Proofs.Tryz.prog [] f (.ptr R 0::xs) none h (.ret v) none h:=by
 have:=lZ core has hr hR h1
 rwa[yC h1]at this
theorem aQd(l:List Tz)(d:Nat)(s:Sr)(i:Nat)(hl:l.length<4294967296):SCall Go.Proofs.Tryz.prog [] 100 [.ptr 1000 0,.int .i64 i] none ⟨1001,og (srL l d s),[]⟩ (.ret (.agg (cD (aA l i)))) none ⟨1001,og (srL l d s),[]⟩:=by
 refine SCall.aI (fn:=Go.Proofs.Tryz.f100) (by kernel_rfl) bHi (by kernel_rfl) (by kernel_rfl) (Nat.le_refl _) rfl ((jY _ _ _)) (by exact⟨trivial,trivial,trivial,trivial,trivial⟩) ?_
 unfold bFh
 unfold srL srO srC
 repeat apply sQ
 refine WR.q rfl ?_
 repeat apply sQ
 refine WR.m 6 rfl ?_
 rw[List.length_map]
 by_cases h:i<l.length
 ·refine WQ.m 1 rfl ?_
  rw[show decide ((i:Int)<(l.length:Int))=true from decide_eq_true (by omega)]
  have hc:l[i]? =some l[i]:=List.getElem?_eq_getElem h
  rw[fP hc]
  generalize l[i]=t at hc⊢
  refine WQ.q rfl ?_
  repeat apply sQ
  refine WR.aD rfl ?_
  repeat apply sQ
  refine WR.m 5 rfl ?_
  refine WQ.bD rfl rfl rfl (gL (cs:=cD t) rfl rfl (by rw[List.getElem?_map,hc];rfl) rfl) rfl (WQ.q rfl ?_)
  exact WR.e
 ·refine WQ.m 1 rfl ?_
  rw[show decide ((i:Int)<(l.length:Int))=false from decide_eq_false (by omega)]
  rw[gJ (by omega)]
  refine WQ.q rfl ?_
  repeat apply sQ
  refine WR.k rfl ?_
  repeat apply sQ
  refine WR.q rfl ?_
  repeat apply sQ
  refine WR.m 6 rfl ?_
  rw[List.length_map]
  refine WQ.q rfl ?_
  rcases Nat.eq_zero_or_pos l.length with h0|h0
  ·have h0:l=[]:=List.eq_nil_of_length_eq_zero h0
   subst h0
   repeat apply sQ
   refine WR.q rfl ?_
   repeat apply sQ
   refine WR.k rfl ?_
   repeat(first|refine WR.seq ?_|refine WR.block ?_|refine WR.scope ?_|refine WR.skip ?_|refine WR.exit ?_|refine WR.aD rfl ?_|refine WR.aO rfl ?_|refine WR.m 1000 rfl ?_|refine WQ.aJ ?_|refine WR.aP aZ (DW.m 1000 rfl ?_))
   exact WR.e
  ·repeat apply sQ
   refine WR.m 2 rfl ?_
   rw[show decide ((l.length:Int)>0)=true from decide_eq_true (by omega)]
   have hc:l[l.length-1]? =some l[l.length-1]:=List.getElem?_eq_getElem (by omega)
   rw[nK hc]
   generalize l[l.length-1]=t at hc⊢
   refine WQ.q rfl ?_
   repeat apply sQ
   refine WR.aD rfl ?_
   repeat apply sQ
   refine WR.m 6 rfl ?_
   rw[pF (by omega) (by unfold big;omega)]
   refine WQ.bD rfl rfl rfl (gL (cs:=cD t) rfl rfl (by rw[List.getElem?_map,hc];rfl) rfl) rfl (WQ.q rfl ?_)
   unfold aHe
   repeat(first|refine WR.seq ?_|refine WR.block ?_|refine WR.scope ?_|refine WR.skip ?_|refine WR.exit ?_|refine WR.aD rfl ?_|refine WR.aO rfl ?_|refine WR.m 1000 rfl ?_|refine WQ.aJ ?_|refine WR.aP aZ (DW.m 1000 rfl ?_))
   exact WR.e
theorem sZ{l:List Tz}{d:Nat}{s:Sr}{i:Nat}(hl:l.length<4294967296){h:H}{R:Nat}(hR:aC≤R)(h1:h.ob R=some (srO l d s)):
  SCall Go.Proofs.Tryz.prog [] 100 [.ptr R 0,.int .i64 i] none h (.ret (.agg (cD (aA l i)))) none h:=
 aJl (aQd l d s i hl) ⟨trivial,trivial⟩ ⟨trivial,trivial,trivial,trivial,trivial⟩ hR h1
theorem aKs(l:List Tz)(d:Nat)(s:Sr):SCall Go.Proofs.Tryz.prog [] 91 [.ptr 1000 0] none ⟨1001,og (srL l d s),[]⟩ (.ret (.bool (bW s))) none ⟨1001,og (srL l d s),[]⟩:=by
 refine SCall.aI (fn:=Go.Proofs.Tryz.f91) (by kernel_rfl) bMp (by kernel_rfl) (by kernel_rfl) (Nat.le_refl _) rfl ((jY _ _ _)) trivial ?_
 unfold bLu
 unfold srL srO srC
 repeat apply sQ
 refine WR.q rfl ?_
 repeat apply sQ
 refine WR.q rfl ?_
 exact WR.e
theorem mO{l:List Tz}{d:Nat}{s:Sr}{h:H}{R:Nat}(hR:aC≤R)(h1:h.ob R=some (srO l d s)):SCall Go.Proofs.Tryz.prog [] 91 [.ptr R 0] none h (.ret (.bool (bW s))) none h:=
 aJl (aKs l d s) trivial trivial hR h1
theorem aKv(l:List Tz)(d:Nat)(s:Sr)(c:Int)(hl:l.length<4294967296):SCall Go.Proofs.Tryz.prog [] 89 [.ptr 1000 0,.int .i64 c] none ⟨1001,og (srL l d s),[]⟩ (.ret (.tup [])) none ⟨1001,og (srL l d (eO l s c)),[]⟩:=by
 have hf:=mO (l:=l) (d:=d) (s:=s) (h:=⟨1001,og (srL l d s),[]⟩) (R:=1000) (by decide) rfl
 have ht:=sZ (l:=l) (d:=d) (s:=s) (i:=s.a) hl (h:=⟨1001,og (srL l d s),[]⟩) (R:=1000) (by decide) rfl
 unfold eO
 refine SCall.aI (fn:=Go.Proofs.Tryz.f89) (by kernel_rfl) bKx (by kernel_rfl) (by kernel_rfl) (Nat.le_refl _) rfl ((jY _ _ _)) trivial ?_
 unfold bIx
 repeat apply sQ
 refine WR.m 1 rfl ?_
 refine WQ.c rfl hf .base rfl ?_
 cases bW s with
 |false=>
  refine WQ.q rfl ?_
  repeat apply sQ
  refine WR.k rfl ?_
  exact⟨rfl,rfl,⟨_,rfl,VLe.refl _⟩,fun _ _=>rfl⟩
 |true=>
  refine WQ.q rfl ?_
  repeat apply sQ
  refine WR.aD rfl ?_
  repeat apply sQ
  refine WR.m 6 rfl ?_
  refine WQ.c rfl ht .base rfl ?_
  refine WQ.q rfl ?_
  exact⟨rfl,rfl,⟨_,rfl,VLe.refl _⟩,fun _ _=>rfl⟩
theorem zU{l:List Tz}{d:Nat}{s:Sr}{c:Int}(hl:l.length<4294967296){h:H}{R:Nat}(hR:aC≤R)(h1:h.ob R=some (srO l d s)):
  SCall Go.Proofs.Tryz.prog [] 89 [.ptr R 0,.int .i64 c] none h (.ret (.tup [])) none (h.put R (srO l d (eO l s c))):=
 lZ (aKv l d s c hl) ⟨trivial,trivial⟩ trivial hR h1
def isN(l:List Tz)(s:Sr)(k:Int)(x:List Nat):Sr:=match isS l s k x with
 |true=>aK s
 |false=>s
theorem aVu(l:List Tz)(d:Nat)(s:Sr)(k:Int)(x:List Nat)(hl:l.length<4294967296)(hs:s.a≤l.length):SCall Go.Proofs.Tryz.prog [] 102 [.ptr 1000 0,.int .i64 k,.str x] none ⟨1001,og (srL l d s),[]⟩ (.ret (.bool (isS l s k x))) none ⟨1001,og (srL l d (isN l s k x)),[]⟩:=by
 have hf:=mO (l:=l) (d:=d) (s:=s) (h:=⟨1001,og (srL l d s),[]⟩) (R:=1000) (by decide) rfl
 have ht:=sZ (l:=l) (d:=d) (s:=s) (i:=s.a) hl (h:=⟨1001,og (srL l d s),[]⟩) (R:=1000) (by decide) rfl
 unfold isN isS isF
 generalize aA l s.a=t at ht
 obtain⟨tk,ta,te,tt⟩:=t
 refine SCall.aI (fn:=Go.Proofs.Tryz.f102) (by kernel_rfl) bHt (by kernel_rfl) (by kernel_rfl) (Nat.le_refl _) rfl ((jY _ _ _)) trivial ?_
 unfold bEf
 repeat apply sQ
 refine WR.q rfl ?_
 repeat apply sQ
 refine WR.m 5 rfl ?_
 refine WQ.c rfl ht .base rfl ?_
 refine WQ.q rfl ?_
 repeat apply sQ
 refine WR.m 1 rfl ?_
 refine WQ.c rfl (SCall.fI hf _) .base rfl ?_
 cases bW s with
 |false=>
  refine WQ.q rfl ?_
  repeat apply sQ
  refine WR.aD rfl ?_
  repeat apply sQ
  refine WR.q rfl ?_
  exact WR.e
 |true=>
  refine WQ.m 6 rfl ?_
  cases hk:decide (tk=k)with
  |false=>
   refine WQ.q rfl ?_
   repeat apply sQ
   refine WR.aD rfl ?_
   repeat apply sQ
   refine WR.q rfl ?_
   exact WR.e
  |true=>
   refine WQ.m 7 rfl ?_
   cases hx:decide (tt=x)with
   |false=>
    refine WQ.q rfl ?_
    repeat apply sQ
    refine WR.aD rfl ?_
    repeat apply sQ
    refine WR.q rfl ?_
    exact WR.e
   |true=>
    refine WQ.q rfl ?_
    repeat apply sQ
    refine WR.k rfl ?_
    repeat apply sQ
    refine WR.m 5 rfl ?_
    rw[bI (by unfold big;omega)]
    refine WQ.q rfl ?_
    repeat apply sQ
    refine WR.q rfl ?_
    exact WR.e
theorem pJ{l:List Tz}{d:Nat}{s:Sr}{k:Int}{x:List Nat}(hl:l.length<4294967296)(hs:s.a≤l.length){h:H}{R:Nat}(hR:aC≤R)(h1:h.ob R=some (srO l d s)):
  SCall Go.Proofs.Tryz.prog [] 102 [.ptr R 0,.int .i64 k,.str x] none h (.ret (.bool (isS l s k x))) none (h.put R (srO l d (isN l s k x))):=
 lZ (aVu l d s k x hl hs) ⟨trivial,trivial,trivial⟩ trivial hR h1
theorem aMi(l:List Tz)(d:Nat)(s:Sr)(x:List Nat)(hl:l.length<4294967296)(hs:s.a≤l.length):SCall Go.Proofs.Tryz.prog [] 101 [.ptr 1000 0,.str x] none ⟨1001,og (srL l d s),[]⟩ (.ret (.tup [])) none ⟨1001,og (srL l d (bN l s x)),[]⟩:=by
 have hi:=pJ (l:=l) (d:=d) (s:=s) (k:=4) (x:=x) hl hs (h:=⟨1001,og (srL l d s),[]⟩) (R:=1000) (by decide) rfl
 unfold isN at hi
 unfold bN
 refine SCall.aI (fn:=Go.Proofs.Tryz.f101) (by kernel_rfl) bHh (by kernel_rfl) (by kernel_rfl) (Nat.le_refl _) rfl ((jY _ _ _)) trivial ?_
 unfold bFk
 repeat apply sQ
 refine WR.m 2 rfl ?_
 refine WQ.c rfl hi (.put .base rfl) rfl ?_
 cases isS l s 4 x with
 |true=>
  refine WQ.q rfl ?_
  repeat apply sQ
  refine WR.k rfl ?_
  exact⟨rfl,rfl,⟨_,rfl,VLe.refl _⟩,fun _ _=>rfl⟩
 |false=>
  refine WQ.q rfl ?_
  repeat apply sQ
  refine WR.aD rfl ?_
  repeat apply sQ
  refine WR.m 1 rfl ?_
  refine WQ.c rfl (zU (l:=l) (d:=d) (s:=s) (c:=5) hl (by decide) rfl) (.put .base rfl) rfl ?_
  refine WQ.q rfl ?_
  exact⟨rfl,rfl,⟨_,rfl,VLe.refl _⟩,fun _ _=>rfl⟩
theorem kM{l:List Tz}{d:Nat}{s:Sr}{x:List Nat}(hl:l.length<4294967296)(hs:s.a≤l.length){h:H}{R:Nat}(hR:aC≤R)(h1:h.ob R=some (srO l d s)):
  SCall Go.Proofs.Tryz.prog [] 101 [.ptr R 0,.str x] none h (.ret (.tup [])) none (h.put R (srO l d (bN l s x))):=
 lZ (aMi l d s x hl hs) ⟨trivial,trivial⟩ trivial hR h1
end Go.VM
end
section
/- Statements: what is wrong with an expression has a code. -/
set_option maxRecDepth 100000
namespace Go.VM
open Go.RowKit
def ErrC{α:Type}(r:R α):Prop:=∀a d p c,r=.er a d p c→c≠0
theorem ErrC.ok{α:Type}{v:α}{a:Nat}:ErrC (R.ok v a):=fun _ _ _ _ e=>by cases e
theorem ErrC.out{α:Type}:ErrC (R.out (α:=α)):=fun _ _ _ _ e=>by cases e
theorem ErrC.bind{α β:Type}{r:R α}{f:α→Nat→R β}(h:ErrC r)(k:∀v a1,ErrC (f v a1)):ErrC (r.bind f):=by
 intro a d p c e
 cases r with
 |ok v a1=>exact k v a1 a d p c e
 |er a1 d1 p1 c1=>cases e;exact h _ _ _ _ rfl
 |out=>cases e
section
variable{l:List Tz}
theorem ErrC.fail{α:Type}{a d:Nat}{c:Int}(hc:c≠0):ErrC (fD (α:=α) l a d c):=by
 intro a' d' p c' e
 cases e
 exact hc
theorem ErrC.within{α:Type}{a d:Nat}{f:Nat→Nat→R α}(h:ErrC (f (a+1) (d+1))):ErrC (aX l a d f):=by
 unfold aX
 split
 ·exact .fail (by decide)
 ·exact h
theorem ErrC.dK{a d:Nat}{s:List Nat}:ErrC (cH l a d s):=by
 unfold cH
 split
 ·exact .ok
 ·exact .fail (by decide)
structure ErrD(f:Fns):Prop where
 expr:∀lv a d,ErrC (f.expr lv a d)
 oper:∀a d,ErrC (f.oper a d)
 prim:∀a d,ErrC (f.prim a d)
 list:∀to a d,ErrC (f.list to a d)
 bin:∀lv x a d,ErrC (f.bin lv x a d)
 post:∀x a d,ErrC (f.post x a d)
 elts:∀acc a d,ErrC (f.elts acc a d)
theorem aRi{f:Fns}(h:ErrD f):ErrD ⟨cX f,dH l f,dG l f,cR l f,gG l f,dI l f,cZ l f⟩:=by
 refine⟨fun lv a d=>?_,fun a d=>?_,fun a d=>?_,fun to a d=>?_,fun lv x a d=>?_,fun x a d=>?_,fun acc a d=>?_⟩
 ·show ErrC (cX f lv a d)
  unfold cX
  split
  ·exact h.oper _ _
  ·exact(h.expr _ _ _).bind fun _ _=>h.bin _ _ _ _
 ·show ErrC (dH l f a d)
  unfold dH
  split
  ·exact(ErrC.within (h.oper _ _)).bind fun _ _=>.ok
  ·exact(h.prim _ _).bind fun _ _=>h.post _ _ _
 ·show ErrC (dG l f a d)
  unfold dG
  split
  ·refine ErrC.bind ?_ fun _ _=>.ok
   unfold fV
   split
   ·exact .ok
   ·exact .fail (by decide)
  ·split
   ·split
    ·exact .ok
    ·exact .fail (by decide)
   ·split
    ·exact .ok
    ·split
     ·exact .ok
     ·split
      ·exact .ok
      ·split
       ·exact(ErrC.within (h.expr _ _ _)).bind fun _ _=>ErrC.dK.bind fun _ _=>.ok
       ·split
        ·unfold oL
         split
         ·split
          ·exact(h.list _ _ _).bind fun _ _=>.ok
          ·exact .fail (by decide)
         ·rename_i ht
          intro a' d' p c e
          cases e
          exact(xP ht).1
         ·exact .out
        ·exact .fail (by decide)
 ·show ErrC (cR l f to a d)
  unfold cR
  refine(ErrC.within ?_).bind fun _ _=>ErrC.dK.bind fun _ _=>.ok
  unfold eR
  split
  ·exact .ok
  ·exact h.elts _ _ _
 ·show ErrC (gG l f lv x a d)
  unfold gG
  split
  ·exact(h.expr _ _ _).bind fun _ _=>h.bin _ _ _ _
  ·exact .ok
 ·show ErrC (dI l f x a d)
  unfold dI
  split
  ·split
   ·exact h.post _ _ _
   ·exact .fail (by decide)
  ·split
   ·exact(h.list _ _ _).bind fun _ _=>h.post _ _ _
   ·split
    ·exact(ErrC.within (h.expr _ _ _)).bind fun _ _=>ErrC.dK.bind fun _ _=>h.post _ _ _
    ·exact .ok
 ·show ErrC (cZ l f acc a d)
  unfold cZ
  refine(h.expr _ _ _).bind fun _ _=>?_
  split
  ·exact h.elts _ _ _
  ·exact .ok
theorem xT:∀n,ErrD (fns l n)
 |0=>⟨fun _ _ _=>.out,fun _ _=>.out,fun _ _=>.out,fun _ _ _=>.out,fun _ _ _ _=>.out,fun _ _ _=>.out,fun _ _ _=>.out⟩
 |n+1=>aRi (xT n)
end
end Go.VM
end
section
/- Statements: an expression's reading. -/
set_option maxRecDepth 100000
namespace Go.VM
open Go.RowKit
structure ParseOk(l:List Tz)(P:Nat→R Ex):Prop where
 sp:∀a,a≤l.length→∀h:H,SCall Go.Proofs.Tryz.prog [] 112 [lsV l,.int .i64 a] none h (.ret (exV (P a))) none h
 known:∀a,a≤l.length→(P a).aY=false
 ok:∀a x n,a≤l.length→P a=.ok x n→a<n∧n≤l.length
 er:∀a a1 d p c,P a=.er a1 d p c→c≠0
theorem aZj(l:List Tz)(hl:l.length<19999)(hT:∀t∈l,t.t.length<big)(F:Nat)(hF:∀a,a≤l.length→((fns l F).expr 1 a 0).aY=false):ParseOk l (fun a=>(fns l F).expr 1 a 0):=by
 refine⟨fun a ha h=>SCall.fL rfl (yG l hl hT a F ha (hF a ha)) (by exact⟨rR l,trivial,trivial⟩) (by exact aJq _) h,hF,fun a x n ha e=>?_,fun a a1 d p c e=>(xT F).expr 1 a 0 a1 d p c e⟩
 exact⟨(pS l F).expr 1 a 0 x n e,((dN l F).expr 1 a 0 x n e).2 ha⟩
def pdV(a:Nat)(r:R Ex):V:=match r with
 |.ok x n=>.tup [lK x,.int .i64 n,.agg (dgX 0 0)]
 |.er _ _ p c=>.tup [lK zX,.int .i64 a,.agg (dgX p c)]
 |.out=>.bool false
theorem aMb{D:Nat→Prop}(a:Nat)(r:R Ex):(pdV a r).In D:=by
 cases r with
 |ok x n=>exact⟨cJ x,trivial,⟨trivial,trivial,trivial⟩,trivial⟩
 |er a d p c=>exact⟨cJ zX,trivial,⟨trivial,trivial,trivial⟩,trivial⟩
 |out=>exact trivial
theorem aSd{l:List Tz}{P:Nat→R Ex}(hP:ParseOk l P)(a:Nat)(ha:a≤l.length)(h:H):SCall Go.Proofs.Tryz.prog [] 110 [lsV l,.int .i64 a] none h (.ret (pdV a (P a))) none h:=by
 refine SCall.fL rfl ?_ (by exact⟨rR l,trivial,trivial⟩) (by exact aMb _ _) h
 have sp:=hP.sp a ha
 have kn:=hP.known a ha
 have er:=hP.er a
 cases hr:P a with
 |out=>rw[hr]at kn;cases kn
 |er a1 d1 p c=>
  rw[hr]at sp
  have hc:=er _ _ _ _ hr
  refine SCall.listed (fn:=Go.Proofs.Tryz.f110) (by kernel_rfl) aTx (by kernel_rfl) (by kernel_rfl) (Nat.le_refl _) rfl (trivial) (by exact aMb _ _) ?_
  unfold aUo
  repeat apply sQ
  refine WR.q rfl ?_
  repeat apply sQ
  refine WR.m 2 rfl ?_
  refine WQ.c rfl (sp _) .base rfl ?_
  refine WQ.q rfl ?_
  repeat apply sQ
  refine WR.m 2 rfl ?_
  refine WQ.m 1 rfl ?_
  rw[show decide (c=0)=false from decide_eq_false hc]
  refine WQ.q rfl ?_
  repeat apply sQ
  refine WR.aD rfl ?_
  repeat apply sQ
  refine WR.q rfl ?_
  unfold xX
  refine WR.seq (WR.aP aZ (DW.m 1000 rfl ?_))
  refine DW.stS pQ rfl rfl rfl rfl (DW.m 1000 rfl ?_)
  refine DW.stS pQ rfl rfl rfl rfl (DW.m 1000 rfl (DW.cC pQ ?_))
  exact WR.e
 |ok x n=>
  rw[hr]at sp
  obtain⟨xk,xa,xe,xn,xv,⟨xtk,xta,xtp,xtn,xtl⟩,xs⟩:=x
  refine SCall.listed (fn:=Go.Proofs.Tryz.f110) (by kernel_rfl) aTx (by kernel_rfl) (by kernel_rfl) (Nat.le_refl _) rfl (trivial) (by exact aMb _ _) ?_
  unfold aUo
  repeat apply sQ
  refine WR.q rfl ?_
  repeat apply sQ
  refine WR.m 2 rfl ?_
  refine WQ.c rfl (sp _) .base rfl ?_
  refine WQ.q rfl ?_
  repeat apply sQ
  refine WR.q rfl ?_
  repeat apply sQ
  refine WR.k rfl ?_
  unfold xX
  refine WR.seq (WR.aP aZ (DW.m 1000 rfl ?_))
  refine DW.stS pQ rfl rfl rfl rfl (DW.m 1000 rfl ?_)
  refine DW.stS pQ rfl rfl rfl rfl (DW.m 1000 rfl (DW.cC pQ ?_))
  exact WR.e
theorem aLx{l:List Tz}{P:Nat→R Ex}(hP:ParseOk l P)(d:Nat)(s:Sr)(hs:s.a≤l.length):SCall Go.Proofs.Tryz.prog [] 108 [.ptr 1000 0] none ⟨1001,og (srL l d s),[]⟩ (.ret (lK (aT P s).1)) none ⟨1001,og (srL l d (aT P s).2),[]⟩:=by
 have hf:=mO (l:=l) (d:=d) (s:=s) (h:=⟨1001,og (srL l d s),[]⟩) (R:=1000) (by decide) rfl
 have hp:=aSd hP s.a hs
 have kn:=hP.known s.a hs
 cases hfi:bW s with
 |false=>
  have e:aT P s=(zX,s):=by unfold aT;rw[hfi]
  rw[e]
  rw[hfi]at hf
  refine SCall.aI (fn:=Go.Proofs.Tryz.f108) (by kernel_rfl) aLe (by kernel_rfl) (by kernel_rfl) (Nat.le_refl _) rfl ((jY _ _ _)) (by exact cJ _) ?_
  unfold aOx
  repeat apply sQ
  refine WR.q rfl ?_
  repeat apply sQ
  refine WR.m 1 rfl ?_
  refine WQ.c rfl (SCall.fI hf _) .base rfl ?_
  refine WQ.q rfl ?_
  repeat apply sQ
  refine WR.k rfl ?_
  unfold tI
  repeat apply sQ
  refine WR.q rfl ?_
  exact WR.e
 |true=>
  rw[hfi]at hf
  have hc0:s.c=0:=of_decide_eq_true hfi
  cases hr:P s.a with
  |out=>rw[hr]at kn;cases kn
  |er a1 d1 p c=>
   have e:aT P s=(zX,⟨s.a,p,c⟩):=by unfold aT;rw[hfi,hr]
   rw[e]
   rw[hr]at hp
   refine SCall.aI (fn:=Go.Proofs.Tryz.f108) (by kernel_rfl) aLe (by kernel_rfl) (by kernel_rfl) (Nat.le_refl _) rfl ((jY _ _ _)) (by exact cJ _) ?_
   unfold aOx
   repeat apply sQ
   refine WR.q rfl ?_
   repeat apply sQ
   refine WR.m 1 rfl ?_
   refine WQ.c rfl (SCall.fI hf _) .base rfl ?_
   refine WQ.q rfl ?_
   repeat apply sQ
   refine WR.aD rfl ?_
   refine WR.aP aZ (DW.m 1000 rfl ?_)
   refine DW.eU pQ rfl rfl rfl rfl rfl (hp _) .base rfl (DW.m 1000 rfl ?_)
   refine DW.stS pQ rfl rfl rfl rfl (DW.m 1000 rfl ?_)
   refine DW.stS pQ rfl rfl rfl rfl (DW.m 1000 rfl ?_)
   refine DW.stS pQ rfl rfl rfl rfl (DW.m 1000 rfl (DW.cC pQ ?_))
   unfold tI
   repeat apply sQ
   refine WR.q rfl ?_
   exact WR.e
  |ok x n=>
   have e:aT P s=(x,⟨n,0,0⟩):=by unfold aT;rw[hfi,hr]
   rw[e]
   rw[hr]at hp
   obtain⟨xk,xa,xe,xn,xv,⟨xtk,xta,xtp,xtn,xtl⟩,xs⟩:=x
   refine SCall.aI (fn:=Go.Proofs.Tryz.f108) (by kernel_rfl) aLe (by kernel_rfl) (by kernel_rfl) (Nat.le_refl _) rfl ((jY _ _ _)) (by exact cJ _) ?_
   unfold aOx
   repeat apply sQ
   refine WR.q rfl ?_
   repeat apply sQ
   refine WR.m 1 rfl ?_
   refine WQ.c rfl (SCall.fI hf _) .base rfl ?_
   refine WQ.q rfl ?_
   repeat apply sQ
   refine WR.aD rfl ?_
   refine WR.aP aZ (DW.m 1000 rfl ?_)
   refine DW.eU pQ rfl rfl rfl rfl rfl (hp _) .base rfl (DW.m 1000 rfl ?_)
   refine DW.stS pQ rfl rfl rfl rfl (DW.m 1000 rfl ?_)
   refine DW.stS pQ rfl rfl rfl rfl (DW.m 1000 rfl ?_)
   refine DW.stS pQ rfl rfl rfl rfl (DW.m 1000 rfl (DW.cC pQ ?_))
   unfold tI
   repeat apply sQ
   refine WR.q rfl ?_
   exact WR.e
theorem lE{l:List Tz}{P:Nat→R Ex}(hP:ParseOk l P){d:Nat}{s:Sr}(hs:s.a≤l.length){h:H}{R:Nat}(hR:aC≤R)(h1:h.ob R=some (srO l d s)):
  SCall Go.Proofs.Tryz.prog [] 108 [.ptr R 0] none h (.ret (lK (aT P s).1)) none (h.put R (srO l d (aT P s).2)):=
 lZ (aLx hP d s hs) trivial (cJ _) hR h1
end Go.VM
end
section
/- Statements: the reader goes on; a reading ends. -/
set_option maxRecDepth 100000
namespace Go.VM
open Go.RowKit
structure Wk(l:List Tz)(s s':Sr):Prop where
 le:s.a≤s'.a
 len:s'.a≤l.length
 jU:s'.c=0→s.c=0
structure Stp(l:List Tz)(s s':Sr):Prop extends Wk l s s' where
 lt:s'.c=0→s.a<s'.a
theorem Wk.refl{l:List Tz}{s:Sr}(h:s.a≤l.length):Wk l s s:=⟨Nat.le_refl _,h,id⟩
theorem Wk.trans{l:List Tz}{s s1 s2:Sr}(h:Wk l s s1)(k:Wk l s1 s2):Wk l s s2:=⟨Nat.le_trans h.le k.le,k.len,fun e=>h.jU (k.jU e)⟩
theorem Stp.l{l:List Tz}{s s1 s2:Sr}(h:Stp l s s1)(k:Wk l s1 s2):Stp l s s2:=⟨h.toWk.trans k,fun e=>Nat.lt_of_lt_of_le (h.lt (k.jU e)) k.le⟩
theorem Stp.r{l:List Tz}{s s1 s2:Sr}(h:Wk l s s1)(k:Stp l s1 s2):Stp l s s2:=⟨h.trans k.toWk,fun e=>Nat.lt_of_le_of_lt h.le (k.lt e)⟩
section
variable{l:List Tz}{P:Nat→R Ex}
theorem eT{s:Sr}:bW s=true↔s.c=0:=decide_eq_true_iff
theorem aNa{s:Sr}{k:Int}{x:List Nat}(h:isS l s k x=true):s.c=0∧isF l s.a k x=true:=by
 unfold isS at h
 rw[Bool.and_eq_true]at h
 exact⟨eT.1 h.1,h.2⟩
theorem dO{s:Sr}{k:Int}{x:List Nat}(h:isS l s k x=true)(hk:k≠0):s.a<l.length:=bH (aNa h).2 hk
theorem aU{s:Sr}(h:s.a<l.length):Stp l s (aK s):=⟨⟨Nat.le_succ _,h,id⟩,fun _=>Nat.lt_succ_self _⟩
theorem pM{s:Sr}(h:s.a≤l.length){c:Int}(hc:c≠0):Stp l s (eO l s c):=by
 unfold eO
 cases hf:bW s with
 |true=>exact⟨⟨Nat.le_refl _,h,fun e=>absurd e hc⟩,fun e=>absurd e hc⟩
 |false=>
  have:s.c≠0:=fun e=>by rw[eT.2 e]at hf;cases hf
  exact⟨⟨Nat.le_refl _,h,fun e=>absurd e this⟩,fun e=>absurd e this⟩
theorem dD{s:Sr}(h:s.a≤l.length){x:List Nat}:Stp l s (bN l s x):=by
 unfold bN
 cases hi:isS l s 4 x with
 |true=>exact aU (dO hi (by decide))
 |false=>exact pM h (by decide)
theorem bZ(hP:ParseOk l P){s:Sr}(h:s.a≤l.length):Stp l s (aT P s).2:=by
 unfold aT
 cases hf:bW s with
 |false=>
  have:s.c≠0:=fun e=>by rw[eT.2 e]at hf;cases hf
  exact⟨⟨Nat.le_refl _,h,fun e=>absurd e this⟩,fun e=>absurd e this⟩
 |true=>
  have h0:=eT.1 hf
  cases hr:P s.a with
  |ok x n=>have:=hP.ok _ _ _ h hr;exact⟨⟨Nat.le_of_lt this.1,this.2,fun _=>h0⟩,fun _=>this.1⟩
  |er a d p c=>have:=hP.er _ _ _ _ _ hr;exact⟨⟨Nat.le_refl _,h,fun e=>absurd e this⟩,fun e=>absurd e this⟩
  |out=>have:=hP.known _ h;rw[hr]at this;cases this
theorem qQ(hP:ParseOk l P){s:Sr}(h:s.a≤l.length){k:Nat}{p:Int}{nm:List Nat}:Stp l s (mI l P k p nm s).2:=by
 have h1:=dD h (x:=[61])
 have h2:=bZ hP h1.len
 exact(h1.l h2.toWk).l (dD h2.len).toWk
structure InvS(l:List Tz)(f:Sf):Prop where
 block:∀d s v s',s.a≤l.length→f.block d s=some (v,s')→Stp l s s'
 loop:∀d acc s v s',s.a≤l.length→f.loop d acc s=some (v,s')→Stp l s s'
 stmt:∀d s v s',s.a≤l.length→f.stmt d s=some (v,s')→Stp l s s'
theorem tG(hP:ParseOk l P){f:Sf}(h:InvS l f):InvS l ⟨cA l f,dX l f,eP l P f⟩:=by
 refine⟨fun d s v s' hs e=>?_,fun d acc s v s' hs e=>?_,fun d s v s' hs e=>?_⟩
 ·have e:cA l f d s=some (v,s'):=e
  unfold cA at e
  split at e
  ·cases e;exact pM hs (by decide)
  ·exact(dD hs).l (h.loop _ _ _ _ _ (dD hs).len e).toWk
 ·have e:dX l f d acc s=some (v,s'):=e
  unfold dX at e
  split at e
  ·rename_i hf
   have:s.c≠0:=fun e=>by rw[eT.2 e]at hf;cases hf
   cases e
   exact⟨⟨Nat.le_refl _,hs,id⟩,fun e=>absurd e this⟩
  ·split at e
   ·rename_i hi
    cases e
    exact aU (dO hi (by decide))
   ·split at e
    ·rename_i x s1 hx
     have h1:=h.stmt _ _ _ _ hs hx
     exact h1.l (h.loop _ _ _ _ _ h1.len e).toWk
    ·cases e
 ·have e:eP l P f d s=some (v,s'):=e
  unfold eP at e
  split at e
  ·rename_i hi
   have h0:=dO hi (by decide)
   split at e
   ·rename_i hk
    have h1:=cP (l:=l) (a:=s.a+1) (by rw[of_decide_eq_true hk];decide)
    have h2:=aU (l:=l) (s:=aK s) h1
    have h3:=qQ hP h2.len (k:=1) (p:=(aA l s.a).a) (nm:=(aA l (s.a+1)).t)
    rw[Option.some.inj e]at h3
    exact((aU h0).l h2.toWk).l h3.toWk
   ·have h2:=pM (aU h0).len (c:=5) (by decide)
    have h3:=qQ hP h2.len (k:=1) (p:=(aA l s.a).a) (nm:=[])
    rw[Option.some.inj e]at h3
    exact((aU h0).l h2.toWk).l h3.toWk
  ·split at e
   ·rename_i hi
    have h0:=dO hi (by decide)
    split at e
    ·rename_i hi2
     have h1:=dO hi2 (by decide)
     cases e
     exact(aU h0).l (aU h1).toWk
    ·cases e
     have h2:=bZ hP (aU h0).len
     exact((aU h0).l h2.toWk).l (dD h2.len).toWk
   ·split at e
    ·rename_i hi
     have h0:=dO hi (by decide)
     have h2:=bZ hP (aU h0).len
     split at e
     ·cases e
     ·rename_i b s1 hb
      have h3:=h.block _ _ _ _ h2.len hb
      split at e
      ·rename_i hi2
       have h4:=aU (dO hi2 (by decide))
       split at e
       ·cases e
       ·rename_i b2 s2 hb2
        have h5:=h.block _ _ _ _ h4.len hb2
        cases e
        exact((((aU h0).l h2.toWk).l h3.toWk).l h4.toWk).l h5.toWk
      ·cases e
       exact((aU h0).l h2.toWk).l h3.toWk
    ·split at e
     ·rename_i hi
      have h0:=dO hi (by decide)
      have h2:=bZ hP (aU h0).len
      split at e
      ·cases e
      ·rename_i b s1 hb
       have h3:=h.block _ _ _ _ h2.len hb
       cases e
       exact((aU h0).l h2.toWk).l h3.toWk
     ·split at e
      ·rename_i hb
       unfold rI at hb
       rw[Bool.and_eq_true]at hb
       have h0:=cP (l:=l) (a:=s.a) (by rw[of_decide_eq_true hb.1];decide)
       have h3:=qQ hP (aU h0).len (k:=2) (p:=(aA l s.a).a) (nm:=(aA l s.a).t)
       rw[Option.some.inj e]at h3
       exact(aU h0).l h3.toWk
      ·cases e
       have h2:=bZ hP hs
       exact h2.l (dD h2.len).toWk
theorem gW(hP:ParseOk l P):∀n,InvS l (cF l P n)
 |0=>⟨fun _ _ _ _ _ e=>(by cases e),fun _ _ _ _ _ _ e=>(by cases e),fun _ _ _ _ _ e=>(by cases e)⟩
 |n+1=>tG hP (gW hP n)
def Evo{α:Type}(r:Nat→Option α):Prop:=∃N v,∀n,N≤n→r n=some v
theorem Evo.const{α:Type}(v:α):Evo (fun _=>some v):=⟨0,v,fun _ _=>rfl⟩
theorem Evo.up{α:Type}{r:Nat→Option α}(h:Evo (fun n=>r (n+1))):Evo r:=by
 obtain⟨N,v,h2⟩:=h
 refine⟨N+1,v,fun n hn=>?_⟩
 have:r (n-1+1)=some v:=h2 (n-1) (by omega)
 rwa[show n-1+1=n by omega]at this
theorem Evo.then{α β:Type}{r:Nat→Option α}{g:Nat→α→Option β}{q:Nat→Option β}(h:Evo r)(k:∀v,(∃n,r n=some v)→Evo (fun n=>g n v))(e:∀n v,r n=some v→q n=g n v):Evo q:=by
 obtain⟨N,v,h2⟩:=h
 obtain⟨M,w,k2⟩:=k v ⟨N,h2 N (Nat.le_refl _)⟩
 refine⟨max N M,w,fun n hn=>?_⟩
 rw[e n v (h2 n (by omega))]
 exact k2 n (by omega)
structure TotS(l:List Tz)(P:Nat→R Ex)(a:Nat):Prop where
 block:∀d s,s.a=a→Evo (fun n=>(cF l P n).block d s)
 loop:∀d acc s,s.a=a→Evo (fun n=>(cF l P n).loop d acc s)
 stmt:∀d s,s.a=a→Evo (fun n=>(cF l P n).stmt d s)
theorem aBl(l:List Tz)(P:Nat→R Ex)(d:Nat)(acc:List Sx)(s:Sr)(h:s.c≠0):Evo (fun n=>(cF l P n).loop d acc s):=by
 refine .up ?_
 show Evo (fun n=>dX l (cF l P n) d acc s)
 unfold dX
 rw[show bW s=false from decide_eq_false h]
 exact .const _
theorem aMc(l:List Tz)(P:Nat→R Ex)(d:Nat)(s:Sr)(h:s.c≠0):Evo (fun n=>(cF l P n).block d s):=by
 refine .up ?_
 show Evo (fun n=>cA l (cF l P n) d s)
 unfold cA mF
 rw[show bW s=false from decide_eq_false h,Bool.false_and,Bool.and_false]
 refine aBl l P _ _ _ ?_
 unfold bN isS eO
 rw[show bW s=false from decide_eq_false h,Bool.false_and]
 exact h
theorem aCh(hP:ParseOk l P)(a:Nat)(ha:a≤l.length)(ih:∀a',a<a'→a'≤l.length→TotS l P a'):TotS l P a:=by
 have lt_loop:∀d acc s s',s.a=a→Stp l s s'→Evo (fun n=>(cF l P n).loop d acc s'):=by
  intro d acc s s' hs h
  by_cases hc:s'.c=0
  ·exact(ih s'.a (by have:=h.lt hc;omega) h.len).loop d acc s' rfl
  ·exact aBl l P d acc s' hc
 have lt_block:∀d s s',s.a=a→Stp l s s'→Evo (fun n=>(cF l P n).block d s'):=by
  intro d s s' hs h
  by_cases hc:s'.c=0
  ·exact(ih s'.a (by have:=h.lt hc;omega) h.len).block d s' rfl
  ·exact aMc l P d s' hc
 have block:∀d s,s.a=a→Evo (fun n=>(cF l P n).block d s):=by
  intro d s hs
  refine .up ?_
  show Evo (fun n=>cA l (cF l P n) d s)
  unfold cA
  cases mF l d s with
  |true=>exact .const _
  |false=>exact lt_loop _ _ _ _ hs (dD (by omega))
 have stmt:∀d s,s.a=a→Evo (fun n=>(cF l P n).stmt d s):=by
  intro d s hs
  have hsl:s.a≤l.length:=by omega
  refine .up ?_
  show Evo (fun n=>eP l P (cF l P n) d s)
  unfold eP
  cases h1:isS l s 5 bAd with
  |true=>cases decide ((aA l (s.a+1)).k=1)<;>exact .const _
  |false=>
  cases h2:isS l s 5 bAj with
  |true=>cases isS l (aK s) 4 [59]<;>exact .const _
  |false=>
  cases h3:isS l s 5 sIf with
  |true=>
   have h0:=dO h3 (by decide)
   have q1:=aU h0
   have q2:=q1.l (bZ hP q1.len).toWk
   refine Evo.then (lt_block d s _ hs q2) (g:=fun n (v:List Sx×Sr)=>match isS l v.2 5 wA with
     |true=>match(cF l P n).block d (aK v.2)with
      |none=>none
      |some (e,s2)=>some (Sx.mk 4 (aA l s.a).a [] true (aT P (aK s)).1 v.1 e,s2)
     |false=>some (Sx.mk 4 (aA l s.a).a [] false (aT P (aK s)).1 v.1 [],v.2)) ?_ ?_
   ·intro v ⟨n,hn⟩
    obtain⟨b,s1⟩:=v
    have q3:=q2.l ((gW hP n).block _ _ _ _ q2.len hn).toWk
    dsimp only
    cases h4:isS l s1 5 wA with
    |false=>exact .const _
    |true=>
     have q4:=q3.l (aU (dO h4 (by decide))).toWk
     refine Evo.then (lt_block d s _ hs q4) (g:=fun n (v:List Sx×Sr)=>some (Sx.mk 4 (aA l s.a).a [] true (aT P (aK s)).1 b v.1,v.2)) (fun v _=>.const _) ?_
     intro n v hv
     rw[hv]
   ·intro n v hv
    first|(rw[hv];done)|(rw[hv];obtain⟨b,s1⟩:=v;rfl)
  |false=>
  cases h4:isS l s 5 aVo with
  |true=>
   have h0:=dO h4 (by decide)
   have q1:=aU h0
   have q2:=q1.l (bZ hP q1.len).toWk
   refine Evo.then (lt_block d s _ hs q2) (g:=fun n (v:List Sx×Sr)=>some (Sx.mk 5 (aA l s.a).a [] false (aT P (aK s)).1 v.1 [],v.2)) (fun v _=>.const _) ?_
   intro n v hv
   rw[hv]
  |false=>cases rI l s.a<;>exact .const _
 refine⟨block,fun d acc s hs=>?_,stmt⟩
 refine .up ?_
 show Evo (fun n=>dX l (cF l P n) d acc s)
 unfold dX
 cases bW s with
 |false=>exact .const _
 |true=>
  cases isS l s 4 [125]with
  |true=>exact .const _
  |false=>
   refine Evo.then (stmt d s hs) (g:=fun n (v:Sx×Sr)=>(cF l P n).loop d (acc++[v.1]) v.2) (fun v ⟨n,hn⟩=>?_) ?_
   ·exact lt_loop _ _ _ _ hs ((gW hP n).stmt _ _ _ _ (by omega) hn)
   ·intro n v hv
    rw[hv]
theorem bMz(hP:ParseOk l P):∀k a,l.length≤a+k→a≤l.length→TotS l P a:=by
 intro k
 induction k with
 |zero=>intro a h1 h2;exact aCh hP a h2 fun a' q1 q2=>by omega
 |succ k ih=>intro a h1 h2;exact aCh hP a h2 fun a' q1 q2=>ih a' (by omega) q2
end
end Go.VM
end
