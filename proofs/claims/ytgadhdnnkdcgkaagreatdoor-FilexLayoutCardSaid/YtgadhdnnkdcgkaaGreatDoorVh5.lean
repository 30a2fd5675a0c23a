/- laid for this seat: RcF6 VgD VgE -/
import Derived.Test.YtgadhdnnkdcgkaaGreatDoorVmR
import Derived.Test.YtgadhdnnkdcgkaaGreatDoorVmS
import Derived.Test.YtgadhdnnkdcgkaaGreatDoorProg
import Derived.ProofKit
import Derived.Test.YtgadhdnnkdcgkaaGreatDoorVh3
import Derived.Test.YtgadhdnnkdcgkaaGreatDoorVh4
set_option linter.unusedVariables false
set_option linter.unusedSimpArgs false
section
set_option maxRecDepth 100000
namespace Go.VM
open Go.RowKit
def aKj:RC:=.reg [.mv 8 32,.op (.bin .add (.t 32) (.i 1)) 33,.mv 33 8]
def aFo:RC:=.seq (.r [.mv 8 28,.mv 4 29,.op (.lenL (.t 29)) 30,.op (.bin .lss (.t 28) (.t 30)) 31] (.cond (.t 31) .skip (.exit 0))) (.seq (.block 1 (.r [.mv 6 34,.op (.bin .add (.t 34) (.c (.str [32,47,47,32,99,10]))) 35,.mv 35 6] (.r [.mv 7 36,.mv 6 37,.op (.lenS (.t 37)) 38,.op (.bs 1 1 [.o] [(0,.t 38)]) 39,.op (.app (.t 36) (.t 39) 1 8 [.o]) 40,.mv 40 7] (.reg [.mv 6 41,.mv 4 42,.mv 8 43,.op (.ia (.t 42) (.t 43) 4) 44,.op (.fa (.t 44) 3) 45,.op (.ld (.t 45) none) 46,.op (.bin .add (.t 41) (.t 46)) 47,.mv 47 6])))) aKj)
def zR:RC:=.reg [.mv 13 74,.op (.bin .add (.t 74) (.i 1)) 75,.mv 75 13]
def aEu:RC:=.seq (.r [.mv 13 70,.mv 4 71,.op (.lenL (.t 71)) 72,.op (.bin .lss (.t 70) (.t 72)) 73] (.cond (.t 73) .skip (.exit 2))) (.seq (.block 3 (.seq (.aP [.w 0 0 (.fa (.t 10) 1) [10] 76,.w 1 1 (.ld (.t 76) none) [76] 77,.w 2 3 (.eq .int true (.t 77) (.i 0)) [77] 78,.w 3 7 (.mv (.t 78)) [78] 79,⟨4,15,some (.mv (.t 4)),[4,79],some 80,some (79,true)⟩,⟨5,15,some (.mv (.t 13)),[13,79],some 81,some (79,true)⟩,⟨6,63,some (.ia (.t 80) (.t 81) 4),[80,81,79],some 82,some (79,true)⟩,⟨7,127,some (.fa (.t 82) 1),[82,79],some 83,some (79,true)⟩,⟨8,255,some (.ld (.t 83) none),[83,79],some 84,some (79,true)⟩,⟨9,15,some (.fa (.t 10) 0),[10,79],some 85,some (79,true)⟩,⟨10,527,some (.ld (.t 85) none),[85,79],some 86,some (79,true)⟩,⟨11,2047,some (.eq .int false (.t 84) (.t 86)),[84,86,79],some 87,some (79,true)⟩,.w 12 4095 (.pick (.t 79) (.t 87) (.c (.bool false))) [79,87] 88,.w 13 8191 (.mv (.t 88)) [88] 89,⟨14,16383,some (.mv (.t 13)),[13,89],some 90,some (89,true)⟩,⟨15,16383,some (.mv (.t 4)),[4,89],some 91,some (89,true)⟩,⟨16,49151,some (.lenL (.t 91)),[91,89],some 92,some (89,true)⟩,⟨17,114687,some (.bin .sub (.t 92) (.i 1)),[92,89],some 93,some (89,true)⟩,⟨18,262143,some (.bin .lss (.t 90) (.t 93)),[90,93,89],some 94,some (89,true)⟩,.w 19 524287 (.pick (.t 89) (.t 94) (.c (.bool false))) [89,94] 95,.w 20 1048575 (.mv (.t 95)) [95] 96,⟨21,2097151,some (.fa (.t 12) 0),[12,96],some 97,some (96,true)⟩,⟨22,4194303,some (.ld (.t 97) none),[97,96],some 98,some (96,true)⟩,⟨23,2097151,some (.mv (.t 7)),[7,96],some 99,some (96,true)⟩,⟨24,2097151,some (.mv (.t 13)),[13,96],some 100,some (96,true)⟩,⟨25,27262975,some (.ia (.t 99) (.t 100) 1),[99,100,96],some 101,some (96,true)⟩,⟨26,60817407,some (.ld (.t 101) none),[101,96],some 102,some (96,true)⟩,⟨27,134217727,some (.eq .int true (.t 98) (.t 102)),[98,102,96],some 103,some (96,true)⟩,.w 28 268435455 (.pick (.t 96) (.t 103) (.c (.bool false))) [96,103] 104] [] [76,77,78,79,80,81,82,83,84,85,86,87,88,89,90,91,92,93,94,95,96,97,98,99,100,101,102,103,104]) (.cond (.t 104) (.r [.op (.mv (.c (.bool false))) 2] .ret) .skip))) zR)
def aYn:RC:=.r [.mv 3 105,.mv 105 2] .ret
def aYh:RC:=.r [.mv 0 49,.op (.c 8 [.t 49]) 50,.mv 50 48,.op (.ext (.t 48) 0) 51,.op (.ext (.t 48) 1) 52,.op (.al [.e,.o,.n,.n]) 9,.op (.al [.o,.o]) 10,.s (.st (.t 9) (.t 51) 4),.s (.st (.t 10) (.t 52) 2)] (.r [.mv 6 54,.op (.c 8 [.t 54]) 55,.mv 55 53,.op (.ext (.t 53) 0) 56,.op (.ext (.t 53) 1) 57,.op (.al [.e,.o,.n,.n]) 11,.op (.al [.o,.o]) 12,.s (.st (.t 11) (.t 56) 4),.s (.st (.t 12) (.t 57) 2)] (.seq (.seq (.aP [.w 0 0 (.fa (.t 10) 1) [10] 58,.w 1 1 (.ld (.t 58) none) [58] 59,.w 2 0 (.fa (.t 12) 1) [12] 60,.w 3 4 (.ld (.t 60) none) [60] 61,.w 4 15 (.eq .int true (.t 59) (.t 61)) [59,61] 62,.w 5 31 (.mv (.t 62)) [62] 63,⟨6,63,some (.ld (.t 9) (some 4)),[9,63],some 64,some (63,false)⟩,⟨8,63,some (.ld (.t 11) (some 4)),[11,63],some 66,some (63,false)⟩] [(⟨7,127,some (.c 13 [.t 64]),[64,63],some 65,some (63,false)⟩,[]),(⟨9,511,some (.c 13 [.t 66]),[66,63],some 67,some (63,false)⟩,[⟨10,1023,some (.eq .str true (.t 65) (.t 67)),[65,67,63],some 68,some (63,false)⟩,.w 11 2047 (.pick (.t 63) (.c (.bool true)) (.t 68)) [63,68] 69])] [58,59,60,61,62,63,64,65,66,67,68,69]) (.cond (.t 69) (.r [.op (.mv (.c (.bool false))) 2] .ret) .skip)) (.seq (.r [.op (.mv (.i 0)) 13] (.block 2 (.loop aEu))) aYn)))
def rc5:RC:=.r [.op (.mv (.c (.bool false))) 2] (.r [.op (.c 7 []) 14,.mv 14 3] (.seq (.r [.mv 0 15,.op (.lenS (.t 15)) 16,.op (.bin .gtr (.t 16) (.i 2000)) 17] (.cond (.t 17) (.r [.mv 3 18,.mv 18 2] .ret) .skip)) (.r [.mv 0 20,.op (.c 12 [.t 20]) 21,.mv 21 19,.op (.ext (.t 19) 0) 22,.op (.ext (.t 19) 1) 23,.op (.al [.o,.o]) 5,.mv 22 4,.s (.st (.t 5) (.t 23) 2)] (.seq (.r [.op (.fa (.t 5) 1) 24,.op (.ld (.t 24) none) 25,.op (.eq .int true (.t 25) (.i 0)) 26] (.cond (.t 26) (.r [.mv 3 27,.mv 27 2] .ret) .skip)) (.r [.op (.mv (.c (.e))) 6] (.r [.op (.mv (.c (.n))) 7] (.seq (.r [.op (.mv (.i 0)) 8] (.block 0 (.loop aFo))) aYh)))))))
theorem bNe:(Go.Proofs.Tryz.f5.body).bind (aE Go.Proofs.Tryz.prog)=some rc5:=by kernel_rfl
def rc7:RC:=.r [.op (.mv (.c (.bool false))) 0] (.r [.op (.c 8 [.c (.str [112,97,99,107,97,103,101,32,97,59,105,109,112,111,114,116,32,98,59,102,117,110,99,40,116,32,84,41,109,40,41,105,110,116,123,114,101,116,117,114,110,32,116,46,120,59,125])]) 7,.mv 7 6,.op (.ext (.t 6) 0) 8,.op (.ext (.t 6) 1) 9,.op (.al [.e,.o,.n,.n]) 1,.op (.al [.o,.o]) 2,.s (.st (.t 1) (.t 8) 4),.s (.st (.t 2) (.t 9) 2)] (.r [.op (.c 8 [.c (.str [112,97,99,107,97,103,101,59])]) 11,.mv 11 10,.op (.ext (.t 10) 0) 12,.op (.ext (.t 10) 1) 13,.op (.al [.e,.o,.n,.n]) 3,.op (.al [.o,.o]) 4,.s (.st (.t 3) (.t 12) 4),.s (.st (.t 4) (.t 13) 2)] (.seq (.r [.op (.fa (.t 1) 2) 14,.op (.ld (.t 14) none) 15,.op (.lenL (.t 15)) 16,.op (.eq .int true (.t 16) (.i 1)) 17,.mv 17 18,.g (.fa (.t 1) 3) 19 18 false,.g (.ld (.t 19) none) 20 18 false,.g (.lenL (.t 20)) 21 18 false,.g (.eq .int true (.t 21) (.i 1)) 22 18 false,.op (.pick (.t 18) (.c (.bool true)) (.t 22)) 23] (.cond (.t 23) (.r [.op (.mv (.c (.bool false))) 0] .ret) .skip)) (.r [.op (.fa (.t 1) 3) 24,.op (.ld (.t 24) none) 25,.op (.ia (.t 25) (.i 0) 22) 26,.op (.ld (.t 26) (some 22)) 27,.op (.al [.o,.o,.o,.e,.bool false,.e,.o,.o,.o,.e,.e,.n,.n,.n,.n,.bool false,.o,.o,.e,.e,.n,.n]) 5,.s (.st (.t 5) (.t 27) 22)] (.r [.op (.fa (.t 1) 0) 28,.op (.ld (.t 28) none) 29,.op (.eq .str false (.t 29) (.c (.str [97]))) 30,.mv 30 31,.g (.fa (.t 1) 1) 32 31 true,.g (.ld (.t 32) none) 33 31 true,.g (.eq .int false (.t 33) (.i 8)) 34 31 true,.op (.pick (.t 31) (.t 34) (.c (.bool false))) 35,.mv 35 36,.g (.fa (.t 1) 2) 37 36 true,.g (.ld (.t 37) none) 38 36 true,.g (.ia (.t 38) (.i 0) 2) 39 36 true,.g (.fa (.t 39) 0) 40 36 true,.g (.ld (.t 40) none) 41 36 true,.g (.eq .str false (.t 41) (.c (.str [98]))) 42 36 true,.op (.pick (.t 36) (.t 42) (.c (.bool false))) 43,.mv 43 44,.g (.fa (.t 5) 0) 45 44 true,.g (.ld (.t 45) none) 46 44 true,.g (.eq .int false (.t 46) (.i 3)) 47 44 true,.op (.pick (.t 44) (.t 47) (.c (.bool false))) 48,.mv 48 49,.g (.fa (.t 5) 4) 50 49 true,.g (.ld (.t 50) none) 51 49 true,.op (.pick (.t 49) (.t 51) (.c (.bool false))) 52,.mv 52 53,.g (.fa (.t 5) 5) 54 53 true,.g (.fa (.t 54) 0) 55 53 true,.g (.ld (.t 55) none) 56 53 true,.g (.eq .str false (.t 56) (.c (.str [116]))) 57 53 true,.op (.pick (.t 53) (.t 57) (.c (.bool false))) 58,.mv 58 59,.g (.fa (.t 5) 3) 60 59 true,.g (.ld (.t 60) none) 61 59 true,.g (.eq .str false (.t 61) (.c (.str [109]))) 62 59 true,.op (.pick (.t 59) (.t 62) (.c (.bool false))) 63,.mv 63 64,.g (.fa (.t 5) 15) 65 64 true,.g (.ld (.t 65) none) 66 64 true,.op (.pick (.t 64) (.t 66) (.c (.bool false))) 67,.mv 67 68,.g (.fa (.t 5) 21) 69 68 true,.g (.ld (.t 69) none) 70 68 true,.g (.lenL (.t 70)) 71 68 true,.g (.eq .int false (.t 71) (.i 1)) 72 68 true,.op (.pick (.t 68) (.t 72) (.c (.bool false))) 73,.mv 73 74,.g (.ld (.t 2) (some 2)) 75 74 true,.g (.bld [.o,.o] [(0,1),(1,1)] []) 76 74 true,.g (.eq (.st [(0,.int),(1,.int)]) false (.t 75) (.t 76)) 77 74 true,.op (.pick (.t 74) (.t 77) (.c (.bool false))) 78,.mv 78 79,.g (.ld (.t 4) (some 2)) 80 79 true,.g (.bld [.o,.o] [(0,1),(1,1)] [(0,.c (.int .i64 7)),(1,.c (.int .i64 5))]) 81 79 true,.g (.eq (.st [(0,.int),(1,.int)]) false (.t 80) (.t 81)) 82 79 true,.op (.pick (.t 79) (.t 82) (.c (.bool false))) 83,.mv 83 0] .ret)))))
theorem bMx:(Go.Proofs.Tryz.f7.body).bind (aE Go.Proofs.Tryz.prog)=some rc7:=by kernel_rfl
def aMz:RC:=.reg [.mv 4 17,.op (.bin .add (.t 17) (.i 1)) 18,.mv 18 4]
def xG:RC:=.seq (.r [.mv 4 12,.op (.fa (.t 1) 2) 13,.op (.ld (.t 13) none) 14,.op (.lenL (.t 14)) 15,.op (.bin .lss (.t 12) (.t 15)) 16] (.cond (.t 16) .skip (.exit 0))) (.seq (.block 1 (.reg [.mv 3 19,.op (.bin .add (.t 19) (.c (.str [32]))) 20,.op (.fa (.t 1) 2) 21,.op (.ld (.t 21) none) 22,.mv 4 23,.op (.ia (.t 22) (.t 23) 2) 24,.op (.fa (.t 24) 0) 25,.op (.ld (.t 25) none) 26,.op (.bin .add (.t 20) (.t 26)) 27,.mv 27 3])) aMz)
def aNs:RC:=.reg [.mv 7 54,.op (.bin .add (.t 54) (.i 1)) 55,.mv 55 7]
def wS:RC:=.seq (.r [.mv 7 49,.op (.fa (.t 6) 13) 50,.op (.ld (.t 50) none) 51,.op (.lenL (.t 51)) 52,.op (.bin .lss (.t 49) (.t 52)) 53] (.cond (.t 53) .skip (.exit 4))) (.seq (.block 5 (.reg [.mv 3 56,.op (.bin .add (.t 56) (.c (.str [44]))) 57,.op (.fa (.t 6) 13) 58,.op (.ld (.t 58) none) 59,.mv 7 60,.op (.ia (.t 59) (.t 60) 7) 61,.op (.fa (.t 61) 0) 62,.op (.ld (.t 62) none) 63,.op (.bin .add (.t 57) (.t 63)) 64,.mv 64 3])) aNs)
def aOl:RC:=.reg [.mv 8 70,.op (.bin .add (.t 70) (.i 1)) 71,.mv 71 8]
def xH:RC:=.seq (.r [.mv 8 65,.op (.fa (.t 6) 14) 66,.op (.ld (.t 66) none) 67,.op (.lenL (.t 67)) 68,.op (.bin .lss (.t 65) (.t 68)) 69] (.cond (.t 69) .skip (.exit 6))) (.seq (.block 7 (.reg [.mv 3 72,.op (.bin .add (.t 72) (.c (.str [44]))) 73,.op (.fa (.t 6) 14) 74,.op (.ld (.t 74) none) 75,.mv 8 76,.op (.ia (.t 75) (.t 76) 9) 77,.op (.fa (.t 77) 0) 78,.op (.ld (.t 78) none) 79,.op (.bin .add (.t 73) (.t 79)) 80,.mv 80 3])) aOl)
def aOa:RC:=.reg [.mv 9 86,.op (.bin .add (.t 86) (.i 1)) 87,.mv 87 9]
def wU:RC:=.seq (.r [.mv 9 81,.op (.fa (.t 6) 21) 82,.op (.ld (.t 82) none) 83,.op (.lenL (.t 83)) 84,.op (.bin .lss (.t 81) (.t 84)) 85] (.cond (.t 85) .skip (.exit 8))) (.seq (.block 9 (.reg [.mv 3 88,.op (.bin .add (.t 88) (.c (.str [46]))) 89,.op (.fa (.t 6) 21) 90,.op (.ld (.t 90) none) 91,.mv 9 92,.op (.ia (.t 91) (.t 92) 17) 93,.op (.fa (.t 93) 2) 94,.op (.ld (.t 94) none) 95,.op (.bin .add (.t 89) (.t 95)) 96,.mv 96 3])) aOa)
def aPk:RC:=.r [.op (.mv (.i 0)) 9] (.block 8 (.loop wU))
def aPm:RC:=.seq (.r [.op (.mv (.i 0)) 8] (.block 6 (.loop xH))) aPk
def aNq:RC:=.reg [.mv 5 33,.op (.bin .add (.t 33) (.i 1)) 34,.mv 34 5]
def wQ:RC:=.seq (.r [.mv 5 28,.op (.fa (.t 1) 3) 29,.op (.ld (.t 29) none) 30,.op (.lenL (.t 30)) 31,.op (.bin .lss (.t 28) (.t 31)) 32] (.cond (.t 32) .skip (.exit 2))) (.seq (.block 3 (.r [.op (.fa (.t 1) 3) 35,.op (.ld (.t 35) none) 36,.mv 5 37,.op (.ia (.t 36) (.t 37) 22) 38,.op (.ld (.t 38) (some 22)) 39,.op (.al [.o,.o,.o,.e,.bool false,.e,.o,.o,.o,.e,.e,.n,.n,.n,.n,.bool false,.o,.o,.e,.e,.n,.n]) 6,.s (.st (.t 6) (.t 39) 22)] (.r [.mv 3 40,.op (.bin .add (.t 40) (.c (.str [59]))) 41,.op (.fa (.t 6) 3) 42,.op (.ld (.t 42) none) 43,.op (.bin .add (.t 41) (.t 43)) 44,.op (.fa (.t 6) 5) 45,.op (.fa (.t 45) 0) 46,.op (.ld (.t 46) none) 47,.op (.bin .add (.t 44) (.t 47)) 48,.mv 48 3] (.seq (.r [.op (.mv (.i 0)) 7] (.block 4 (.loop wS))) aPm)))) aNq)
def aPf:RC:=.r [.mv 3 97,.mv 97 2] .ret
def aMo:RC:=.seq (.r [.op (.mv (.i 0)) 5] (.block 2 (.loop wQ))) aPf
def bMk:RC:=.r [.op (.bx (.t 0)) 1,.op (.mv (.c (.e))) 2] (.r [.op (.fa (.t 1) 0) 10,.op (.ld (.t 10) none) 11,.mv 11 3] (.seq (.r [.op (.mv (.i 0)) 4] (.block 0 (.loop xG))) aMo))
theorem bJm:(Go.Proofs.Tryz.f13.body).bind (aE Go.Proofs.Tryz.prog)=some bMk:=by kernel_rfl
end Go.VM
end
section
/- Files: the call at the head of the laws; a name in a text. -/
set_option maxRecDepth 100000
namespace Go.VM
open Go.RowKit
def SC(l:List Tz)(F:Nat)(a:Nat):R (List Sx):=match Nat.ble a l.length with
 |true=>match(cF l (fun a=>(fns l F).expr 1 a 0) F).block 0 ⟨a,0,0⟩with
  |some r=>oV r
  |none=>.out
 |false=>.out
def aFb(l:List Tz)(F:Nat):Bool:=aZr l F&&(List.range (l.length+1)).all fun a=>((cF l (fun a=>(fns l F).expr 1 a 0) F).block 0 ⟨a,0,0⟩).isSome
theorem bEm{l:List Tz}{F:Nat}(hl:l.length<19999)(hT:∀t∈l,t.t.length<big)(h:aFb l F=true):StmOk l (SC l F):=by
 unfold aFb at h
 rw[Bool.and_eq_true]at h
 refine aXd (aZj l hl hT F (aZg h.1)) (by omega) (fun a ha=>?_) (fun a ha=>?_)
 ·have:=List.all_eq_true.1 h.2 a (List.mem_range.2 (by omega))
  obtain⟨r,hr⟩:=Option.isSome_iff_exists.1 this
  refine⟨F,r,hr,?_⟩
  unfold SC
  rw[Nat.ble_eq.mpr ha,hr]
 ·unfold SC
  cases hb:Nat.ble a l.length with
  |true=>exact absurd (Nat.le_of_ble_eq_true hb) ha
  |false=>rfl
def f1:List Nat:=[112,97,99,107,97,103,101,32,97,59,105,109,112,111,114,116,32,98,59,102,117,110,99,40,116,32,84,41,109,40,41,105,110,116,123,114,101,116,117,114,110,32,116,46,120,59,125]
def f2:List Nat:=[112,97,99,107,97,103,101,59]
def G1:List Tz:=(bK f1).1.map toZ
def G2:List Tz:=(bK f2).1.map toZ
def D1:Dx:=⟨3,28,47,[109],true,⟨[116],24,.mk 4 26 [] [84] []⟩,[],[],[],true,.mk 1 31 [] [] [],[.mk 3 35 [] true (.mk 5 42 45 [120] 0 zT [.mk 4 42 43 [116] 0 zT []]) [] []]⟩
def F1:FileX:=⟨[97],8,[⟨[98],17⟩],[D1]⟩
theorem fl1:(bK f1).2=(0,0):=by kernel_rfl
theorem fl2:(bK f2).2=(0,0):=by kernel_rfl
theorem gk1:aFb G1 60=true:=by kernel_rfl
theorem gk2:aFb G2 60=true:=by kernel_rfl
theorem gp1:iT G1 (SC G1 60) 40=.ok F1 22:=by kernel_rfl
theorem gp2:iT G2 (SC G2 60) 40=.er 1 0 7 5:=by kernel_rfl
theorem gl1:G1.length<19999:=by decide
theorem gl2:G2.length<19999:=by decide
theorem aQv:SCall Go.Proofs.Tryz.prog [0] 7 [] none ⟨1000,og tOl,[]⟩ (.ret (.bool true)) none ⟨1000,og tOl,[]⟩:=by
 have c1:(bK f1).2.2=0:=congrArg Prod.snd fl1
 have c2:(bK f2).2.2=0:=congrArg Prod.snd fl2
 have o1:(iT G1 (SC G1 60) 40).aY=false:=by rw[gp1];rfl
 have o2:(iT G2 (SC G2 60) 40).aY=false:=by rw[gp2];rfl
 have a1:=oA f1 (by decide) (by decide) _ (fun _=>o1) (fun _ h=>vG (bEm gl1 (by decide) gk1) (by have:=gl1;omega) 40 o1 h)
 have a2:=oA f2 (by decide) (by decide) _ (fun _=>o2) (fun _ h=>vG (bEm gl2 (by decide) gk2) (by have:=gl2;omega) 40 o2 h)
 rw[c1,gp1]at a1
 rw[c2,gp2]at a2
 have a1:SCall Go.Proofs.Tryz.prog [0] 8 [.str f1] none ⟨1000,og tOl,[]⟩ (.ret (.tup [qY F1,.agg (dgX 0 0)])) none ⟨1000,og tOl,[]⟩:=a1
 have a2:SCall Go.Proofs.Tryz.prog [0] 8 [.str f2] none ⟨1000,og tOl,[]⟩ (.ret (.tup [qY rE,.agg (dgX 7 5)])) none ⟨1000,og tOl,[]⟩:=a2
 refine SCall.listed (fn:=Go.Proofs.Tryz.f7) (by kernel_rfl) bMx (by kernel_rfl) (by kernel_rfl) (Nat.le_refl _) rfl ((by exact⟨jN,trivial⟩)) trivial ?_
 unfold rc7
 repeat apply sQ
 refine WR.q rfl ?_
 repeat apply sQ
 refine WR.reg (WQ.c rfl a1 .base rfl ?_)
 refine WQ.q rfl ?_
 repeat apply sQ
 refine WR.reg (WQ.c rfl (SCall.fI a2 _) .base rfl ?_)
 refine WQ.q rfl ?_
 repeat apply sQ
 refine WR.q rfl ?_
 repeat apply sQ
 refine WR.k rfl ?_
 repeat apply sQ
 refine WR.q rfl ?_
 repeat apply sQ
 refine WR.q rfl ?_
 exact WR.e
end Go.VM
end
section
/- Files: the law FilexLies, walked. -/
set_option maxRecDepth 100000
namespace Go.VM
open Go.RowKit
theorem aWo{α:Type}{l:List Tz}{rd:Nat→R α}(hr:∀a x a1,rd a=.ok x a1→a<a1∧a1≤l.length){to:List Nat}:∀(n:Nat) (acc:List α) (a:Nat) (xs:List α) (a':Nat),fT l rd to n acc a=.ok xs a'→acc.length≤a→xs.length≤a':=by
 intro n
 induction n with
 |zero=>intro acc a xs a' h;cases h
 |succ n ih=>
  intro acc a xs a' h ha
  unfold fT at h
  obtain⟨x,a1,h1,h⟩:=R.aB h
  have q:=hr _ _ _ h1
  split at h
  ·exact ih _ _ _ _ h (by simp;omega)
  ·obtain⟨u,a2,h2,h⟩:=R.aB h
   have:=aN (by decide) h2
   cases h
   simp;omega
theorem tC{α:Type}{l:List Tz}{rd:Nat→R α}(hr:∀a x a1,rd a=.ok x a1→a<a1∧a1≤l.length){to:List Nat}{none:Bool}{m a:Nat}{xs:List α}{a':Nat}(h:bC l rd to none m a=.ok xs a'):xs.length≤l.length:=by
 have q:=cM hr h
 unfold bC at h
 split at h
 ·cases h;exact Nat.zero_le _
 ·have:=aWo hr _ _ _ _ _ h (Nat.zero_le _)
  omega
theorem aCz{α:Type}{l:List Tz}{rd:Nat→R α}(hr:∀a x a1,rd a=.ok x a1→a<a1∧a1≤l.length):∀(n:Nat) (acc:List α) (a:Nat) (xs:List α) (a':Nat),fTo l rd n acc a=.ok xs a'→acc.length≤a→xs.length≤a':=by
 intro n
 induction n with
 |zero=>intro acc a xs a' h;cases h
 |succ n ih=>
  intro acc a xs a' h ha
  unfold fTo at h
  split at h
  ·cases h;omega
  ·obtain⟨x,a1,h1,h⟩:=R.aB h
   have q:=hr _ _ _ h1
   exact ih _ _ _ _ h (by simp;omega)
theorem aUk{l:List Tz}{S:Nat→R (List Sx)}(hS:StmOk l S){m a:Nat}{d:Dx}{a':Nat}(h:fB l S m a=.ok d a'):d.fs.length≤l.length:=by
 unfold fB at h
 have j3:∀{p nm mt rv bs b d a'},fJ3 l S m p nm mt rv bs b=.ok d a'→d.fs.length≤l.length:=by
  intro p nm mt rv bs b d a' h
  obtain⟨_,a1,h1,h⟩:=R.aB h
  obtain⟨fs,a2,h2,h⟩:=R.aB h
  obtain⟨r,a3,h3,h⟩:=R.aB h
  have:=tC (fun _ _ _=>bU) h2
  unfold lR at h
  split at h
  ·cases h;exact this
  ·cases h
  ·cases h
 have j4:∀{mt rv b d a'},fJ4 l S m mt rv b=.ok d a'→d.fs.length≤l.length:=by
  intro mt rv b d a' h
  obtain⟨t,a1,h1,h⟩:=R.aB h
  split at h
  ·obtain⟨bs,a2,h2,h⟩:=R.aB h
   exact j3 h
  ·exact j3 h
 split at h
 ·obtain⟨t,a1,h1,h⟩:=R.aB h
  split at h
  ·obtain⟨_,a2,h2,h⟩:=R.aB h
   obtain⟨ms,a3,h3,h⟩:=R.aB h
   cases h
   exact Nat.zero_le _
  ·obtain⟨_,a2,h2,h⟩:=R.aB h
   obtain⟨_,a3,h3,h⟩:=R.aB h
   obtain⟨fs,a4,h4,h⟩:=R.aB h
   have q3:=aN (by decide) h3
   have q4:=kW (fun _ _ _ _=>fS) _ _ _ _ _ q3.2.1 h4
   have:=aCz (fun _ _ _=>fS) _ _ _ _ _ h4 (Nat.zero_le _)
   cases h
   show fs.length≤_
   omega
 ·split at h
  ·unfold gN at h
   split at h
   ·obtain⟨p,a1,h1,h⟩:=R.aB h
    obtain⟨_,a2,h2,h⟩:=R.aB h
    exact j4 h
   ·exact j4 h
  ·cases h
theorem aRr{l:List Tz}{S:Nat→R (List Sx)}(hS:StmOk l S){m:Nat}:∀(n:Nat) (acc:List Dx) (a:Nat) (xs:List Dx) (a':Nat),a≤l.length→cN l S m n acc a=.ok xs a'→acc.length≤a→(∀d∈acc,d.fs.length≤l.length)→xs.length≤l.length∧∀d∈xs,d.fs.length≤l.length:=by
 intro n
 induction n with
 |zero=>intro acc a xs a' _ h;cases h
 |succ n ih=>
  intro acc a xs a' ha h hacc hd
  unfold cN at h
  split at h
  ·cases h;exact⟨by omega,hd⟩
  ·obtain⟨x,a1,h1,h⟩:=R.aB h
   have q:=uD hS h1
   refine ih _ _ _ _ q.2 h (by simp;omega) fun y hy=>?_
   rcases List.mem_append.1 hy with hy|hy
   ·exact hd y hy
   ·rw[List.mem_singleton]at hy;subst hy;exact aUk hS h1
theorem aWj{l:List Tz}:∀(n:Nat) (acc:List Im) (a:Nat) (xs:List Im) (a':Nat),eC l n acc a=.ok xs a'→acc.length≤a→xs.length≤a':=by
 intro n
 induction n with
 |zero=>intro acc a xs a' h;cases h
 |succ n ih=>
  intro acc a xs a' h ha
  unfold eC at h
  split at h
  ·cases h;omega
  ·obtain⟨t,a1,h1,h⟩:=R.aB h
   obtain⟨_,a2,h2,h⟩:=R.aB h
   have q1:=cI h1
   have q2:=aN (by decide) h2
   exact ih _ _ _ _ h (by simp;omega)
section
variable{s:List Nat}
end
end Go.VM
end
