/- laid for this seat: RcF6 VgD VgE -/
import Derived.Test.YtgadhdnnkdcgkaaGreatDoorVmR
import Derived.Test.YtgadhdnnkdcgkaaGreatDoorVmS
import Derived.Test.YtgadhdnnkdcgkaaGreatDoorProg
import Derived.ProofKit
import Derived.Test.YtgadhdnnkdcgkaaGreatDoorVh3
import Derived.Test.YtgadhdnnkdcgkaaGreatDoorVh4
set_option linter.unusedVariables false
set_option linter.unusedSimpArgs false
section
set_option maxRecDepth 100000
namespace Go.VM
open Go.RowKit
def aRs:RC:=.reg [.mv 8 69,.op (.bin .add (.t 69) (.i 1)) 70,.mv 70 8]
def aBt:RC:=.seq (.r [.mv 8 64,.op (.fa (.t 4) 2) 65,.op (.ld (.t 65) none) 66,.op (.lenL (.t 66)) 67,.op (.bin .lss (.t 64) (.t 67)) 68] (.cond (.t 68) .skip (.exit 0))) (.seq (.block 1 (.seq (.aL [.w 0 0 (.mv (.t 0)) [0] 71,.w 1 0 (.fa (.t 4) 2) [4] 72,.w 2 2 (.ld (.t 72) none) [72] 73,.w 3 0 (.mv (.t 8)) [8] 74,.w 4 14 (.ia (.t 73) (.t 74) 2) [73,74] 75,.w 5 30 (.fa (.t 75) 1) [75] 76,.w 6 62 (.ld (.t 76) none) [76] 77,.w 7 0 (.fa (.t 4) 2) [4] 78,.w 8 128 (.ld (.t 78) none) [78] 79,.w 9 0 (.mv (.t 8)) [8] 80,.w 10 896 (.ia (.t 79) (.t 80) 2) [79,80] 81,.w 11 1920 (.fa (.t 81) 0) [81] 82,.w 12 3968 (.ld (.t 82) none) [82] 83] [(.w 13 8191 (.c 11 [.t 71,.t 77,.t 83]) [71,77,83] 84,[.w 14 16383 (.mv (.t 84)) [84] 9])] [71,72,73,74,75,76,77,78,79,80,81,82,83,84,9]) (.seq (.r [.mv 9 85,.op (.un .not (.t 85)) 86,.mv 86 87,.g (.fa (.t 4) 2) 88 87 false,.g (.ld (.t 88) none) 89 87 false,.g (.mv (.t 8)) 90 87 false,.g (.ia (.t 89) (.t 90) 2) 91 87 false,.g (.fa (.t 91) 1) 92 87 false,.g (.ld (.t 92) none) 93 87 false,.g (.mv (.t 7)) 94 87 false,.g (.bin .leq (.t 93) (.t 94)) 95 87 false,.op (.pick (.t 87) (.c (.bool true)) (.t 95)) 96] (.cond (.t 96) (.r [.op (.mv (.c (.bool false))) 2] .ret) .skip)) (.reg [.op (.fa (.t 4) 2) 97,.op (.ld (.t 97) none) 98,.mv 8 99,.op (.ia (.t 98) (.t 99) 2) 100,.op (.fa (.t 100) 1) 101,.op (.ld (.t 101) none) 102,.mv 102 7])))) aRs)
def aPm:RC:=.reg [.mv 13 156,.op (.bin .add (.t 156) (.i 1)) 157,.mv 157 13]
def aCa:RC:=.seq (.r [.mv 13 151,.op (.fa (.t 11) 13) 152,.op (.ld (.t 152) none) 153,.op (.lenL (.t 153)) 154,.op (.bin .lss (.t 151) (.t 154)) 155] (.cond (.t 155) .skip (.exit 4))) (.seq (.block 5 (.seq (.aL [.w 0 0 (.mv (.t 0)) [0] 158,.w 1 0 (.fa (.t 11) 13) [11] 159,.w 2 2 (.ld (.t 159) none) [159] 160,.w 3 0 (.mv (.t 13)) [13] 161,.w 4 14 (.ia (.t 160) (.t 161) 7) [160,161] 162,.w 5 30 (.fa (.t 162) 1) [162] 163,.w 6 62 (.ld (.t 163) none) [163] 164,.w 7 0 (.fa (.t 11) 13) [11] 165,.w 8 128 (.ld (.t 165) none) [165] 166,.w 9 0 (.mv (.t 13)) [13] 167,.w 10 896 (.ia (.t 166) (.t 167) 7) [166,167] 168,.w 11 1920 (.fa (.t 168) 0) [168] 169,.w 12 3968 (.ld (.t 169) none) [169] 170] [(.w 13 8191 (.c 11 [.t 158,.t 164,.t 170]) [158,164,170] 171,[.w 14 16383 (.mv (.t 171)) [171] 14])] [158,159,160,161,162,163,164,165,166,167,168,169,170,171,14]) (.seq (.aL [.w 0 0 (.mv (.t 14)) [14] 172,.w 1 1 (.un .not (.t 172)) [172] 173,.w 2 3 (.mv (.t 173)) [173] 174,⟨3,7,some (.fa (.t 11) 13),[11,174],some 175,some (174,false)⟩,⟨4,15,some (.ld (.t 175) none),[175,174],some 176,some (174,false)⟩,⟨5,7,some (.mv (.t 13)),[13,174],some 177,some (174,false)⟩,⟨6,63,some (.ia (.t 176) (.t 177) 7),[176,177,174],some 178,some (174,false)⟩,⟨7,127,some (.fa (.t 178) 1),[178,174],some 179,some (174,false)⟩,⟨8,255,some (.ld (.t 179) none),[179,174],some 180,some (174,false)⟩,⟨9,7,some (.mv (.t 7)),[7,174],some 181,some (174,false)⟩,⟨10,1023,some (.bin .leq (.t 180) (.t 181)),[180,181,174],some 182,some (174,false)⟩,.w 11 2047 (.pick (.t 174) (.c (.bool true)) (.t 182)) [174,182] 183,.w 12 4095 (.mv (.t 183)) [183] 184,⟨13,8191,some (.fa (.t 11) 13),[11,184],some 185,some (184,false)⟩,⟨14,16383,some (.ld (.t 185) none),[185,184],some 186,some (184,false)⟩,⟨15,8191,some (.mv (.t 13)),[13,184],some 187,some (184,false)⟩,⟨16,65535,some (.ia (.t 186) (.t 187) 7),[186,187,184],some 188,some (184,false)⟩,⟨17,131071,some (.fa (.t 188) 1),[188,184],some 189,some (184,false)⟩,⟨18,262143,some (.ld (.t 189) none),[189,184],some 190,some (184,false)⟩,⟨19,8191,some (.fa (.t 11) 2),[11,184],some 191,some (184,false)⟩,⟨20,532479,some (.ld (.t 191) none),[191,184],some 192,some (184,false)⟩,⟨21,2097151,some (.bin .geq (.t 190) (.t 192)),[190,192,184],some 193,some (184,false)⟩,.w 22 4194303 (.pick (.t 184) (.c (.bool true)) (.t 193)) [184,193] 194] [] [172,173,174,175,176,177,178,179,180,181,182,183,184,185,186,187,188,189,190,191,192,193,194]) (.cond (.t 194) (.r [.op (.mv (.c (.bool false))) 2] .ret) .skip)))) aPm)
def aRg:RC:=.reg [.op (.fa (.t 11) 2) 195,.op (.ld (.t 195) none) 196,.mv 196 7]
def aTa:RC:=.reg [.mv 10 108,.op (.bin .add (.t 108) (.i 1)) 109,.mv 109 10]
def aAf:RC:=.seq (.r [.mv 10 103,.op (.fa (.t 4) 3) 104,.op (.ld (.t 104) none) 105,.op (.lenL (.t 105)) 106,.op (.bin .lss (.t 103) (.t 106)) 107] (.cond (.t 107) .skip (.exit 2))) (.seq (.block 3 (.r [.op (.fa (.t 4) 3) 110,.op (.ld (.t 110) none) 111,.mv 10 112,.op (.ia (.t 111) (.t 112) 22) 113,.op (.ld (.t 113) (some 22)) 114,.op (.al [.o,.o,.o,.e,.bool false,.e,.o,.o,.o,.e,.e,.n,.n,.n,.n,.bool false,.o,.o,.e,.e,.n,.n]) 11,.s (.st (.t 11) (.t 114) 22)] (.r [.mv 0 115,.op (.fa (.t 11) 1) 116,.op (.ld (.t 116) none) 117,.op (.fa (.t 11) 3) 118,.op (.ld (.t 118) none) 119,.op (.c 11 [.t 115,.t 117,.t 119]) 120,.mv 120 12] (.seq (.r [.mv 12 121,.op (.un .not (.t 121)) 122,.mv 122 123,.g (.fa (.t 11) 1) 124 123 false,.g (.ld (.t 124) none) 125 123 false,.g (.mv (.t 7)) 126 123 false,.g (.bin .leq (.t 125) (.t 126)) 127 123 false,.op (.pick (.t 123) (.c (.bool true)) (.t 127)) 128,.mv 128 129,.g (.fa (.t 11) 2) 130 129 false,.g (.ld (.t 130) none) 131 129 false,.g (.fa (.t 11) 1) 132 129 false,.g (.ld (.t 132) none) 133 129 false,.g (.bin .leq (.t 131) (.t 133)) 134 129 false,.op (.pick (.t 129) (.c (.bool true)) (.t 134)) 135,.mv 135 136,.g (.fa (.t 11) 2) 137 136 false,.g (.ld (.t 137) none) 138 136 false,.g (.mv (.t 0)) 139 136 false,.g (.lenS (.t 139)) 140 136 false,.g (.bin .gtr (.t 138) (.t 140)) 141 136 false,.op (.pick (.t 136) (.c (.bool true)) (.t 141)) 142,.mv 142 143,.g (.mv (.t 0)) 144 143 false,.g (.fa (.t 11) 2) 145 143 false,.g (.ld (.t 145) none) 146 143 false,.g (.bin .sub (.t 146) (.i 1)) 147 143 false,.g (.idxs (.t 144) (.t 147)) 148 143 false,.g (.eq .int true (.t 148) (.c (.int .u8 125))) 149 143 false,.op (.pick (.t 143) (.c (.bool true)) (.t 149)) 150] (.cond (.t 150) (.r [.op (.mv (.c (.bool false))) 2] .ret) .skip)) (.seq (.r [.op (.mv (.i 0)) 13] (.block 4 (.loop aCa))) aRg))))) aTa)
def aQn:RC:=.r [.mv 3 197,.mv 197 2] .ret
def aTq:RC:=.seq (.r [.op (.mv (.i 0)) 10] (.block 2 (.loop aAf))) aQn
def rc4:RC:=.r [.op (.mv (.c (.bool false))) 2] (.r [.op (.c 7 []) 15,.mv 15 3] (.r [.mv 0 17,.op (.c 8 [.t 17]) 18,.mv 18 16,.op (.ext (.t 16) 0) 19,.op (.ext (.t 16) 1) 20,.op (.al [.e,.o,.n,.n]) 4,.op (.al [.o,.o]) 5,.s (.st (.t 4) (.t 19) 4),.s (.st (.t 5) (.t 20) 2)] (.seq (.r [.op (.fa (.t 5) 1) 21,.op (.ld (.t 21) none) 22,.op (.eq .int true (.t 22) (.i 0)) 23] (.cond (.t 23) (.r [.mv 3 24,.mv 24 25,.g (.fa (.t 5) 0) 26 25 true,.g (.ld (.t 26) none) 27 25 true,.g (.bin .geq (.t 27) (.i 0)) 28 25 true,.op (.pick (.t 25) (.t 28) (.c (.bool false))) 29,.mv 29 30,.g (.fa (.t 5) 0) 31 30 true,.g (.ld (.t 31) none) 32 30 true,.g (.mv (.t 0)) 33 30 true,.g (.lenS (.t 33)) 34 30 true,.g (.bin .leq (.t 32) (.t 34)) 35 30 true,.op (.pick (.t 30) (.t 35) (.c (.bool false))) 36,.mv 36 37,.g (.fa (.t 4) 0) 38 37 true,.g (.ld (.t 38) none) 39 37 true,.g (.eq .str false (.t 39) (.c (.e))) 40 37 true,.op (.pick (.t 37) (.t 40) (.c (.bool false))) 41,.mv 41 42,.g (.fa (.t 4) 2) 43 42 true,.g (.ld (.t 43) none) 44 42 true,.g (.lenL (.t 44)) 45 42 true,.g (.eq .int false (.t 45) (.i 0)) 46 42 true,.op (.pick (.t 42) (.t 46) (.c (.bool false))) 47,.mv 47 48,.g (.fa (.t 4) 3) 49 48 true,.g (.ld (.t 49) none) 50 48 true,.g (.lenL (.t 50)) 51 48 true,.g (.eq .int false (.t 51) (.i 0)) 52 48 true,.op (.pick (.t 48) (.t 52) (.c (.bool false))) 53,.mv 53 2] .ret) .skip)) (.r [.mv 0 54,.op (.fa (.t 4) 1) 55,.op (.ld (.t 55) none) 56,.op (.fa (.t 4) 0) 57,.op (.ld (.t 57) none) 58,.op (.c 11 [.t 54,.t 56,.t 58]) 59,.mv 59 6] (.seq (.r [.mv 6 60,.op (.un .not (.t 60)) 61] (.cond (.t 61) (.r [.op (.mv (.c (.bool false))) 2] .ret) .skip)) (.r [.op (.fa (.t 4) 1) 62,.op (.ld (.t 62) none) 63,.mv 63 7] (.seq (.r [.op (.mv (.i 0)) 8] (.block 0 (.loop aBt))) aTq)))))))
theorem bAu:(Go.Proofs.Tryz.f4.body).bind (aD Go.Proofs.Tryz.prog)=some rc4:=by kernel_rfl
def rc7:RC:=.r [.op (.mv (.c (.bool false))) 0] (.r [.op (.c 8 [.c (.str [112,97,99,107,97,103,101,32,97,59,105,109,112,111,114,116,32,98,59,102,117,110,99,40,116,32,84,41,109,40,41,105,110,116,123,114,101,116,117,114,110,32,116,46,120,59,125])]) 7,.mv 7 6,.op (.ext (.t 6) 0) 8,.op (.ext (.t 6) 1) 9,.op (.al [.e,.o,.n,.n]) 1,.op (.al [.o,.o]) 2,.s (.st (.t 1) (.t 8) 4),.s (.st (.t 2) (.t 9) 2)] (.r [.op (.c 8 [.c (.str [112,97,99,107,97,103,101,59])]) 11,.mv 11 10,.op (.ext (.t 10) 0) 12,.op (.ext (.t 10) 1) 13,.op (.al [.e,.o,.n,.n]) 3,.op (.al [.o,.o]) 4,.s (.st (.t 3) (.t 12) 4),.s (.st (.t 4) (.t 13) 2)] (.seq (.r [.op (.fa (.t 1) 2) 14,.op (.ld (.t 14) none) 15,.op (.lenL (.t 15)) 16,.op (.eq .int true (.t 16) (.i 1)) 17,.mv 17 18,.g (.fa (.t 1) 3) 19 18 false,.g (.ld (.t 19) none) 20 18 false,.g (.lenL (.t 20)) 21 18 false,.g (.eq .int true (.t 21) (.i 1)) 22 18 false,.op (.pick (.t 18) (.c (.bool true)) (.t 22)) 23] (.cond (.t 23) (.r [.op (.mv (.c (.bool false))) 0] .ret) .skip)) (.r [.op (.fa (.t 1) 3) 24,.op (.ld (.t 24) none) 25,.op (.ia (.t 25) (.i 0) 22) 26,.op (.ld (.t 26) (some 22)) 27,.op (.al [.o,.o,.o,.e,.bool false,.e,.o,.o,.o,.e,.e,.n,.n,.n,.n,.bool false,.o,.o,.e,.e,.n,.n]) 5,.s (.st (.t 5) (.t 27) 22)] (.r [.op (.fa (.t 1) 0) 28,.op (.ld (.t 28) none) 29,.op (.eq .str false (.t 29) (.c (.str [97]))) 30,.mv 30 31,.g (.fa (.t 1) 1) 32 31 true,.g (.ld (.t 32) none) 33 31 true,.g (.eq .int false (.t 33) (.i 8)) 34 31 true,.op (.pick (.t 31) (.t 34) (.c (.bool false))) 35,.mv 35 36,.g (.fa (.t 1) 2) 37 36 true,.g (.ld (.t 37) none) 38 36 true,.g (.ia (.t 38) (.i 0) 2) 39 36 true,.g (.fa (.t 39) 0) 40 36 true,.g (.ld (.t 40) none) 41 36 true,.g (.eq .str false (.t 41) (.c (.str [98]))) 42 36 true,.op (.pick (.t 36) (.t 42) (.c (.bool false))) 43,.mv 43 44,.g (.fa (.t 5) 0) 45 44 true,.g (.ld (.t 45) none) 46 44 true,.g (.eq .int false (.t 46) (.i 3)) 47 44 true,.op (.pick (.t 44) (.t 47) (.c (.bool false))) 48,.mv 48 49,.g (.fa (.t 5) 4) 50 49 true,.g (.ld (.t 50) none) 51 49 true,.op (.pick (.t 49) (.t 51) (.c (.bool false))) 52,.mv 52 53,.g (.fa (.t 5) 5) 54 53 true,.g (.fa (.t 54) 0) 55 53 true,.g (.ld (.t 55) none) 56 53 true,.g (.eq .str false (.t 56) (.c (.str [116]))) 57 53 true,.op (.pick (.t 53) (.t 57) (.c (.bool false))) 58,.mv 58 59,.g (.fa (.t 5) 3) 60 59 true,.g (.ld (.t 60) none) 61 59 true,.g (.eq .str false (.t 61) (.c (.str [109]))) 62 59 true,.op (.pick (.t 59) (.t 62) (.c (.bool false))) 63,.mv 63 64,.g (.fa (.t 5) 15) 65 64 true,.g (.ld (.t 65) none) 66 64 true,.op (.pick (.t 64) (.t 66) (.c (.bool false))) 67,.mv 67 68,.g (.fa (.t 5) 21) 69 68 true,.g (.ld (.t 69) none) 70 68 true,.g (.lenL (.t 70)) 71 68 true,.g (.eq .int false (.t 71) (.i 1)) 72 68 true,.op (.pick (.t 68) (.t 72) (.c (.bool false))) 73,.mv 73 74,.g (.ld (.t 2) (some 2)) 75 74 true,.g (.bld [.o,.o] [(0,1),(1,1)] []) 76 74 true,.g (.eq (.st [(0,.int),(1,.int)]) false (.t 75) (.t 76)) 77 74 true,.op (.pick (.t 74) (.t 77) (.c (.bool false))) 78,.mv 78 79,.g (.ld (.t 4) (some 2)) 80 79 true,.g (.bld [.o,.o] [(0,1),(1,1)] [(0,.c (.int .i64 7)),(1,.c (.int .i64 5))]) 81 79 true,.g (.eq (.st [(0,.int),(1,.int)]) false (.t 80) (.t 81)) 82 79 true,.op (.pick (.t 79) (.t 82) (.c (.bool false))) 83,.mv 83 0] .ret)))))
theorem bGv:(Go.Proofs.Tryz.f7.body).bind (aD Go.Proofs.Tryz.prog)=some rc7:=by kernel_rfl
def bFn:RC:=.r [.op (.mv (.c (.bool false))) 6] (.r [.mv 2 7,.op (.eq .str true (.t 7) (.c (.e))) 8,.mv 8 9,.g (.mv (.t 1)) 10 9 true,.g (.bin .geq (.t 10) (.i 0)) 11 9 true,.op (.pick (.t 9) (.t 11) (.c (.bool false))) 12,.mv 12 13,.g (.mv (.t 1)) 14 13 true,.g (.mv (.t 0)) 15 13 true,.g (.lenS (.t 15)) 16 13 true,.g (.mv (.t 2)) 17 13 true,.g (.lenS (.t 17)) 18 13 true,.g (.bin .sub (.t 16) (.t 18)) 19 13 true,.g (.bin .leq (.t 14) (.t 19)) 20 13 true,.op (.pick (.t 13) (.t 20) (.c (.bool false))) 21,.mv 21 22,.g (.mv (.t 0)) 23 22 true,.g (.mv (.t 1)) 24 22 true,.g (.mv (.t 1)) 25 22 true,.g (.mv (.t 2)) 26 22 true,.g (.lenS (.t 26)) 27 22 true,.g (.bin .add (.t 25) (.t 27)) 28 22 true,.g (.slc .str (.t 23) (some (.t 24)) (some (.t 28)) none) 29 22 true,.g (.mv (.t 2)) 30 22 true,.g (.eq .str false (.t 29) (.t 30)) 31 22 true,.op (.pick (.t 22) (.t 31) (.c (.bool false))) 32,.mv 32 6] .ret)
theorem bEm:(Go.Proofs.Tryz.f11.body).bind (aD Go.Proofs.Tryz.prog)=some bFn:=by kernel_rfl
end Go.VM
end
section
/- Files: the call at the head of the laws; a name in a text. -/
set_option maxRecDepth 100000
namespace Go.VM
open Go.RowKit
def SC(l:List Tz)(F:Nat)(a:Nat):R (List Sx):=match Nat.ble a l.length with
 |true=>match(cZ l (fun a=>(fns l F).expr 1 a 0) F).block 0 ⟨a,0,0⟩with
  |some r=>xW r
  |none=>.out
 |false=>.out
def aCt(l:List Tz)(F:Nat):Bool:=aRi l F&&(List.range (l.length+1)).all fun a=>((cZ l (fun a=>(fns l F).expr 1 a 0) F).block 0 ⟨a,0,0⟩).isSome
theorem aYh{l:List Tz}{F:Nat}(hl:l.length<19999)(hT:∀t∈l,t.t.length<big)(h:aCt l F=true):StmOk l (SC l F):=by
 unfold aCt at h
 rw[Bool.and_eq_true]at h
 refine aTo (aTj l hl hT F (aRj h.1)) (by omega) (fun a ha=>?_) (fun a ha=>?_)
 ·have:=List.all_eq_true.1 h.2 a (List.mem_range.2 (by omega))
  obtain⟨r,hr⟩:=Option.isSome_iff_exists.1 this
  refine⟨F,r,hr,?_⟩
  unfold SC
  rw[Nat.ble_eq.mpr ha,hr]
 ·unfold SC
  cases hb:Nat.ble a l.length with
  |true=>exact absurd (Nat.le_of_ble_eq_true hb) ha
  |false=>rfl
def f1:List Nat:=[112,97,99,107,97,103,101,32,97,59,105,109,112,111,114,116,32,98,59,102,117,110,99,40,116,32,84,41,109,40,41,105,110,116,123,114,101,116,117,114,110,32,116,46,120,59,125]
def f2:List Nat:=[112,97,99,107,97,103,101,59]
def G1:List Tz:=(bA f1).1.map toZ
def G2:List Tz:=(bA f2).1.map toZ
def D1:Dx:=⟨3,28,47,[109],true,⟨[116],24,.mk 4 26 [] [84] []⟩,[],[],[],true,.mk 1 31 [] [] [],[.mk 3 35 [] true (.mk 5 42 45 [120] 0 zT [.mk 4 42 43 [116] 0 zT []]) [] []]⟩
def F1:FileX:=⟨[97],8,[⟨[98],17⟩],[D1]⟩
theorem fl1:(bA f1).2=(0,0):=by kernel_rfl
theorem fl2:(bA f2).2=(0,0):=by kernel_rfl
theorem gk1:aCt G1 60=true:=by kernel_rfl
theorem gk2:aCt G2 60=true:=by kernel_rfl
theorem gp1:jZ G1 (SC G1 60) 40=.ok F1 22:=by kernel_rfl
theorem gp2:jZ G2 (SC G2 60) 40=.er 1 0 7 5:=by kernel_rfl
theorem gl1:G1.length<19999:=by decide
theorem gl2:G2.length<19999:=by decide
theorem sF:SCall Go.Proofs.Tryz.prog [0] 7 [] none ⟨1000,og tOl,[]⟩ (.ret (.bool true)) none ⟨1000,og tOl,[]⟩:=by
 have c1:(bA f1).2.2=0:=congrArg Prod.snd fl1
 have c2:(bA f2).2.2=0:=congrArg Prod.snd fl2
 have o1:(jZ G1 (SC G1 60) 40).aU=false:=by rw[gp1];rfl
 have o2:(jZ G2 (SC G2 60) 40).aU=false:=by rw[gp2];rfl
 have a1:=mG f1 (by decide) (by decide) _ (fun _=>o1) (fun _ h=>tB (aYh gl1 (by decide) gk1) (by have:=gl1;omega) 40 o1 h)
 have a2:=mG f2 (by decide) (by decide) _ (fun _=>o2) (fun _ h=>tB (aYh gl2 (by decide) gk2) (by have:=gl2;omega) 40 o2 h)
 rw[c1,gp1]at a1
 rw[c2,gp2]at a2
 have a1:SCall Go.Proofs.Tryz.prog [0] 8 [.str f1] none ⟨1000,og tOl,[]⟩ (.ret (.tup [pB F1,.agg (dgX 0 0)])) none ⟨1000,og tOl,[]⟩:=a1
 have a2:SCall Go.Proofs.Tryz.prog [0] 8 [.str f2] none ⟨1000,og tOl,[]⟩ (.ret (.tup [pB qF,.agg (dgX 7 5)])) none ⟨1000,og tOl,[]⟩:=a2
 refine SCall.listed (fn:=Go.Proofs.Tryz.f7) (by kernel_rfl) bGv (by kernel_rfl) (by kernel_rfl) (Nat.le_refl _) rfl ((by exact⟨iE,trivial⟩)) trivial ?_
 unfold rc7
 repeat apply sQ
 refine WR.q rfl ?_
 repeat apply sQ
 refine WR.reg (WQ.c rfl a1 .base rfl ?_)
 refine WQ.q rfl ?_
 repeat apply sQ
 refine WR.reg (WQ.c rfl (SCall.eC a2 _) .base rfl ?_)
 refine WQ.q rfl ?_
 repeat apply sQ
 refine WR.q rfl ?_
 repeat apply sQ
 refine WR.k rfl ?_
 repeat apply sQ
 refine WR.q rfl ?_
 repeat apply sQ
 refine WR.q rfl ?_
 exact WR.e
end Go.VM
end
section
/- Files: the law FilexLies, walked. -/
set_option maxRecDepth 100000
namespace Go.VM
open Go.RowKit
theorem qM{s nm:List Nat}{p:Int}(hl:s.length<big)(hn:lY s p nm)(h:H):SCall Go.Proofs.Tryz.prog [0] 11 [.str s,.int .i64 p,.str nm] none h (.ret (.bool true)) none h:=by
 refine SCall.more (SCall.dZ rfl ?_ (by exact⟨trivial,trivial,trivial,trivial⟩) (by exact trivial) h)
 obtain⟨i,rfl,h1,h2,h3⟩:=hn
 refine SCall.listed (fn:=Go.Proofs.Tryz.f11) (by kernel_rfl) bEm (by kernel_rfl) (by kernel_rfl) (Nat.le_refl _) rfl (trivial) trivial ?_
 unfold bFn
 repeat apply sQ
 refine WR.q rfl ?_
 repeat apply sQ
 refine WR.m 2 rfl ?_
 rw[show decide (nm=[])=false from decide_eq_false h1]
 refine WQ.m 3 rfl ?_
 rw[show decide ((i:Int)≥0)=true from decide_eq_true (by omega)]
 refine WQ.m 8 rfl ?_
 rw[aTz (a:=s.length) (b:=nm.length) (by omega) hl]
 refine WQ.m 1 rfl ?_
 rw[show decide ((i:Int)≤((s.length-nm.length:Nat):Int))=true from decide_eq_true (by omega)]
 refine WQ.m 8 rfl ?_
 rw[show IntKind.i64.wrap ((i:Int)+(nm.length:Int))=((i+nm.length:Nat):Int)from by unfold big at hl;rw[wrap64 (by omega) (by omega)];simp]
 refine WQ.bW rfl rfl rfl (uG rfl rfl rfl (by omega) h2) rfl ?_
 rw[Nat.add_sub_cancel_left,h3]
 refine WQ.m 2 rfl ?_
 rw[show decide (nm=nm)=true from decide_eq_true rfl]
 refine WQ.q rfl ?_
 exact WR.e
theorem aPv{α:Type}{l:List Tz}{rd:Nat→R α}(hr:∀a x a1,rd a=.ok x a1→a<a1∧a1≤l.length){to:List Nat}:∀(n:Nat) (acc:List α) (a:Nat) (xs:List α) (a':Nat),iK l rd to n acc a=.ok xs a'→acc.length≤a→xs.length≤a':=by
 intro n
 induction n with
 |zero=>intro acc a xs a' h;cases h
 |succ n ih=>
  intro acc a xs a' h ha
  unfold iK at h
  obtain⟨x,a1,h1,h⟩:=R.aF h
  have q:=hr _ _ _ h1
  split at h
  ·exact ih _ _ _ _ h (by simp;omega)
  ·obtain⟨u,a2,h2,h⟩:=R.aF h
   have:=aN (by decide) h2
   cases h
   simp;omega
theorem aBf{α:Type}{l:List Tz}{rd:Nat→R α}(hr:∀a x a1,rd a=.ok x a1→a<a1∧a1≤l.length){to:List Nat}{none:Bool}{m a:Nat}{xs:List α}{a':Nat}(h:bS l rd to none m a=.ok xs a'):xs.length≤l.length:=by
 have q:=cO hr h
 unfold bS at h
 split at h
 ·cases h;exact Nat.zero_le _
 ·have:=aPv hr _ _ _ _ _ h (Nat.zero_le _)
  omega
theorem aYb{α:Type}{l:List Tz}{rd:Nat→R α}(hr:∀a x a1,rd a=.ok x a1→a<a1∧a1≤l.length):∀(n:Nat) (acc:List α) (a:Nat) (xs:List α) (a':Nat),fTo l rd n acc a=.ok xs a'→acc.length≤a→xs.length≤a':=by
 intro n
 induction n with
 |zero=>intro acc a xs a' h;cases h
 |succ n ih=>
  intro acc a xs a' h ha
  unfold fTo at h
  split at h
  ·cases h;omega
  ·obtain⟨x,a1,h1,h⟩:=R.aF h
   have q:=hr _ _ _ h1
   exact ih _ _ _ _ h (by simp;omega)
theorem aPt{l:List Tz}{S:Nat→R (List Sx)}(hS:StmOk l S){m a:Nat}{d:Dx}{a':Nat}(h:nH l S m a=.ok d a'):d.fs.length≤l.length:=by
 unfold nH at h
 have j3:∀{p nm mt rv bs b d a'},fJ3 l S m p nm mt rv bs b=.ok d a'→d.fs.length≤l.length:=by
  intro p nm mt rv bs b d a' h
  obtain⟨_,a1,h1,h⟩:=R.aF h
  obtain⟨fs,a2,h2,h⟩:=R.aF h
  obtain⟨r,a3,h3,h⟩:=R.aF h
  have:=aBf (fun _ _ _=>bT) h2
  unfold mV at h
  split at h
  ·cases h;exact this
  ·cases h
  ·cases h
 have j4:∀{mt rv b d a'},fJ4 l S m mt rv b=.ok d a'→d.fs.length≤l.length:=by
  intro mt rv b d a' h
  obtain⟨t,a1,h1,h⟩:=R.aF h
  split at h
  ·obtain⟨bs,a2,h2,h⟩:=R.aF h
   exact j3 h
  ·exact j3 h
 split at h
 ·obtain⟨t,a1,h1,h⟩:=R.aF h
  split at h
  ·obtain⟨_,a2,h2,h⟩:=R.aF h
   obtain⟨ms,a3,h3,h⟩:=R.aF h
   cases h
   exact Nat.zero_le _
  ·obtain⟨_,a2,h2,h⟩:=R.aF h
   obtain⟨_,a3,h3,h⟩:=R.aF h
   obtain⟨fs,a4,h4,h⟩:=R.aF h
   have q3:=aN (by decide) h3
   have q4:=pH (fun _ _ _ _=>hJ) _ _ _ _ _ q3.2.1 h4
   have:=aYb (fun _ _ _=>hJ) _ _ _ _ _ h4 (Nat.zero_le _)
   cases h
   show fs.length≤_
   omega
 ·split at h
  ·unfold kT at h
   split at h
   ·obtain⟨p,a1,h1,h⟩:=R.aF h
    obtain⟨_,a2,h2,h⟩:=R.aF h
    exact j4 h
   ·exact j4 h
  ·cases h
theorem aNl{l:List Tz}{S:Nat→R (List Sx)}(hS:StmOk l S){m:Nat}:∀(n:Nat) (acc:List Dx) (a:Nat) (xs:List Dx) (a':Nat),a≤l.length→fE l S m n acc a=.ok xs a'→acc.length≤a→(∀d∈acc,d.fs.length≤l.length)→xs.length≤l.length∧∀d∈xs,d.fs.length≤l.length:=by
 intro n
 induction n with
 |zero=>intro acc a xs a' _ h;cases h
 |succ n ih=>
  intro acc a xs a' ha h hacc hd
  unfold fE at h
  split at h
  ·cases h;exact⟨by omega,hd⟩
  ·obtain⟨x,a1,h1,h⟩:=R.aF h
   have q:=vJ hS h1
   refine ih _ _ _ _ q.2 h (by simp;omega) fun y hy=>?_
   rcases List.mem_append.1 hy with hy|hy
   ·exact hd y hy
   ·rw[List.mem_singleton]at hy;subst hy;exact aPt hS h1
theorem aSg{l:List Tz}:∀(n:Nat) (acc:List Im) (a:Nat) (xs:List Im) (a':Nat),hH l n acc a=.ok xs a'→acc.length≤a→xs.length≤a':=by
 intro n
 induction n with
 |zero=>intro acc a xs a' h;cases h
 |succ n ih=>
  intro acc a xs a' h ha
  unfold hH at h
  split at h
  ·cases h;omega
  ·obtain⟨t,a1,h1,h⟩:=R.aF h
   obtain⟨_,a2,h2,h⟩:=R.aF h
   have q1:=cA h1
   have q2:=aN (by decide) h2
   exact ih _ _ _ _ h (by simp;omega)
theorem bCv{l:List Tz}(hl:l.length<19999)(hT:∀t∈l,t.t.length<big){f:FileX}{a:Nat}(h:FL l=.ok f a):f.is.length<big∧f.ds.length<big∧∀d∈f.ds,d.fs.length<big:=by
 unfold FL at h
 obtain⟨_,a1,h1,h⟩:=R.aF h
 obtain⟨t,a2,h2,h⟩:=R.aF h
 obtain⟨_,a3,h3,h⟩:=R.aF h
 obtain⟨is,a4,h4,h⟩:=R.aF h
 obtain⟨ds,a5,h5,h⟩:=R.aF h
 have q2:=aN (by decide) h3
 have q3:=vR q2.2.1 h4
 have l1:=aSg _ _ _ _ _ h4 (Nat.zero_le _)
 have l2:=aNl (aJs hl hT) _ _ _ _ _ q3.2 h5 (Nat.zero_le _) (fun d hd=>by cases hd)
 cases h
 have hb:(19999:Nat)<big:=by unfold big;omega
 exact⟨Nat.lt_of_le_of_lt (Nat.le_trans l1 q3.2) (by omega),Nat.lt_of_le_of_lt l2.1 (by omega),fun d hd=>Nat.lt_of_le_of_lt (l2.2 d hd) (by omega)⟩
theorem aWj(s:List Nat):∀(m i:Nat) (l:List Tk),i≤s.length→(pM s m i l).2.2≠0→(pM s m i l).2.1≤s.length:=by
 intro m
 induction m with
 |zero=>intro i l _ h;exact absurd rfl h
 |succ m ih=>
  intro i l hi h
  simp only[pM]at h⊢
  cases hc:s[i]? with
  |none=>rw[hc]at h;exact absurd rfl h
  |some c=>
   rw[hc]at h
   simp only[aMq]at h⊢
   split at h
   ·rename_i t ht
    have h0:(fW s i c).1=t:=by rw[Prod.mk.injEq]at ht;exact ht.1
    have hz:(fW s i c).2=0:=by
     rw[Prod.mk.injEq]at ht
     have h2:=ht.2
     split at h2
     ·cases h2
     ·exact h2
    have hp:=vK hc hz
    rw[h0]at hp
    exact ih _ _ (jL s _ _ hp.2.1) h
   ·exact hi
theorem aXs(s:List Nat)(h:(bA s).2.2≠0):(bA s).2.1≤s.length:=aWj s _ _ _ (jL s _ _ (Nat.zero_le _)) h
section
variable{s:List Nat}
def bGu(s:List Nat)(at' j:Int):TM:=[(0,.v (.str s)),(3,.v (.bool true)),(4,.l 4 0),(7,.v (.int .i64 at')),(10,.v (.int .i64 j))]
def aLz(n:List Nat)(a:Int)(is:List Im)(ds:List Dx):LM:=[(4,fxC n a (jX fL is) (jX fO ds))]
def bFi(s:List Nat)(at' j k:Int):TM:=[(0,.v (.str s)),(3,.v (.bool true)),(4,.l 4 0),(7,.v (.int .i64 at')),(10,.v (.int .i64 j)),(11,.l 11 0),(13,.v (.int .i64 k))]
def bBm(n:List Nat)(a:Int)(is:List Im)(ds:List Dx)(d:Dx):LM:=[(4,fxC n a (jX fL is) (jX fO ds)),(11,fO d)]
theorem aVl{QN:S→Prop}{QX:X→S→Prop}(hs:s.length<big)(n:List Nat)(a:Int)(is:List Im)(ds:List Dx)(at' j:Int)(d:Dx)(hd:∀p∈d.fs,lY s p.a p.n∧at'<p.a∧p.a<d.e)(hb:d.fs.length<big)
  (h0:∀tm lc,TellT tm (bBm n a is ds d) (bFi s at' j d.fs.length)→TellL lc (bBm n a is ds d)→QX (.exit 4) (SL.toS ⟨tm,[],none,1000,tOl,lc⟩)):∀m k,k+m=d.fs.length→
  WLr Go.Proofs.Tryz.prog [0] ⟨Go.Proofs.Tryz.f4.ntmps,none,4⟩ aCa (SL.toS ⟨bFi s at' j k,[],none,1000,tOl,bBm n a is ds d⟩) QN QX:=by
 obtain⟨dk,da,de,dn,dmt,⟨rn,ra,⟨k1,b1,q1,m1,l1⟩⟩,bs,fs,ms,has,⟨k2,b2,q2,m2,l2⟩,body⟩:=d
 dsimp only at hd hb h0⊢
 intro m
 induction m with
 |zero=>
  intro k hk
  have hk:k=fs.length:=hk
  unfold aCa
  refine WLr.of ?_
  repeat apply sQ
  refine WR.m 4 rfl ?_
  rw[List.length_map]
  refine WQ.m 1 rfl ?_
  rw[show decide ((k:Int)<(fs.length:Int))=false from decide_eq_false (by omega)]
  subst hk
  refine WQ.q rfl ?_
  repeat apply sQ
  refine WR.aM rfl (WR.exit (h0 _ _ ?_ ?_))
  ·exact tQ
  ·exact lQ
 |succ m ih=>
  intro k hk
  obtain⟨p,hp⟩:∃p,fs[k]? =some p:=⟨fs[k],List.getElem?_eq_getElem (by omega)⟩
  obtain⟨hn,hlo,hhi⟩:=hd p (List.mem_of_getElem? hp)
  have ih:=ih (k+1) (by omega)
  obtain⟨pn,pa,⟨k3,b3,q3,m3,l3⟩⟩:=p
  have hpe:(fs.map dJ)[k]? =some (dJ ⟨pn,pa,⟨k3,b3,q3,m3,l3⟩⟩):=by rw[List.getElem?_map,hp];rfl
  dsimp only at hn hlo hhi
  unfold aCa
  refine WLr.of ?_
  repeat apply sQ
  refine WR.m 4 rfl ?_
  rw[List.length_map]
  refine WQ.m 1 rfl ?_
  rw[show decide ((k:Int)<(fs.length:Int))=true from decide_eq_true (by omega)]
  refine WQ.q rfl ?_
  repeat apply sQ
  refine WR.aC rfl (WR.skip ?_)
  repeat(first|refine WR.seq ?_|refine WR.block ?_)
  refine WR.aL aT (DW.m 4 rfl ?_)
  refine DW.jY rfl (fun h=>fD (cs:=dJ ⟨pn,pa,⟨k3,b3,q3,m3,l3⟩⟩) rfl rfl hpe rfl) rfl (DW.m 5 rfl ?_)
  refine DW.jY rfl (fun h=>fD (cs:=dJ ⟨pn,pa,⟨k3,b3,q3,m3,l3⟩⟩) rfl rfl hpe rfl) rfl (DW.m 1000 rfl ?_)
  refine DW.dP pQ rfl rfl rfl rfl rfl (qM hs hn _) .base rfl (DW.m 1000 rfl (DW.bO pQ ?_))
  repeat apply sQ
  refine WR.aL aT (DW.m 6 rfl ?_)
  refine DW.jY rfl (fun h=>fD (cs:=dJ ⟨pn,pa,⟨k3,b3,q3,m3,l3⟩⟩) rfl rfl hpe rfl) rfl (DW.m 4 rfl ?_)
  rw[show decide (pa≤at')=false from decide_eq_false (by omega)]
  refine DW.m 5 rfl ?_
  refine DW.jY rfl (fun h=>fD (cs:=dJ ⟨pn,pa,⟨k3,b3,q3,m3,l3⟩⟩) rfl rfl hpe rfl) rfl (DW.m 5 rfl ?_)
  rw[show decide (pa≥de)=false from decide_eq_false (by omega)]
  refine DW.m 1000 rfl (DW.bO pQ ?_)
  repeat apply sQ
  refine WR.k rfl ?_
  unfold aPm
  repeat apply sQ
  refine WR.m 2 rfl ?_
  rw[bK (by omega)]
  refine WQ.q rfl ?_
  refine WIr.again (WLr.weak ?_ ih)
  refine SW.aP ?_ ?_
  ·exact tQ
  ·exact lQ
theorem aXe{QN:S→Prop}{QX:X→S→Prop}(hs:s.length<big)(n:List Nat)(a:Int)(is:List Im)(ds:List Dx)(hds:ds.length<big)(hb:∀d∈ds,d.fs.length<big)
  (h0:∀tm lc,TellT tm (aLz n a is ds) [(3,.v (.bool true))]→TellL lc (aLz n a is ds)→QX (.exit 2) (SL.toS ⟨tm,[],none,1000,tOl,lc⟩)):∀m j (at':Int),j+m=ds.length→aAr s at' (ds.drop j)→
  WLr Go.Proofs.Tryz.prog [0] ⟨Go.Proofs.Tryz.f4.ntmps,none,4⟩ aAf (SL.toS ⟨bGu s at' j,[],none,1000,tOl,aLz n a is ds⟩) QN QX:=by
 intro m
 induction m with
 |zero=>
  intro j at' hj _
  have hj:j=ds.length:=hj
  unfold aAf
  refine WLr.of ?_
  repeat apply sQ
  refine WR.m 4 rfl ?_
  rw[List.length_map]
  refine WQ.m 1 rfl ?_
  rw[show decide ((j:Int)<(ds.length:Int))=false from decide_eq_false (by omega)]
  refine WQ.q rfl ?_
  repeat apply sQ
  refine WR.aM rfl (WR.exit (h0 _ _ ?_ ?_))
  ·exact tQ
  ·exact lQ
 |succ m ih=>
  intro j at' hj hok
  obtain⟨d,hp⟩:∃d,ds[j]? =some d:=⟨ds[j],List.getElem?_eq_getElem (by omega)⟩
  rw[List.drop_eq_getElem_cons (by omega),show ds[j]=d from by rw[List.getElem?_eq_getElem (by omega)]at hp;exact Option.some.inj hp]at hok
  obtain⟨⟨dn1,dlt,dle,⟨e,he,hel,hec⟩,dfl⟩,hok⟩:=hok
  have ih:=ih (j+1) d.e (by omega) hok
  have lp:=fun QN QX h0=>aVl (QN:=QN) (QX:=QX) hs n a is ds at' j d dfl (hb d (List.mem_of_getElem? hp)) h0 d.fs.length 0 (by omega)
  obtain⟨dk,da,de,dn,dmt,⟨rn,ra,⟨k1,b1,q1,m1,l1⟩⟩,bs,fs,ms,has,⟨k2,b2,q2,m2,l2⟩,body⟩:=d
  dsimp only at dn1 dlt dle he ih lp
  subst he
  have hpe:(ds.map fO)[j]? =some (fO ⟨dk,da,((e+1:Nat):Int),dn,dmt,⟨rn,ra,⟨k1,b1,q1,m1,l1⟩⟩,bs,fs,ms,has,⟨k2,b2,q2,m2,l2⟩,body⟩):=by rw[List.getElem?_map,hp];rfl
  unfold aAf
  refine WLr.of ?_
  repeat apply sQ
  refine WR.m 4 rfl ?_
  rw[List.length_map]
  refine WQ.m 1 rfl ?_
  rw[show decide ((j:Int)<(ds.length:Int))=true from decide_eq_true (by omega)]
  refine WQ.q rfl ?_
  repeat apply sQ
  refine WR.aC rfl (WR.skip ?_)
  repeat(first|refine WR.seq ?_|refine WR.block ?_)
  refine WR.m 3 rfl ?_
  refine WQ.bW rfl rfl rfl (fD (cs:=fO ⟨dk,da,((e+1:Nat):Int),dn,dmt,⟨rn,ra,⟨k1,b1,q1,m1,l1⟩⟩,bs,fs,ms,has,⟨k2,b2,q2,m2,l2⟩,body⟩) rfl rfl hpe rfl) rfl ?_
  refine WQ.q rfl ?_
  repeat apply sQ
  refine WR.m 5 rfl ?_
  refine WQ.c rfl (qM hs dn1 _) .base rfl ?_
  refine WQ.q rfl ?_
  repeat apply sQ
  refine WR.m 7 rfl ?_
  rw[show decide (da≤at')=false from decide_eq_false (by omega)]
  refine WQ.m 7 rfl ?_
  rw[show decide (((e+1:Nat):Int)≤da)=false from decide_eq_false (by omega)]
  refine WQ.m 7 rfl ?_
  rw[show decide (((e+1:Nat):Int)>(s.length:Int))=false from decide_eq_false (by omega)]
  refine WQ.m 6 rfl ?_
  rw[nS (a:=e+1) (by omega) (by omega),Nat.add_sub_cancel]
  refine WQ.bW rfl rfl rfl (oQ rfl rfl hec) rfl ?_
  refine WQ.q rfl ?_
  repeat apply sQ
  refine WR.k rfl ?_
  repeat apply sQ
  refine WR.q rfl ?_
  repeat apply sQ
  refine WR.block (WR.loop (WLr.weak ?_ (lp _ _ (fun tm lc htm hlc=>?_))))
  ·refine SW.aP ?_ ?_
   ·exact tQ
   ·exact lQ
  ·refine WR.weak (SW.aP htm hlc) ?_
   unfold aRg
   repeat apply sQ
   refine WR.q rfl ?_
   unfold aTa
   repeat apply sQ
   refine WR.m 2 rfl ?_
   rw[bK (by omega)]
   refine WQ.q rfl ?_
   refine WIr.again (WLr.weak ?_ ih)
   refine SW.aP ?_ ?_
   ·exact tQ
   ·exact lQ
theorem aVy{QN:S→Prop}{QX:X→S→Prop}(hs:s.length<big)(n:List Nat)(a:Int)(is:List Im)(ds:List Dx)(his:is.length<big)
  (h0:∀tm lc at',TellT tm (aLz n a is ds) [(0,.v (.str s)),(3,.v (.bool true)),(4,.l 4 0),(7,.v (.int .i64 at'))]→TellL lc (aLz n a is ds)→at'=pK a is→QX (.exit 0) (SL.toS ⟨tm,[],none,1000,tOl,lc⟩)):∀m j (at':Int),j+m=is.length→aKw s at' (is.drop j)→pK at' (is.drop j)=pK a is→
  WLr Go.Proofs.Tryz.prog [0] ⟨Go.Proofs.Tryz.f4.ntmps,none,4⟩ aBt (SL.toS ⟨[(0,.v (.str s)),(3,.v (.bool true)),(4,.l 4 0),(7,.v (.int .i64 at')),(8,.v (.int .i64 j))],[],none,1000,tOl,aLz n a is ds⟩) QN QX:=by
 intro m
 induction m with
 |zero=>
  intro j at' hj _ hla
  have hj:j=is.length:=hj
  rw[List.drop_eq_nil_iff.2 (by omega)]at hla
  unfold aBt
  refine WLr.of ?_
  repeat apply sQ
  refine WR.m 4 rfl ?_
  rw[List.length_map]
  refine WQ.m 1 rfl ?_
  rw[show decide ((j:Int)<(is.length:Int))=false from decide_eq_false (by omega)]
  refine WQ.q rfl ?_
  repeat apply sQ
  refine WR.aM rfl (WR.exit (h0 _ _ at' ?_ ?_ hla))
  ·exact tQ
  ·exact lQ
 |succ m ih=>
  intro j at' hj hok hla
  obtain⟨d,hp⟩:∃d,is[j]? =some d:=⟨is[j],List.getElem?_eq_getElem (by omega)⟩
  rw[List.drop_eq_getElem_cons (by omega),show is[j]=d from by rw[List.getElem?_eq_getElem (by omega)]at hp;exact Option.some.inj hp]at hok hla
  obtain⟨dn1,dlt,hok⟩:=hok
  obtain⟨dn,da⟩:=d
  have ih:=ih (j+1) da (by omega) hok hla
  have hpe:(is.map fL)[j]? =some (fL ⟨dn,da⟩):=by rw[List.getElem?_map,hp];rfl
  dsimp only at dn1 dlt
  unfold aBt
  refine WLr.of ?_
  repeat apply sQ
  refine WR.m 4 rfl ?_
  rw[List.length_map]
  refine WQ.m 1 rfl ?_
  rw[show decide ((j:Int)<(is.length:Int))=true from decide_eq_true (by omega)]
  refine WQ.q rfl ?_
  repeat apply sQ
  refine WR.aC rfl (WR.skip ?_)
  repeat(first|refine WR.seq ?_|refine WR.block ?_)
  refine WR.aL aT (DW.m 4 rfl ?_)
  refine DW.jY rfl (fun h=>fD (cs:=fL ⟨dn,da⟩) rfl rfl hpe rfl) rfl (DW.m 5 rfl ?_)
  refine DW.jY rfl (fun h=>fD (cs:=fL ⟨dn,da⟩) rfl rfl hpe rfl) rfl (DW.m 1000 rfl ?_)
  refine DW.dP pQ rfl rfl rfl rfl rfl (qM hs dn1 _) .base rfl (DW.m 1000 rfl (DW.bO pQ ?_))
  repeat apply sQ
  refine WR.m 6 rfl ?_
  refine WQ.bW rfl rfl rfl (fD (cs:=fL ⟨dn,da⟩) rfl rfl hpe rfl) rfl ?_
  refine WQ.m 4 rfl ?_
  rw[show decide (da≤at')=false from decide_eq_false (by omega)]
  refine WQ.q rfl ?_
  repeat apply sQ
  refine WR.k rfl ?_
  repeat apply sQ
  refine WR.m 3 rfl ?_
  refine WQ.bW rfl rfl rfl (fD (cs:=fL ⟨dn,da⟩) rfl rfl hpe rfl) rfl ?_
  refine WQ.q rfl ?_
  unfold aRs
  repeat apply sQ
  refine WR.m 2 rfl ?_
  rw[bK (by omega)]
  refine WQ.q rfl ?_
  refine WIr.again (WLr.weak ?_ ih)
  refine SW.aP ?_ ?_
  ·exact tQ
  ·exact lQ
end
theorem aMd(s:List Nat)(h8:∀c∈s,c<256)(hl:s.length<big):
  SCall Go.Proofs.Tryz.prog [0] 4 [.str s] none ⟨1000,og tOl,[]⟩ (.ret (.bool true)) none ⟨1000,og tOl,[]⟩:=by
 have tx:=aSz s h8 hl
 unfold aZb at tx
 by_cases hc:(bA s).2.2=0
 ·obtain⟨g,h2,h3⟩:=zJ hl hc
  have kn:=vG h2 h3
  have er:=bCc g
  have li:=fun f a=>aVt (f:=f) (a:=a) g (aLt hc) h2 h3
  have bd:∀f a,FL ((bA s).1.map toZ)=.ok f a→f.is.length<big∧f.ds.length<big∧∀d∈f.ds,d.fs.length<big:=fun f a h=>bCv h2 h3 h
  rw[hc]at tx
  generalize FL ((bA s).1.map toZ)=F at tx kn er li bd
  cases F with
  |out=>cases kn
  |er a d p c=>
   obtain⟨e1,e2,e3⟩:=er _ _ _ _ rfl
   have tx:SCall Go.Proofs.Tryz.prog [0] 8 [.str s] none ⟨1000,og tOl,[]⟩ (.ret (.tup [pB qF,.agg (dgX p c)])) none ⟨1000,og tOl,[]⟩:=tx
   refine SCall.listed (fn:=Go.Proofs.Tryz.f4) (by kernel_rfl) bAu (by kernel_rfl) (by kernel_rfl) (Nat.le_refl _) rfl ((by exact⟨iE,trivial⟩)) trivial ?_
   unfold rc4
   repeat apply sQ
   refine WR.q rfl ?_
   repeat apply sQ
   refine WR.reg (WQ.c rfl sF .base rfl ?_)
   refine WQ.q rfl ?_
   repeat apply sQ
   refine WR.m 1 rfl ?_
   refine WQ.c rfl tx .base rfl ?_
   refine WQ.q rfl ?_
   repeat apply sQ
   refine WR.m 3 rfl ?_
   rw[show decide (c=0)=false from decide_eq_false e3]
   refine WQ.q rfl ?_
   repeat apply sQ
   refine WR.aC rfl ?_
   repeat apply sQ
   refine WR.m 5 rfl ?_
   rw[show decide (p≥0)=true from decide_eq_true e1]
   refine WQ.m 7 rfl ?_
   rw[show decide (p≤(s.length:Int))=true from decide_eq_true e2]
   refine WQ.q rfl ?_
   exact WR.e
  |ok f a=>
   obtain⟨l1,l2,l3⟩:=li f a rfl
   obtain⟨b1,b2,b3⟩:=bd f a rfl
   have tx:SCall Go.Proofs.Tryz.prog [0] 8 [.str s] none ⟨1000,og tOl,[]⟩ (.ret (.tup [pB f,.agg (dgX 0 0)])) none ⟨1000,og tOl,[]⟩:=tx
   obtain⟨fn,fa,is,ds⟩:=f
   dsimp only at l1 l2 l3 b1 b2 b3
   refine SCall.listed (fn:=Go.Proofs.Tryz.f4) (by kernel_rfl) bAu (by kernel_rfl) (by kernel_rfl) (Nat.le_refl _) rfl ((by exact⟨iE,trivial⟩)) trivial ?_
   unfold rc4
   repeat apply sQ
   refine WR.q rfl ?_
   repeat apply sQ
   refine WR.reg (WQ.c rfl sF .base rfl ?_)
   refine WQ.q rfl ?_
   repeat apply sQ
   refine WR.m 1 rfl ?_
   refine WQ.c rfl tx .base rfl ?_
   refine WQ.q rfl ?_
   repeat apply sQ
   refine WR.q rfl ?_
   repeat apply sQ
   refine WR.k rfl ?_
   repeat apply sQ
   refine WR.m 5 rfl ?_
   refine WQ.c rfl (qM hl l1 _) .base rfl ?_
   refine WQ.q rfl ?_
   repeat apply sQ
   refine WR.q rfl ?_
   repeat apply sQ
   refine WR.k rfl ?_
   repeat apply sQ
   refine WR.q rfl ?_
   repeat apply sQ
   refine WR.q rfl ?_
   repeat apply sQ
   refine WR.block (WR.loop (WLr.weak ?_ (aVy hl fn fa is ds b1 (fun tm lc at' htm hlc ha=>?_) is.length 0 fa (by omega) l2 rfl)))
   ·refine SW.aP ?_ ?_
    ·exact tQ
    ·exact lQ
   ·subst ha
    refine WR.weak (SW.aP htm hlc) ?_
    unfold aTq
    repeat apply sQ
    refine WR.q rfl ?_
    repeat apply sQ
    refine WR.block (WR.loop (WLr.weak ?_ (aXe hl fn fa is ds b2 b3 (fun tm lc htm hlc=>?_) ds.length 0 (pK fa is) (by omega) l3)))
    ·refine SW.aP ?_ ?_
     ·exact tQ
     ·exact lQ
    ·refine WR.weak (SW.aP htm hlc) ?_
     unfold aQn
     repeat apply sQ
     refine WR.q rfl ?_
     exact WR.e
 ·obtain⟨w,hw⟩:∃w,(bA s).2.2=w+1:=⟨(bA s).2.2-1,by omega⟩
  have hp:(((bA s).2.1:Nat):Int)≤s.length:=by have:=aXs s hc;omega
  rw[hw]at tx
  have tx:SCall Go.Proofs.Tryz.prog [0] 8 [.str s] none ⟨1000,og tOl,[]⟩ (.ret (.tup [pB qF,.agg (dgX (((bA s).2.1:Nat):Int) ((w+1:Nat):Int))])) none ⟨1000,og tOl,[]⟩:=tx
  have e1:(0:Int)≤(((bA s).2.1:Nat):Int):=by omega
  have e3:((w+1:Nat):Int)≠0:=by omega
  generalize(((bA s).2.1:Nat):Int)=p at tx hp e1
  generalize((w+1:Nat):Int)=c at tx e3
  have e2:=hp
  refine SCall.listed (fn:=Go.Proofs.Tryz.f4) (by kernel_rfl) bAu (by kernel_rfl) (by kernel_rfl) (Nat.le_refl _) rfl ((by exact⟨iE,trivial⟩)) trivial ?_
  unfold rc4
  repeat apply sQ
  refine WR.q rfl ?_
  repeat apply sQ
  refine WR.reg (WQ.c rfl sF .base rfl ?_)
  refine WQ.q rfl ?_
  repeat apply sQ
  refine WR.m 1 rfl ?_
  refine WQ.c rfl tx .base rfl ?_
  refine WQ.q rfl ?_
  repeat apply sQ
  refine WR.m 3 rfl ?_
  rw[show decide (c=0)=false from decide_eq_false e3]
  refine WQ.q rfl ?_
  repeat apply sQ
  refine WR.aC rfl ?_
  repeat apply sQ
  refine WR.m 5 rfl ?_
  rw[show decide (p≥0)=true from decide_eq_true e1]
  refine WQ.m 7 rfl ?_
  rw[show decide (p≤(s.length:Int))=true from decide_eq_true e2]
  refine WQ.q rfl ?_
  exact WR.e
theorem aHg(s:List Nat)(h8:∀c∈s,c<256)(hl:s.length<big):SCall Go.Proofs.Tryz.prog [0] 4 [.str s] none (Go.VM.hT 0 .u8 aAc) (.ret (.bool true)) none (Go.VM.hT 0 .u8 aAc):=aMd s h8 hl
end Go.VM
end
