/- laid for this seat: RcF6 VgD VgE -/
import Derived.Test.YtgadhdnnkdcgkaaGreatDoorVmR
import Derived.Test.YtgadhdnnkdcgkaaGreatDoorVmS
import Derived.Test.YtgadhdnnkdcgkaaGreatDoorProg
import Derived.ProofKit
import Derived.Test.YtgadhdnnkdcgkaaGreatDoorVh3
import Derived.Test.YtgadhdnnkdcgkaaGreatDoorVh4
set_option linter.unusedVariables false
set_option linter.unusedSimpArgs false
section
set_option maxRecDepth 100000
namespace Go.VM
open Go.RowKit
def aKj:RC:=.r [.mv 0 27,.mv 8 28,.op (.bin .add (.t 27) (.t 28)) 29,.op (.c 8 [.t 29]) 30,.mv 30 26,.op (.ext (.t 26) 0) 31,.op (.ext (.t 26) 1) 32,.op (.al [.e,.o,.n,.n]) 9,.op (.al [.o,.o]) 10,.s (.st (.t 9) (.t 31) 4),.s (.st (.t 10) (.t 32) 2)] (.seq (.r [.op (.fa (.t 7) 1) 33,.op (.ld (.t 33) none) 34,.op (.eq .int true (.t 34) (.i 0)) 35] (.cond (.t 35) (.r [.mv 5 36,.mv 36 37,.g (.fa (.t 10) 1) 38 37 true,.g (.ld (.t 38) none) 39 37 true,.g (.eq .int true (.t 39) (.i 0)) 40 37 true,.g (.mv (.t 40)) 41 37 true,.g (.fa (.t 7) 0) 42 41 false,.g (.ld (.t 42) none) 43 41 false,.g (.mv (.t 0)) 44 41 false,.g (.lenS (.t 44)) 45 41 false,.g (.eq .int false (.t 43) (.t 45)) 46 41 false,.g (.pick (.t 41) (.c (.bool true)) (.t 46)) 47 37 true,.op (.pick (.t 37) (.t 47) (.c (.bool false))) 48,.mv 48 4] .ret) .skip)) (.seq (.r [.op (.fa (.t 10) 1) 49,.op (.ld (.t 49) none) 50,.op (.eq .int false (.t 50) (.i 6)) 51] (.cond (.t 51) (.r [.mv 5 52,.mv 52 4] .ret) .skip)) (.seq (.r [.op (.fa (.t 10) 1) 53,.op (.ld (.t 53) none) 54,.op (.eq .int true (.t 54) (.i 0)) 55,.mv 55 56,.g (.fa (.t 9) 3) 57 56 false,.g (.ld (.t 57) none) 58 56 false,.g (.lenL (.t 58)) 59 56 false,.g (.fa (.t 6) 3) 60 56 false,.g (.ld (.t 60) none) 61 56 false,.g (.lenL (.t 61)) 62 56 false,.g (.bin .add (.t 62) (.i 1)) 63 56 false,.g (.eq .int true (.t 59) (.t 63)) 64 56 false,.op (.pick (.t 56) (.c (.bool true)) (.t 64)) 65] (.cond (.t 65) (.r [.op (.mv (.c (.bool false))) 4] .ret) .skip)) (.r [.op (.fa (.t 9) 3) 66,.op (.ld (.t 66) none) 67,.op (.fa (.t 6) 3) 68,.op (.ld (.t 68) none) 69,.op (.lenL (.t 69)) 70,.op (.ia (.t 67) (.t 70) 22) 71,.op (.ld (.t 71) (some 22)) 72,.op (.al [.o,.o,.o,.e,.bool false,.e,.o,.o,.o,.e,.e,.n,.n,.n,.n,.bool false,.o,.o,.e,.e,.n,.n]) 11,.s (.st (.t 11) (.t 72) 22)] (.r [.op (.fa (.t 9) 3) 73,.op (.ld (.t 73) none) 74,.op (.fa (.t 6) 3) 75,.op (.ld (.t 75) none) 76,.op (.lenL (.t 76)) 77,.op (.slc (.slice 22) (.t 74) none (some (.t 77)) none) 78,.op (.fa (.t 9) 3) 79,.s (.st (.t 79) (.t 78) 1)] (.r [.op (.ld (.t 6) (some 4)) 80,.op (.ld (.t 9) (some 4)) 81,.op (.c 10 [.t 80,.t 81]) 82,.mv 82 12] (.r [.mv 5 83,.mv 83 84,.g (.mv (.t 12)) 85 84 true,.op (.pick (.t 84) (.t 85) (.c (.bool false))) 86,.mv 86 87,.g (.fa (.t 11) 3) 88 87 true,.g (.ld (.t 88) none) 89 87 true,.g (.eq .str false (.t 89) (.c (.str [90]))) 90 87 true,.op (.pick (.t 87) (.t 90) (.c (.bool false))) 91,.mv 91 92,.g (.fa (.t 11) 13) 93 92 true,.g (.ld (.t 93) none) 94 92 true,.g (.lenL (.t 94)) 95 92 true,.g (.eq .int false (.t 95) (.i 1)) 96 92 true,.op (.pick (.t 92) (.t 96) (.c (.bool false))) 97,.mv 97 98,.g (.fa (.t 11) 2) 99 98 true,.g (.ld (.t 99) none) 100 98 true,.g (.mv (.t 0)) 101 98 true,.g (.lenS (.t 101)) 102 98 true,.g (.mv (.t 8)) 103 98 true,.g (.lenS (.t 103)) 104 98 true,.g (.bin .add (.t 102) (.t 104)) 105 98 true,.g (.eq .int false (.t 100) (.t 105)) 106 98 true,.op (.pick (.t 98) (.t 106) (.c (.bool false))) 107,.mv 107 4] .ret)))))))
def rc6:RC:=.r [.op (.mv (.c (.bool false))) 4] (.r [.op (.c 7 []) 13,.mv 13 5] (.seq (.r [.mv 0 14,.op (.lenS (.t 14)) 15,.op (.bin .gtr (.t 15) (.i 3000)) 16] (.cond (.t 16) (.r [.mv 5 17,.mv 17 4] .ret) .skip)) (.r [.mv 0 19,.op (.c 8 [.t 19]) 20,.mv 20 18,.op (.ext (.t 18) 0) 21,.op (.ext (.t 18) 1) 22,.op (.al [.e,.o,.n,.n]) 6,.op (.al [.o,.o]) 7,.s (.st (.t 6) (.t 21) 4),.s (.st (.t 7) (.t 22) 2)] (.r [.op (.mv (.c (.str [10,116,121,112,101,32,90,32,115,116,114,117,99,116,32,123,32,122,32,105,110,116,59,32,125]))) 8] (.seq (.r [.mv 1 23,.op (.bin .rem (.t 23) (.i 2)) 24,.op (.eq .int false (.t 24) (.i 0)) 25] (.cond (.t 25) (.reg [.op (.mv (.c (.str [10,102,117,110,99,32,90,40,122,32,105,110,116,41,32,123,32,122,59,32,125]))) 8]) .skip)) aKj)))))
theorem bMs:(Go.Proofs.Tryz.f6.body).bind (aE Go.Proofs.Tryz.prog)=some rc6:=by kernel_rfl
def rc7:RC:=.r [.op (.mv (.c (.bool false))) 0] (.r [.op (.c 8 [.c (.str [112,97,99,107,97,103,101,32,97,59,105,109,112,111,114,116,32,98,59,102,117,110,99,40,116,32,84,41,109,40,41,105,110,116,123,114,101,116,117,114,110,32,116,46,120,59,125])]) 7,.mv 7 6,.op (.ext (.t 6) 0) 8,.op (.ext (.t 6) 1) 9,.op (.al [.e,.o,.n,.n]) 1,.op (.al [.o,.o]) 2,.s (.st (.t 1) (.t 8) 4),.s (.st (.t 2) (.t 9) 2)] (.r [.op (.c 8 [.c (.str [112,97,99,107,97,103,101,59])]) 11,.mv 11 10,.op (.ext (.t 10) 0) 12,.op (.ext (.t 10) 1) 13,.op (.al [.e,.o,.n,.n]) 3,.op (.al [.o,.o]) 4,.s (.st (.t 3) (.t 12) 4),.s (.st (.t 4) (.t 13) 2)] (.seq (.r [.op (.fa (.t 1) 2) 14,.op (.ld (.t 14) none) 15,.op (.lenL (.t 15)) 16,.op (.eq .int true (.t 16) (.i 1)) 17,.mv 17 18,.g (.fa (.t 1) 3) 19 18 false,.g (.ld (.t 19) none) 20 18 false,.g (.lenL (.t 20)) 21 18 false,.g (.eq .int true (.t 21) (.i 1)) 22 18 false,.op (.pick (.t 18) (.c (.bool true)) (.t 22)) 23] (.cond (.t 23) (.r [.op (.mv (.c (.bool false))) 0] .ret) .skip)) (.r [.op (.fa (.t 1) 3) 24,.op (.ld (.t 24) none) 25,.op (.ia (.t 25) (.i 0) 22) 26,.op (.ld (.t 26) (some 22)) 27,.op (.al [.o,.o,.o,.e,.bool false,.e,.o,.o,.o,.e,.e,.n,.n,.n,.n,.bool false,.o,.o,.e,.e,.n,.n]) 5,.s (.st (.t 5) (.t 27) 22)] (.r [.op (.fa (.t 1) 0) 28,.op (.ld (.t 28) none) 29,.op (.eq .str false (.t 29) (.c (.str [97]))) 30,.mv 30 31,.g (.fa (.t 1) 1) 32 31 true,.g (.ld (.t 32) none) 33 31 true,.g (.eq .int false (.t 33) (.i 8)) 34 31 true,.op (.pick (.t 31) (.t 34) (.c (.bool false))) 35,.mv 35 36,.g (.fa (.t 1) 2) 37 36 true,.g (.ld (.t 37) none) 38 36 true,.g (.ia (.t 38) (.i 0) 2) 39 36 true,.g (.fa (.t 39) 0) 40 36 true,.g (.ld (.t 40) none) 41 36 true,.g (.eq .str false (.t 41) (.c (.str [98]))) 42 36 true,.op (.pick (.t 36) (.t 42) (.c (.bool false))) 43,.mv 43 44,.g (.fa (.t 5) 0) 45 44 true,.g (.ld (.t 45) none) 46 44 true,.g (.eq .int false (.t 46) (.i 3)) 47 44 true,.op (.pick (.t 44) (.t 47) (.c (.bool false))) 48,.mv 48 49,.g (.fa (.t 5) 4) 50 49 true,.g (.ld (.t 50) none) 51 49 true,.op (.pick (.t 49) (.t 51) (.c (.bool false))) 52,.mv 52 53,.g (.fa (.t 5) 5) 54 53 true,.g (.fa (.t 54) 0) 55 53 true,.g (.ld (.t 55) none) 56 53 true,.g (.eq .str false (.t 56) (.c (.str [116]))) 57 53 true,.op (.pick (.t 53) (.t 57) (.c (.bool false))) 58,.mv 58 59,.g (.fa (.t 5) 3) 60 59 true,.g (.ld (.t 60) none) 61 59 true,.g (.eq .str false (.t 61) (.c (.str [109]))) 62 59 true,.op (.pick (.t 59) (.t 62) (.c (.bool false))) 63,.mv 63 64,.g (.fa (.t 5) 15) 65 64 true,.g (.ld (.t 65) none) 66 64 true,.op (.pick (.t 64) (.t 66) (.c (.bool false))) 67,.mv 67 68,.g (.fa (.t 5) 21) 69 68 true,.g (.ld (.t 69) none) 70 68 true,.g (.lenL (.t 70)) 71 68 true,.g (.eq .int false (.t 71) (.i 1)) 72 68 true,.op (.pick (.t 68) (.t 72) (.c (.bool false))) 73,.mv 73 74,.g (.ld (.t 2) (some 2)) 75 74 true,.g (.bld [.o,.o] [(0,1),(1,1)] []) 76 74 true,.g (.eq (.st [(0,.int),(1,.int)]) false (.t 75) (.t 76)) 77 74 true,.op (.pick (.t 74) (.t 77) (.c (.bool false))) 78,.mv 78 79,.g (.ld (.t 4) (some 2)) 80 79 true,.g (.bld [.o,.o] [(0,1),(1,1)] [(0,.c (.int .i64 7)),(1,.c (.int .i64 5))]) 81 79 true,.g (.eq (.st [(0,.int),(1,.int)]) false (.t 80) (.t 81)) 82 79 true,.op (.pick (.t 79) (.t 82) (.c (.bool false))) 83,.mv 83 0] .ret)))))
theorem bNm:(Go.Proofs.Tryz.f7.body).bind (aE Go.Proofs.Tryz.prog)=some rc7:=by kernel_rfl
end Go.VM
end
section
/- Files: the call at the head of the laws; a name in a text. -/
set_option maxRecDepth 100000
namespace Go.VM
open Go.RowKit
def SC(l:List Tz)(F:Nat)(a:Nat):R (List Sx):=match Nat.ble a l.length with
 |true=>match(cG l (fun a=>(fns l F).expr 1 a 0) F).block 0 ⟨a,0,0⟩with
  |some r=>rO r
  |none=>.out
 |false=>.out
def aEi(l:List Tz)(F:Nat):Bool:=aXf l F&&(List.range (l.length+1)).all fun a=>((cG l (fun a=>(fns l F).expr 1 a 0) F).block 0 ⟨a,0,0⟩).isSome
theorem bEf{l:List Tz}{F:Nat}(hl:l.length<19999)(hT:∀t∈l,t.t.length<big)(h:aEi l F=true):StmOk l (SC l F):=by
 unfold aEi at h
 rw[Bool.and_eq_true]at h
 refine aUg (aXp l hl hT F (aZx h.1)) (by omega) (fun a ha=>?_) (fun a ha=>?_)
 ·have:=List.all_eq_true.1 h.2 a (List.mem_range.2 (by omega))
  obtain⟨r,hr⟩:=Option.isSome_iff_exists.1 this
  refine⟨F,r,hr,?_⟩
  unfold SC
  rw[Nat.ble_eq.mpr ha,hr]
 ·unfold SC
  cases hb:Nat.ble a l.length with
  |true=>exact absurd (Nat.le_of_ble_eq_true hb) ha
  |false=>rfl
def f1:List Nat:=[112,97,99,107,97,103,101,32,97,59,105,109,112,111,114,116,32,98,59,102,117,110,99,40,116,32,84,41,109,40,41,105,110,116,123,114,101,116,117,114,110,32,116,46,120,59,125]
def f2:List Nat:=[112,97,99,107,97,103,101,59]
def G1:List Tz:=(bF f1).1.map toZ
def G2:List Tz:=(bF f2).1.map toZ
def D1:Dx:=⟨3,28,47,[109],true,⟨[116],24,.mk 4 26 [] [84] []⟩,[],[],[],true,.mk 1 31 [] [] [],[.mk 3 35 [] true (.mk 5 42 45 [120] 0 zT [.mk 4 42 43 [116] 0 zT []]) [] []]⟩
def F1:FileX:=⟨[97],8,[⟨[98],17⟩],[D1]⟩
theorem fl1:(bF f1).2=(0,0):=by kernel_rfl
theorem fl2:(bF f2).2=(0,0):=by kernel_rfl
theorem gk1:aEi G1 60=true:=by kernel_rfl
theorem gk2:aEi G2 60=true:=by kernel_rfl
theorem gp1:iN G1 (SC G1 60) 40=.ok F1 22:=by kernel_rfl
theorem gp2:iN G2 (SC G2 60) 40=.er 1 0 7 5:=by kernel_rfl
theorem gl1:G1.length<19999:=by decide
theorem gl2:G2.length<19999:=by decide
theorem aTl:SCall Go.Proofs.Tryz.prog [0] 7 [] none ⟨1000,og tOl,[]⟩ (.ret (.bool true)) none ⟨1000,og tOl,[]⟩:=by
 have c1:(bF f1).2.2=0:=congrArg Prod.snd fl1
 have c2:(bF f2).2.2=0:=congrArg Prod.snd fl2
 have o1:(iN G1 (SC G1 60) 40).bA=false:=by rw[gp1];rfl
 have o2:(iN G2 (SC G2 60) 40).bA=false:=by rw[gp2];rfl
 have a1:=nN f1 (by decide) (by decide) _ (fun _=>o1) (fun _ h=>uP (bEf gl1 (by decide) gk1) (by have:=gl1;omega) 40 o1 h)
 have a2:=nN f2 (by decide) (by decide) _ (fun _=>o2) (fun _ h=>uP (bEf gl2 (by decide) gk2) (by have:=gl2;omega) 40 o2 h)
 rw[c1,gp1]at a1
 rw[c2,gp2]at a2
 have a1:SCall Go.Proofs.Tryz.prog [0] 8 [.str f1] none ⟨1000,og tOl,[]⟩ (.ret (.tup [mF F1,.agg (dgX 0 0)])) none ⟨1000,og tOl,[]⟩:=a1
 have a2:SCall Go.Proofs.Tryz.prog [0] 8 [.str f2] none ⟨1000,og tOl,[]⟩ (.ret (.tup [mF tI,.agg (dgX 7 5)])) none ⟨1000,og tOl,[]⟩:=a2
 refine SCall.listed (fn:=Go.Proofs.Tryz.f7) (by kernel_rfl) bNm (by kernel_rfl) (by kernel_rfl) (Nat.le_refl _) rfl ((by exact⟨lS,trivial⟩)) trivial ?_
 unfold rc7
 repeat apply sQ
 refine WR.q rfl ?_
 repeat apply sQ
 refine WR.reg (WQ.c rfl a1 .base rfl ?_)
 refine WQ.q rfl ?_
 repeat apply sQ
 refine WR.reg (WQ.c rfl (SCall.eJ a2 _) .base rfl ?_)
 refine WQ.q rfl ?_
 repeat apply sQ
 refine WR.q rfl ?_
 repeat apply sQ
 refine WR.k rfl ?_
 repeat apply sQ
 refine WR.q rfl ?_
 repeat apply sQ
 refine WR.q rfl ?_
 exact WR.e
end Go.VM
end
section
/- Files: the law FilexLies, walked. -/
set_option maxRecDepth 100000
namespace Go.VM
open Go.RowKit
theorem aTt{α:Type}{l:List Tz}{rd:Nat→R α}(hr:∀a x a1,rd a=.ok x a1→a<a1∧a1≤l.length){to:List Nat}:∀(n:Nat) (acc:List α) (a:Nat) (xs:List α) (a':Nat),gO l rd to n acc a=.ok xs a'→acc.length≤a→xs.length≤a':=by
 intro n
 induction n with
 |zero=>intro acc a xs a' h;cases h
 |succ n ih=>
  intro acc a xs a' h ha
  unfold gO at h
  obtain⟨x,a1,h1,h⟩:=R.aA h
  have q:=hr _ _ _ h1
  split at h
  ·exact ih _ _ _ _ h (by simp;omega)
  ·obtain⟨u,a2,h2,h⟩:=R.aA h
   have:=aM (by decide) h2
   cases h
   simp;omega
theorem kE{α:Type}{l:List Tz}{rd:Nat→R α}(hr:∀a x a1,rd a=.ok x a1→a<a1∧a1≤l.length){to:List Nat}{none:Bool}{m a:Nat}{xs:List α}{a':Nat}(h:bH l rd to none m a=.ok xs a'):xs.length≤l.length:=by
 have q:=cP hr h
 unfold bH at h
 split at h
 ·cases h;exact Nat.zero_le _
 ·have:=aTt hr _ _ _ _ _ h (Nat.zero_le _)
  omega
theorem aDf{α:Type}{l:List Tz}{rd:Nat→R α}(hr:∀a x a1,rd a=.ok x a1→a<a1∧a1≤l.length):∀(n:Nat) (acc:List α) (a:Nat) (xs:List α) (a':Nat),fTo l rd n acc a=.ok xs a'→acc.length≤a→xs.length≤a':=by
 intro n
 induction n with
 |zero=>intro acc a xs a' h;cases h
 |succ n ih=>
  intro acc a xs a' h ha
  unfold fTo at h
  split at h
  ·cases h;omega
  ·obtain⟨x,a1,h1,h⟩:=R.aA h
   have q:=hr _ _ _ h1
   exact ih _ _ _ _ h (by simp;omega)
theorem aZp{l:List Tz}{S:Nat→R (List Sx)}(hS:StmOk l S){m a:Nat}{d:Dx}{a':Nat}(h:fB l S m a=.ok d a'):d.fs.length≤l.length:=by
 unfold fB at h
 have j3:∀{p nm mt rv bs b d a'},fJ3 l S m p nm mt rv bs b=.ok d a'→d.fs.length≤l.length:=by
  intro p nm mt rv bs b d a' h
  obtain⟨_,a1,h1,h⟩:=R.aA h
  obtain⟨fs,a2,h2,h⟩:=R.aA h
  obtain⟨r,a3,h3,h⟩:=R.aA h
  have:=kE (fun _ _ _=>bL) h2
  unfold lA at h
  split at h
  ·cases h;exact this
  ·cases h
  ·cases h
 have j4:∀{mt rv b d a'},fJ4 l S m mt rv b=.ok d a'→d.fs.length≤l.length:=by
  intro mt rv b d a' h
  obtain⟨t,a1,h1,h⟩:=R.aA h
  split at h
  ·obtain⟨bs,a2,h2,h⟩:=R.aA h
   exact j3 h
  ·exact j3 h
 split at h
 ·obtain⟨t,a1,h1,h⟩:=R.aA h
  split at h
  ·obtain⟨_,a2,h2,h⟩:=R.aA h
   obtain⟨ms,a3,h3,h⟩:=R.aA h
   cases h
   exact Nat.zero_le _
  ·obtain⟨_,a2,h2,h⟩:=R.aA h
   obtain⟨_,a3,h3,h⟩:=R.aA h
   obtain⟨fs,a4,h4,h⟩:=R.aA h
   have q3:=aM (by decide) h3
   have q4:=kW (fun _ _ _ _=>fV) _ _ _ _ _ q3.2.1 h4
   have:=aDf (fun _ _ _=>fV) _ _ _ _ _ h4 (Nat.zero_le _)
   cases h
   show fs.length≤_
   omega
 ·split at h
  ·unfold gU at h
   split at h
   ·obtain⟨p,a1,h1,h⟩:=R.aA h
    obtain⟨_,a2,h2,h⟩:=R.aA h
    exact j4 h
   ·exact j4 h
  ·cases h
theorem aSu{l:List Tz}{S:Nat→R (List Sx)}(hS:StmOk l S){m:Nat}:∀(n:Nat) (acc:List Dx) (a:Nat) (xs:List Dx) (a':Nat),a≤l.length→cL l S m n acc a=.ok xs a'→acc.length≤a→(∀d∈acc,d.fs.length≤l.length)→xs.length≤l.length∧∀d∈xs,d.fs.length≤l.length:=by
 intro n
 induction n with
 |zero=>intro acc a xs a' _ h;cases h
 |succ n ih=>
  intro acc a xs a' ha h hacc hd
  unfold cL at h
  split at h
  ·cases h;exact⟨by omega,hd⟩
  ·obtain⟨x,a1,h1,h⟩:=R.aA h
   have q:=tY hS h1
   refine ih _ _ _ _ q.2 h (by simp;omega) fun y hy=>?_
   rcases List.mem_append.1 hy with hy|hy
   ·exact hd y hy
   ·rw[List.mem_singleton]at hy;subst hy;exact aZp hS h1
theorem aUp{l:List Tz}:∀(n:Nat) (acc:List Im) (a:Nat) (xs:List Im) (a':Nat),fI l n acc a=.ok xs a'→acc.length≤a→xs.length≤a':=by
 intro n
 induction n with
 |zero=>intro acc a xs a' h;cases h
 |succ n ih=>
  intro acc a xs a' h ha
  unfold fI at h
  split at h
  ·cases h;omega
  ·obtain⟨t,a1,h1,h⟩:=R.aA h
   obtain⟨_,a2,h2,h⟩:=R.aA h
   have q1:=cK h1
   have q2:=aM (by decide) h2
   exact ih _ _ _ _ h (by simp;omega)
theorem bIc{l:List Tz}(hl:l.length<19999)(hT:∀t∈l,t.t.length<big){f:FileX}{a:Nat}(h:FL l=.ok f a):f.is.length<big∧f.ds.length<big∧∀d∈f.ds,d.fs.length<big:=by
 unfold FL at h
 obtain⟨_,a1,h1,h⟩:=R.aA h
 obtain⟨t,a2,h2,h⟩:=R.aA h
 obtain⟨_,a3,h3,h⟩:=R.aA h
 obtain⟨is,a4,h4,h⟩:=R.aA h
 obtain⟨ds,a5,h5,h⟩:=R.aA h
 have q2:=aM (by decide) h3
 have q3:=tU q2.2.1 h4
 have l1:=aUp _ _ _ _ _ h4 (Nat.zero_le _)
 have l2:=aSu (aBi hl hT) _ _ _ _ _ q3.2 h5 (Nat.zero_le _) (fun d hd=>by cases hd)
 cases h
 have hb:(19999:Nat)<big:=by unfold big;omega
 exact⟨Nat.lt_of_le_of_lt (Nat.le_trans l1 q3.2) (by omega),Nat.lt_of_le_of_lt l2.1 (by omega),fun d hd=>Nat.lt_of_le_of_lt (l2.2 d hd) (by omega)⟩
section
variable{s:List Nat}
end
end Go.VM
end
