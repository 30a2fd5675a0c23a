/- laid for this seat: VfH VfI VfJ VfK -/
import Derived.Test.YtgadhdnnkdcgkaaGreatDoorVh1
import Derived.Test.YtgadhdnnkdcgkaaGreatDoorVmR
import Derived.Test.YtgadhdnnkdcgkaaGreatDoorVmS
set_option linter.unusedVariables false
set_option linter.unusedSimpArgs false
section
/- Files: all of a file. -/
set_option maxRecDepth 100000
namespace Go.VM
open Go.RowKit
structure Im where
 n:List Nat
 a:Int
def kB(i:Im):List V:=[.str i.n,.int .i64 i.a]
theorem aWu{D:Nat→Prop}(i:Im):Ins D (kB i):=⟨trivial,trivial,trivial⟩
structure FileX where
 n:List Nat
 a:Int
 is:List Im
 ds:List Dx
def fxC(n:List Nat)(a:Int)(is ds:V):List V:=[.str n,.int .i64 a,is,ds]
def aHs(f:FileX):List V:=fxC f.n f.a (nV kB f.is) (nV eX f.ds)
def qY(f:FileX):V:=.agg (aHs f)
theorem aIg{D:Nat→Prop}(f:FileX):Ins D (aHs f):=⟨trivial,trivial,gE aWu _,gE aJb _,trivial⟩
theorem jO{D:Nat→Prop}(f:FileX):(qY f).In D:=aIg f
def yI:List Nat:=[112,97,99,107,97,103,101]
def qP:List Nat:=[105,109,112,111,114,116]
def sType:List Nat:=[116,121,112,101]
def vZ:List Nat:=[102,117,110,99]
def eC(l:List Tz):Nat→List Im→Nat→R (List Im)
 |0,_,_=>.out
 |n+1,acc,a=>match isF l a 5 qP with
  |false=>.ok acc a
  |true=>(fName l (a+1)).bind fun t a1=>(bM l 4 [59] a1).bind fun _ a2=>eC l n (acc++[⟨t.t,t.a⟩]) a2
def fB(l:List Tz)(S:Nat→R (List Sx))(m a:Nat):R Dx:=match isF l a 5 sType with
 |true=>cL l m (a+1)
 |false=>match isF l a 5 vZ with
  |true=>gN l S m (a+1)
  |false=>fD l a 0 5
def cN(l:List Tz)(S:Nat→R (List Sx))(m:Nat):Nat→List Dx→Nat→R (List Dx)
 |0,_,_=>.out
 |n+1,acc,a=>match decide ((aA l a).k=0)with
  |true=>.ok acc a
  |false=>(fB l S m a).bind fun d a1=>cN l S m n (acc++[d]) a1
def iT(l:List Tz)(S:Nat→R (List Sx))(m:Nat):R FileX:=
 (bM l 5 yI 0).bind fun _ a1=>(fName l a1).bind fun t a2=>(bM l 4 [59] a2).bind fun _ a3=>(eC l m [] a3).bind fun is a4=>(cN l S m m [] a4).bind fun ds a5=>.ok ⟨t.t,t.a,is,ds⟩ a5
theorem sX{l:List Tz}:∀{n:Nat} {acc:List Im} {a:Nat} {xs:List Im} {a':Nat},a≤l.length→eC l n acc a=.ok xs a'→a≤a'∧a'≤l.length:=by
 intro n
 induction n with
 |zero=>intro acc a xs a' _ h;cases h
 |succ n ih=>
  intro acc a xs a' ha h
  unfold eC at h
  split at h
  ·cases h;exact⟨Nat.le_refl _,ha⟩
  ·obtain⟨t,a1,h1,h⟩:=R.aB h
   obtain⟨_,a2,h2,h⟩:=R.aB h
   have q1:=cI h1
   have q2:=aN (by decide) h2
   have:=ih q2.2.1 h
   omega
theorem aFz{l:List Tz}:∀{n:Nat} {acc:List Im} {a:Nat},a≤l.length→l.length<a+n→(eC l n acc a).aY=false:=by
 intro n
 induction n with
 |zero=>intro acc a h1 h2;omega
 |succ n ih=>
  intro acc a h1 h2
  unfold eC
  split
  ·rfl
  ·exact R.aQ iO fun t a1 h3=>R.aQ bO fun _ a2 h4=>ih (aN (by decide) h4).2.1 (by have:=cI h3;have:=aN (by decide) h4;omega)
section
variable{l:List Tz}{S:Nat→R (List Sx)}
theorem uD(hS:StmOk l S){m a x a'}(h:fB l S m a=.ok x a'):a<a'∧a'≤l.length:=by
 unfold fB at h
 split at h
 ·have:=tU h;omega
 ·split at h
  ·have:=xL hS h;omega
  ·cases h
theorem aJe(hS:StmOk l S){m a}(hm:l.length<m):(fB l S m a).aY=false:=by
 unfold fB
 split
 ·exact wJ hm
 ·split
  ·exact aIu hS hm
  ·rfl
theorem aFi(hS:StmOk l S){m:Nat}(hm:l.length<m):∀{n:Nat} {acc:List Dx} {a:Nat},a≤l.length→l.length<a+n→(cN l S m n acc a).aY=false:=by
 intro n
 induction n with
 |zero=>intro acc a h1 h2;omega
 |succ n ih=>
  intro acc a h1 h2
  unfold cN
  split
  ·rfl
  ·exact R.aQ (aJe hS hm) fun t a1 h3=>ih (uD hS h3).2 (by have:=uD hS h3;omega)
theorem aGg(hS:StmOk l S){m:Nat}(hm:l.length<m):(iT l S m).aY=false:=
 R.aQ bO fun _ _ _=>R.aQ iO fun _ _ _=>R.aQ bO fun _ _ h3=>R.aQ (aFz (aN (by decide) h3).2.1 (by omega)) fun _ _ h4=>R.aQ (aFi hS hm (sX (aN (by decide) h3).2.1 h4).2 (by omega)) fun _ _ _=>rfl
end
def aSk:TM:=[(0,.v (.ptr 1000 0)),(2,.l 2 0)]
def aIp(n:List Nat)(p:Int)(is ds:V):LM:=[(2,fxC n p is ds)]
theorem aYl{QN:S→Prop}{QX:X→S→Prop}(l:List Tz)(hl:l.length<20000)(nm:List Nat)(p:Int):∀(n:Nat) (acc:List Im) (a:Nat),a≤l.length→acc.length≤a→(eC l n acc a).aY=false→
  (∀is a',eC l n acc a=.ok is a'→∀tm lc,TellT tm (aIp nm p (lvG kB is) cS) aSk→TellL lc (aIp nm p (lvG kB is) cS)→QX (.exit 0) (SL.toS ⟨tm,[],none,nxG is,(1000,frO l a')::vP is,lc⟩))→
  (∀a' d q c,eC l n acc a=.er a' d q c→∀s:S,s.df=[]→s.u=none→(∀b,b<1001→og (frL l a') b=s.h.ob b)→QX (.panic (cV q c)) s)→
  WLr Go.Proofs.Tryz.prog [] ⟨Go.Proofs.Tryz.f20.ntmps,none,20⟩ aFe (SL.toS ⟨aSk,[],none,nxG acc,(1000,frO l a)::vP acc,aIp nm p (lvG kB acc) cS⟩) QN QX:=by
 intro n
 have hl':l.length<4294967296:=by omega
 induction n with
 |zero=>intro acc a _ _ ho;cases ho
 |succ n ih=>
  intro acc a ha hacc ho hq he
  unfold eC qP at ho hq he
  unfold aFe
  refine WLr.of ?_
  repeat apply sQ
  refine WR.m 1 rfl ?_
  refine WQ.c rfl (iF (k:=5) (s:=[105,109,112,111,114,116]) hl' ha (by decide) rfl) (.put .base rfl) rfl ?_
  unfold isA
  cases h2:isF l a 5 [105,109,112,111,114,116]with
  |false=>
   rw[h2]at hq ho he
   refine WQ.q rfl ?_
   repeat apply sQ
   refine WR.aO rfl (WR.exit (hq _ _ rfl _ _ ?_ ?_))
   ·exact tQ
   ·exact lQ
  |true=>
   have hlt:=bH h2 (by decide)
   rw[h2]at hq ho he
   dsimp only at hq ho he
   refine WQ.q rfl ?_
   repeat apply sQ
   refine WR.aD rfl (WR.skip ?_)
   refine WR.block ?_
   have s1:=jJ l (a+1) hl' hlt
   repeat apply sQ
   refine WR.m 1 rfl ?_
   cases h1:fName l (a+1)with
   |out=>rw[h1]at ho;cases ho
   |er a1 d1 q c=>
    rw[h1]at s1 he
    exact WQ.aL rfl rfl rfl rfl rfl (s1.er trivial (R:=1000) (by decide) rfl) (.put .base rfl) (he _ _ _ _ rfl _ rfl rfl (fun b hb=>eV acc hb))
   |ok t a1=>
    have q1:=cI h1
    rw[h1]at s1 hq ho he
    simp only[R.bind]at hq ho he
    refine WQ.c rfl (s1.ok trivial (lS _) (R:=1000) (by decide) rfl) (.put .base rfl) rfl ?_
    have sy:=eF l a1 hl' q1.2.1 [59]
    have ih:=fun a2 (h12:a1≤a2) hle ho hq he=>ih (acc++[⟨t.t,t.a⟩]) a2 hle (by have:=q1.1;simp;omega) ho hq he
    clear h1 q1
    obtain⟨tk,ta,te,tt⟩:=t
    refine WQ.q rfl ?_
    cases acc with
    |nil=>
     repeat apply sQ
     refine WR.m 8 rfl ?_
     refine WQ.dM rfl (iU (n2:=1) (es2:=[kB ⟨tt,ta⟩]) rfl rfl (Nat.zero_lt_one) (by simp) (by simp) (by show 24*1≤lim;decide) rfl rfl rfl rfl) rfl ?_
     refine WQ.q rfl ?_
     repeat apply sQ
     refine WR.m 2 rfl ?_
     cases h3:bM l 4 [59] a1 with
     |out=>have:=bO (l:=l) (k:=4) (x:=[59]) (a:=a1);rw[h3]at this;cases this
     |er a2 d2 q c=>
      rw[h3]at sy he
      exact WQ.aL rfl rfl rfl rfl rfl (sy.er ⟨trivial,trivial⟩ (R:=1000) (by decide) rfl) (.put .base rfl) (he _ _ _ _ rfl _ rfl rfl (fun b hb=>uZ rfl hb))
     |ok u a2=>
      have hm:=aN (by decide) h3
      rw[h3]at sy hq ho he
      have ih:=ih a2 (by omega) hm.2.1 ho hq he
      refine WQ.c rfl (sy.ok ⟨trivial,trivial⟩ trivial (R:=1000) (by decide) rfl) (.put .base rfl) rfl ?_
      refine WQ.q rfl ?_
      refine WIr.again (WLr.weak ?_ ih)
      refine SW.aM ?_ ?_
      ·exact tQ
      ·exact lQ
    |cons z r=>
     repeat apply sQ
     refine WR.m 8 rfl ?_
     refine WQ.dM rfl (jD (n:=(z::r).length) (n2:=(z::r++[(⟨tt,ta⟩:Im)]).length) (es2:=(z::r++[(⟨tt,ta⟩:Im)]).map kB) rfl rfl rfl (List.length_map ..).symm ?_ ?_ ?_ rfl ?_ ?_ rfl) rfl ?_
     ·intro e he
      obtain⟨y,_,rfl⟩:=List.mem_map.1 (show e∈(z::r).map kB from he)
      rfl
     ·simp
     ·simp only[List.length_map,List.length_cons,List.length_nil]at hacc⊢;unfold lim;omega
     ·rw[List.map_append];rfl
     ·simp
     refine WQ.q rfl ?_
     repeat apply sQ
     refine WR.m 2 rfl ?_
     cases h3:bM l 4 [59] a1 with
     |out=>have:=bO (l:=l) (k:=4) (x:=[59]) (a:=a1);rw[h3]at this;cases this
     |er a2 d2 q c=>
      rw[h3]at sy he
      exact WQ.aL rfl rfl rfl rfl rfl (sy.er ⟨trivial,trivial⟩ (R:=1000) (by decide) rfl) (.put .base rfl) (he _ _ _ _ rfl _ rfl rfl (fun b hb=>eV (z::r++[(⟨tt,ta⟩:Im)]) hb))
     |ok u a2=>
      have hm:=aN (by decide) h3
      rw[h3]at sy hq ho he
      have ih:=ih a2 (by omega) hm.2.1 ho hq he
      refine WQ.c rfl (sy.ok ⟨trivial,trivial⟩ trivial (R:=1000) (by decide) rfl) (.put .base rfl) rfl ?_
      refine WQ.q rfl ?_
      refine WIr.again (WLr.weak ?_ ih)
      refine SW.aM ?_ ?_
      ·exact tQ
      ·exact lQ
end Go.VM
end
section
/- Files: the declarations, and all of a file. -/
set_option maxRecDepth 100000
namespace Go.VM
open Go.RowKit
def lvH{α:Type}(e:α→List V):List α→V
 |[]=>.lst [] (.ex 0)
 |x::l=>.lst ((x::l).map e) (.tk 1002)
def bDn{α:Type}:List α→OL
 |[]=>[]
 |x::l=>[(1002,.tok (x::l).length)]
def nxH{α:Type}:List α→Nat
 |[]=>1002
 |_::_=>1003
theorem tL{α:Type}{o:Obj}(acc:List α){b:Nat}(h:b<1001):og [(1000,o)] b=og ((1000,o)::bDn acc) b:=by
 cases acc with
 |nil=>rfl
 |cons p l=>exact uZ rfl h
theorem bBk{α:Type}(e:α→List V)(acc:List α):∃c,lvH e acc=.lst (acc.map e) c:=by
 cases acc with
 |nil=>exact⟨_,rfl⟩
 |cons x l=>exact⟨_,rfl⟩
theorem aRb{QN:S→Prop}{QX:X→S→Prop}{l:List Tz}{St:Nat→R (List Sx)}(hS:StmOk l St)(hl:l.length<20000)(m:Nat)(nm:List Nat)(p:Int)(is:List Im):∀(n:Nat) (acc:List Dx) (a:Nat),a≤l.length→acc.length≤a→(cN l St m n acc a).aY=false→
  (∀ds a',cN l St m n acc a=.ok ds a'→∀tm lc,TellT tm (aIp nm p (nV kB is) (lvH eX ds)) aSk→TellL lc (aIp nm p (nV kB is) (lvH eX ds))→QX (.exit 2) (SL.toS ⟨tm,[],none,nxH ds,(1000,frO l a')::bDn ds,lc⟩))→
  (∀a' d q c,cN l St m n acc a=.er a' d q c→∀s:S,s.df=[]→s.u=none→(∀b,b<1001→og (frL l a') b=s.h.ob b)→QX (.panic (cV q c)) s)→
  WLr Go.Proofs.Tryz.prog [] ⟨Go.Proofs.Tryz.f20.ntmps,none,20⟩ aFm (SL.toS ⟨aSk,[],none,nxH acc,(1000,frO l a)::bDn acc,aIp nm p (nV kB is) (lvH eX acc)⟩) QN QX:=by
 intro n
 have hl':l.length<4294967296:=by omega
 induction n with
 |zero=>intro acc a _ _ ho;cases ho
 |succ n ih=>
  intro acc a ha hacc ho hq he
  have hn:=fun nx ro lc=>xA (l:=l) (a:=a) hl' (h:=⟨nx,og ((1000,frO l a)::ro),lc⟩) (R:=1000) (by decide) rfl
  unfold cN at ho hq he
  unfold fB sType vZ fD at ho hq he
  have hlt:decide ((aA l a).k=0)=false→a<l.length:=fun h=>cP (of_decide_eq_false h)
  have fl:=fun nx ro lc=>zD (l:=l) (a:=a) hl' (h:=⟨nx,og ((1000,frO l a)::ro),lc⟩) (R:=1000) (by decide) rfl
  generalize aA l a=t at hn ho hq he hlt fl
  obtain⟨tk,ta,te,tt⟩:=t
  dsimp only at hlt ho hq he
  unfold aFm
  refine WLr.of ?_
  repeat apply sQ
  refine WR.m 1 rfl ?_
  refine WQ.c rfl (hn _ _ _) .base rfl ?_
  cases hk:decide (tk=0)with
  |true=>
   rw[hk]at ho hq he
   refine WQ.m 2 rfl ?_
   rw[hk]
   refine WQ.q rfl ?_
   repeat apply sQ
   refine WR.aO rfl (WR.exit (hq _ _ rfl _ _ ?_ ?_))
   ·exact tQ
   ·exact lQ
  |false=>
   have hlt:=hlt hk
   rw[hk]at ho hq he
   refine WQ.m 2 rfl ?_
   rw[hk]
   refine WQ.q rfl ?_
   repeat apply sQ
   refine WR.aD rfl (WR.skip ?_)
   refine WR.block (WR.block ?_)
   repeat apply sQ
   refine WR.m 1 rfl ?_
   refine WQ.c rfl (iF (k:=5) (s:=[116,121,112,101]) hl' ha (by decide) rfl) (.put .base rfl) rfl ?_
   unfold isA
   cases h2:isF l a 5 [116,121,112,101]with
   |true=>
    rw[h2]at hq ho he
    dsimp only at hq ho he
    refine WQ.q rfl ?_
    repeat apply sQ
    refine WR.aD rfl ?_
    have sp:=aMh l hl m (a+1) hlt
    have hok:=fun x a1=>tU (l:=l) (m:=m) (a:=a+1) (x:=x) (a':=a1)
    refine WR.aP aZ (DW.m 1000 rfl ?_)
    cases h1:cL l m (a+1)with
    |out=>rw[h1]at ho;cases ho
    |er a1 d1 q c=>
     rw[h1]at sp he
     exact DW.aL pQ rfl rfl rfl rfl rfl (sp.er trivial (R:=1000) (by decide) rfl) (.put .base rfl) (he _ _ _ _ rfl _ rfl rfl (fun b hb=>tL acc hb))
    |ok x a1=>
     have hx:=hok _ _ h1
     rw[h1]at sp hq ho he
     simp only[R.bind]at hq ho he
     have ih:=ih (acc++[x]) a1 hx.2 (by simp;omega) ho hq he
     refine DW.eU pQ rfl rfl rfl rfl rfl (sp.ok trivial (wX _) (R:=1000) (by decide) rfl) (.put .base rfl) rfl ?_
     obtain⟨k,xa,xe,n,mt,⟨rn,ra,⟨k1,b1,q1,m1,l1⟩⟩,bs,fs,ms,has,⟨k2,b2,q2,m2,l2⟩,body⟩:=x
     refine DW.m 1000 rfl ?_
     cases acc with
     |nil=>
      refine DW.dM pQ rfl (iU (n2:=1) (es2:=[eX ⟨k,xa,xe,n,mt,⟨rn,ra,⟨k1,b1,q1,m1,l1⟩⟩,bs,fs,ms,has,⟨k2,b2,q2,m2,l2⟩,body⟩]) rfl rfl (Nat.zero_lt_one) (by simp) (by simp) (by show 320*1≤lim;decide) rfl rfl rfl rfl) rfl (DW.m 1000 rfl ?_)
      refine DW.stS pQ rfl rfl rfl rfl (DW.m 1000 rfl (DW.cC pQ ?_))
      refine WIr.again (WLr.weak ?_ ih)
      refine SW.aM ?_ ?_
      ·exact tQ
      ·exact lQ
     |cons z r=>
      refine DW.dM pQ rfl (jD (n:=(z::r).length) (n2:=(z::r++[(⟨k,xa,xe,n,mt,⟨rn,ra,⟨k1,b1,q1,m1,l1⟩⟩,bs,fs,ms,has,⟨k2,b2,q2,m2,l2⟩,body⟩:Dx)]).length) (es2:=(z::r++[(⟨k,xa,xe,n,mt,⟨rn,ra,⟨k1,b1,q1,m1,l1⟩⟩,bs,fs,ms,has,⟨k2,b2,q2,m2,l2⟩,body⟩:Dx)]).map eX) rfl rfl rfl (List.length_map ..).symm ?_ ?_ ?_ rfl ?_ ?_ rfl) rfl ?_
      ·intro e he
       obtain⟨y,_,rfl⟩:=List.mem_map.1 (show e∈(z::r).map eX from he)
       exact aAy y
      ·simp
      ·simp only[List.length_map,List.length_cons,List.length_nil]at hacc⊢;unfold lim;omega
      ·rw[List.map_append];rfl
      ·simp
      refine DW.m 1000 rfl ?_
      refine DW.stS pQ rfl rfl rfl rfl (DW.m 1000 rfl (DW.cC pQ ?_))
      refine WIr.again (WLr.weak ?_ ih)
      refine SW.aM ?_ ?_
      ·exact tQ
      ·exact lQ
   |false=>
    rw[h2]at hq ho he
    refine WQ.q rfl ?_
    refine WR.aO rfl ?_
    repeat apply sQ
    refine WR.m 1 rfl ?_
    refine WQ.c rfl (iF (k:=5) (s:=[102,117,110,99]) hl' ha (by decide) rfl) (.put .base rfl) rfl ?_
    unfold isA
    cases h3:isF l a 5 [102,117,110,99]with
    |true=>
     rw[h3]at hq ho he
     dsimp only at hq ho he
     refine WQ.q rfl ?_
     repeat apply sQ
     refine WR.aD rfl ?_
     have sp:=aJs hS hl m (a+1) hlt
     have hok:=fun x a1=>xL hS (m:=m) (a:=a+1) (x:=x) (a':=a1)
     refine WR.aP aZ (DW.m 1000 rfl ?_)
     cases h1:gN l St m (a+1)with
     |out=>rw[h1]at ho;cases ho
     |er a1 d1 q c=>
      rw[h1]at sp he
      exact DW.aL pQ rfl rfl rfl rfl rfl (sp.er trivial (R:=1000) (by decide) rfl) (.put .base rfl) (he _ _ _ _ rfl _ rfl rfl (fun b hb=>tL acc hb))
     |ok x a1=>
      have hx:=hok _ _ h1
      rw[h1]at sp hq ho he
      simp only[R.bind]at hq ho he
      have ih:=ih (acc++[x]) a1 hx.2 (by simp;omega) ho hq he
      refine DW.eU pQ rfl rfl rfl rfl rfl (sp.ok trivial (wX _) (R:=1000) (by decide) rfl) (.put .base rfl) rfl ?_
      obtain⟨k,xa,xe,n,mt,⟨rn,ra,⟨k1,b1,q1,m1,l1⟩⟩,bs,fs,ms,has,⟨k2,b2,q2,m2,l2⟩,body⟩:=x
      refine DW.m 1000 rfl ?_
      cases acc with
      |nil=>
       refine DW.dM pQ rfl (iU (n2:=1) (es2:=[eX ⟨k,xa,xe,n,mt,⟨rn,ra,⟨k1,b1,q1,m1,l1⟩⟩,bs,fs,ms,has,⟨k2,b2,q2,m2,l2⟩,body⟩]) rfl rfl (Nat.zero_lt_one) (by simp) (by simp) (by show 320*1≤lim;decide) rfl rfl rfl rfl) rfl (DW.m 1000 rfl ?_)
       refine DW.stS pQ rfl rfl rfl rfl (DW.m 1000 rfl (DW.cC pQ ?_))
       refine WIr.again (WLr.weak ?_ ih)
       refine SW.aM ?_ ?_
       ·exact tQ
       ·exact lQ
      |cons z r=>
       refine DW.dM pQ rfl (jD (n:=(z::r).length) (n2:=(z::r++[(⟨k,xa,xe,n,mt,⟨rn,ra,⟨k1,b1,q1,m1,l1⟩⟩,bs,fs,ms,has,⟨k2,b2,q2,m2,l2⟩,body⟩:Dx)]).length) (es2:=(z::r++[(⟨k,xa,xe,n,mt,⟨rn,ra,⟨k1,b1,q1,m1,l1⟩⟩,bs,fs,ms,has,⟨k2,b2,q2,m2,l2⟩,body⟩:Dx)]).map eX) rfl rfl rfl (List.length_map ..).symm ?_ ?_ ?_ rfl ?_ ?_ rfl) rfl ?_
       ·intro e he
        obtain⟨y,_,rfl⟩:=List.mem_map.1 (show e∈(z::r).map eX from he)
        exact aAy y
       ·simp
       ·simp only[List.length_map,List.length_cons,List.length_nil]at hacc⊢;unfold lim;omega
       ·rw[List.map_append];rfl
       ·simp
       refine DW.m 1000 rfl ?_
       refine DW.stS pQ rfl rfl rfl rfl (DW.m 1000 rfl (DW.cC pQ ?_))
       refine WIr.again (WLr.weak ?_ ih)
       refine SW.aM ?_ ?_
       ·exact tQ
       ·exact lQ
    |false=>
     rw[h3]at hq ho he
     refine WQ.q rfl ?_
     refine WR.aO rfl ?_
     repeat apply sQ
     refine WR.m 1 rfl ?_
     refine WQ.aL rfl rfl rfl rfl rfl (fl _ _ _) .base ?_
     refine he _ _ _ _ rfl _ ?_ ?_ ?_
     ·rfl
     ·rfl
     ·exact fun b hb=>tL acc hb
end Go.VM
end
section
/- Files: a file; tokens; a text. -/
set_option maxRecDepth 100000
namespace Go.VM
open Go.RowKit
theorem aSo{gl:List Nat}{fr:Fr}{tm:TM}{df:List AD}{u:Option AMode}{lc:LM}{α:Type}(o:Obj)(is:List α):SW gl fr (SL.toS ⟨tm,df,u,nxG is,(1000,o)::vP is,lc⟩) (SL.toS ⟨tm,df,u,1002,[(1000,o)],lc⟩):=by
 have hp:keysLt [(1000,o)] 1001:=fun e he=>by rw[List.mem_singleton]at he;subst he;show 1000<1001;decide
 cases is with
 |cons x l=>exact SW.drop (p:=[(1000,o)]) (N:=1001) (n:=(x::l).length) (nx:=1002) hp
 |nil=>
  refine SW.trans (SW.tok (gl:=gl) (fr:=fr)) ?_
  have e:(⟨tm,df,u,H.new ⟨1001,og [(1000,o)],lc⟩ (.tok 0)⟩:S)=SL.toS ⟨tm,df,u,1002,[(1000,o)]++[(1001,.tok 0)],lc⟩:=by
   show(⟨tm,df,u,⟨1002,_,lc⟩⟩:S)=⟨tm,df,u,⟨1002,_,lc⟩⟩
   congr 2
   funext k
   show(if k=1001 then some (Obj.tok 0)else og [(1000,o)] k)=og [(1000,o),(1001,.tok 0)] k
   simp only[aR]
   by_cases h1:k=1001
   ·rw[if_pos h1,if_neg (by omega),if_pos h1]
   ·rw[if_neg h1]
    by_cases h2:k=1000
    ·rw[if_pos h2,if_pos h2]
    ·rw[if_neg h2,if_neg h2,if_neg h1]
  show SW gl fr (⟨tm,df,u,H.new ⟨1001,og [(1000,o)],lc⟩ (.tok 0)⟩:S) _
  rw[e]
  exact SW.drop (p:=[(1000,o)]) (N:=1001) (n:=0) (nx:=1002) hp
theorem aJw{l:List Tz}{St:Nat→R (List Sx)}(hS:StmOk l St)(hl:l.length<20000)(m:Nat):Fp 20 [] l 0 qY (iT l St m):=by
 intro ho
 have hl':l.length<4294967296:=by omega
 generalize hF:iT l St m=F at ho⊢
 unfold iT yI at hF
 refine SCall.aI (fn:=Go.Proofs.Tryz.f20) (by kernel_rfl) bKv (by kernel_rfl) (by kernel_rfl) (Nat.le_refl _) rfl (cO _ _) (by exact mB ho (fun x _=>jO x)) ?_
 unfold bJw
 repeat apply sQ
 refine WR.q rfl ?_
 repeat apply sQ
 refine WR.m 1 rfl ?_
 have s0:=rW l 0 hl' (Nat.zero_le _) 5 [112,97,99,107,97,103,101]
 cases h0:bM l 5 [112,97,99,107,97,103,101] 0 with
 |out=>rw[h0]at hF;subst hF;cases ho
 |er a1 d1 p c=>
  rw[h0]at hF s0
  subst hF
  exact WQ.aL rfl rfl rfl rfl rfl (s0.er ⟨trivial,trivial,trivial⟩ (R:=1000) (by decide) rfl) (.put .base rfl) ⟨rfl,rfl,rfl,fun b hb=>rfl⟩
 |ok u b0=>
 rw[h0]at hF s0
 simp only[R.bind]at hF
 refine WQ.c rfl (s0.ok ⟨trivial,trivial,trivial⟩ trivial (R:=1000) (by decide) rfl) (.put .base rfl) rfl ?_
 have q0:=aN (by decide) h0
 refine WQ.q rfl ?_
 repeat apply sQ
 refine WR.m 1 rfl ?_
 have s1:=jJ l b0 hl' q0.2.1
 cases h1:fName l b0 with
 |out=>rw[h1]at hF;subst hF;cases ho
 |er a1 d1 p c=>
  rw[h1]at hF s1
  subst hF
  exact WQ.aL rfl rfl rfl rfl rfl (s1.er trivial (R:=1000) (by decide) rfl) (.put .base rfl) ⟨rfl,rfl,rfl,fun b hb=>rfl⟩
 |ok t b1=>
 rw[h1]at hF s1
 simp only[R.bind]at hF
 refine WQ.c rfl (s1.ok trivial (lS _) (R:=1000) (by decide) rfl) (.put .base rfl) rfl ?_
 have q1:=cI h1
 obtain⟨tk,ta,te,tt⟩:=t
 refine WQ.q rfl ?_
 repeat apply sQ
 refine WR.aP aZ (DW.m 1000 rfl ?_)
 refine DW.stS pQ rfl rfl rfl rfl (DW.m 1000 rfl ?_)
 refine DW.stS pQ rfl rfl rfl rfl (DW.m 1000 rfl (DW.cC pQ ?_))
 repeat apply sQ
 refine WR.m 1 rfl ?_
 have s2:=eF l b1 hl' q1.2.1 [59]
 cases h2:bM l 4 [59] b1 with
 |out=>rw[h2]at hF;subst hF;cases ho
 |er a1 d1 p c=>
  rw[h2]at hF s2
  subst hF
  exact WQ.aL rfl rfl rfl rfl rfl (s2.er ⟨trivial,trivial⟩ (R:=1000) (by decide) rfl) (.put .base rfl) ⟨rfl,rfl,rfl,fun b hb=>rfl⟩
 |ok u2 b2=>
 rw[h2]at hF s2
 simp only[R.bind]at hF
 refine WQ.c rfl (s2.ok ⟨trivial,trivial⟩ trivial (R:=1000) (by decide) rfl) (.put .base rfl) rfl ?_
 have q2:=aN (by decide) h2
 refine WQ.q rfl ?_
 repeat apply sQ
 have kn:(eC l m [] b2).aY=false:=by
  cases h3:eC l m [] b2 with
  |out=>rw[h3]at hF;subst hF;cases ho
  |er _ _ _ _=>rfl
  |ok _ _=>rfl
 refine WR.block (WR.loop (WLr.weak (s:=SL.toS ⟨aSk,[],none,nxG ([]:List Im),(1000,frO l b2)::vP ([]:List Im),aIp tt ta (lvG kB []) cS⟩) ?_ (aYl l hl tt ta m [] b2 q2.2.1 (Nat.zero_le _) kn (fun is b3 h3 tm lc htm hlc=>?_) (fun b3 d q c h3 s g1 g2 g3=>?_))))
 ·refine SW.aM ?_ ?_
  ·exact tQ
  ·exact lQ
 ·have q3:=sX q2.2.1 h3
  rw[h3]at hF
  simp only at hF
  refine WR.weak (SW.aM htm hlc) ?_
  refine WR.weak (aSo _ _) ?_
  unfold aMr
  repeat apply sQ
  have kn:(cN l St m m [] b3).aY=false:=by
   cases h4:cN l St m m [] b3 with
   |out=>rw[h4]at hF;subst hF;cases ho
   |er _ _ _ _=>rfl
   |ok _ _=>rfl
  refine WR.block (WR.loop (WLr.weak (s:=SL.toS ⟨aSk,[],none,nxH ([]:List Dx),(1000,frO l b3)::bDn ([]:List Dx),aIp tt ta (nV kB is) (lvH eX [])⟩) ?_ (aRb hS hl m tt ta is m [] b3 q3.2 (Nat.zero_le _) kn (fun ds b4 h4 tm lc htm hlc=>?_) (fun b4 d q c h4 s g1 g2 g3=>?_))))
  ·refine SW.aM ?_ ?_
   ·exact tQ
   ·exact .cons rfl (.inr (.cons (VLe.refl _) rfl (.cons (VLe.refl _) rfl (.cons (kP _ _) rfl (.cons (VLe.refl _) rfl .nil))))) .nil
  ·rw[h4]at hF
   subst hF
   obtain⟨c,hc⟩:=bBk eX ds
   rw[hc]at htm hlc
   refine WR.weak (SW.aM htm hlc) ?_
   unfold aMx
   repeat apply sQ
   refine WR.q rfl ?_
   exact WR.ret ⟨rfl,rfl,⟨_,rfl,by repeat(first|exact VLe.refl _|exact VLe.unk _ _|exact kP _ _|refine VLe.tup ?_|refine VLe.agg ?_|exact VLL.nil|refine VLL.cons ?_ ?_)⟩,fun b hb=>tL ds hb⟩
  ·rw[h4]at hF
   subst hF
   exact⟨rfl,g1,g2,g3⟩
 ·rw[h3]at hF
  subst hF
  exact⟨rfl,g1,g2,g3⟩
end Go.VM
end
section
/- Files: what tokens are; what a text is. -/
set_option maxRecDepth 100000
namespace Go.VM
open Go.RowKit
def rE:FileX:=⟨[],0,[],[]⟩
def bCo:List V:=[.str [],.int .i64 0,cS,cS]
def pfL(fc:List V)(g:List V)(l:List Tz)(a:Nat):OL:=[(1000,.cells false fc),(1001,.cells false g),(1002,frO l a)]
theorem aXu{D:Nat→Prop}{fc g:List V}(hf:Ins D fc)(hg:Ins D g)(l:List Tz)(a:Nat):gC D (pfL fc g l a):=⟨hf,hg,aYj l a,trivial⟩
def bDx:List V:=[.ptr 1000 0,.ptr 1001 0]
theorem aSm(fc:List V)(hf:Ins (· <1003) fc)(p c:Int)(l:List Tz)(a:Nat):
  SCall Go.Proofs.Tryz.prog [] 19 bDx (some .ret) ⟨1003,og (pfL fc (dgX p c) l a),[]⟩ (.ret (.tup [])) (some .ret) ⟨1003,og (pfL fc (dgX p c) l a),[]⟩:=by
 refine SCall.wW (fn:=Go.Proofs.Tryz.f19) (by kernel_rfl) bFf (by kernel_rfl) (by kernel_rfl) (Nat.le_refl _) rfl (aXu hf (by exact⟨trivial,trivial,trivial⟩) _ _) trivial trivial ?_
 unfold bHp
 repeat apply sQ
 refine WR.reg (WQ.aOp rfl rfl rfl rfl ?_)
 refine WQ.q rfl ?_
 repeat apply sQ
 refine WR.q rfl ?_
 repeat apply sQ
 refine WR.q rfl ?_
 refine WR.aO rfl ?_
 repeat apply sQ
 refine WR.q rfl ?_
 refine WR.k rfl ?_
 exact⟨rfl,rfl,⟨_,rfl,VLe.refl _⟩,fun b _=>rfl⟩
theorem aQy(p c p0 c0:Int)(l:List Tz)(a:Nat):
  SCall Go.Proofs.Tryz.prog [] 19 bDx (some (.pan (cV p c))) ⟨1003,og (pfL bCo (dgX p0 c0) l a),[]⟩ (.ret (.tup [])) (some (.pan [⟨.iface 28 (.agg (dgX p c)),true⟩])) ⟨1003,og (pfL bCo (dgX p c) l a),[]⟩:=by
 refine SCall.wW (fn:=Go.Proofs.Tryz.f19) (by kernel_rfl) bFf (by kernel_rfl) (by kernel_rfl) (Nat.le_refl _) rfl (aXu (by exact⟨trivial,trivial,⟨trivial,trivial⟩,⟨trivial,trivial⟩,trivial⟩) (by exact⟨trivial,trivial,trivial⟩) _ _) trivial (fun e he=>by
  rw[List.mem_singleton]at he;subst he;exact⟨trivial,trivial,trivial⟩) ?_
 unfold bHp
 repeat apply sQ
 refine WR.reg (WQ.aOp rfl rfl rfl rfl ?_)
 refine WQ.q rfl ?_
 repeat apply sQ
 refine WR.q rfl ?_
 repeat apply sQ
 refine WR.q rfl ?_
 repeat apply sQ
 refine WR.aD rfl ?_
 refine WR.aP aZ (DW.m 1000 rfl ?_)
 refine DW.stS pQ rfl rfl rfl rfl (DW.m 1000 rfl ?_)
 refine DW.stS pQ rfl rfl rfl rfl (DW.m 1000 rfl (DW.cC pQ ?_))
 exact⟨rfl,rfl,⟨_,rfl,VLe.refl _⟩,fun b _=>rfl⟩
def flV(r:R FileX):V:=match r with
 |.ok f _=>.tup [qY f,.agg (dgX 0 0)]
 |.er _ _ p c=>.tup [qY rE,.agg (dgX p c)]
 |.out=>.bool false
theorem aZk{D:Nat→Prop}(r:R FileX):(flV r).In D:=by
 cases r with
 |ok x n=>exact⟨jO x,⟨trivial,trivial,trivial⟩,trivial⟩
 |er a d p c=>exact⟨jO rE,⟨trivial,trivial,trivial⟩,trivial⟩
 |out=>exact trivial
theorem aFp{l:List Tz}{St:Nat→R (List Sx)}(hS:StmOk l St)(hl:l.length<20000)(m:Nat)(ho:(iT l St m).aY=false):
  SCall Go.Proofs.Tryz.prog [] 14 [lsV l] none ⟨1000,og [],[]⟩ (.ret (flV (iT l St m))) none ⟨1000,og [],[]⟩:=by
 have sp:=aJw hS hl m
 generalize iT l St m=r at sp ho⊢
 refine SCall.aOt (fn:=Go.Proofs.Tryz.f14) (by kernel_rfl) bKa (by kernel_rfl) (by kernel_rfl) (Nat.le_refl _) rfl trivial (aZk r) ?_
 unfold bMh lsV
 repeat apply sQ
 refine WR.reg (WQ.aG [2,3] 1000 _ _ _ _ rfl (WQ.aJ ?_))
 repeat apply sQ
 refine WR.m 1 rfl ?_
 refine WQ.bMl rfl rfl rfl rfl rfl rfl (WQ.aJ ?_)
 repeat apply sQ
 refine WR.reg (WQ.aG [7] 3 _ _ _ _ rfl ?_)
 cases r with
 |out=>cases ho
 |er a1 d1 p c=>
  refine WQ.aL rfl rfl rfl rfl rfl (sp.er trivial (R:=1002) (by decide) rfl) (.put .base rfl) ?_
  refine⟨⟨1003,og (pfL bCo (dgX p c) l a1),[]⟩,?_,fun b hb=>?_⟩
  ·exact SLeave.call (Weak.refl _) (aQy p c 0 0 l a1) (SLeave.ret (vs:=[.agg bCo,.agg (dgX p c)]) rfl (by
    show VLe (.tup _) (.tup _)
    repeat(first|exact VLe.refl _|exact VLe.unk _ _|exact kP _ _|refine VLe.tup ?_|refine VLe.agg ?_|exact VLL.nil|refine VLL.cons ?_ ?_)))
  ·simp only[pfL,aR]
   repeat rw[if_neg (by omega)]
 |ok x a1=>
  obtain⟨xn,xa,xi,xd⟩:=x
  refine WQ.c rfl (sp.ok trivial (jO _) (R:=1002) (by decide) rfl) (.put .base rfl) rfl ?_
  refine WQ.q rfl ?_
  refine WR.ret ⟨⟨1003,og (pfL (aHs ⟨xn,xa,xi,xd⟩) (dgX 0 0) l a1),[]⟩,?_,fun b hb=>?_⟩
  ·exact SLeave.call (Weak.refl _) (aSm (aHs ⟨xn,xa,xi,xd⟩) (aIg _) 0 0 l a1) (SLeave.ret (vs:=[qY ⟨xn,xa,xi,xd⟩,.agg (dgX 0 0)]) rfl (VLe.refl _))
  ·simp only[pfL,aR]
   repeat rw[if_neg (by omega)]
end Go.VM
end
