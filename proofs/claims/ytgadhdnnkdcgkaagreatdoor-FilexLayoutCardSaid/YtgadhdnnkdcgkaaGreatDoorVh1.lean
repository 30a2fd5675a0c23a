/- laid for this seat: VfD VfE VfF VfG -/
import Derived.Test.YtgadhdnnkdcgkaaGreatDoorVh0
set_option linter.unusedVariables false
set_option linter.unusedSimpArgs false
section
/- Files: methods. -/
set_option maxRecDepth 100000
namespace Go.VM
open Go.RowKit
structure Mx where
 n:List Nat
 a:Int
 ps:List Tx
 has:Bool
 res:Tx
def oI(x:Mx):List V:=[.str x.n,.int .i64 x.a,nV iG x.ps,.bool x.has]++iG x.res
def bMb(x:Mx):V:=.agg (oI x)
theorem aFx{D:Nat→Prop}:∀x:Mx,Ins D (oI x)
 |⟨n,a,ps,h,.mk k b q m l⟩=>⟨trivial,trivial,gE kU ps,trivial,trivial,trivial,trivial,trivial,⟨gH l,trivial⟩,trivial⟩
theorem aPl{D:Nat→Prop}(x:Mx):(bMb x).In D:=aFx x
theorem aRv:∀x:Mx,(oI x).length=9
 |⟨n,a,ps,h,.mk k b q m l⟩=>rfl
def oN(l:List Tz)(to:List Nat)(a:Nat):R (Bool×Tx):=match isF l a 4 to with
 |true=>.ok (false,zT) a
 |false=>(cB l a).bind fun x a1=>.ok (true,x) a1
theorem qL{l:List Tz}{to:List Nat}{a:Nat}(ha:a≤l.length){r:Bool×Tx}{a1:Nat}(h:oN l to a=.ok r a1):a≤a1∧a1≤l.length:=by
 unfold oN at h
 split at h
 ·cases h;exact⟨Nat.le_refl _,ha⟩
 ·cases h1:cB l a with
  |out=>rw[h1]at h;cases h
  |er _ _ _ _=>rw[h1]at h;cases h
  |ok x a2=>
   rw[h1]at h
   have:=eW h1
   cases h
   omega
def cW(l:List Tz)(m a:Nat):R Mx:=(fName l a).bind fun t a1=>(bM l 4 [40] a1).bind fun _ a2=>(bC l (cB l) [41] true m a2).bind fun ps a3=>(oN l [59] a3).bind fun r a4=>(bM l 4 [59] a4).bind fun _ a5=>.ok ⟨t.t,t.a,ps,r.1,r.2⟩ a5
theorem R.aB{α β:Type}{r:R α}{f:α→Nat→R β}{v:β}{a:Nat}(h:r.bind f=.ok v a):∃x a1,r=.ok x a1∧f x a1=.ok v a:=by
 cases r with
 |out=>cases h
 |er _ _ _ _=>cases h
 |ok x a1=>exact⟨x,a1,rfl,h⟩
theorem R.aQ{α β:Type}{r:R α}{f:α→Nat→R β}(h:r.aY=false)(k:∀x a1,r=.ok x a1→(f x a1).aY=false):(r.bind f).aY=false:=by
 cases r with
 |out=>cases h
 |er _ _ _ _=>rfl
 |ok x a1=>exact k x a1 rfl
theorem aGv{l:List Tz}{a:Nat}:(cY l a).aY=false:=by
 unfold cY
 repeat(first|rfl|split)
theorem aRy{l:List Tz}{a:Nat}:(tyF l a).aY=false:=by
 unfold tyF
 split
 ·rfl
 ·rename_i a' ls _
  have:=aGv (l:=l) (a:=a')
  split
  ·rfl
  ·rfl
  ·rename_i h;rw[h]at this;cases this
theorem nU{l:List Tz}{a:Nat}:(cB l a).aY=false:=by
 unfold cB
 have:=aRy (l:=l) (a:=a)
 split
 ·rfl
 ·rfl
 ·rename_i h;rw[h]at this;cases this
theorem kE{l:List Tz}{a:Nat}:(cK l a).aY=false:=R.aQ iO fun _ _ _=>R.aQ nU fun _ _ _=>rfl
theorem zA{l:List Tz}{to:List Nat}{a:Nat}:(oN l to a).aY=false:=by
 unfold oN
 split
 ·rfl
 ·exact R.aQ nU fun _ _ _=>rfl
theorem fH{l:List Tz}{m a:Nat}{x:Mx}{a':Nat}(h:cW l m a=.ok x a'):a<a'∧a'≤l.length:=by
 obtain⟨t,a1,h1,h⟩:=R.aB h
 obtain⟨_,a2,h2,h⟩:=R.aB h
 obtain⟨ps,a3,h3,h⟩:=R.aB h
 obtain⟨r,a4,h4,h⟩:=R.aB h
 obtain⟨_,a5,h5,h⟩:=R.aB h
 cases h
 have q1:=cI h1
 have q2:=aN (by decide) h2
 have q3:=cM (fun a x a1=>eW) h3
 have q4:=qL q3.2 h4
 have q5:=aN (by decide) h5
 omega
theorem aAp{l:List Tz}{m a:Nat}(ha:a≤l.length)(hm:l.length<m):(cW l m a).aY=false:=
 R.aQ iO fun _ _ h1=>R.aQ bO fun _ _ h2=>R.aQ (kQ (fun a x a1=>eW) (fun _ _=>nU) (by have:=aN (by decide) h2;omega) hm) fun _ _ h3=>R.aQ zA fun _ _ h4=>R.aQ bO fun _ _ h5=>rfl
theorem aDf(l:List Tz)(hl:l.length<20000)(m a:Nat)(ha:a≤l.length):Fp 74 [] l a bMb (cW l m a):=by
 intro ho
 have hl':l.length<4294967296:=by omega
 generalize hF:cW l m a=F at ho⊢
 unfold cW at hF
 refine SCall.aI (fn:=Go.Proofs.Tryz.f74) (by kernel_rfl) bIo (by kernel_rfl) (by kernel_rfl) (Nat.le_refl _) rfl (cO _ _) (by exact mB ho (fun x _=>aPl x)) ?_
 unfold bKu
 repeat apply sQ
 refine WR.q rfl ?_
 repeat apply sQ
 refine WR.m 1 rfl ?_
 have s1:=jJ l a hl' ha
 cases h1:fName l a with
 |out=>rw[h1]at hF;subst hF;cases ho
 |er a1 d1 p c=>
  rw[h1]at hF s1
  subst hF
  exact WQ.aL rfl rfl rfl rfl rfl (s1.er trivial (R:=1000) (by decide) rfl) (.put .base rfl) ⟨rfl,rfl,rfl,fun b hb=>rfl⟩
 |ok t b1=>
 rw[h1]at hF s1
 simp only[R.bind]at hF
 refine WQ.c rfl (s1.ok trivial (lS _) (R:=1000) (by decide) rfl) (.put .base rfl) rfl ?_
 have q1:=cI h1
 obtain⟨tk,ta,te,tt⟩:=t
 refine WQ.q rfl ?_
 repeat apply sQ
 refine WR.q rfl ?_
 repeat apply sQ
 refine WR.m 1 rfl ?_
 have s2:=eF l b1 hl' q1.2.1 [40]
 cases h2:bM l 4 [40] b1 with
 |out=>rw[h2]at hF;subst hF;cases ho
 |er a1 d1 p c=>
  rw[h2]at hF s2
  subst hF
  exact WQ.aL rfl rfl rfl rfl rfl (s2.er ⟨trivial,trivial⟩ (R:=1000) (by decide) rfl) (.put .base rfl) ⟨rfl,rfl,rfl,fun b hb=>rfl⟩
 |ok u b2=>
 rw[h2]at hF s2
 simp only[R.bind]at hF
 refine WQ.c rfl (s2.ok ⟨trivial,trivial⟩ trivial (R:=1000) (by decide) rfl) (.put .base rfl) rfl ?_
 have q2:=aN (by decide) h2
 refine WQ.q rfl ?_
 repeat apply sQ
 refine WR.m 3 rfl ?_
 have s3:=aKd l hl [41] true m b2 q2.2.1
 cases h3:bC l (cB l) [41] true m b2 with
 |out=>rw[h3]at hF;subst hF;cases ho
 |er a1 d1 p c=>
  rw[h3]at hF s3
  subst hF
  exact WQ.aL rfl rfl rfl rfl rfl (nM (r:=.pan (cV p c)) (s3 rfl) ⟨(by show 1000<1001;decide),trivial,trivial,⟨trivial,⟨(by show 1000<1001;decide),trivial⟩,trivial⟩,trivial⟩ bA (R:=1000) (by decide) rfl (fun ρ e=>by simp only[dB,V.ren,vV,e]<;>rfl)) (.put .base rfl) ⟨rfl,rfl,rfl,fun b hb=>rfl⟩
 |ok ps b3=>
 rw[h3]at hF s3
 simp only[R.bind]at hF
 refine WQ.c rfl (nM (r:=.ret _) (s3 rfl) ⟨(by show 1000<1001;decide),trivial,trivial,⟨trivial,⟨(by show 1000<1001;decide),trivial⟩,trivial⟩,trivial⟩ (gE kU _) (R:=1000) (by decide) rfl (fun ρ e=>by simp only[dB,V.ren,vV,e]<;>rfl)) (.put .base rfl) rfl ?_
 have q3:=cM (fun a x a1=>eW) h3
 refine WQ.q rfl ?_
 repeat apply sQ
 refine WR.m 1 rfl ?_
 refine WQ.c rfl (vH (l:=l) (a:=b3) (k:=4) (s:=[59]) hl' (by decide) rfl) .base rfl ?_
 have s5:=eF l b3 hl' q3.2 [59]
 unfold oN at hF
 cases h4:isF l b3 4 [59]with
 |true=>
  rw[h4]at hF
  simp only[R.bind]at hF
  refine WQ.q rfl ?_
  repeat apply sQ
  refine WR.q rfl ?_
  repeat apply sQ
  refine WR.k rfl ?_
  unfold aEx
  repeat apply sQ
  refine WR.m 1 rfl ?_
  cases h5:bM l 4 [59] b3 with
  |out=>rw[h5]at hF;subst hF;cases ho
  |er a1 d1 p c=>
   rw[h5]at hF s5
   subst hF
   exact WQ.aL rfl rfl rfl rfl rfl (s5.er ⟨trivial,trivial⟩ (R:=1000) (by decide) rfl) (.put .base rfl) ⟨rfl,rfl,rfl,fun b hb=>rfl⟩
  |ok u5 b5=>
  rw[h5]at hF s5
  simp only[R.bind]at hF
  refine WQ.c rfl (s5.ok ⟨trivial,trivial⟩ trivial (R:=1000) (by decide) rfl) (.put .base rfl) rfl ?_
  subst hF
  refine WQ.q rfl ?_
  repeat apply sQ
  refine WR.q rfl ?_
  exact WR.e
 |false=>
  rw[h4]at hF
  refine WQ.q rfl ?_
  repeat apply sQ
  refine WR.q rfl ?_
  repeat apply sQ
  refine WR.aD rfl ?_
  repeat apply sQ
  refine WR.m 1 rfl ?_
  have s4:=lX l b3 hl' q3.2
  simp only[R.bind]at hF
  cases h6:cB l b3 with
  |out=>rw[h6]at hF;subst hF;cases ho
  |er a1 d1 p c=>
   rw[h6]at hF s4
   subst hF
   exact WQ.aL rfl rfl rfl rfl rfl (s4.er trivial (R:=1000) (by decide) rfl) (.put .base rfl) ⟨rfl,rfl,rfl,fun b hb=>rfl⟩
  |ok x b4=>
  rw[h6]at hF s4
  simp only[R.bind]at hF
  refine WQ.c rfl (s4.ok trivial (qN _) (R:=1000) (by decide) rfl) (.put .base rfl) rfl ?_
  have q4:=eW h6
  obtain⟨xk,xa,xp,xn,xl⟩:=x
  have s5:=eF l b4 hl' q4.2 [59]
  refine WQ.q rfl ?_
  unfold aEx
  repeat apply sQ
  refine WR.m 1 rfl ?_
  cases h5:bM l 4 [59] b4 with
  |out=>rw[h5]at hF;subst hF;cases ho
  |er a1 d1 p c=>
   rw[h5]at hF s5
   subst hF
   exact WQ.aL rfl rfl rfl rfl rfl (s5.er ⟨trivial,trivial⟩ (R:=1000) (by decide) rfl) (.put .base rfl) ⟨rfl,rfl,rfl,fun b hb=>rfl⟩
  |ok u5 b5=>
  rw[h5]at hF s5
  simp only[R.bind]at hF
  refine WQ.c rfl (s5.ok ⟨trivial,trivial⟩ trivial (R:=1000) (by decide) rfl) (.put .base rfl) rfl ?_
  subst hF
  refine WQ.q rfl ?_
  repeat apply sQ
  refine WR.q rfl ?_
  exact WR.e
end Go.VM
end
section
/- Files: declarations of types: their parts. -/
set_option maxRecDepth 100000
namespace Go.VM
open Go.RowKit
def zPm:Pm:=⟨[],0,zT⟩
def bHr:List V:=[.str [],.int .i64 0,.int .i64 0,.int .i64 0,.str [],.str [],.lst [] (.ex 0)]
structure Dx where
 k:Nat
 a:Int
 e:Int
 n:List Nat
 mt:Bool
 rv:Pm
 bs:List Pm
 fs:List Pm
 ms:List Mx
 has:Bool
 res:Tx
 body:List Sx
def dC(k a e:Int)(nm:List Nat)(mt:Bool)(rv:List V)(bs fs ms:V)(has:Bool)(res:List V)(body:V):List V:=[.int .i64 k,.int .i64 a,.int .i64 e,.str nm,.bool mt]++(rv++([bs,fs,ms,.bool has]++(res++[body])))
def eX(d:Dx):List V:=dC d.k d.a d.e d.n d.mt (fC d.rv) (nV fC d.bs) (nV fC d.fs) (nV oI d.ms) d.has (iG d.res) (.lst (iC d.body) .unk)
def aDq(d:Dx):V:=.agg (eX d)
theorem aJb{D:Nat→Prop}:∀d:Dx,Ins D (eX d)
 |⟨k,a,e,n,mt,⟨rn,ra,.mk k1 b1 q1 m1 l1⟩,bs,fs,ms,has,.mk k2 b2 q2 m2 l2,body⟩=>⟨trivial,trivial,trivial,trivial,trivial,trivial,trivial,trivial,trivial,trivial,trivial,⟨gH l1,trivial⟩,gE lD bs,gE lD fs,gE aFx ms,trivial,trivial,trivial,trivial,trivial,⟨gH l2,trivial⟩,⟨iQ body,trivial⟩,trivial⟩
theorem wX{D:Nat→Prop}(d:Dx):(aDq d).In D:=aJb d
theorem aAy:∀d:Dx,(eX d).length=22
 |⟨k,a,e,n,mt,⟨rn,ra,.mk k1 b1 q1 m1 l1⟩,bs,fs,ms,has,.mk k2 b2 q2 m2 l2,body⟩=>rfl
def fTo{α:Type}(l:List Tz)(rd:Nat→R α):Nat→List α→Nat→R (List α)
 |0,_,_=>.out
 |n+1,acc,a=>match isF l a 4 [125]with
  |true=>.ok acc (a+1)
  |false=>(rd a).bind fun x a1=>fTo l rd n (acc++[x]) a1
theorem kW{α:Type}{l:List Tz}{rd:Nat→R α}(hr:∀a x a1,a≤l.length→rd a=.ok x a1→a<a1∧a1≤l.length):∀(n:Nat) (acc:List α) (a:Nat) (xs:List α) (a':Nat),a≤l.length→fTo l rd n acc a=.ok xs a'→a<a'∧a'≤l.length:=by
 intro n
 induction n with
 |zero=>intro acc a xs a' _ h;cases h
 |succ n ih=>
  intro acc a xs a' ha h
  unfold fTo at h
  split at h
  ·rename_i h1
   have:=bH h1 (by decide)
   cases h
   omega
  ·obtain⟨x,a1,h1,h⟩:=R.aB h
   have q:=hr _ _ _ ha h1
   have:=ih _ _ _ _ q.2 h
   omega
theorem aCa{α:Type}{l:List Tz}{rd:Nat→R α}(hr:∀a x a1,a≤l.length→rd a=.ok x a1→a<a1∧a1≤l.length)(hk:∀a,a≤l.length→(rd a).aY=false):∀(n:Nat) (acc:List α) (a:Nat),a≤l.length→l.length<a+n→(fTo l rd n acc a).aY=false:=by
 intro n
 induction n with
 |zero=>intro acc a h1 h2;omega
 |succ n ih=>
  intro acc a h1 h2
  unfold fTo
  split
  ·rfl
  ·exact R.aQ (hk a h1) fun x a1 h=>ih _ _ (hr _ _ _ h1 h).2 (by have:=hr _ _ _ h1 h;omega)
def gP(l:List Tz)(a:Nat):R Pm:=(cK l a).bind fun p a1=>(bM l 4 [59] a1).bind fun _ a2=>.ok p a2
theorem fS{l:List Tz}{a a1:Nat}{x:Pm}(h:gP l a=.ok x a1):a<a1∧a1≤l.length:=by
 obtain⟨p,b1,h1,h⟩:=R.aB h
 obtain⟨u,b2,h2,h⟩:=R.aB h
 cases h
 have:=bU h1
 have:=aN (by decide) h2
 omega
theorem aEk{l:List Tz}{a:Nat}:(gP l a).aY=false:=R.aQ kE fun _ _ _=>R.aQ bO fun _ _ _=>rfl
def aSf:TM:=[(0,.v (.ptr 1000 0)),(2,.l 2 0),(4,.l 4 0)]
def zDx:List V:=dC 0 0 0 [] false bHr cS cS cS false zTx cS
def tdI(p:Int)(nm:List Nat)(ms:List Mx):LM:=[(2,zDx),(4,dC 2 p 0 nm false bHr cS cS (lvG oI ms) false zTx cS)]
def tdS(p:Int)(nm:List Nat)(fs:List Pm):LM:=[(2,zDx),(4,dC 1 p 0 nm false bHr cS (lvG fC fs) cS false zTx cS)]
theorem bAc{QN:S→Prop}{QX:X→S→Prop}(l:List Tz)(hl:l.length<20000)(m:Nat)(p:Int)(nm:List Nat):∀(n:Nat) (acc:List Mx) (a:Nat),a≤l.length→acc.length≤a→(fTo l (cW l m) n acc a).aY=false→
  (∀ms a',fTo l (cW l m) n acc a=.ok ms a'→∀tm lc,TellT tm (tdI p nm ms) aSf→TellL lc (tdI p nm ms)→QX (.exit 0) (SL.toS ⟨tm,[],none,nxG ms,(1000,frO l a')::vP ms,lc⟩))→
  (∀a' d q c,fTo l (cW l m) n acc a=.er a' d q c→∀s:S,s.df=[]→s.u=none→(∀b,b<1001→og (frL l a') b=s.h.ob b)→QX (.panic (cV q c)) s)→
  WLr Go.Proofs.Tryz.prog [] ⟨Go.Proofs.Tryz.f43.ntmps,none,43⟩ tE (SL.toS ⟨aSf,[],none,nxG acc,(1000,frO l a)::vP acc,tdI p nm acc⟩) QN QX:=by
 intro n
 have hl':l.length<4294967296:=by omega
 induction n with
 |zero=>intro acc a _ _ ho;cases ho
 |succ n ih=>
  intro acc a ha hacc ho hq he
  have sp:=aDf l hl m a ha
  unfold fTo at ho hq he
  unfold tE
  refine WLr.of ?_
  repeat apply sQ
  refine WR.m 1 rfl ?_
  refine WQ.c rfl (iF (k:=4) (s:=[125]) hl' ha (by decide) rfl) (.put .base rfl) rfl ?_
  unfold isA
  cases h2:isF l a 4 [125]with
  |true=>
   rw[h2]at hq ho he
   refine WQ.q rfl ?_
   repeat apply sQ
   refine WR.aO rfl (WR.exit (hq _ _ rfl _ _ ?_ ?_))
   ·exact tQ
   ·exact lQ
  |false=>
   rw[h2]at hq ho he
   refine WQ.q rfl ?_
   repeat apply sQ
   refine WR.aD rfl (WR.skip ?_)
   repeat apply sQ
   refine WR.block ?_
   repeat apply sQ
   refine WR.q rfl ?_
   repeat apply sQ
   refine WR.aD rfl ?_
   repeat apply sQ
   refine WR.aP aZ (DW.m 1000 rfl ?_)
   cases h1:cW l m a with
   |out=>rw[h1]at ho;cases ho
   |er a1 d1 q c=>
    rw[h1]at sp he
    exact DW.aL pQ rfl rfl rfl rfl rfl (sp.er trivial (R:=1000) (by decide) rfl) (.put .base rfl) (he _ _ _ _ rfl _ rfl rfl (fun b hb=>eV acc hb))
   |ok x a1=>
    have hx:=fH h1
    rw[h1]at sp hq ho he
    simp only[R.bind]at hq ho he
    have ih:=ih (acc++[x]) a1 hx.2 (by simp;omega) ho hq he
    refine DW.eU pQ rfl rfl rfl rfl rfl (sp.ok trivial (aPl _) (R:=1000) (by decide) rfl) (.put .base rfl) rfl ?_
    obtain⟨xn,xa,xps,xh,⟨xtk,xta,xtp,xtn,xtl⟩⟩:=x
    refine DW.m 1000 rfl ?_
    cases acc with
    |nil=>
     refine DW.dM pQ rfl (iU (n2:=1) (es2:=[oI ⟨xn,xa,xps,xh,⟨xtk,xta,xtp,xtn,xtl⟩⟩]) rfl rfl (Nat.zero_lt_one) (by simp) (by simp) (by show 128*1≤lim;decide) rfl rfl rfl rfl) rfl (DW.m 1000 rfl ?_)
     refine DW.stS pQ rfl rfl rfl rfl (DW.m 1000 rfl (DW.cC pQ ?_))
     refine WR.exit (WIr.again (WLr.weak ?_ ih))
     refine SW.aM ?_ ?_
     ·exact tQ
     ·exact lQ
    |cons q r=>
     refine DW.dM pQ rfl (jD (n:=(q::r).length) (n2:=(q::r++[(⟨xn,xa,xps,xh,⟨xtk,xta,xtp,xtn,xtl⟩⟩:Mx)]).length) (es2:=(q::r++[(⟨xn,xa,xps,xh,⟨xtk,xta,xtp,xtn,xtl⟩⟩:Mx)]).map oI) rfl rfl rfl (List.length_map ..).symm ?_ ?_ ?_ rfl ?_ ?_ rfl) rfl ?_
     ·intro e he
      obtain⟨y,_,rfl⟩:=List.mem_map.1 (show e∈(q::r).map oI from he)
      exact aRv y
     ·simp
     ·simp only[List.length_map,List.length_cons,List.length_nil]at hacc⊢;unfold lim;omega
     ·rw[List.map_append];rfl
     ·simp
     refine DW.m 1000 rfl ?_
     refine DW.stS pQ rfl rfl rfl rfl (DW.m 1000 rfl (DW.cC pQ ?_))
     refine WR.exit (WIr.again (WLr.weak ?_ ih))
     refine SW.aM ?_ ?_
     ·exact tQ
     ·exact lQ
theorem aXj{QN:S→Prop}{QX:X→S→Prop}(l:List Tz)(hl:l.length<20000)(p:Int)(nm:List Nat):∀(n:Nat) (acc:List Pm) (a:Nat),a≤l.length→acc.length≤a→(fTo l (gP l) n acc a).aY=false→
  (∀fs a',fTo l (gP l) n acc a=.ok fs a'→∀tm lc,TellT tm (tdS p nm fs) aSf→TellL lc (tdS p nm fs)→QX (.exit 0) (SL.toS ⟨tm,[],none,nxG fs,(1000,frO l a')::vP fs,lc⟩))→
  (∀a' d q c,fTo l (gP l) n acc a=.er a' d q c→∀s:S,s.df=[]→s.u=none→(∀b,b<1001→og (frL l a') b=s.h.ob b)→QX (.panic (cV q c)) s)→
  WLr Go.Proofs.Tryz.prog [] ⟨Go.Proofs.Tryz.f43.ntmps,none,43⟩ tE (SL.toS ⟨aSf,[],none,nxG acc,(1000,frO l a)::vP acc,tdS p nm acc⟩) QN QX:=by
 intro n
 have hl':l.length<4294967296:=by omega
 induction n with
 |zero=>intro acc a _ _ ho;cases ho
 |succ n ih=>
  intro acc a ha hacc ho hq he
  have sp:=oZ l a hl' ha
  unfold fTo at ho hq he
  unfold tE
  refine WLr.of ?_
  repeat apply sQ
  refine WR.m 1 rfl ?_
  refine WQ.c rfl (iF (k:=4) (s:=[125]) hl' ha (by decide) rfl) (.put .base rfl) rfl ?_
  unfold isA
  cases h2:isF l a 4 [125]with
  |true=>
   rw[h2]at hq ho he
   refine WQ.q rfl ?_
   repeat apply sQ
   refine WR.aO rfl (WR.exit (hq _ _ rfl _ _ ?_ ?_))
   ·exact tQ
   ·exact lQ
  |false=>
   rw[h2]at hq ho he
   unfold gP at hq ho he
   refine WQ.q rfl ?_
   repeat apply sQ
   refine WR.aD rfl (WR.skip ?_)
   repeat apply sQ
   refine WR.block ?_
   repeat apply sQ
   refine WR.q rfl ?_
   repeat apply sQ
   refine WR.k rfl ?_
   repeat apply sQ
   refine WR.aP aZ (DW.m 1000 rfl ?_)
   cases h1:cK l a with
   |out=>rw[h1]at ho;cases ho
   |er a1 d1 q c=>
    rw[h1]at sp he
    exact DW.aL pQ rfl rfl rfl rfl rfl (sp.er trivial (R:=1000) (by decide) rfl) (.put .base rfl) (he _ _ _ _ rfl _ rfl rfl (fun b hb=>eV acc hb))
   |ok x a1=>
    have hx:=bU h1
    rw[h1]at sp hq ho he
    simp only[R.bind]at hq ho he
    have sy:=eF l a1 hl' hx.2 [59]
    have ih:=fun a2 (h12:a1≤a2) hle ho hq he=>ih (acc++[x]) a2 hle (by have:=hx.1;simp;omega) ho hq he
    refine DW.eU pQ rfl rfl rfl rfl rfl (sp.ok trivial (tH _) (R:=1000) (by decide) rfl) (.put .base rfl) rfl ?_
    obtain⟨xn,xa,⟨xtk,xta,xtp,xtn,xtl⟩⟩:=x
    refine DW.m 1000 rfl ?_
    cases acc with
    |nil=>
     refine DW.dM pQ rfl (iU (n2:=1) (es2:=[fC ⟨xn,xa,⟨xtk,xta,xtp,xtn,xtl⟩⟩]) rfl rfl (Nat.zero_lt_one) (by simp) (by simp) (by show 96*1≤lim;decide) rfl rfl rfl rfl) rfl (DW.m 1000 rfl ?_)
     refine DW.stS pQ rfl rfl rfl rfl (DW.m 1000 rfl (DW.cC pQ ?_))
     repeat apply sQ
     refine WR.m 2 rfl ?_
     cases h3:bM l 4 [59] a1 with
     |out=>have:=bO (l:=l) (k:=4) (x:=[59]) (a:=a1);rw[h3]at this;cases this
     |er a2 d2 z c=>
      rw[h3]at sy he
      exact WQ.aL rfl rfl rfl rfl rfl (sy.er ⟨trivial,trivial⟩ (R:=1000) (by decide) rfl) (.put .base rfl) (he _ _ _ _ rfl _ rfl rfl (fun b hb=>uZ rfl hb))
     |ok u a2=>
      have hm:=aN (by decide) h3
      rw[h3]at sy hq ho he
      have ih:=ih a2 (by omega) hm.2.1 ho hq he
      refine WQ.c rfl (sy.ok ⟨trivial,trivial⟩ trivial (R:=1000) (by decide) rfl) (.put .base rfl) rfl ?_
      refine WQ.q rfl ?_
      refine WIr.again (WLr.weak ?_ ih)
      refine SW.aM ?_ ?_
      ·exact tQ
      ·exact lQ
    |cons q r=>
     refine DW.dM pQ rfl (jD (n:=(q::r).length) (n2:=(q::r++[(⟨xn,xa,⟨xtk,xta,xtp,xtn,xtl⟩⟩:Pm)]).length) (es2:=(q::r++[(⟨xn,xa,⟨xtk,xta,xtp,xtn,xtl⟩⟩:Pm)]).map fC) rfl rfl rfl (List.length_map ..).symm ?_ ?_ ?_ rfl ?_ ?_ rfl) rfl ?_
     ·intro e he
      obtain⟨y,_,rfl⟩:=List.mem_map.1 (show e∈(q::r).map fC from he)
      exact aBq y
     ·simp
     ·simp only[List.length_map,List.length_cons,List.length_nil]at hacc⊢;unfold lim;omega
     ·rw[List.map_append];rfl
     ·simp
     refine DW.m 1000 rfl ?_
     refine DW.stS pQ rfl rfl rfl rfl (DW.m 1000 rfl (DW.cC pQ ?_))
     repeat apply sQ
     refine WR.m 2 rfl ?_
     cases h3:bM l 4 [59] a1 with
     |out=>have:=bO (l:=l) (k:=4) (x:=[59]) (a:=a1);rw[h3]at this;cases this
     |er a2 d2 z c=>
      rw[h3]at sy he
      exact WQ.aL rfl rfl rfl rfl rfl (sy.er ⟨trivial,trivial⟩ (R:=1000) (by decide) rfl) (.put .base rfl) (he _ _ _ _ rfl _ rfl rfl (fun b hb=>eV (q::r++[(⟨xn,xa,⟨xtk,xta,xtp,xtn,xtl⟩⟩:Pm)]) hb))
     |ok u a2=>
      have hm:=aN (by decide) h3
      rw[h3]at sy hq ho he
      have ih:=ih a2 (by omega) hm.2.1 ho hq he
      refine WQ.c rfl (sy.ok ⟨trivial,trivial⟩ trivial (R:=1000) (by decide) rfl) (.put .base rfl) rfl ?_
      refine WQ.q rfl ?_
      refine WIr.again (WLr.weak ?_ ih)
      refine SW.aM ?_ ?_
      ·exact tQ
      ·exact lQ
end Go.VM
end
section
/- Files: declarations of types. -/
set_option maxRecDepth 100000
namespace Go.VM
open Go.RowKit
def aVk:List Nat:=[105,110,116,101,114,102,97,99,101]
def aNo:List Nat:=[115,116,114,117,99,116]
def cL(l:List Tz)(m a:Nat):R Dx:=(fName l a).bind fun t a1=>match isF l a1 5 aVk with
 |true=>(bM l 4 [123] (a1+1)).bind fun _ a2=>(fTo l (cW l m) m [] a2).bind fun ms a3=>.ok ⟨2,t.a,aCx l a3,t.t,false,zPm,[],[],ms,false,zT,[]⟩ a3
 |false=>(bM l 5 aNo a1).bind fun _ a2=>(bM l 4 [123] a2).bind fun _ a3=>(fTo l (gP l) m [] a3).bind fun fs a4=>.ok ⟨1,t.a,aCx l a4,t.t,false,zPm,[],fs,[],false,zT,[]⟩ a4
theorem tU{l:List Tz}{m a:Nat}{x:Dx}{a':Nat}(h:cL l m a=.ok x a'):a<a'∧a'≤l.length:=by
 obtain⟨t,a1,h1,h⟩:=R.aB h
 have q1:=cI h1
 split at h
 ·obtain⟨_,a2,h2,h⟩:=R.aB h
  obtain⟨ms,a3,h3,h⟩:=R.aB h
  cases h
  have q2:=aN (by decide) h2
  have q3:=kW (fun _ _ _ _=>fH) _ _ _ _ _ q2.2.1 h3
  omega
 ·obtain⟨_,a2,h2,h⟩:=R.aB h
  obtain⟨_,a3,h3,h⟩:=R.aB h
  obtain⟨fs,a4,h4,h⟩:=R.aB h
  cases h
  have q2:=aN (by decide) h2
  have q3:=aN (by decide) h3
  have q4:=kW (fun _ _ _ _=>fS) _ _ _ _ _ q3.2.1 h4
  omega
theorem wJ{l:List Tz}{m a:Nat}(hm:l.length<m):(cL l m a).aY=false:=by
 refine R.aQ iO fun t a1 h1=>?_
 split
 ·exact R.aQ bO fun _ a2 h2=>R.aQ (aCa (fun _ _ _ _=>fH) (fun _ ha=>aAp ha hm) _ _ _ (aN (by decide) h2).2.1 (by omega)) fun _ _ _=>rfl
 ·exact R.aQ bO fun _ a2 h2=>R.aQ bO fun _ a3 h3=>R.aQ (aCa (fun _ _ _ _=>fS) (fun _ ha=>aEk) _ _ _ (aN (by decide) h3).2.1 (by omega)) fun _ _ _=>rfl
theorem aMh(l:List Tz)(hl:l.length<20000)(m a:Nat)(ha:a≤l.length):Fp 43 [] l a aDq (cL l m a):=by
 intro ho
 have hl':l.length<4294967296:=by omega
 generalize hF:cL l m a=F at ho⊢
 unfold cL aVk aNo at hF
 refine SCall.aI (fn:=Go.Proofs.Tryz.f43) (by kernel_rfl) bKp (by kernel_rfl) (by kernel_rfl) (Nat.le_refl _) rfl (cO _ _) (by exact mB ho (fun x _=>wX x)) ?_
 unfold bKn
 repeat apply sQ
 refine WR.q rfl ?_
 repeat apply sQ
 refine WR.m 1 rfl ?_
 have s1:=jJ l a hl' ha
 cases h1:fName l a with
 |out=>rw[h1]at hF;subst hF;cases ho
 |er a1 d1 p c=>
  rw[h1]at hF s1
  subst hF
  exact WQ.aL rfl rfl rfl rfl rfl (s1.er trivial (R:=1000) (by decide) rfl) (.put .base rfl) ⟨rfl,rfl,rfl,fun b hb=>rfl⟩
 |ok t b1=>
 rw[h1]at hF s1
 simp only[R.bind]at hF
 refine WQ.c rfl (s1.ok trivial (lS _) (R:=1000) (by decide) rfl) (.put .base rfl) rfl ?_
 have q1:=cI h1
 obtain⟨tk,ta,te,tt⟩:=t
 refine WQ.q rfl ?_
 repeat apply sQ
 refine WR.q rfl ?_
 repeat apply sQ
 refine WR.m 1 rfl ?_
 refine WQ.c rfl (iF (k:=5) (s:=[105,110,116,101,114,102,97,99,101]) hl' q1.2.1 (by decide) rfl) (.put .base rfl) rfl ?_
 unfold isA
 cases h2:isF l b1 5 [105,110,116,101,114,102,97,99,101]with
 |true=>
  have hlt:=bH h2 (by decide)
  rw[h2]at hF
  refine WQ.q rfl ?_
  repeat apply sQ
  refine WR.aD rfl ?_
  repeat apply sQ
  refine WR.q rfl ?_
  unfold aDp
  repeat apply sQ
  refine WR.m 1 rfl ?_
  have s2:=eF l (b1+1) hl' hlt [123]
  dsimp only at hF
  cases h3:bM l 4 [123] (b1+1)with
  |out=>rw[h3]at hF;subst hF;cases ho
  |er a1 d1 p c=>
   rw[h3]at hF s2
   subst hF
   exact WQ.aL rfl rfl rfl rfl rfl (s2.er ⟨trivial,trivial⟩ (R:=1000) (by decide) rfl) (.put .base rfl) ⟨rfl,rfl,rfl,fun b hb=>rfl⟩
  |ok u b2=>
  rw[h3]at hF s2
  simp only[R.bind]at hF
  refine WQ.c rfl (s2.ok ⟨trivial,trivial⟩ trivial (R:=1000) (by decide) rfl) (.put .base rfl) rfl ?_
  have q2:=aN (by decide) h3
  refine WQ.q rfl ?_
  repeat apply sQ
  have kn:(fTo l (cW l m) m [] b2).aY=false:=by
   cases h4:fTo l (cW l m) m [] b2 with
   |out=>rw[h4]at hF;subst hF;cases ho
   |er _ _ _ _=>rfl
   |ok _ _=>rfl
  refine WR.block (WR.loop (WLr.weak (s:=SL.toS ⟨aSf,[],none,nxG ([]:List Mx),(1000,frO l b2)::vP ([]:List Mx),tdI ta tt []⟩) ?_ (bAc l hl m ta tt m [] b2 q2.2.1 (Nat.zero_le _) kn (fun ms b3 h4 tm lc htm hlc=>?_) (fun b3 d q c h4 s g1 g2 g3=>?_))))
  ·refine SW.aM ?_ ?_
   ·exact tQ
   ·exact lQ
  ·have q3:=kW (fun _ _ _ _=>fH) _ _ _ _ _ q2.2.1 h4
   rw[h4]at hF
   subst hF
   obtain⟨c,hc⟩:=aOh oI ms
   unfold tdI at htm hlc
   rw[hc]at htm hlc
   refine WR.weak (SW.aM htm hlc) ?_
   unfold aDz
   repeat apply sQ
   refine WR.m 1 rfl ?_
   refine WQ.c rfl (aEn (l:=l) (a:=b3) hl' q3.2 (by omega) (by decide) rfl) .base rfl ?_
   refine WQ.q rfl ?_
   repeat apply sQ
   refine WR.q rfl ?_
   exact WR.ret ⟨rfl,rfl,⟨_,rfl,by repeat(first|exact VLe.refl _|exact VLe.unk _ _|exact kP _ _|refine VLe.tup ?_|refine VLe.agg ?_|exact VLL.nil|refine VLL.cons ?_ ?_)⟩,fun b hb=>eV ms hb⟩
  ·rw[h4]at hF
   subst hF
   exact⟨rfl,g1,g2,g3⟩
 |false=>
  rw[h2]at hF
  dsimp only at hF
  refine WQ.q rfl ?_
  refine WR.aO rfl ?_
  repeat apply sQ
  refine WR.m 1 rfl ?_
  have s2:=rW l b1 hl' q1.2.1 5 [115,116,114,117,99,116]
  cases h3:bM l 5 [115,116,114,117,99,116] b1 with
  |out=>rw[h3]at hF;subst hF;cases ho
  |er a1 d1 p c=>
   rw[h3]at hF s2
   subst hF
   exact WQ.aL rfl rfl rfl rfl rfl (s2.er ⟨trivial,trivial,trivial⟩ (R:=1000) (by decide) rfl) (.put .base rfl) ⟨rfl,rfl,rfl,fun b hb=>rfl⟩
  |ok u b2=>
  rw[h3]at hF s2
  simp only[R.bind]at hF
  refine WQ.c rfl (s2.ok ⟨trivial,trivial,trivial⟩ trivial (R:=1000) (by decide) rfl) (.put .base rfl) rfl ?_
  have q2:=aN (by decide) h3
  refine WQ.q rfl ?_
  unfold aDp
  repeat apply sQ
  refine WR.m 1 rfl ?_
  have s3:=eF l b2 hl' q2.2.1 [123]
  cases h4:bM l 4 [123] b2 with
  |out=>rw[h4]at hF;subst hF;cases ho
  |er a1 d1 p c=>
   rw[h4]at hF s3
   subst hF
   exact WQ.aL rfl rfl rfl rfl rfl (s3.er ⟨trivial,trivial⟩ (R:=1000) (by decide) rfl) (.put .base rfl) ⟨rfl,rfl,rfl,fun b hb=>rfl⟩
  |ok u2 b3=>
  rw[h4]at hF s3
  simp only[R.bind]at hF
  refine WQ.c rfl (s3.ok ⟨trivial,trivial⟩ trivial (R:=1000) (by decide) rfl) (.put .base rfl) rfl ?_
  have q3:=aN (by decide) h4
  refine WQ.q rfl ?_
  repeat apply sQ
  have kn:(fTo l (gP l) m [] b3).aY=false:=by
   cases h5:fTo l (gP l) m [] b3 with
   |out=>rw[h5]at hF;subst hF;cases ho
   |er _ _ _ _=>rfl
   |ok _ _=>rfl
  refine WR.block (WR.loop (WLr.weak (s:=SL.toS ⟨aSf,[],none,nxG ([]:List Pm),(1000,frO l b3)::vP ([]:List Pm),tdS ta tt []⟩) ?_ (aXj l hl ta tt m [] b3 q3.2.1 (Nat.zero_le _) kn (fun fs b4 h5 tm lc htm hlc=>?_) (fun b4 d q c h5 s g1 g2 g3=>?_))))
  ·refine SW.aM ?_ ?_
   ·exact tQ
   ·exact lQ
  ·have q4:=kW (fun _ _ _ _=>fS) _ _ _ _ _ q3.2.1 h5
   rw[h5]at hF
   subst hF
   obtain⟨c,hc⟩:=aOh fC fs
   unfold tdS at htm hlc
   rw[hc]at htm hlc
   refine WR.weak (SW.aM htm hlc) ?_
   unfold aDz
   repeat apply sQ
   refine WR.m 1 rfl ?_
   refine WQ.c rfl (aEn (l:=l) (a:=b4) hl' q4.2 (by omega) (by decide) rfl) .base rfl ?_
   refine WQ.q rfl ?_
   repeat apply sQ
   refine WR.q rfl ?_
   exact WR.ret ⟨rfl,rfl,⟨_,rfl,by repeat(first|exact VLe.refl _|exact VLe.unk _ _|exact kP _ _|refine VLe.tup ?_|refine VLe.agg ?_|exact VLL.nil|refine VLL.cons ?_ ?_)⟩,fun b hb=>eV fs hb⟩
  ·rw[h5]at hF
   subst hF
   exact⟨rfl,g1,g2,g3⟩
end Go.VM
end
section
/- Files: declarations of functions. -/
set_option maxRecDepth 100000
namespace Go.VM
open Go.RowKit
def stR(r:R (List Sx)):V:=match r with
 |.ok b n=>.tup [.lst (iC b) .unk,.int .i64 n,.agg (dgX 0 0)]
 |.er _ _ p c=>.tup [.lst [] (.ex 0),.int .i64 0,.agg (dgX p c)]
 |.out=>.bool false
structure StmOk(l:List Tz)(S:Nat→R (List Sx)):Prop where
 sp:∀a,a≤l.length→∀h:H,SCall Go.Proofs.Tryz.prog [] 79 [lsV l,.int .i64 a] none h (.ret (stR (S a))) none h
 known:∀a,a≤l.length→(S a).aY=false
 ok:∀a x n,a≤l.length→S a=.ok x n→a<n∧n≤l.length
 er:∀a a1 d p c,S a=.er a1 d p c→c≠0
def lR(l:List Tz)(S:Nat→R (List Sx))(p:Int)(nm:List Nat)(mt:Bool)(rv:Pm)(bs fs:List Pm)(has:Bool)(res:Tx)(a:Nat):R Dx:=match S a with
 |.ok b n=>.ok ⟨3,p,aCx l n,nm,mt,rv,bs,fs,[],has,res,b⟩ n
 |.er _ _ q c=>.er a 0 q c
 |.out=>.out
def fJ3(l:List Tz)(S:Nat→R (List Sx))(m:Nat)(p:Int)(nm:List Nat)(mt:Bool)(rv:Pm)(bs:List Pm)(a:Nat):R Dx:=
 (bM l 4 [40] a).bind fun _ a1=>(bC l (cK l) [41] true m a1).bind fun fs a2=>(oN l [123] a2).bind fun r a3=>lR l S p nm mt rv bs fs r.1 r.2 a3
def fJ4(l:List Tz)(S:Nat→R (List Sx))(m:Nat)(mt:Bool)(rv:Pm)(a:Nat):R Dx:=(fName l a).bind fun t a1=>match isF l a1 4 [91]with
 |true=>(bC l (cK l) [93] false m (a1+1)).bind fun bs a2=>fJ3 l S m t.a t.t mt rv bs a2
 |false=>fJ3 l S m t.a t.t mt rv [] a1
def gN(l:List Tz)(S:Nat→R (List Sx))(m a:Nat):R Dx:=match isF l a 4 [40]with
 |true=>(cK l (a+1)).bind fun p a1=>(bM l 4 [41] a1).bind fun _ a2=>fJ4 l S m true p a2
 |false=>fJ4 l S m false zPm a
section
variable{l:List Tz}{S:Nat→R (List Sx)}
theorem aId(hS:StmOk l S){p nm mt rv bs fs has res a x a'}(ha:a≤l.length)(h:lR l S p nm mt rv bs fs has res a=.ok x a'):a<a'∧a'≤l.length:=by
 unfold lR at h
 cases h1:S a with
 |out=>rw[h1]at h;cases h
 |er _ _ _ _=>rw[h1]at h;cases h
 |ok b n=>rw[h1]at h;cases h;exact hS.ok _ _ _ ha h1
theorem aHc(hS:StmOk l S){p nm mt rv bs fs has res a}(ha:a≤l.length):(lR l S p nm mt rv bs fs has res a).aY=false:=by
 unfold lR
 have:=hS.known a ha
 cases h1:S a with
 |out=>rw[h1]at this;cases this
 |er _ _ _ _=>rfl
 |ok b n=>rfl
theorem aDg(hS:StmOk l S){m p nm mt rv bs a x a'}(h:fJ3 l S m p nm mt rv bs a=.ok x a'):a<a'∧a'≤l.length:=by
 obtain⟨_,a1,h1,h⟩:=R.aB h
 obtain⟨fs,a2,h2,h⟩:=R.aB h
 obtain⟨r,a3,h3,h⟩:=R.aB h
 have q1:=aN (by decide) h1
 have q2:=cM (fun _ _ _=>bU) h2
 have q3:=qL q2.2 h3
 have q4:=aId hS q3.2 h
 omega
theorem aCd(hS:StmOk l S){m p nm mt rv bs a}(hm:l.length<m):(fJ3 l S m p nm mt rv bs a).aY=false:=
 R.aQ bO fun _ _ h1=>R.aQ (kQ (fun _ _ _=>bU) (fun _ _=>kE) (aN (by decide) h1).2.1 hm) fun _ _ h2=>R.aQ zA fun _ _ h3=>aHc hS (qL (cM (fun _ _ _=>bU) h2).2 h3).2
theorem aLp(hS:StmOk l S){m mt rv a x a'}(h:fJ4 l S m mt rv a=.ok x a'):a<a'∧a'≤l.length:=by
 obtain⟨t,a1,h1,h⟩:=R.aB h
 have q1:=cI h1
 split at h
 ·obtain⟨bs,a2,h2,h⟩:=R.aB h
  have q2:=cM (fun _ _ _=>bU) h2
  have:=aDg hS h
  omega
 ·have:=aDg hS h
  omega
theorem aCp(hS:StmOk l S){m mt rv a}(hm:l.length<m):(fJ4 l S m mt rv a).aY=false:=by
 refine R.aQ iO fun t a1 h1=>?_
 split
 ·rename_i h2
  exact R.aQ (kQ (fun _ _ _=>bU) (fun _ _=>kE) (bH h2 (by decide)) hm) fun _ _ _=>aCd hS hm
 ·exact aCd hS hm
theorem xL(hS:StmOk l S){m a x a'}(h:gN l S m a=.ok x a'):a<a'∧a'≤l.length:=by
 unfold gN at h
 split at h
 ·obtain⟨p,a1,h1,h⟩:=R.aB h
  obtain⟨_,a2,h2,h⟩:=R.aB h
  have:=bU h1
  have:=aN (by decide) h2
  have:=aLp hS h
  omega
 ·exact aLp hS h
theorem aIu(hS:StmOk l S){m a}(hm:l.length<m):(gN l S m a).aY=false:=by
 unfold gN
 split
 ·exact R.aQ kE fun _ _ _=>R.aQ bO fun _ _ _=>aCp hS hm
 ·exact aCp hS hm
end
def bGw:TM:=[(0,.v (.ptr 1000 0)),(2,.l 2 0),(3,.l 3 0)]
def aRz(p:Int)(nm:List Nat)(mt:Bool)(rv:Pm)(bs fs:List Pm)(has:Bool)(res:Tx):LM:=[(2,zDx),(3,dC 3 p 0 nm mt (fC rv) (nV fC bs) (nV fC fs) cS has (iG res) cS)]
theorem bFa{l:List Tz}{S:Nat→R (List Sx)}(hS:StmOk l S)(hl:l.length<20000){p:Int}{nm:List Nat}{mt:Bool}{rv:Pm}{bs fs:List Pm}{has:Bool}{res:Tx}{a:Nat}(ha:a≤l.length){F:R Dx}(hF:lR l S p nm mt rv bs fs has res a=F){tm:TM}{lc:LM}(htm:TellT tm (aRz p nm mt rv bs fs has res) bGw)(hlc:TellL lc (aRz p nm mt rv bs fs has res)):
  WR Go.Proofs.Tryz.prog [] ⟨Go.Proofs.Tryz.f44.ntmps,none,44⟩ aFd (SL.toS ⟨tm,[],none,1001,[(1000,frO l a)],lc⟩) (aAq Go.Proofs.Tryz.prog Go.Proofs.Tryz.f44 (F.pP aDq) 1001 (frL l F.at')) (aAl Go.Proofs.Tryz.prog Go.Proofs.Tryz.f44 (F.pP aDq) 1001 (frL l F.at')):=by
 have hl':l.length<4294967296:=by omega
 refine WR.weak (SW.aM htm hlc) ?_
 have sp:=hS.sp a ha
 have kn:=hS.known a ha
 have er:=hS.er a
 have ok:=hS.ok a
 unfold lR at hF
 obtain⟨rn,ra,⟨rtk,rta,rtp,rtn,rtl⟩⟩:=rv
 obtain⟨ytk,yta,ytp,ytn,ytl⟩:=res
 unfold aFd
 repeat apply sQ
 refine WR.aP aZ (DW.m 1000 rfl ?_)
 cases hs:S a with
 |out=>rw[hs]at kn;cases kn
 |er a1 d1 q c=>
  rw[hs]at hF sp
  subst hF
  refine DW.eU pQ rfl rfl rfl rfl rfl (sp _) .base rfl (DW.m 1000 rfl ?_)
  refine DW.stS pQ rfl rfl rfl rfl (DW.m 1000 rfl (DW.cC pQ ?_))
  repeat apply sQ
  refine WR.m 3 rfl ?_
  rw[show decide (c=0)=false from decide_eq_false (er _ _ _ _ hs)]
  refine WQ.q rfl ?_
  repeat apply sQ
  refine WR.aD rfl ?_
  repeat apply sQ
  refine WR.m 2 rfl ?_
  refine WQ.aUd rfl rfl rfl ⟨rfl,rfl,rfl,fun b hb=>uZ rfl hb⟩
 |ok bd n=>
  have q:=ok _ _ ha hs
  rw[hs]at hF sp
  subst hF
  refine DW.eU pQ rfl rfl rfl rfl rfl (sp _) .base rfl (DW.m 1000 rfl ?_)
  refine DW.stS pQ rfl rfl rfl rfl (DW.m 1000 rfl (DW.cC pQ ?_))
  repeat apply sQ
  refine WR.q rfl ?_
  repeat apply sQ
  refine WR.k rfl ?_
  unfold aNw
  repeat apply sQ
  refine WR.q rfl ?_
  repeat apply sQ
  refine WR.m 2 rfl ?_
  refine WQ.c rfl (aEn (l:=l) (a:=n) hl' q.2 (by omega) (by decide) rfl) .base rfl ?_
  refine WQ.q rfl ?_
  repeat apply sQ
  refine WR.q rfl ?_
  exact WR.ret ⟨rfl,rfl,⟨_,rfl,by repeat(first|exact VLe.refl _|exact VLe.unk _ _|exact kP _ _|refine VLe.tup ?_|refine VLe.agg ?_|exact VLL.nil|refine VLL.cons ?_ ?_)⟩,fun b hb=>uZ rfl hb⟩
theorem bEq{l:List Tz}{S:Nat→R (List Sx)}(hS:StmOk l S)(hl:l.length<20000){m:Nat}{p:Int}{nm:List Nat}{mt:Bool}{rv:Pm}{bs:List Pm}{a:Nat}(ha:a≤l.length){F:R Dx}(hF:fJ3 l S m p nm mt rv bs a=F)(ho:F.aY=false){tm:TM}{lc:LM}(htm:TellT tm (aRz p nm mt rv bs [] false zT) bGw)(hlc:TellL lc (aRz p nm mt rv bs [] false zT)):
  WR Go.Proofs.Tryz.prog [] ⟨Go.Proofs.Tryz.f44.ntmps,none,44⟩ aDa (SL.toS ⟨tm,[],none,1001,[(1000,frO l a)],lc⟩) (aAq Go.Proofs.Tryz.prog Go.Proofs.Tryz.f44 (F.pP aDq) 1001 (frL l F.at')) (aAl Go.Proofs.Tryz.prog Go.Proofs.Tryz.f44 (F.pP aDq) 1001 (frL l F.at')):=by
 have hl':l.length<4294967296:=by omega
 refine WR.weak (SW.aM htm hlc) ?_
 unfold fJ3 at hF
 obtain⟨rn,ra,⟨rtk,rta,rtp,rtn,rtl⟩⟩:=rv
 unfold aDa
 repeat apply sQ
 refine WR.m 1 rfl ?_
 have s2:=eF l a hl' ha [40]
 cases h2:bM l 4 [40] a with
 |out=>rw[h2]at hF;subst hF;cases ho
 |er a1 d1 p c=>
  rw[h2]at hF s2
  subst hF
  exact WQ.aL rfl rfl rfl rfl rfl (s2.er ⟨trivial,trivial⟩ (R:=1000) (by decide) rfl) (.put .base rfl) ⟨rfl,rfl,rfl,fun b hb=>rfl⟩
 |ok u b2=>
 rw[h2]at hF s2
 simp only[R.bind]at hF
 refine WQ.c rfl (s2.ok ⟨trivial,trivial⟩ trivial (R:=1000) (by decide) rfl) (.put .base rfl) rfl ?_
 have q2:=aN (by decide) h2
 refine WQ.q rfl ?_
 repeat apply sQ
 refine WR.m 3 rfl ?_
 have s3:=yE l hl [41] true m b2 q2.2.1
 cases h3:bC l (cK l) [41] true m b2 with
 |out=>rw[h3]at hF;subst hF;cases ho
 |er a1 d1 p c=>
  rw[h3]at hF s3
  subst hF
  exact WQ.aL rfl rfl rfl rfl rfl (nM (r:=.pan (cV p c)) (s3 rfl) ⟨(by show 1000<1001;decide),trivial,trivial,⟨trivial,⟨(by show 1000<1001;decide),trivial⟩,trivial⟩,trivial⟩ bA (R:=1000) (by decide) rfl (fun ρ e=>by simp only[dB,V.ren,vV,e]<;>rfl)) (.put .base rfl) ⟨rfl,rfl,rfl,fun b hb=>rfl⟩
 |ok fs b3=>
 rw[h3]at hF s3
 simp only[R.bind]at hF
 refine WQ.c rfl (nM (r:=.ret _) (s3 rfl) ⟨(by show 1000<1001;decide),trivial,trivial,⟨trivial,⟨(by show 1000<1001;decide),trivial⟩,trivial⟩,trivial⟩ (gE lD _) (R:=1000) (by decide) rfl (fun ρ e=>by simp only[dB,V.ren,vV,e]<;>rfl)) (.put .base rfl) rfl ?_
 have q3:=cM (fun a x a1=>bU) h3
 refine WQ.q rfl ?_
 repeat apply sQ
 refine WR.m 1 rfl ?_
 refine WQ.c rfl (vH (l:=l) (a:=b3) (k:=4) (s:=[123]) hl' (by decide) rfl) .base rfl ?_
 unfold oN at hF
 cases h4:isF l b3 4 [123]with
 |true=>
  rw[h4]at hF
  simp only[R.bind]at hF
  refine WQ.q rfl ?_
  repeat apply sQ
  refine WR.q rfl ?_
  repeat apply sQ
  refine WR.k rfl ?_
  refine bFa hS hl q3.2 hF ?_ ?_
  ·exact tQ
  ·exact lQ
 |false=>
  rw[h4]at hF
  refine WQ.q rfl ?_
  repeat apply sQ
  refine WR.q rfl ?_
  repeat apply sQ
  refine WR.aD rfl ?_
  repeat apply sQ
  refine WR.m 1 rfl ?_
  have s4:=lX l b3 hl' q3.2
  simp only[R.bind]at hF
  cases h6:cB l b3 with
  |out=>rw[h6]at hF;subst hF;cases ho
  |er a1 d1 p c=>
   rw[h6]at hF s4
   subst hF
   exact WQ.aL rfl rfl rfl rfl rfl (s4.er trivial (R:=1000) (by decide) rfl) (.put .base rfl) ⟨rfl,rfl,rfl,fun b hb=>rfl⟩
  |ok x b4=>
  rw[h6]at hF s4
  simp only[R.bind]at hF
  refine WQ.c rfl (s4.ok trivial (qN _) (R:=1000) (by decide) rfl) (.put .base rfl) rfl ?_
  have q4:=eW h6
  obtain⟨xk,xa,xp,xn,xl⟩:=x
  refine WQ.q rfl ?_
  refine bFa hS hl q4.2 hF ?_ ?_
  ·exact tQ
  ·exact lQ
theorem bEv{l:List Tz}{S:Nat→R (List Sx)}(hS:StmOk l S)(hl:l.length<20000){m:Nat}{mt:Bool}{rv:Pm}{a:Nat}(ha:a≤l.length){F:R Dx}(hF:fJ4 l S m mt rv a=F)(ho:F.aY=false){tm:TM}{lc:LM}(htm:TellT tm (aRz 0 [] mt rv [] [] false zT) bGw)(hlc:TellL lc (aRz 0 [] mt rv [] [] false zT)):
  WR Go.Proofs.Tryz.prog [] ⟨Go.Proofs.Tryz.f44.ntmps,none,44⟩ aDw (SL.toS ⟨tm,[],none,1001,[(1000,frO l a)],lc⟩) (aAq Go.Proofs.Tryz.prog Go.Proofs.Tryz.f44 (F.pP aDq) 1001 (frL l F.at')) (aAl Go.Proofs.Tryz.prog Go.Proofs.Tryz.f44 (F.pP aDq) 1001 (frL l F.at')):=by
 have hl':l.length<4294967296:=by omega
 refine WR.weak (SW.aM htm hlc) ?_
 unfold fJ4 at hF
 obtain⟨rn,ra,⟨rtk,rta,rtp,rtn,rtl⟩⟩:=rv
 unfold aDw
 repeat apply sQ
 refine WR.m 1 rfl ?_
 have s1:=jJ l a hl' ha
 cases h1:fName l a with
 |out=>rw[h1]at hF;subst hF;cases ho
 |er a1 d1 p c=>
  rw[h1]at hF s1
  subst hF
  exact WQ.aL rfl rfl rfl rfl rfl (s1.er trivial (R:=1000) (by decide) rfl) (.put .base rfl) ⟨rfl,rfl,rfl,fun b hb=>rfl⟩
 |ok t b1=>
 rw[h1]at hF s1
 simp only[R.bind]at hF
 refine WQ.c rfl (s1.ok trivial (lS _) (R:=1000) (by decide) rfl) (.put .base rfl) rfl ?_
 have q1:=cI h1
 obtain⟨tk,ta,te,tt⟩:=t
 refine WQ.q rfl ?_
 repeat apply sQ
 refine WR.aP aZ (DW.m 1000 rfl ?_)
 refine DW.stS pQ rfl rfl rfl rfl (DW.m 1000 rfl ?_)
 refine DW.stS pQ rfl rfl rfl rfl (DW.m 1000 rfl (DW.cC pQ ?_))
 repeat apply sQ
 refine WR.m 1 rfl ?_
 refine WQ.c rfl (iF (k:=4) (s:=[91]) hl' q1.2.1 (by decide) rfl) (.put .base rfl) rfl ?_
 unfold isA
 cases h2:isF l b1 4 [91]with
 |true=>
  have hlt:=bH h2 (by decide)
  rw[h2]at hF
  dsimp only at hF
  refine WQ.q rfl ?_
  repeat apply sQ
  refine WR.aD rfl ?_
  repeat apply sQ
  refine WR.m 3 rfl ?_
  have s3:=yE l hl [93] false m (b1+1) hlt
  cases h3:bC l (cK l) [93] false m (b1+1)with
  |out=>rw[h3]at hF;subst hF;cases ho
  |er a1 d1 p c=>
   rw[h3]at hF s3
   subst hF
   exact WQ.aL rfl rfl rfl rfl rfl (nM (r:=.pan (cV p c)) (s3 rfl) ⟨(by show 1000<1001;decide),trivial,trivial,⟨trivial,⟨(by show 1000<1001;decide),trivial⟩,trivial⟩,trivial⟩ bA (R:=1000) (by decide) rfl (fun ρ e=>by simp only[dB,V.ren,vV,e]<;>rfl)) (.put .base rfl) ⟨rfl,rfl,rfl,fun b hb=>rfl⟩
  |ok bs b3=>
  rw[h3]at hF s3
  simp only[R.bind]at hF
  refine WQ.c rfl (nM (r:=.ret _) (s3 rfl) ⟨(by show 1000<1001;decide),trivial,trivial,⟨trivial,⟨(by show 1000<1001;decide),trivial⟩,trivial⟩,trivial⟩ (gE lD _) (R:=1000) (by decide) rfl (fun ρ e=>by simp only[dB,V.ren,vV,e]<;>rfl)) (.put .base rfl) rfl ?_
  have q3:=cM (fun a x a1=>bU) h3
  refine WQ.q rfl ?_
  refine bEq hS hl q3.2 hF ho ?_ ?_
  ·exact tQ
  ·exact lQ
 |false=>
  rw[h2]at hF
  refine WQ.q rfl ?_
  repeat apply sQ
  refine WR.k rfl ?_
  refine bEq hS hl q1.2.1 hF ho ?_ ?_
  ·exact tQ
  ·exact lQ
theorem aJs{l:List Tz}{S:Nat→R (List Sx)}(hS:StmOk l S)(hl:l.length<20000)(m a:Nat)(ha:a≤l.length):Fp 44 [] l a aDq (gN l S m a):=by
 intro ho
 have hl':l.length<4294967296:=by omega
 generalize hF:gN l S m a=F at ho⊢
 unfold gN at hF
 refine SCall.aI (fn:=Go.Proofs.Tryz.f44) (by kernel_rfl) bLm (by kernel_rfl) (by kernel_rfl) (Nat.le_refl _) rfl (cO _ _) (by exact mB ho (fun x _=>wX x)) ?_
 unfold bLa
 repeat apply sQ
 refine WR.q rfl ?_
 repeat apply sQ
 refine WR.q rfl ?_
 repeat apply sQ
 refine WR.m 1 rfl ?_
 refine WQ.c rfl (iF (k:=4) (s:=[40]) hl' ha (by decide) rfl) (.put .base rfl) rfl ?_
 unfold isA
 cases h1:isF l a 4 [40]with
 |true=>
  have hlt:=bH h1 (by decide)
  rw[h1]at hF
  dsimp only at hF
  refine WQ.q rfl ?_
  repeat apply sQ
  refine WR.aD rfl ?_
  repeat apply sQ
  refine WR.m 1 rfl ?_
  have s1:=oZ l (a+1) hl' hlt
  cases h2:cK l (a+1)with
  |out=>rw[h2]at hF;subst hF;cases ho
  |er a1 d1 p c=>
   rw[h2]at hF s1
   subst hF
   exact WQ.aL rfl rfl rfl rfl rfl (s1.er trivial (R:=1000) (by decide) rfl) (.put .base rfl) ⟨rfl,rfl,rfl,fun b hb=>rfl⟩
  |ok rv b1=>
  rw[h2]at hF s1
  simp only[R.bind]at hF
  refine WQ.c rfl (s1.ok trivial (tH _) (R:=1000) (by decide) rfl) (.put .base rfl) rfl ?_
  have q1:=bU h2
  obtain⟨rn,ra,⟨rtk,rta,rtp,rtn,rtl⟩⟩:=rv
  refine WQ.q rfl ?_
  repeat apply sQ
  refine WR.m 1 rfl ?_
  have s2:=eF l b1 hl' q1.2 [41]
  cases h3:bM l 4 [41] b1 with
  |out=>rw[h3]at hF;subst hF;cases ho
  |er a1 d1 p c=>
   rw[h3]at hF s2
   subst hF
   exact WQ.aL rfl rfl rfl rfl rfl (s2.er ⟨trivial,trivial⟩ (R:=1000) (by decide) rfl) (.put .base rfl) ⟨rfl,rfl,rfl,fun b hb=>rfl⟩
  |ok u b2=>
  rw[h3]at hF s2
  simp only[R.bind]at hF
  refine WQ.c rfl (s2.ok ⟨trivial,trivial⟩ trivial (R:=1000) (by decide) rfl) (.put .base rfl) rfl ?_
  have q2:=aN (by decide) h3
  refine WQ.q rfl ?_
  refine bEv hS hl q2.2.1 hF ho ?_ ?_
  ·exact tQ
  ·refine .cons rfl (.inl rfl) (.cons rfl (.inr cQ) .nil)
 |false=>
  rw[h1]at hF
  refine WQ.q rfl ?_
  repeat apply sQ
  refine WR.k rfl ?_
  refine bEv hS hl ha hF ho ?_ ?_
  ·exact tQ
  ·refine .cons rfl (.inl rfl) (.cons rfl (.inr cQ) .nil)
end Go.VM
end
