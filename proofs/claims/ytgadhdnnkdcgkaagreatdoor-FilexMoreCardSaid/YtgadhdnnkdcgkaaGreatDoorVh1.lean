/- laid for this seat: VfD VfE VfF VfG -/
import Derived.Test.YtgadhdnnkdcgkaaGreatDoorVh0
set_option linter.unusedVariables false
set_option linter.unusedSimpArgs false
section
/- Files: methods. -/
set_option maxRecDepth 100000
namespace Go.VM
open Go.RowKit
structure Mx where
 n:List Nat
 a:Int
 ps:List Tx
 has:Bool
 res:Tx
def cU(x:Mx):List V:=[.str x.n,.int .i64 x.a,iG cD x.ps,.bool x.has]++cD x.res
def bMc(x:Mx):V:=.agg (cU x)
theorem uC{D:Nat→Prop}:∀x:Mx,Ins D (cU x)
 |⟨n,a,ps,h,.mk k b q m l⟩=>⟨trivial,trivial,eP jB ps,trivial,trivial,trivial,trivial,trivial,⟨gM l,trivial⟩,trivial⟩
theorem aMo{D:Nat→Prop}(x:Mx):(bMc x).In D:=uC x
theorem aQx:∀x:Mx,(cU x).length=9
 |⟨n,a,ps,h,.mk k b q m l⟩=>rfl
def oO(l:List Tz)(to:List Nat)(a:Nat):R (Bool×Tx):=match isF l a 4 to with
 |true=>.ok (false,zT) a
 |false=>(cC l a).bind fun x a1=>.ok (true,x) a1
theorem qJ{l:List Tz}{to:List Nat}{a:Nat}(ha:a≤l.length){r:Bool×Tx}{a1:Nat}(h:oO l to a=.ok r a1):a≤a1∧a1≤l.length:=by
 unfold oO at h
 split at h
 ·cases h;exact⟨Nat.le_refl _,ha⟩
 ·cases h1:cC l a with
  |out=>rw[h1]at h;cases h
  |er _ _ _ _=>rw[h1]at h;cases h
  |ok x a2=>
   rw[h1]at h
   have:=dS h1
   cases h
   omega
def dJ(l:List Tz)(m a:Nat):R Mx:=(fName l a).bind fun t a1=>(bM l 4 [40] a1).bind fun _ a2=>(bH l (cC l) [41] true m a2).bind fun ps a3=>(oO l [59] a3).bind fun r a4=>(bM l 4 [59] a4).bind fun _ a5=>.ok ⟨t.t,t.a,ps,r.1,r.2⟩ a5
theorem R.aA{α β:Type}{r:R α}{f:α→Nat→R β}{v:β}{a:Nat}(h:r.bind f=.ok v a):∃x a1,r=.ok x a1∧f x a1=.ok v a:=by
 cases r with
 |out=>cases h
 |er _ _ _ _=>cases h
 |ok x a1=>exact⟨x,a1,rfl,h⟩
theorem R.aS{α β:Type}{r:R α}{f:α→Nat→R β}(h:r.bA=false)(k:∀x a1,r=.ok x a1→(f x a1).bA=false):(r.bind f).bA=false:=by
 cases r with
 |out=>cases h
 |er _ _ _ _=>rfl
 |ok x a1=>exact k x a1 rfl
theorem aIo{l:List Tz}{a:Nat}:(eY l a).bA=false:=by
 unfold eY
 repeat(first|rfl|split)
theorem aSn{l:List Tz}{a:Nat}:(tyF l a).bA=false:=by
 unfold tyF
 split
 ·rfl
 ·rename_i a' ls _
  have:=aIo (l:=l) (a:=a')
  split
  ·rfl
  ·rfl
  ·rename_i h;rw[h]at this;cases this
theorem oE{l:List Tz}{a:Nat}:(cC l a).bA=false:=by
 unfold cC
 have:=aSn (l:=l) (a:=a)
 split
 ·rfl
 ·rfl
 ·rename_i h;rw[h]at this;cases this
theorem kD{l:List Tz}{a:Nat}:(cZ l a).bA=false:=R.aS iL fun _ _ _=>R.aS oE fun _ _ _=>rfl
theorem aAc{l:List Tz}{to:List Nat}{a:Nat}:(oO l to a).bA=false:=by
 unfold oO
 split
 ·rfl
 ·exact R.aS oE fun _ _ _=>rfl
theorem fL{l:List Tz}{m a:Nat}{x:Mx}{a':Nat}(h:dJ l m a=.ok x a'):a<a'∧a'≤l.length:=by
 obtain⟨t,a1,h1,h⟩:=R.aA h
 obtain⟨_,a2,h2,h⟩:=R.aA h
 obtain⟨ps,a3,h3,h⟩:=R.aA h
 obtain⟨r,a4,h4,h⟩:=R.aA h
 obtain⟨_,a5,h5,h⟩:=R.aA h
 cases h
 have q1:=cK h1
 have q2:=aM (by decide) h2
 have q3:=cP (fun a x a1=>dS) h3
 have q4:=qJ q3.2 h4
 have q5:=aM (by decide) h5
 omega
theorem aAq{l:List Tz}{m a:Nat}(ha:a≤l.length)(hm:l.length<m):(dJ l m a).bA=false:=
 R.aS iL fun _ _ h1=>R.aS bN fun _ _ h2=>R.aS (lC (fun a x a1=>dS) (fun _ _=>oE) (by have:=aM (by decide) h2;omega) hm) fun _ _ h3=>R.aS aAc fun _ _ h4=>R.aS bN fun _ _ h5=>rfl
theorem aDq(l:List Tz)(hl:l.length<20000)(m a:Nat)(ha:a≤l.length):Fp 74 [] l a bMc (dJ l m a):=by
 intro ho
 have hl':l.length<4294967296:=by omega
 generalize hF:dJ l m a=F at ho⊢
 unfold dJ at hF
 refine SCall.aJ (fn:=Go.Proofs.Tryz.f74) (by kernel_rfl) bJl (by kernel_rfl) (by kernel_rfl) (Nat.le_refl _) rfl (cR _ _) (by exact lP ho (fun x _=>aMo x)) ?_
 unfold bLn
 repeat apply sQ
 refine WR.q rfl ?_
 repeat apply sQ
 refine WR.m 1 rfl ?_
 have s1:=jH l a hl' ha
 cases h1:fName l a with
 |out=>rw[h1]at hF;subst hF;cases ho
 |er a1 d1 p c=>
  rw[h1]at hF s1
  subst hF
  exact WQ.aL rfl rfl rfl rfl rfl (s1.er trivial (R:=1000) (by decide) rfl) (.put .base rfl) ⟨rfl,rfl,rfl,fun b hb=>rfl⟩
 |ok t b1=>
 rw[h1]at hF s1
 simp only[R.bind]at hF
 refine WQ.c rfl (s1.ok trivial (lO _) (R:=1000) (by decide) rfl) (.put .base rfl) rfl ?_
 have q1:=cK h1
 obtain⟨tk,ta,te,tt⟩:=t
 refine WQ.q rfl ?_
 repeat apply sQ
 refine WR.q rfl ?_
 repeat apply sQ
 refine WR.m 1 rfl ?_
 have s2:=eL l b1 hl' q1.2.1 [40]
 cases h2:bM l 4 [40] b1 with
 |out=>rw[h2]at hF;subst hF;cases ho
 |er a1 d1 p c=>
  rw[h2]at hF s2
  subst hF
  exact WQ.aL rfl rfl rfl rfl rfl (s2.er ⟨trivial,trivial⟩ (R:=1000) (by decide) rfl) (.put .base rfl) ⟨rfl,rfl,rfl,fun b hb=>rfl⟩
 |ok u b2=>
 rw[h2]at hF s2
 simp only[R.bind]at hF
 refine WQ.c rfl (s2.ok ⟨trivial,trivial⟩ trivial (R:=1000) (by decide) rfl) (.put .base rfl) rfl ?_
 have q2:=aM (by decide) h2
 refine WQ.q rfl ?_
 repeat apply sQ
 refine WR.m 3 rfl ?_
 have s3:=aLz l hl [41] true m b2 q2.2.1
 cases h3:bH l (cC l) [41] true m b2 with
 |out=>rw[h3]at hF;subst hF;cases ho
 |er a1 d1 p c=>
  rw[h3]at hF s3
  subst hF
  exact WQ.aL rfl rfl rfl rfl rfl (nU (r:=.pan (dB p c)) (s3 rfl) ⟨(by show 1000<1001;decide),trivial,trivial,⟨trivial,⟨(by show 1000<1001;decide),trivial⟩,trivial⟩,trivial⟩ bB (R:=1000) (by decide) rfl (fun ρ e=>by simp only[dI,V.ren,wI,e]<;>rfl)) (.put .base rfl) ⟨rfl,rfl,rfl,fun b hb=>rfl⟩
 |ok ps b3=>
 rw[h3]at hF s3
 simp only[R.bind]at hF
 refine WQ.c rfl (nU (r:=.ret _) (s3 rfl) ⟨(by show 1000<1001;decide),trivial,trivial,⟨trivial,⟨(by show 1000<1001;decide),trivial⟩,trivial⟩,trivial⟩ (eP jB _) (R:=1000) (by decide) rfl (fun ρ e=>by simp only[dI,V.ren,wI,e]<;>rfl)) (.put .base rfl) rfl ?_
 have q3:=cP (fun a x a1=>dS) h3
 refine WQ.q rfl ?_
 repeat apply sQ
 refine WR.m 1 rfl ?_
 refine WQ.c rfl (uS (l:=l) (a:=b3) (k:=4) (s:=[59]) hl' (by decide) rfl) .base rfl ?_
 have s5:=eL l b3 hl' q3.2 [59]
 unfold oO at hF
 cases h4:isF l b3 4 [59]with
 |true=>
  rw[h4]at hF
  simp only[R.bind]at hF
  refine WQ.q rfl ?_
  repeat apply sQ
  refine WR.q rfl ?_
  repeat apply sQ
  refine WR.k rfl ?_
  unfold aDg
  repeat apply sQ
  refine WR.m 1 rfl ?_
  cases h5:bM l 4 [59] b3 with
  |out=>rw[h5]at hF;subst hF;cases ho
  |er a1 d1 p c=>
   rw[h5]at hF s5
   subst hF
   exact WQ.aL rfl rfl rfl rfl rfl (s5.er ⟨trivial,trivial⟩ (R:=1000) (by decide) rfl) (.put .base rfl) ⟨rfl,rfl,rfl,fun b hb=>rfl⟩
  |ok u5 b5=>
  rw[h5]at hF s5
  simp only[R.bind]at hF
  refine WQ.c rfl (s5.ok ⟨trivial,trivial⟩ trivial (R:=1000) (by decide) rfl) (.put .base rfl) rfl ?_
  subst hF
  refine WQ.q rfl ?_
  repeat apply sQ
  refine WR.q rfl ?_
  exact WR.e
 |false=>
  rw[h4]at hF
  refine WQ.q rfl ?_
  repeat apply sQ
  refine WR.q rfl ?_
  repeat apply sQ
  refine WR.aD rfl ?_
  repeat apply sQ
  refine WR.m 1 rfl ?_
  have s4:=lZ l b3 hl' q3.2
  simp only[R.bind]at hF
  cases h6:cC l b3 with
  |out=>rw[h6]at hF;subst hF;cases ho
  |er a1 d1 p c=>
   rw[h6]at hF s4
   subst hF
   exact WQ.aL rfl rfl rfl rfl rfl (s4.er trivial (R:=1000) (by decide) rfl) (.put .base rfl) ⟨rfl,rfl,rfl,fun b hb=>rfl⟩
  |ok x b4=>
  rw[h6]at hF s4
  simp only[R.bind]at hF
  refine WQ.c rfl (s4.ok trivial (qH _) (R:=1000) (by decide) rfl) (.put .base rfl) rfl ?_
  have q4:=dS h6
  obtain⟨xk,xa,xp,xn,xl⟩:=x
  have s5:=eL l b4 hl' q4.2 [59]
  refine WQ.q rfl ?_
  unfold aDg
  repeat apply sQ
  refine WR.m 1 rfl ?_
  cases h5:bM l 4 [59] b4 with
  |out=>rw[h5]at hF;subst hF;cases ho
  |er a1 d1 p c=>
   rw[h5]at hF s5
   subst hF
   exact WQ.aL rfl rfl rfl rfl rfl (s5.er ⟨trivial,trivial⟩ (R:=1000) (by decide) rfl) (.put .base rfl) ⟨rfl,rfl,rfl,fun b hb=>rfl⟩
  |ok u5 b5=>
  rw[h5]at hF s5
  simp only[R.bind]at hF
  refine WQ.c rfl (s5.ok ⟨trivial,trivial⟩ trivial (R:=1000) (by decide) rfl) (.put .base rfl) rfl ?_
  subst hF
  refine WQ.q rfl ?_
  repeat apply sQ
  refine WR.q rfl ?_
  exact WR.e
end Go.VM
end
section
/- Files: declarations of types: their parts. -/
set_option maxRecDepth 100000
namespace Go.VM
open Go.RowKit
def zPm:Pm:=⟨[],0,zT⟩
def bHt:List V:=[.str [],.int .i64 0,.int .i64 0,.int .i64 0,.str [],.str [],.lst [] (.ex 0)]
structure Dx where
 k:Nat
 a:Int
 e:Int
 n:List Nat
 mt:Bool
 rv:Pm
 bs:List Pm
 fs:List Pm
 ms:List Mx
 has:Bool
 res:Tx
 body:List Sx
def dC(k a e:Int)(nm:List Nat)(mt:Bool)(rv:List V)(bs fs ms:V)(has:Bool)(res:List V)(body:V):List V:=[.int .i64 k,.int .i64 a,.int .i64 e,.str nm,.bool mt]++(rv++([bs,fs,ms,.bool has]++(res++[body])))
def dR(d:Dx):List V:=dC d.k d.a d.e d.n d.mt (cM d.rv) (iG cM d.bs) (iG cM d.fs) (iG cU d.ms) d.has (cD d.res) (.lst (fW d.body) .unk)
def yJ(d:Dx):V:=.agg (dR d)
theorem aGw{D:Nat→Prop}:∀d:Dx,Ins D (dR d)
 |⟨k,a,e,n,mt,⟨rn,ra,.mk k1 b1 q1 m1 l1⟩,bs,fs,ms,has,.mk k2 b2 q2 m2 l2,body⟩=>⟨trivial,trivial,trivial,trivial,trivial,trivial,trivial,trivial,trivial,trivial,trivial,⟨gM l1,trivial⟩,eP jD bs,eP jD fs,eP uC ms,trivial,trivial,trivial,trivial,trivial,⟨gM l2,trivial⟩,⟨fR body,trivial⟩,trivial⟩
theorem qN{D:Nat→Prop}(d:Dx):(yJ d).In D:=aGw d
theorem uZ:∀d:Dx,(dR d).length=22
 |⟨k,a,e,n,mt,⟨rn,ra,.mk k1 b1 q1 m1 l1⟩,bs,fs,ms,has,.mk k2 b2 q2 m2 l2,body⟩=>rfl
def fTo{α:Type}(l:List Tz)(rd:Nat→R α):Nat→List α→Nat→R (List α)
 |0,_,_=>.out
 |n+1,acc,a=>match isF l a 4 [125]with
  |true=>.ok acc (a+1)
  |false=>(rd a).bind fun x a1=>fTo l rd n (acc++[x]) a1
theorem kW{α:Type}{l:List Tz}{rd:Nat→R α}(hr:∀a x a1,a≤l.length→rd a=.ok x a1→a<a1∧a1≤l.length):∀(n:Nat) (acc:List α) (a:Nat) (xs:List α) (a':Nat),a≤l.length→fTo l rd n acc a=.ok xs a'→a<a'∧a'≤l.length:=by
 intro n
 induction n with
 |zero=>intro acc a xs a' _ h;cases h
 |succ n ih=>
  intro acc a xs a' ha h
  unfold fTo at h
  split at h
  ·rename_i h1
   have:=bI h1 (by decide)
   cases h
   omega
  ·obtain⟨x,a1,h1,h⟩:=R.aA h
   have q:=hr _ _ _ ha h1
   have:=ih _ _ _ _ q.2 h
   omega
theorem aBt{α:Type}{l:List Tz}{rd:Nat→R α}(hr:∀a x a1,a≤l.length→rd a=.ok x a1→a<a1∧a1≤l.length)(hk:∀a,a≤l.length→(rd a).bA=false):∀(n:Nat) (acc:List α) (a:Nat),a≤l.length→l.length<a+n→(fTo l rd n acc a).bA=false:=by
 intro n
 induction n with
 |zero=>intro acc a h1 h2;omega
 |succ n ih=>
  intro acc a h1 h2
  unfold fTo
  split
  ·rfl
  ·exact R.aS (hk a h1) fun x a1 h=>ih _ _ (hr _ _ _ h1 h).2 (by have:=hr _ _ _ h1 h;omega)
def iW(l:List Tz)(a:Nat):R Pm:=(cZ l a).bind fun p a1=>(bM l 4 [59] a1).bind fun _ a2=>.ok p a2
theorem fV{l:List Tz}{a a1:Nat}{x:Pm}(h:iW l a=.ok x a1):a<a1∧a1≤l.length:=by
 obtain⟨p,b1,h1,h⟩:=R.aA h
 obtain⟨u,b2,h2,h⟩:=R.aA h
 cases h
 have:=bL h1
 have:=aM (by decide) h2
 omega
theorem aFh{l:List Tz}{a:Nat}:(iW l a).bA=false:=R.aS kD fun _ _ _=>R.aS bN fun _ _ _=>rfl
def aPt:TM:=[(0,.v (.ptr 1000 0)),(2,.l 2 0),(4,.l 4 0)]
def zDx:List V:=dC 0 0 0 [] false bHt cV cV cV false zTx cV
def tdI(p:Int)(nm:List Nat)(ms:List Mx):LM:=[(2,zDx),(4,dC 2 p 0 nm false bHt cV cV (lvG cU ms) false zTx cV)]
def tdS(p:Int)(nm:List Nat)(fs:List Pm):LM:=[(2,zDx),(4,dC 1 p 0 nm false bHt cV (lvG cM fs) cV false zTx cV)]
theorem aZv{QN:S→Prop}{QX:X→S→Prop}(l:List Tz)(hl:l.length<20000)(m:Nat)(p:Int)(nm:List Nat):∀(n:Nat) (acc:List Mx) (a:Nat),a≤l.length→acc.length≤a→(fTo l (dJ l m) n acc a).bA=false→
  (∀ms a',fTo l (dJ l m) n acc a=.ok ms a'→∀tm lc,TellT tm (tdI p nm ms) aPt→TellL lc (tdI p nm ms)→QX (.exit 0) (SL.toS ⟨tm,[],none,nxG ms,(1000,frO l a')::vI ms,lc⟩))→
  (∀a' d q c,fTo l (dJ l m) n acc a=.er a' d q c→∀s:S,s.df=[]→s.u=none→(∀b,b<1001→og (frL l a') b=s.h.ob b)→QX (.panic (dB q c)) s)→
  WLr Go.Proofs.Tryz.prog [] ⟨Go.Proofs.Tryz.f43.ntmps,none,43⟩ tO (SL.toS ⟨aPt,[],none,nxG acc,(1000,frO l a)::vI acc,tdI p nm acc⟩) QN QX:=by
 intro n
 have hl':l.length<4294967296:=by omega
 induction n with
 |zero=>intro acc a _ _ ho;cases ho
 |succ n ih=>
  intro acc a ha hacc ho hq he
  have sp:=aDq l hl m a ha
  unfold fTo at ho hq he
  unfold tO
  refine WLr.of ?_
  repeat apply sQ
  refine WR.m 1 rfl ?_
  refine WQ.c rfl (iB (k:=4) (s:=[125]) hl' ha (by decide) rfl) (.put .base rfl) rfl ?_
  unfold isA
  cases h2:isF l a 4 [125]with
  |true=>
   rw[h2]at hq ho he
   refine WQ.q rfl ?_
   repeat apply sQ
   refine WR.aO rfl (WR.exit (hq _ _ rfl _ _ ?_ ?_))
   ·exact tQ
   ·exact lQ
  |false=>
   rw[h2]at hq ho he
   refine WQ.q rfl ?_
   repeat apply sQ
   refine WR.aD rfl (WR.skip ?_)
   repeat apply sQ
   refine WR.block ?_
   repeat apply sQ
   refine WR.q rfl ?_
   repeat apply sQ
   refine WR.aD rfl ?_
   repeat apply sQ
   refine WR.aN aZ (DW.m 1000 rfl ?_)
   cases h1:dJ l m a with
   |out=>rw[h1]at ho;cases ho
   |er a1 d1 q c=>
    rw[h1]at sp he
    exact DW.aL pQ rfl rfl rfl rfl rfl (sp.er trivial (R:=1000) (by decide) rfl) (.put .base rfl) (he _ _ _ _ rfl _ rfl rfl (fun b hb=>fF acc hb))
   |ok x a1=>
    have hx:=fL h1
    rw[h1]at sp hq ho he
    simp only[R.bind]at hq ho he
    have ih:=ih (acc++[x]) a1 hx.2 (by simp;omega) ho hq he
    refine DW.dX pQ rfl rfl rfl rfl rfl (sp.ok trivial (aMo _) (R:=1000) (by decide) rfl) (.put .base rfl) rfl ?_
    obtain⟨xn,xa,xps,xh,⟨xtk,xta,xtp,xtn,xtl⟩⟩:=x
    refine DW.m 1000 rfl ?_
    cases acc with
    |nil=>
     refine DW.eC pQ rfl (jN (n2:=1) (es2:=[cU ⟨xn,xa,xps,xh,⟨xtk,xta,xtp,xtn,xtl⟩⟩]) rfl rfl (Nat.zero_lt_one) (by simp) (by simp) (by show 128*1≤lim;decide) rfl rfl rfl rfl) rfl (DW.m 1000 rfl ?_)
     refine DW.stS pQ rfl rfl rfl rfl (DW.m 1000 rfl (DW.bS pQ ?_))
     refine WR.exit (WIr.again (WLr.weak ?_ ih))
     refine SW.aQ ?_ ?_
     ·exact tQ
     ·exact lQ
    |cons q r=>
     refine DW.eC pQ rfl (jL (n:=(q::r).length) (n2:=(q::r++[(⟨xn,xa,xps,xh,⟨xtk,xta,xtp,xtn,xtl⟩⟩:Mx)]).length) (es2:=(q::r++[(⟨xn,xa,xps,xh,⟨xtk,xta,xtp,xtn,xtl⟩⟩:Mx)]).map cU) rfl rfl rfl (List.length_map ..).symm ?_ ?_ ?_ rfl ?_ ?_ rfl) rfl ?_
     ·intro e he
      obtain⟨y,_,rfl⟩:=List.mem_map.1 (show e∈(q::r).map cU from he)
      exact aQx y
     ·simp
     ·simp only[List.length_map,List.length_cons,List.length_nil]at hacc⊢;unfold lim;omega
     ·rw[List.map_append];rfl
     ·simp
     refine DW.m 1000 rfl ?_
     refine DW.stS pQ rfl rfl rfl rfl (DW.m 1000 rfl (DW.bS pQ ?_))
     refine WR.exit (WIr.again (WLr.weak ?_ ih))
     refine SW.aQ ?_ ?_
     ·exact tQ
     ·exact lQ
theorem aVu{QN:S→Prop}{QX:X→S→Prop}(l:List Tz)(hl:l.length<20000)(p:Int)(nm:List Nat):∀(n:Nat) (acc:List Pm) (a:Nat),a≤l.length→acc.length≤a→(fTo l (iW l) n acc a).bA=false→
  (∀fs a',fTo l (iW l) n acc a=.ok fs a'→∀tm lc,TellT tm (tdS p nm fs) aPt→TellL lc (tdS p nm fs)→QX (.exit 0) (SL.toS ⟨tm,[],none,nxG fs,(1000,frO l a')::vI fs,lc⟩))→
  (∀a' d q c,fTo l (iW l) n acc a=.er a' d q c→∀s:S,s.df=[]→s.u=none→(∀b,b<1001→og (frL l a') b=s.h.ob b)→QX (.panic (dB q c)) s)→
  WLr Go.Proofs.Tryz.prog [] ⟨Go.Proofs.Tryz.f43.ntmps,none,43⟩ tO (SL.toS ⟨aPt,[],none,nxG acc,(1000,frO l a)::vI acc,tdS p nm acc⟩) QN QX:=by
 intro n
 have hl':l.length<4294967296:=by omega
 induction n with
 |zero=>intro acc a _ _ ho;cases ho
 |succ n ih=>
  intro acc a ha hacc ho hq he
  have sp:=pT l a hl' ha
  unfold fTo at ho hq he
  unfold tO
  refine WLr.of ?_
  repeat apply sQ
  refine WR.m 1 rfl ?_
  refine WQ.c rfl (iB (k:=4) (s:=[125]) hl' ha (by decide) rfl) (.put .base rfl) rfl ?_
  unfold isA
  cases h2:isF l a 4 [125]with
  |true=>
   rw[h2]at hq ho he
   refine WQ.q rfl ?_
   repeat apply sQ
   refine WR.aO rfl (WR.exit (hq _ _ rfl _ _ ?_ ?_))
   ·exact tQ
   ·exact lQ
  |false=>
   rw[h2]at hq ho he
   unfold iW at hq ho he
   refine WQ.q rfl ?_
   repeat apply sQ
   refine WR.aD rfl (WR.skip ?_)
   repeat apply sQ
   refine WR.block ?_
   repeat apply sQ
   refine WR.q rfl ?_
   repeat apply sQ
   refine WR.k rfl ?_
   repeat apply sQ
   refine WR.aN aZ (DW.m 1000 rfl ?_)
   cases h1:cZ l a with
   |out=>rw[h1]at ho;cases ho
   |er a1 d1 q c=>
    rw[h1]at sp he
    exact DW.aL pQ rfl rfl rfl rfl rfl (sp.er trivial (R:=1000) (by decide) rfl) (.put .base rfl) (he _ _ _ _ rfl _ rfl rfl (fun b hb=>fF acc hb))
   |ok x a1=>
    have hx:=bL h1
    rw[h1]at sp hq ho he
    simp only[R.bind]at hq ho he
    have sy:=eL l a1 hl' hx.2 [59]
    have ih:=fun a2 (h12:a1≤a2) hle ho hq he=>ih (acc++[x]) a2 hle (by have:=hx.1;simp;omega) ho hq he
    refine DW.dX pQ rfl rfl rfl rfl rfl (sp.ok trivial (tM _) (R:=1000) (by decide) rfl) (.put .base rfl) rfl ?_
    obtain⟨xn,xa,⟨xtk,xta,xtp,xtn,xtl⟩⟩:=x
    refine DW.m 1000 rfl ?_
    cases acc with
    |nil=>
     refine DW.eC pQ rfl (jN (n2:=1) (es2:=[cM ⟨xn,xa,⟨xtk,xta,xtp,xtn,xtl⟩⟩]) rfl rfl (Nat.zero_lt_one) (by simp) (by simp) (by show 96*1≤lim;decide) rfl rfl rfl rfl) rfl (DW.m 1000 rfl ?_)
     refine DW.stS pQ rfl rfl rfl rfl (DW.m 1000 rfl (DW.bS pQ ?_))
     repeat apply sQ
     refine WR.m 2 rfl ?_
     cases h3:bM l 4 [59] a1 with
     |out=>have:=bN (l:=l) (k:=4) (x:=[59]) (a:=a1);rw[h3]at this;cases this
     |er a2 d2 z c=>
      rw[h3]at sy he
      exact WQ.aL rfl rfl rfl rfl rfl (sy.er ⟨trivial,trivial⟩ (R:=1000) (by decide) rfl) (.put .base rfl) (he _ _ _ _ rfl _ rfl rfl (fun b hb=>vS rfl hb))
     |ok u a2=>
      have hm:=aM (by decide) h3
      rw[h3]at sy hq ho he
      have ih:=ih a2 (by omega) hm.2.1 ho hq he
      refine WQ.c rfl (sy.ok ⟨trivial,trivial⟩ trivial (R:=1000) (by decide) rfl) (.put .base rfl) rfl ?_
      refine WQ.q rfl ?_
      refine WIr.again (WLr.weak ?_ ih)
      refine SW.aQ ?_ ?_
      ·exact tQ
      ·exact lQ
    |cons q r=>
     refine DW.eC pQ rfl (jL (n:=(q::r).length) (n2:=(q::r++[(⟨xn,xa,⟨xtk,xta,xtp,xtn,xtl⟩⟩:Pm)]).length) (es2:=(q::r++[(⟨xn,xa,⟨xtk,xta,xtp,xtn,xtl⟩⟩:Pm)]).map cM) rfl rfl rfl (List.length_map ..).symm ?_ ?_ ?_ rfl ?_ ?_ rfl) rfl ?_
     ·intro e he
      obtain⟨y,_,rfl⟩:=List.mem_map.1 (show e∈(q::r).map cM from he)
      exact aCg y
     ·simp
     ·simp only[List.length_map,List.length_cons,List.length_nil]at hacc⊢;unfold lim;omega
     ·rw[List.map_append];rfl
     ·simp
     refine DW.m 1000 rfl ?_
     refine DW.stS pQ rfl rfl rfl rfl (DW.m 1000 rfl (DW.bS pQ ?_))
     repeat apply sQ
     refine WR.m 2 rfl ?_
     cases h3:bM l 4 [59] a1 with
     |out=>have:=bN (l:=l) (k:=4) (x:=[59]) (a:=a1);rw[h3]at this;cases this
     |er a2 d2 z c=>
      rw[h3]at sy he
      exact WQ.aL rfl rfl rfl rfl rfl (sy.er ⟨trivial,trivial⟩ (R:=1000) (by decide) rfl) (.put .base rfl) (he _ _ _ _ rfl _ rfl rfl (fun b hb=>fF (q::r++[(⟨xn,xa,⟨xtk,xta,xtp,xtn,xtl⟩⟩:Pm)]) hb))
     |ok u a2=>
      have hm:=aM (by decide) h3
      rw[h3]at sy hq ho he
      have ih:=ih a2 (by omega) hm.2.1 ho hq he
      refine WQ.c rfl (sy.ok ⟨trivial,trivial⟩ trivial (R:=1000) (by decide) rfl) (.put .base rfl) rfl ?_
      refine WQ.q rfl ?_
      refine WIr.again (WLr.weak ?_ ih)
      refine SW.aQ ?_ ?_
      ·exact tQ
      ·exact lQ
end Go.VM
end
section
/- Files: declarations of types. -/
set_option maxRecDepth 100000
namespace Go.VM
open Go.RowKit
def aUf:List Nat:=[105,110,116,101,114,102,97,99,101]
def aNd:List Nat:=[115,116,114,117,99,116]
def dK(l:List Tz)(m a:Nat):R Dx:=(fName l a).bind fun t a1=>match isF l a1 5 aUf with
 |true=>(bM l 4 [123] (a1+1)).bind fun _ a2=>(fTo l (dJ l m) m [] a2).bind fun ms a3=>.ok ⟨2,t.a,aFm l a3,t.t,false,zPm,[],[],ms,false,zT,[]⟩ a3
 |false=>(bM l 5 aNd a1).bind fun _ a2=>(bM l 4 [123] a2).bind fun _ a3=>(fTo l (iW l) m [] a3).bind fun fs a4=>.ok ⟨1,t.a,aFm l a4,t.t,false,zPm,[],fs,[],false,zT,[]⟩ a4
theorem tA{l:List Tz}{m a:Nat}{x:Dx}{a':Nat}(h:dK l m a=.ok x a'):a<a'∧a'≤l.length:=by
 obtain⟨t,a1,h1,h⟩:=R.aA h
 have q1:=cK h1
 split at h
 ·obtain⟨_,a2,h2,h⟩:=R.aA h
  obtain⟨ms,a3,h3,h⟩:=R.aA h
  cases h
  have q2:=aM (by decide) h2
  have q3:=kW (fun _ _ _ _=>fL) _ _ _ _ _ q2.2.1 h3
  omega
 ·obtain⟨_,a2,h2,h⟩:=R.aA h
  obtain⟨_,a3,h3,h⟩:=R.aA h
  obtain⟨fs,a4,h4,h⟩:=R.aA h
  cases h
  have q2:=aM (by decide) h2
  have q3:=aM (by decide) h3
  have q4:=kW (fun _ _ _ _=>fV) _ _ _ _ _ q3.2.1 h4
  omega
theorem wR{l:List Tz}{m a:Nat}(hm:l.length<m):(dK l m a).bA=false:=by
 refine R.aS iL fun t a1 h1=>?_
 split
 ·exact R.aS bN fun _ a2 h2=>R.aS (aBt (fun _ _ _ _=>fL) (fun _ ha=>aAq ha hm) _ _ _ (aM (by decide) h2).2.1 (by omega)) fun _ _ _=>rfl
 ·exact R.aS bN fun _ a2 h2=>R.aS bN fun _ a3 h3=>R.aS (aBt (fun _ _ _ _=>fV) (fun _ ha=>aFh) _ _ _ (aM (by decide) h3).2.1 (by omega)) fun _ _ _=>rfl
theorem aJi(l:List Tz)(hl:l.length<20000)(m a:Nat)(ha:a≤l.length):Fp 43 [] l a yJ (dK l m a):=by
 intro ho
 have hl':l.length<4294967296:=by omega
 generalize hF:dK l m a=F at ho⊢
 unfold dK aUf aNd at hF
 refine SCall.aJ (fn:=Go.Proofs.Tryz.f43) (by kernel_rfl) bMk (by kernel_rfl) (by kernel_rfl) (Nat.le_refl _) rfl (cR _ _) (by exact lP ho (fun x _=>qN x)) ?_
 unfold bIj
 repeat apply sQ
 refine WR.q rfl ?_
 repeat apply sQ
 refine WR.m 1 rfl ?_
 have s1:=jH l a hl' ha
 cases h1:fName l a with
 |out=>rw[h1]at hF;subst hF;cases ho
 |er a1 d1 p c=>
  rw[h1]at hF s1
  subst hF
  exact WQ.aL rfl rfl rfl rfl rfl (s1.er trivial (R:=1000) (by decide) rfl) (.put .base rfl) ⟨rfl,rfl,rfl,fun b hb=>rfl⟩
 |ok t b1=>
 rw[h1]at hF s1
 simp only[R.bind]at hF
 refine WQ.c rfl (s1.ok trivial (lO _) (R:=1000) (by decide) rfl) (.put .base rfl) rfl ?_
 have q1:=cK h1
 obtain⟨tk,ta,te,tt⟩:=t
 refine WQ.q rfl ?_
 repeat apply sQ
 refine WR.q rfl ?_
 repeat apply sQ
 refine WR.m 1 rfl ?_
 refine WQ.c rfl (iB (k:=5) (s:=[105,110,116,101,114,102,97,99,101]) hl' q1.2.1 (by decide) rfl) (.put .base rfl) rfl ?_
 unfold isA
 cases h2:isF l b1 5 [105,110,116,101,114,102,97,99,101]with
 |true=>
  have hlt:=bI h2 (by decide)
  rw[h2]at hF
  refine WQ.q rfl ?_
  repeat apply sQ
  refine WR.aD rfl ?_
  repeat apply sQ
  refine WR.q rfl ?_
  unfold aDs
  repeat apply sQ
  refine WR.m 1 rfl ?_
  have s2:=eL l (b1+1) hl' hlt [123]
  dsimp only at hF
  cases h3:bM l 4 [123] (b1+1)with
  |out=>rw[h3]at hF;subst hF;cases ho
  |er a1 d1 p c=>
   rw[h3]at hF s2
   subst hF
   exact WQ.aL rfl rfl rfl rfl rfl (s2.er ⟨trivial,trivial⟩ (R:=1000) (by decide) rfl) (.put .base rfl) ⟨rfl,rfl,rfl,fun b hb=>rfl⟩
  |ok u b2=>
  rw[h3]at hF s2
  simp only[R.bind]at hF
  refine WQ.c rfl (s2.ok ⟨trivial,trivial⟩ trivial (R:=1000) (by decide) rfl) (.put .base rfl) rfl ?_
  have q2:=aM (by decide) h3
  refine WQ.q rfl ?_
  repeat apply sQ
  have kn:(fTo l (dJ l m) m [] b2).bA=false:=by
   cases h4:fTo l (dJ l m) m [] b2 with
   |out=>rw[h4]at hF;subst hF;cases ho
   |er _ _ _ _=>rfl
   |ok _ _=>rfl
  refine WR.block (WR.loop (WLr.weak (s:=SL.toS ⟨aPt,[],none,nxG ([]:List Mx),(1000,frO l b2)::vI ([]:List Mx),tdI ta tt []⟩) ?_ (aZv l hl m ta tt m [] b2 q2.2.1 (Nat.zero_le _) kn (fun ms b3 h4 tm lc htm hlc=>?_) (fun b3 d q c h4 s g1 g2 g3=>?_))))
  ·refine SW.aQ ?_ ?_
   ·exact tQ
   ·exact lQ
  ·have q3:=kW (fun _ _ _ _=>fL) _ _ _ _ _ q2.2.1 h4
   rw[h4]at hF
   subst hF
   obtain⟨c,hc⟩:=aMg cU ms
   unfold tdI at htm hlc
   rw[hc]at htm hlc
   refine WR.weak (SW.aQ htm hlc) ?_
   unfold aCt
   repeat apply sQ
   refine WR.m 1 rfl ?_
   refine WQ.c rfl (aEz (l:=l) (a:=b3) hl' q3.2 (by omega) (by decide) rfl) .base rfl ?_
   refine WQ.q rfl ?_
   repeat apply sQ
   refine WR.q rfl ?_
   exact WR.ret ⟨rfl,rfl,⟨_,rfl,by repeat(first|exact VLe.refl _|exact VLe.unk _ _|exact lG _ _|refine VLe.tup ?_|refine VLe.agg ?_|exact VLL.nil|refine VLL.cons ?_ ?_)⟩,fun b hb=>fF ms hb⟩
  ·rw[h4]at hF
   subst hF
   exact⟨rfl,g1,g2,g3⟩
 |false=>
  rw[h2]at hF
  dsimp only at hF
  refine WQ.q rfl ?_
  refine WR.aO rfl ?_
  repeat apply sQ
  refine WR.m 1 rfl ?_
  have s2:=rT l b1 hl' q1.2.1 5 [115,116,114,117,99,116]
  cases h3:bM l 5 [115,116,114,117,99,116] b1 with
  |out=>rw[h3]at hF;subst hF;cases ho
  |er a1 d1 p c=>
   rw[h3]at hF s2
   subst hF
   exact WQ.aL rfl rfl rfl rfl rfl (s2.er ⟨trivial,trivial,trivial⟩ (R:=1000) (by decide) rfl) (.put .base rfl) ⟨rfl,rfl,rfl,fun b hb=>rfl⟩
  |ok u b2=>
  rw[h3]at hF s2
  simp only[R.bind]at hF
  refine WQ.c rfl (s2.ok ⟨trivial,trivial,trivial⟩ trivial (R:=1000) (by decide) rfl) (.put .base rfl) rfl ?_
  have q2:=aM (by decide) h3
  refine WQ.q rfl ?_
  unfold aDs
  repeat apply sQ
  refine WR.m 1 rfl ?_
  have s3:=eL l b2 hl' q2.2.1 [123]
  cases h4:bM l 4 [123] b2 with
  |out=>rw[h4]at hF;subst hF;cases ho
  |er a1 d1 p c=>
   rw[h4]at hF s3
   subst hF
   exact WQ.aL rfl rfl rfl rfl rfl (s3.er ⟨trivial,trivial⟩ (R:=1000) (by decide) rfl) (.put .base rfl) ⟨rfl,rfl,rfl,fun b hb=>rfl⟩
  |ok u2 b3=>
  rw[h4]at hF s3
  simp only[R.bind]at hF
  refine WQ.c rfl (s3.ok ⟨trivial,trivial⟩ trivial (R:=1000) (by decide) rfl) (.put .base rfl) rfl ?_
  have q3:=aM (by decide) h4
  refine WQ.q rfl ?_
  repeat apply sQ
  have kn:(fTo l (iW l) m [] b3).bA=false:=by
   cases h5:fTo l (iW l) m [] b3 with
   |out=>rw[h5]at hF;subst hF;cases ho
   |er _ _ _ _=>rfl
   |ok _ _=>rfl
  refine WR.block (WR.loop (WLr.weak (s:=SL.toS ⟨aPt,[],none,nxG ([]:List Pm),(1000,frO l b3)::vI ([]:List Pm),tdS ta tt []⟩) ?_ (aVu l hl ta tt m [] b3 q3.2.1 (Nat.zero_le _) kn (fun fs b4 h5 tm lc htm hlc=>?_) (fun b4 d q c h5 s g1 g2 g3=>?_))))
  ·refine SW.aQ ?_ ?_
   ·exact tQ
   ·exact lQ
  ·have q4:=kW (fun _ _ _ _=>fV) _ _ _ _ _ q3.2.1 h5
   rw[h5]at hF
   subst hF
   obtain⟨c,hc⟩:=aMg cM fs
   unfold tdS at htm hlc
   rw[hc]at htm hlc
   refine WR.weak (SW.aQ htm hlc) ?_
   unfold aCt
   repeat apply sQ
   refine WR.m 1 rfl ?_
   refine WQ.c rfl (aEz (l:=l) (a:=b4) hl' q4.2 (by omega) (by decide) rfl) .base rfl ?_
   refine WQ.q rfl ?_
   repeat apply sQ
   refine WR.q rfl ?_
   exact WR.ret ⟨rfl,rfl,⟨_,rfl,by repeat(first|exact VLe.refl _|exact VLe.unk _ _|exact lG _ _|refine VLe.tup ?_|refine VLe.agg ?_|exact VLL.nil|refine VLL.cons ?_ ?_)⟩,fun b hb=>fF fs hb⟩
  ·rw[h5]at hF
   subst hF
   exact⟨rfl,g1,g2,g3⟩
end Go.VM
end
section
/- Files: declarations of functions. -/
set_option maxRecDepth 100000
namespace Go.VM
open Go.RowKit
def stR(r:R (List Sx)):V:=match r with
 |.ok b n=>.tup [.lst (fW b) .unk,.int .i64 n,.agg (dgX 0 0)]
 |.er _ _ p c=>.tup [.lst [] (.ex 0),.int .i64 0,.agg (dgX p c)]
 |.out=>.bool false
structure StmOk(l:List Tz)(S:Nat→R (List Sx)):Prop where
 sp:∀a,a≤l.length→∀h:H,SCall Go.Proofs.Tryz.prog [] 79 [lsV l,.int .i64 a] none h (.ret (stR (S a))) none h
 known:∀a,a≤l.length→(S a).bA=false
 ok:∀a x n,a≤l.length→S a=.ok x n→a<n∧n≤l.length
 er:∀a a1 d p c,S a=.er a1 d p c→c≠0
def lA(l:List Tz)(S:Nat→R (List Sx))(p:Int)(nm:List Nat)(mt:Bool)(rv:Pm)(bs fs:List Pm)(has:Bool)(res:Tx)(a:Nat):R Dx:=match S a with
 |.ok b n=>.ok ⟨3,p,aFm l n,nm,mt,rv,bs,fs,[],has,res,b⟩ n
 |.er _ _ q c=>.er a 0 q c
 |.out=>.out
def fJ3(l:List Tz)(S:Nat→R (List Sx))(m:Nat)(p:Int)(nm:List Nat)(mt:Bool)(rv:Pm)(bs:List Pm)(a:Nat):R Dx:=
 (bM l 4 [40] a).bind fun _ a1=>(bH l (cZ l) [41] true m a1).bind fun fs a2=>(oO l [123] a2).bind fun r a3=>lA l S p nm mt rv bs fs r.1 r.2 a3
def fJ4(l:List Tz)(S:Nat→R (List Sx))(m:Nat)(mt:Bool)(rv:Pm)(a:Nat):R Dx:=(fName l a).bind fun t a1=>match isF l a1 4 [91]with
 |true=>(bH l (cZ l) [93] false m (a1+1)).bind fun bs a2=>fJ3 l S m t.a t.t mt rv bs a2
 |false=>fJ3 l S m t.a t.t mt rv [] a1
def gU(l:List Tz)(S:Nat→R (List Sx))(m a:Nat):R Dx:=match isF l a 4 [40]with
 |true=>(cZ l (a+1)).bind fun p a1=>(bM l 4 [41] a1).bind fun _ a2=>fJ4 l S m true p a2
 |false=>fJ4 l S m false zPm a
section
variable{l:List Tz}{S:Nat→R (List Sx)}
theorem aGr(hS:StmOk l S){p nm mt rv bs fs has res a x a'}(ha:a≤l.length)(h:lA l S p nm mt rv bs fs has res a=.ok x a'):a<a'∧a'≤l.length:=by
 unfold lA at h
 cases h1:S a with
 |out=>rw[h1]at h;cases h
 |er _ _ _ _=>rw[h1]at h;cases h
 |ok b n=>rw[h1]at h;cases h;exact hS.ok _ _ _ ha h1
theorem aIr(hS:StmOk l S){p nm mt rv bs fs has res a}(ha:a≤l.length):(lA l S p nm mt rv bs fs has res a).bA=false:=by
 unfold lA
 have:=hS.known a ha
 cases h1:S a with
 |out=>rw[h1]at this;cases this
 |er _ _ _ _=>rfl
 |ok b n=>rfl
theorem aEv(hS:StmOk l S){m p nm mt rv bs a x a'}(h:fJ3 l S m p nm mt rv bs a=.ok x a'):a<a'∧a'≤l.length:=by
 obtain⟨_,a1,h1,h⟩:=R.aA h
 obtain⟨fs,a2,h2,h⟩:=R.aA h
 obtain⟨r,a3,h3,h⟩:=R.aA h
 have q1:=aM (by decide) h1
 have q2:=cP (fun _ _ _=>bL) h2
 have q3:=qJ q2.2 h3
 have q4:=aGr hS q3.2 h
 omega
theorem aCc(hS:StmOk l S){m p nm mt rv bs a}(hm:l.length<m):(fJ3 l S m p nm mt rv bs a).bA=false:=
 R.aS bN fun _ _ h1=>R.aS (lC (fun _ _ _=>bL) (fun _ _=>kD) (aM (by decide) h1).2.1 hm) fun _ _ h2=>R.aS aAc fun _ _ h3=>aIr hS (qJ (cP (fun _ _ _=>bL) h2).2 h3).2
theorem aMa(hS:StmOk l S){m mt rv a x a'}(h:fJ4 l S m mt rv a=.ok x a'):a<a'∧a'≤l.length:=by
 obtain⟨t,a1,h1,h⟩:=R.aA h
 have q1:=cK h1
 split at h
 ·obtain⟨bs,a2,h2,h⟩:=R.aA h
  have q2:=cP (fun _ _ _=>bL) h2
  have:=aEv hS h
  omega
 ·have:=aEv hS h
  omega
theorem aCa(hS:StmOk l S){m mt rv a}(hm:l.length<m):(fJ4 l S m mt rv a).bA=false:=by
 refine R.aS iL fun t a1 h1=>?_
 split
 ·rename_i h2
  exact R.aS (lC (fun _ _ _=>bL) (fun _ _=>kD) (bI h2 (by decide)) hm) fun _ _ _=>aCc hS hm
 ·exact aCc hS hm
theorem xZ(hS:StmOk l S){m a x a'}(h:gU l S m a=.ok x a'):a<a'∧a'≤l.length:=by
 unfold gU at h
 split at h
 ·obtain⟨p,a1,h1,h⟩:=R.aA h
  obtain⟨_,a2,h2,h⟩:=R.aA h
  have:=bL h1
  have:=aM (by decide) h2
  have:=aMa hS h
  omega
 ·exact aMa hS h
theorem aHz(hS:StmOk l S){m a}(hm:l.length<m):(gU l S m a).bA=false:=by
 unfold gU
 split
 ·exact R.aS kD fun _ _ _=>R.aS bN fun _ _ _=>aCa hS hm
 ·exact aCa hS hm
end
def bFt:TM:=[(0,.v (.ptr 1000 0)),(2,.l 2 0),(3,.l 3 0)]
def aQp(p:Int)(nm:List Nat)(mt:Bool)(rv:Pm)(bs fs:List Pm)(has:Bool)(res:Tx):LM:=[(2,zDx),(3,dC 3 p 0 nm mt (cM rv) (iG cM bs) (iG cM fs) cV has (cD res) cV)]
theorem bEt{l:List Tz}{S:Nat→R (List Sx)}(hS:StmOk l S)(hl:l.length<20000){p:Int}{nm:List Nat}{mt:Bool}{rv:Pm}{bs fs:List Pm}{has:Bool}{res:Tx}{a:Nat}(ha:a≤l.length){F:R Dx}(hF:lA l S p nm mt rv bs fs has res a=F){tm:TM}{lc:LM}(htm:TellT tm (aQp p nm mt rv bs fs has res) bFt)(hlc:TellL lc (aQp p nm mt rv bs fs has res)):
  WR Go.Proofs.Tryz.prog [] ⟨Go.Proofs.Tryz.f44.ntmps,none,44⟩ aEy (SL.toS ⟨tm,[],none,1001,[(1000,frO l a)],lc⟩) (aAx Go.Proofs.Tryz.prog Go.Proofs.Tryz.f44 (F.pL yJ) 1001 (frL l F.at')) (aAu Go.Proofs.Tryz.prog Go.Proofs.Tryz.f44 (F.pL yJ) 1001 (frL l F.at')):=by
 have hl':l.length<4294967296:=by omega
 refine WR.weak (SW.aQ htm hlc) ?_
 have sp:=hS.sp a ha
 have kn:=hS.known a ha
 have er:=hS.er a
 have ok:=hS.ok a
 unfold lA at hF
 obtain⟨rn,ra,⟨rtk,rta,rtp,rtn,rtl⟩⟩:=rv
 obtain⟨ytk,yta,ytp,ytn,ytl⟩:=res
 unfold aEy
 repeat apply sQ
 refine WR.aN aZ (DW.m 1000 rfl ?_)
 cases hs:S a with
 |out=>rw[hs]at kn;cases kn
 |er a1 d1 q c=>
  rw[hs]at hF sp
  subst hF
  refine DW.dX pQ rfl rfl rfl rfl rfl (sp _) .base rfl (DW.m 1000 rfl ?_)
  refine DW.stS pQ rfl rfl rfl rfl (DW.m 1000 rfl (DW.bS pQ ?_))
  repeat apply sQ
  refine WR.m 3 rfl ?_
  rw[show decide (c=0)=false from decide_eq_false (er _ _ _ _ hs)]
  refine WQ.q rfl ?_
  repeat apply sQ
  refine WR.aD rfl ?_
  repeat apply sQ
  refine WR.m 2 rfl ?_
  refine WQ.aXn rfl rfl rfl ⟨rfl,rfl,rfl,fun b hb=>vS rfl hb⟩
 |ok bd n=>
  have q:=ok _ _ ha hs
  rw[hs]at hF sp
  subst hF
  refine DW.dX pQ rfl rfl rfl rfl rfl (sp _) .base rfl (DW.m 1000 rfl ?_)
  refine DW.stS pQ rfl rfl rfl rfl (DW.m 1000 rfl (DW.bS pQ ?_))
  repeat apply sQ
  refine WR.q rfl ?_
  repeat apply sQ
  refine WR.k rfl ?_
  unfold aOm
  repeat apply sQ
  refine WR.q rfl ?_
  repeat apply sQ
  refine WR.m 2 rfl ?_
  refine WQ.c rfl (aEz (l:=l) (a:=n) hl' q.2 (by omega) (by decide) rfl) .base rfl ?_
  refine WQ.q rfl ?_
  repeat apply sQ
  refine WR.q rfl ?_
  exact WR.ret ⟨rfl,rfl,⟨_,rfl,by repeat(first|exact VLe.refl _|exact VLe.unk _ _|exact lG _ _|refine VLe.tup ?_|refine VLe.agg ?_|exact VLL.nil|refine VLL.cons ?_ ?_)⟩,fun b hb=>vS rfl hb⟩
theorem bEk{l:List Tz}{S:Nat→R (List Sx)}(hS:StmOk l S)(hl:l.length<20000){m:Nat}{p:Int}{nm:List Nat}{mt:Bool}{rv:Pm}{bs:List Pm}{a:Nat}(ha:a≤l.length){F:R Dx}(hF:fJ3 l S m p nm mt rv bs a=F)(ho:F.bA=false){tm:TM}{lc:LM}(htm:TellT tm (aQp p nm mt rv bs [] false zT) bFt)(hlc:TellL lc (aQp p nm mt rv bs [] false zT)):
  WR Go.Proofs.Tryz.prog [] ⟨Go.Proofs.Tryz.f44.ntmps,none,44⟩ aEl (SL.toS ⟨tm,[],none,1001,[(1000,frO l a)],lc⟩) (aAx Go.Proofs.Tryz.prog Go.Proofs.Tryz.f44 (F.pL yJ) 1001 (frL l F.at')) (aAu Go.Proofs.Tryz.prog Go.Proofs.Tryz.f44 (F.pL yJ) 1001 (frL l F.at')):=by
 have hl':l.length<4294967296:=by omega
 refine WR.weak (SW.aQ htm hlc) ?_
 unfold fJ3 at hF
 obtain⟨rn,ra,⟨rtk,rta,rtp,rtn,rtl⟩⟩:=rv
 unfold aEl
 repeat apply sQ
 refine WR.m 1 rfl ?_
 have s2:=eL l a hl' ha [40]
 cases h2:bM l 4 [40] a with
 |out=>rw[h2]at hF;subst hF;cases ho
 |er a1 d1 p c=>
  rw[h2]at hF s2
  subst hF
  exact WQ.aL rfl rfl rfl rfl rfl (s2.er ⟨trivial,trivial⟩ (R:=1000) (by decide) rfl) (.put .base rfl) ⟨rfl,rfl,rfl,fun b hb=>rfl⟩
 |ok u b2=>
 rw[h2]at hF s2
 simp only[R.bind]at hF
 refine WQ.c rfl (s2.ok ⟨trivial,trivial⟩ trivial (R:=1000) (by decide) rfl) (.put .base rfl) rfl ?_
 have q2:=aM (by decide) h2
 refine WQ.q rfl ?_
 repeat apply sQ
 refine WR.m 3 rfl ?_
 have s3:=aAe l hl [41] true m b2 q2.2.1
 cases h3:bH l (cZ l) [41] true m b2 with
 |out=>rw[h3]at hF;subst hF;cases ho
 |er a1 d1 p c=>
  rw[h3]at hF s3
  subst hF
  exact WQ.aL rfl rfl rfl rfl rfl (nU (r:=.pan (dB p c)) (s3 rfl) ⟨(by show 1000<1001;decide),trivial,trivial,⟨trivial,⟨(by show 1000<1001;decide),trivial⟩,trivial⟩,trivial⟩ bB (R:=1000) (by decide) rfl (fun ρ e=>by simp only[dI,V.ren,wI,e]<;>rfl)) (.put .base rfl) ⟨rfl,rfl,rfl,fun b hb=>rfl⟩
 |ok fs b3=>
 rw[h3]at hF s3
 simp only[R.bind]at hF
 refine WQ.c rfl (nU (r:=.ret _) (s3 rfl) ⟨(by show 1000<1001;decide),trivial,trivial,⟨trivial,⟨(by show 1000<1001;decide),trivial⟩,trivial⟩,trivial⟩ (eP jD _) (R:=1000) (by decide) rfl (fun ρ e=>by simp only[dI,V.ren,wI,e]<;>rfl)) (.put .base rfl) rfl ?_
 have q3:=cP (fun a x a1=>bL) h3
 refine WQ.q rfl ?_
 repeat apply sQ
 refine WR.m 1 rfl ?_
 refine WQ.c rfl (uS (l:=l) (a:=b3) (k:=4) (s:=[123]) hl' (by decide) rfl) .base rfl ?_
 unfold oO at hF
 cases h4:isF l b3 4 [123]with
 |true=>
  rw[h4]at hF
  simp only[R.bind]at hF
  refine WQ.q rfl ?_
  repeat apply sQ
  refine WR.q rfl ?_
  repeat apply sQ
  refine WR.k rfl ?_
  refine bEt hS hl q3.2 hF ?_ ?_
  ·exact tQ
  ·exact lQ
 |false=>
  rw[h4]at hF
  refine WQ.q rfl ?_
  repeat apply sQ
  refine WR.q rfl ?_
  repeat apply sQ
  refine WR.aD rfl ?_
  repeat apply sQ
  refine WR.m 1 rfl ?_
  have s4:=lZ l b3 hl' q3.2
  simp only[R.bind]at hF
  cases h6:cC l b3 with
  |out=>rw[h6]at hF;subst hF;cases ho
  |er a1 d1 p c=>
   rw[h6]at hF s4
   subst hF
   exact WQ.aL rfl rfl rfl rfl rfl (s4.er trivial (R:=1000) (by decide) rfl) (.put .base rfl) ⟨rfl,rfl,rfl,fun b hb=>rfl⟩
  |ok x b4=>
  rw[h6]at hF s4
  simp only[R.bind]at hF
  refine WQ.c rfl (s4.ok trivial (qH _) (R:=1000) (by decide) rfl) (.put .base rfl) rfl ?_
  have q4:=dS h6
  obtain⟨xk,xa,xp,xn,xl⟩:=x
  refine WQ.q rfl ?_
  refine bEt hS hl q4.2 hF ?_ ?_
  ·exact tQ
  ·exact lQ
theorem bEc{l:List Tz}{S:Nat→R (List Sx)}(hS:StmOk l S)(hl:l.length<20000){m:Nat}{mt:Bool}{rv:Pm}{a:Nat}(ha:a≤l.length){F:R Dx}(hF:fJ4 l S m mt rv a=F)(ho:F.bA=false){tm:TM}{lc:LM}(htm:TellT tm (aQp 0 [] mt rv [] [] false zT) bFt)(hlc:TellL lc (aQp 0 [] mt rv [] [] false zT)):
  WR Go.Proofs.Tryz.prog [] ⟨Go.Proofs.Tryz.f44.ntmps,none,44⟩ aDh (SL.toS ⟨tm,[],none,1001,[(1000,frO l a)],lc⟩) (aAx Go.Proofs.Tryz.prog Go.Proofs.Tryz.f44 (F.pL yJ) 1001 (frL l F.at')) (aAu Go.Proofs.Tryz.prog Go.Proofs.Tryz.f44 (F.pL yJ) 1001 (frL l F.at')):=by
 have hl':l.length<4294967296:=by omega
 refine WR.weak (SW.aQ htm hlc) ?_
 unfold fJ4 at hF
 obtain⟨rn,ra,⟨rtk,rta,rtp,rtn,rtl⟩⟩:=rv
 unfold aDh
 repeat apply sQ
 refine WR.m 1 rfl ?_
 have s1:=jH l a hl' ha
 cases h1:fName l a with
 |out=>rw[h1]at hF;subst hF;cases ho
 |er a1 d1 p c=>
  rw[h1]at hF s1
  subst hF
  exact WQ.aL rfl rfl rfl rfl rfl (s1.er trivial (R:=1000) (by decide) rfl) (.put .base rfl) ⟨rfl,rfl,rfl,fun b hb=>rfl⟩
 |ok t b1=>
 rw[h1]at hF s1
 simp only[R.bind]at hF
 refine WQ.c rfl (s1.ok trivial (lO _) (R:=1000) (by decide) rfl) (.put .base rfl) rfl ?_
 have q1:=cK h1
 obtain⟨tk,ta,te,tt⟩:=t
 refine WQ.q rfl ?_
 repeat apply sQ
 refine WR.aN aZ (DW.m 1000 rfl ?_)
 refine DW.stS pQ rfl rfl rfl rfl (DW.m 1000 rfl ?_)
 refine DW.stS pQ rfl rfl rfl rfl (DW.m 1000 rfl (DW.bS pQ ?_))
 repeat apply sQ
 refine WR.m 1 rfl ?_
 refine WQ.c rfl (iB (k:=4) (s:=[91]) hl' q1.2.1 (by decide) rfl) (.put .base rfl) rfl ?_
 unfold isA
 cases h2:isF l b1 4 [91]with
 |true=>
  have hlt:=bI h2 (by decide)
  rw[h2]at hF
  dsimp only at hF
  refine WQ.q rfl ?_
  repeat apply sQ
  refine WR.aD rfl ?_
  repeat apply sQ
  refine WR.m 3 rfl ?_
  have s3:=aAe l hl [93] false m (b1+1) hlt
  cases h3:bH l (cZ l) [93] false m (b1+1)with
  |out=>rw[h3]at hF;subst hF;cases ho
  |er a1 d1 p c=>
   rw[h3]at hF s3
   subst hF
   exact WQ.aL rfl rfl rfl rfl rfl (nU (r:=.pan (dB p c)) (s3 rfl) ⟨(by show 1000<1001;decide),trivial,trivial,⟨trivial,⟨(by show 1000<1001;decide),trivial⟩,trivial⟩,trivial⟩ bB (R:=1000) (by decide) rfl (fun ρ e=>by simp only[dI,V.ren,wI,e]<;>rfl)) (.put .base rfl) ⟨rfl,rfl,rfl,fun b hb=>rfl⟩
  |ok bs b3=>
  rw[h3]at hF s3
  simp only[R.bind]at hF
  refine WQ.c rfl (nU (r:=.ret _) (s3 rfl) ⟨(by show 1000<1001;decide),trivial,trivial,⟨trivial,⟨(by show 1000<1001;decide),trivial⟩,trivial⟩,trivial⟩ (eP jD _) (R:=1000) (by decide) rfl (fun ρ e=>by simp only[dI,V.ren,wI,e]<;>rfl)) (.put .base rfl) rfl ?_
  have q3:=cP (fun a x a1=>bL) h3
  refine WQ.q rfl ?_
  refine bEk hS hl q3.2 hF ho ?_ ?_
  ·exact tQ
  ·exact lQ
 |false=>
  rw[h2]at hF
  refine WQ.q rfl ?_
  repeat apply sQ
  refine WR.k rfl ?_
  refine bEk hS hl q1.2.1 hF ho ?_ ?_
  ·exact tQ
  ·exact lQ
theorem aLs{l:List Tz}{S:Nat→R (List Sx)}(hS:StmOk l S)(hl:l.length<20000)(m a:Nat)(ha:a≤l.length):Fp 44 [] l a yJ (gU l S m a):=by
 intro ho
 have hl':l.length<4294967296:=by omega
 generalize hF:gU l S m a=F at ho⊢
 unfold gU at hF
 refine SCall.aJ (fn:=Go.Proofs.Tryz.f44) (by kernel_rfl) bKj (by kernel_rfl) (by kernel_rfl) (Nat.le_refl _) rfl (cR _ _) (by exact lP ho (fun x _=>qN x)) ?_
 unfold bJd
 repeat apply sQ
 refine WR.q rfl ?_
 repeat apply sQ
 refine WR.q rfl ?_
 repeat apply sQ
 refine WR.m 1 rfl ?_
 refine WQ.c rfl (iB (k:=4) (s:=[40]) hl' ha (by decide) rfl) (.put .base rfl) rfl ?_
 unfold isA
 cases h1:isF l a 4 [40]with
 |true=>
  have hlt:=bI h1 (by decide)
  rw[h1]at hF
  dsimp only at hF
  refine WQ.q rfl ?_
  repeat apply sQ
  refine WR.aD rfl ?_
  repeat apply sQ
  refine WR.m 1 rfl ?_
  have s1:=pT l (a+1) hl' hlt
  cases h2:cZ l (a+1)with
  |out=>rw[h2]at hF;subst hF;cases ho
  |er a1 d1 p c=>
   rw[h2]at hF s1
   subst hF
   exact WQ.aL rfl rfl rfl rfl rfl (s1.er trivial (R:=1000) (by decide) rfl) (.put .base rfl) ⟨rfl,rfl,rfl,fun b hb=>rfl⟩
  |ok rv b1=>
  rw[h2]at hF s1
  simp only[R.bind]at hF
  refine WQ.c rfl (s1.ok trivial (tM _) (R:=1000) (by decide) rfl) (.put .base rfl) rfl ?_
  have q1:=bL h2
  obtain⟨rn,ra,⟨rtk,rta,rtp,rtn,rtl⟩⟩:=rv
  refine WQ.q rfl ?_
  repeat apply sQ
  refine WR.m 1 rfl ?_
  have s2:=eL l b1 hl' q1.2 [41]
  cases h3:bM l 4 [41] b1 with
  |out=>rw[h3]at hF;subst hF;cases ho
  |er a1 d1 p c=>
   rw[h3]at hF s2
   subst hF
   exact WQ.aL rfl rfl rfl rfl rfl (s2.er ⟨trivial,trivial⟩ (R:=1000) (by decide) rfl) (.put .base rfl) ⟨rfl,rfl,rfl,fun b hb=>rfl⟩
  |ok u b2=>
  rw[h3]at hF s2
  simp only[R.bind]at hF
  refine WQ.c rfl (s2.ok ⟨trivial,trivial⟩ trivial (R:=1000) (by decide) rfl) (.put .base rfl) rfl ?_
  have q2:=aM (by decide) h3
  refine WQ.q rfl ?_
  refine bEc hS hl q2.2.1 hF ho ?_ ?_
  ·exact tQ
  ·refine .cons rfl (.inl rfl) (.cons rfl (.inr cQ) .nil)
 |false=>
  rw[h1]at hF
  refine WQ.q rfl ?_
  repeat apply sQ
  refine WR.k rfl ?_
  refine bEc hS hl ha hF ho ?_ ?_
  ·exact tQ
  ·refine .cons rfl (.inl rfl) (.cons rfl (.inr cQ) .nil)
end Go.VM
end
