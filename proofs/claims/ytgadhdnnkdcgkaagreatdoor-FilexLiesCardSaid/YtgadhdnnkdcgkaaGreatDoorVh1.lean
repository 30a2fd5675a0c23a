/- laid for this seat: VfD VfE VfF VfG -/
import Derived.Test.YtgadhdnnkdcgkaaGreatDoorVh0
set_option linter.unusedVariables false
set_option linter.unusedSimpArgs false
section
/- Files: methods. -/
set_option maxRecDepth 100000
namespace Go.VM
open Go.RowKit
structure Mx where
 n:List Nat
 a:Int
 ps:List Tx
 has:Bool
 res:Tx
def qT(x:Mx):List V:=[.str x.n,.int .i64 x.a,jX gI x.ps,.bool x.has]++gI x.res
def bDy(x:Mx):V:=.agg (qT x)
theorem aDu{D:Nat→Prop}:∀x:Mx,Ins D (qT x)
 |⟨n,a,ps,h,.mk k b q m l⟩=>⟨trivial,trivial,eY jI ps,trivial,trivial,trivial,trivial,trivial,⟨eV l,trivial⟩,trivial⟩
theorem aKn{D:Nat→Prop}(x:Mx):(bDy x).In D:=aDu x
theorem aNk:∀x:Mx,(qT x).length=9
 |⟨n,a,ps,h,.mk k b q m l⟩=>rfl
def xQ(l:List Tz)(to:List Nat)(a:Nat):R (Bool×Tx):=match isF l a 4 to with
 |true=>.ok (false,zT) a
 |false=>(cJ l a).bind fun x a1=>.ok (true,x) a1
theorem uI{l:List Tz}{to:List Nat}{a:Nat}(ha:a≤l.length){r:Bool×Tx}{a1:Nat}(h:xQ l to a=.ok r a1):a≤a1∧a1≤l.length:=by
 unfold xQ at h
 split at h
 ·cases h;exact⟨Nat.le_refl _,ha⟩
 ·cases h1:cJ l a with
  |out=>rw[h1]at h;cases h
  |er _ _ _ _=>rw[h1]at h;cases h
  |ok x a2=>
   rw[h1]at h
   have:=eS h1
   cases h
   omega
def eZ(l:List Tz)(m a:Nat):R Mx:=(fName l a).bind fun t a1=>(bP l 4 [40] a1).bind fun _ a2=>(bS l (cJ l) [41] true m a2).bind fun ps a3=>(xQ l [59] a3).bind fun r a4=>(bP l 4 [59] a4).bind fun _ a5=>.ok ⟨t.t,t.a,ps,r.1,r.2⟩ a5
theorem R.aF{α β:Type}{r:R α}{f:α→Nat→R β}{v:β}{a:Nat}(h:r.bind f=.ok v a):∃x a1,r=.ok x a1∧f x a1=.ok v a:=by
 cases r with
 |out=>cases h
 |er _ _ _ _=>cases h
 |ok x a1=>exact⟨x,a1,rfl,h⟩
theorem R.aO{α β:Type}{r:R α}{f:α→Nat→R β}(h:r.aU=false)(k:∀x a1,r=.ok x a1→(f x a1).aU=false):(r.bind f).aU=false:=by
 cases r with
 |out=>cases h
 |er _ _ _ _=>rfl
 |ok x a1=>exact k x a1 rfl
theorem aEw{l:List Tz}{a:Nat}:(fX l a).aU=false:=by
 unfold fX
 repeat(first|rfl|split)
theorem aMy{l:List Tz}{a:Nat}:(tyF l a).aU=false:=by
 unfold tyF
 split
 ·rfl
 ·rename_i a' ls _
  have:=aEw (l:=l) (a:=a')
  split
  ·rfl
  ·rfl
  ·rename_i h;rw[h]at this;cases this
theorem lU{l:List Tz}{a:Nat}:(cJ l a).aU=false:=by
 unfold cJ
 have:=aMy (l:=l) (a:=a)
 split
 ·rfl
 ·rfl
 ·rename_i h;rw[h]at this;cases this
theorem iU{l:List Tz}{a:Nat}:(cL l a).aU=false:=R.aO gN fun _ _ _=>R.aO lU fun _ _ _=>rfl
theorem wM{l:List Tz}{to:List Nat}{a:Nat}:(xQ l to a).aU=false:=by
 unfold xQ
 split
 ·rfl
 ·exact R.aO lU fun _ _ _=>rfl
theorem kA{l:List Tz}{m a:Nat}{x:Mx}{a':Nat}(h:eZ l m a=.ok x a'):a<a'∧a'≤l.length:=by
 obtain⟨t,a1,h1,h⟩:=R.aF h
 obtain⟨_,a2,h2,h⟩:=R.aF h
 obtain⟨ps,a3,h3,h⟩:=R.aF h
 obtain⟨r,a4,h4,h⟩:=R.aF h
 obtain⟨_,a5,h5,h⟩:=R.aF h
 cases h
 have q1:=cA h1
 have q2:=aN (by decide) h2
 have q3:=cO (fun a x a1=>eS) h3
 have q4:=uI q3.2 h4
 have q5:=aN (by decide) h5
 omega
theorem yA{l:List Tz}{m a:Nat}(ha:a≤l.length)(hm:l.length<m):(eZ l m a).aU=false:=
 R.aO gN fun _ _ h1=>R.aO bG fun _ _ h2=>R.aO (jR (fun a x a1=>eS) (fun _ _=>lU) (by have:=aN (by decide) h2;omega) hm) fun _ _ h3=>R.aO wM fun _ _ h4=>R.aO bG fun _ _ h5=>rfl
theorem aCq(l:List Tz)(hl:l.length<20000)(m a:Nat)(ha:a≤l.length):Fp 74 [] l a bDy (eZ l m a):=by
 intro ho
 have hl':l.length<4294967296:=by omega
 generalize hF:eZ l m a=F at ho⊢
 unfold eZ at hF
 refine SCall.aI (fn:=Go.Proofs.Tryz.f74) (by kernel_rfl) bFe (by kernel_rfl) (by kernel_rfl) (Nat.le_refl _) rfl (bX _ _) (by exact kL ho (fun x _=>aKn x)) ?_
 unfold bDe
 repeat apply sQ
 refine WR.q rfl ?_
 repeat apply sQ
 refine WR.m 1 rfl ?_
 have s1:=iA l a hl' ha
 cases h1:fName l a with
 |out=>rw[h1]at hF;subst hF;cases ho
 |er a1 d1 p c=>
  rw[h1]at hF s1
  subst hF
  exact WQ.aK rfl rfl rfl rfl rfl (s1.er trivial (R:=1000) (by decide) rfl) (.put .base rfl) ⟨rfl,rfl,rfl,fun b hb=>rfl⟩
 |ok t b1=>
 rw[h1]at hF s1
 simp only[R.bind]at hF
 refine WQ.c rfl (s1.ok trivial (kM _) (R:=1000) (by decide) rfl) (.put .base rfl) rfl ?_
 have q1:=cA h1
 obtain⟨tk,ta,te,tt⟩:=t
 refine WQ.q rfl ?_
 repeat apply sQ
 refine WR.q rfl ?_
 repeat apply sQ
 refine WR.m 1 rfl ?_
 have s2:=dF l b1 hl' q1.2.1 [40]
 cases h2:bP l 4 [40] b1 with
 |out=>rw[h2]at hF;subst hF;cases ho
 |er a1 d1 p c=>
  rw[h2]at hF s2
  subst hF
  exact WQ.aK rfl rfl rfl rfl rfl (s2.er ⟨trivial,trivial⟩ (R:=1000) (by decide) rfl) (.put .base rfl) ⟨rfl,rfl,rfl,fun b hb=>rfl⟩
 |ok u b2=>
 rw[h2]at hF s2
 simp only[R.bind]at hF
 refine WQ.c rfl (s2.ok ⟨trivial,trivial⟩ trivial (R:=1000) (by decide) rfl) (.put .base rfl) rfl ?_
 have q2:=aN (by decide) h2
 refine WQ.q rfl ?_
 repeat apply sQ
 refine WR.m 3 rfl ?_
 have s3:=aGo l hl [41] true m b2 q2.2.1
 cases h3:bS l (cJ l) [41] true m b2 with
 |out=>rw[h3]at hF;subst hF;cases ho
 |er a1 d1 p c=>
  rw[h3]at hF s3
  subst hF
  exact WQ.aK rfl rfl rfl rfl rfl (mF (r:=.pan (cC p c)) (s3 rfl) ⟨(by show 1000<1001;decide),trivial,trivial,⟨trivial,⟨(by show 1000<1001;decide),trivial⟩,trivial⟩,trivial⟩ aV (R:=1000) (by decide) rfl (fun ρ e=>by simp only[cH,V.ren,tU,e]<;>rfl)) (.put .base rfl) ⟨rfl,rfl,rfl,fun b hb=>rfl⟩
 |ok ps b3=>
 rw[h3]at hF s3
 simp only[R.bind]at hF
 refine WQ.c rfl (mF (r:=.ret _) (s3 rfl) ⟨(by show 1000<1001;decide),trivial,trivial,⟨trivial,⟨(by show 1000<1001;decide),trivial⟩,trivial⟩,trivial⟩ (eY jI _) (R:=1000) (by decide) rfl (fun ρ e=>by simp only[cH,V.ren,tU,e]<;>rfl)) (.put .base rfl) rfl ?_
 have q3:=cO (fun a x a1=>eS) h3
 refine WQ.q rfl ?_
 repeat apply sQ
 refine WR.m 1 rfl ?_
 refine WQ.c rfl (sH (l:=l) (a:=b3) (k:=4) (s:=[59]) hl' (by decide) rfl) .base rfl ?_
 have s5:=dF l b3 hl' q3.2 [59]
 unfold xQ at hF
 cases h4:isF l b3 4 [59]with
 |true=>
  rw[h4]at hF
  simp only[R.bind]at hF
  refine WQ.q rfl ?_
  repeat apply sQ
  refine WR.q rfl ?_
  repeat apply sQ
  refine WR.k rfl ?_
  unfold aAg
  repeat apply sQ
  refine WR.m 1 rfl ?_
  cases h5:bP l 4 [59] b3 with
  |out=>rw[h5]at hF;subst hF;cases ho
  |er a1 d1 p c=>
   rw[h5]at hF s5
   subst hF
   exact WQ.aK rfl rfl rfl rfl rfl (s5.er ⟨trivial,trivial⟩ (R:=1000) (by decide) rfl) (.put .base rfl) ⟨rfl,rfl,rfl,fun b hb=>rfl⟩
  |ok u5 b5=>
  rw[h5]at hF s5
  simp only[R.bind]at hF
  refine WQ.c rfl (s5.ok ⟨trivial,trivial⟩ trivial (R:=1000) (by decide) rfl) (.put .base rfl) rfl ?_
  subst hF
  refine WQ.q rfl ?_
  repeat apply sQ
  refine WR.q rfl ?_
  exact WR.e
 |false=>
  rw[h4]at hF
  refine WQ.q rfl ?_
  repeat apply sQ
  refine WR.q rfl ?_
  repeat apply sQ
  refine WR.aC rfl ?_
  repeat apply sQ
  refine WR.m 1 rfl ?_
  have s4:=kR l b3 hl' q3.2
  simp only[R.bind]at hF
  cases h6:cJ l b3 with
  |out=>rw[h6]at hF;subst hF;cases ho
  |er a1 d1 p c=>
   rw[h6]at hF s4
   subst hF
   exact WQ.aK rfl rfl rfl rfl rfl (s4.er trivial (R:=1000) (by decide) rfl) (.put .base rfl) ⟨rfl,rfl,rfl,fun b hb=>rfl⟩
  |ok x b4=>
  rw[h6]at hF s4
  simp only[R.bind]at hF
  refine WQ.c rfl (s4.ok trivial (oX _) (R:=1000) (by decide) rfl) (.put .base rfl) rfl ?_
  have q4:=eS h6
  obtain⟨xk,xa,xp,xn,xl⟩:=x
  have s5:=dF l b4 hl' q4.2 [59]
  refine WQ.q rfl ?_
  unfold aAg
  repeat apply sQ
  refine WR.m 1 rfl ?_
  cases h5:bP l 4 [59] b4 with
  |out=>rw[h5]at hF;subst hF;cases ho
  |er a1 d1 p c=>
   rw[h5]at hF s5
   subst hF
   exact WQ.aK rfl rfl rfl rfl rfl (s5.er ⟨trivial,trivial⟩ (R:=1000) (by decide) rfl) (.put .base rfl) ⟨rfl,rfl,rfl,fun b hb=>rfl⟩
  |ok u5 b5=>
  rw[h5]at hF s5
  simp only[R.bind]at hF
  refine WQ.c rfl (s5.ok ⟨trivial,trivial⟩ trivial (R:=1000) (by decide) rfl) (.put .base rfl) rfl ?_
  subst hF
  refine WQ.q rfl ?_
  repeat apply sQ
  refine WR.q rfl ?_
  exact WR.e
end Go.VM
end
section
/- Files: declarations of types: their parts. -/
set_option maxRecDepth 100000
namespace Go.VM
open Go.RowKit
def zPm:Pm:=⟨[],0,zT⟩
def bBb:List V:=[.str [],.int .i64 0,.int .i64 0,.int .i64 0,.str [],.str [],.lst [] (.ex 0)]
structure Dx where
 k:Nat
 a:Int
 e:Int
 n:List Nat
 mt:Bool
 rv:Pm
 bs:List Pm
 fs:List Pm
 ms:List Mx
 has:Bool
 res:Tx
 body:List Sx
def dC(k a e:Int)(nm:List Nat)(mt:Bool)(rv:List V)(bs fs ms:V)(has:Bool)(res:List V)(body:V):List V:=[.int .i64 k,.int .i64 a,.int .i64 e,.str nm,.bool mt]++(rv++([bs,fs,ms,.bool has]++(res++[body])))
def fO(d:Dx):List V:=dC d.k d.a d.e d.n d.mt (dJ d.rv) (jX dJ d.bs) (jX dJ d.fs) (jX qT d.ms) d.has (gI d.res) (.lst (fY d.body) .unk)
def aAj(d:Dx):V:=.agg (fO d)
theorem aDq{D:Nat→Prop}:∀d:Dx,Ins D (fO d)
 |⟨k,a,e,n,mt,⟨rn,ra,.mk k1 b1 q1 m1 l1⟩,bs,fs,ms,has,.mk k2 b2 q2 m2 l2,body⟩=>⟨trivial,trivial,trivial,trivial,trivial,trivial,trivial,trivial,trivial,trivial,trivial,⟨eV l1,trivial⟩,eY jE bs,eY jE fs,eY aDu ms,trivial,trivial,trivial,trivial,trivial,⟨eV l2,trivial⟩,⟨gE body,trivial⟩,trivial⟩
theorem uN{D:Nat→Prop}(d:Dx):(aAj d).In D:=aDq d
theorem yZ:∀d:Dx,(fO d).length=22
 |⟨k,a,e,n,mt,⟨rn,ra,.mk k1 b1 q1 m1 l1⟩,bs,fs,ms,has,.mk k2 b2 q2 m2 l2,body⟩=>rfl
def fTo{α:Type}(l:List Tz)(rd:Nat→R α):Nat→List α→Nat→R (List α)
 |0,_,_=>.out
 |n+1,acc,a=>match isF l a 4 [125]with
  |true=>.ok acc (a+1)
  |false=>(rd a).bind fun x a1=>fTo l rd n (acc++[x]) a1
theorem pH{α:Type}{l:List Tz}{rd:Nat→R α}(hr:∀a x a1,a≤l.length→rd a=.ok x a1→a<a1∧a1≤l.length):∀(n:Nat) (acc:List α) (a:Nat) (xs:List α) (a':Nat),a≤l.length→fTo l rd n acc a=.ok xs a'→a<a'∧a'≤l.length:=by
 intro n
 induction n with
 |zero=>intro acc a xs a' _ h;cases h
 |succ n ih=>
  intro acc a xs a' ha h
  unfold fTo at h
  split at h
  ·rename_i h1
   have:=bB h1 (by decide)
   cases h
   omega
  ·obtain⟨x,a1,h1,h⟩:=R.aF h
   have q:=hr _ _ _ ha h1
   have:=ih _ _ _ _ q.2 h
   omega
theorem yW{α:Type}{l:List Tz}{rd:Nat→R α}(hr:∀a x a1,a≤l.length→rd a=.ok x a1→a<a1∧a1≤l.length)(hk:∀a,a≤l.length→(rd a).aU=false):∀(n:Nat) (acc:List α) (a:Nat),a≤l.length→l.length<a+n→(fTo l rd n acc a).aU=false:=by
 intro n
 induction n with
 |zero=>intro acc a h1 h2;omega
 |succ n ih=>
  intro acc a h1 h2
  unfold fTo
  split
  ·rfl
  ·exact R.aO (hk a h1) fun x a1 h=>ih _ _ (hr _ _ _ h1 h).2 (by have:=hr _ _ _ h1 h;omega)
def jV(l:List Tz)(a:Nat):R Pm:=(cL l a).bind fun p a1=>(bP l 4 [59] a1).bind fun _ a2=>.ok p a2
theorem hJ{l:List Tz}{a a1:Nat}{x:Pm}(h:jV l a=.ok x a1):a<a1∧a1≤l.length:=by
 obtain⟨p,b1,h1,h⟩:=R.aF h
 obtain⟨u,b2,h2,h⟩:=R.aF h
 cases h
 have:=bT h1
 have:=aN (by decide) h2
 omega
theorem aCo{l:List Tz}{a:Nat}:(jV l a).aU=false:=R.aO iU fun _ _ _=>R.aO bG fun _ _ _=>rfl
def aMj:TM:=[(0,.v (.ptr 1000 0)),(2,.l 2 0),(4,.l 4 0)]
def zDx:List V:=dC 0 0 0 [] false bBb bZ bZ bZ false zTx bZ
def tdI(p:Int)(nm:List Nat)(ms:List Mx):LM:=[(2,zDx),(4,dC 2 p 0 nm false bBb bZ bZ (lvG qT ms) false zTx bZ)]
def tdS(p:Int)(nm:List Nat)(fs:List Pm):LM:=[(2,zDx),(4,dC 1 p 0 nm false bBb bZ (lvG dJ fs) bZ false zTx bZ)]
theorem aTr{QN:S→Prop}{QX:X→S→Prop}(l:List Tz)(hl:l.length<20000)(m:Nat)(p:Int)(nm:List Nat):∀(n:Nat) (acc:List Mx) (a:Nat),a≤l.length→acc.length≤a→(fTo l (eZ l m) n acc a).aU=false→
  (∀ms a',fTo l (eZ l m) n acc a=.ok ms a'→∀tm lc,TellT tm (tdI p nm ms) aMj→TellL lc (tdI p nm ms)→QX (.exit 0) (SL.toS ⟨tm,[],none,nxG ms,(1000,frO l a')::tJ ms,lc⟩))→
  (∀a' d q c,fTo l (eZ l m) n acc a=.er a' d q c→∀s:S,s.df=[]→s.u=none→(∀b,b<1001→og (frL l a') b=s.h.ob b)→QX (.panic (cC q c)) s)→
  WLr Go.Proofs.Tryz.prog [] ⟨Go.Proofs.Tryz.f43.ntmps,none,43⟩ rD (SL.toS ⟨aMj,[],none,nxG acc,(1000,frO l a)::tJ acc,tdI p nm acc⟩) QN QX:=by
 intro n
 have hl':l.length<4294967296:=by omega
 induction n with
 |zero=>intro acc a _ _ ho;cases ho
 |succ n ih=>
  intro acc a ha hacc ho hq he
  have sp:=aCq l hl m a ha
  unfold fTo at ho hq he
  unfold rD
  refine WLr.of ?_
  repeat apply sQ
  refine WR.m 1 rfl ?_
  refine WQ.c rfl (fU (k:=4) (s:=[125]) hl' ha (by decide) rfl) (.put .base rfl) rfl ?_
  unfold isA
  cases h2:isF l a 4 [125]with
  |true=>
   rw[h2]at hq ho he
   refine WQ.q rfl ?_
   repeat apply sQ
   refine WR.aM rfl (WR.exit (hq _ _ rfl _ _ ?_ ?_))
   ·exact tQ
   ·exact lQ
  |false=>
   rw[h2]at hq ho he
   refine WQ.q rfl ?_
   repeat apply sQ
   refine WR.aC rfl (WR.skip ?_)
   repeat apply sQ
   refine WR.block ?_
   repeat apply sQ
   refine WR.q rfl ?_
   repeat apply sQ
   refine WR.aC rfl ?_
   repeat apply sQ
   refine WR.aL aT (DW.m 1000 rfl ?_)
   cases h1:eZ l m a with
   |out=>rw[h1]at ho;cases ho
   |er a1 d1 q c=>
    rw[h1]at sp he
    exact DW.aK pQ rfl rfl rfl rfl rfl (sp.er trivial (R:=1000) (by decide) rfl) (.put .base rfl) (he _ _ _ _ rfl _ rfl rfl (fun b hb=>dR acc hb))
   |ok x a1=>
    have hx:=kA h1
    rw[h1]at sp hq ho he
    simp only[R.bind]at hq ho he
    have ih:=ih (acc++[x]) a1 hx.2 (by simp;omega) ho hq he
    refine DW.dP pQ rfl rfl rfl rfl rfl (sp.ok trivial (aKn _) (R:=1000) (by decide) rfl) (.put .base rfl) rfl ?_
    obtain⟨xn,xa,xps,xh,⟨xtk,xta,xtp,xtn,xtl⟩⟩:=x
    refine DW.m 1000 rfl ?_
    cases acc with
    |nil=>
     refine DW.cW pQ rfl (iB (n2:=1) (es2:=[qT ⟨xn,xa,xps,xh,⟨xtk,xta,xtp,xtn,xtl⟩⟩]) rfl rfl (Nat.zero_lt_one) (by simp) (by simp) (by show 128*1≤lim;decide) rfl rfl rfl rfl) rfl (DW.m 1000 rfl ?_)
     refine DW.stS pQ rfl rfl rfl rfl (DW.m 1000 rfl (DW.bO pQ ?_))
     refine WR.exit (WIr.again (WLr.weak ?_ ih))
     refine SW.aP ?_ ?_
     ·exact tQ
     ·exact lQ
    |cons q r=>
     refine DW.cW pQ rfl (iF (n:=(q::r).length) (n2:=(q::r++[(⟨xn,xa,xps,xh,⟨xtk,xta,xtp,xtn,xtl⟩⟩:Mx)]).length) (es2:=(q::r++[(⟨xn,xa,xps,xh,⟨xtk,xta,xtp,xtn,xtl⟩⟩:Mx)]).map qT) rfl rfl rfl (List.length_map ..).symm ?_ ?_ ?_ rfl ?_ ?_ rfl) rfl ?_
     ·intro e he
      obtain⟨y,_,rfl⟩:=List.mem_map.1 (show e∈(q::r).map qT from he)
      exact aNk y
     ·simp
     ·simp only[List.length_map,List.length_cons,List.length_nil]at hacc⊢;unfold lim;omega
     ·rw[List.map_append];rfl
     ·simp
     refine DW.m 1000 rfl ?_
     refine DW.stS pQ rfl rfl rfl rfl (DW.m 1000 rfl (DW.bO pQ ?_))
     refine WR.exit (WIr.again (WLr.weak ?_ ih))
     refine SW.aP ?_ ?_
     ·exact tQ
     ·exact lQ
theorem aSb{QN:S→Prop}{QX:X→S→Prop}(l:List Tz)(hl:l.length<20000)(p:Int)(nm:List Nat):∀(n:Nat) (acc:List Pm) (a:Nat),a≤l.length→acc.length≤a→(fTo l (jV l) n acc a).aU=false→
  (∀fs a',fTo l (jV l) n acc a=.ok fs a'→∀tm lc,TellT tm (tdS p nm fs) aMj→TellL lc (tdS p nm fs)→QX (.exit 0) (SL.toS ⟨tm,[],none,nxG fs,(1000,frO l a')::tJ fs,lc⟩))→
  (∀a' d q c,fTo l (jV l) n acc a=.er a' d q c→∀s:S,s.df=[]→s.u=none→(∀b,b<1001→og (frL l a') b=s.h.ob b)→QX (.panic (cC q c)) s)→
  WLr Go.Proofs.Tryz.prog [] ⟨Go.Proofs.Tryz.f43.ntmps,none,43⟩ rD (SL.toS ⟨aMj,[],none,nxG acc,(1000,frO l a)::tJ acc,tdS p nm acc⟩) QN QX:=by
 intro n
 have hl':l.length<4294967296:=by omega
 induction n with
 |zero=>intro acc a _ _ ho;cases ho
 |succ n ih=>
  intro acc a ha hacc ho hq he
  have sp:=nI l a hl' ha
  unfold fTo at ho hq he
  unfold rD
  refine WLr.of ?_
  repeat apply sQ
  refine WR.m 1 rfl ?_
  refine WQ.c rfl (fU (k:=4) (s:=[125]) hl' ha (by decide) rfl) (.put .base rfl) rfl ?_
  unfold isA
  cases h2:isF l a 4 [125]with
  |true=>
   rw[h2]at hq ho he
   refine WQ.q rfl ?_
   repeat apply sQ
   refine WR.aM rfl (WR.exit (hq _ _ rfl _ _ ?_ ?_))
   ·exact tQ
   ·exact lQ
  |false=>
   rw[h2]at hq ho he
   unfold jV at hq ho he
   refine WQ.q rfl ?_
   repeat apply sQ
   refine WR.aC rfl (WR.skip ?_)
   repeat apply sQ
   refine WR.block ?_
   repeat apply sQ
   refine WR.q rfl ?_
   repeat apply sQ
   refine WR.k rfl ?_
   repeat apply sQ
   refine WR.aL aT (DW.m 1000 rfl ?_)
   cases h1:cL l a with
   |out=>rw[h1]at ho;cases ho
   |er a1 d1 q c=>
    rw[h1]at sp he
    exact DW.aK pQ rfl rfl rfl rfl rfl (sp.er trivial (R:=1000) (by decide) rfl) (.put .base rfl) (he _ _ _ _ rfl _ rfl rfl (fun b hb=>dR acc hb))
   |ok x a1=>
    have hx:=bT h1
    rw[h1]at sp hq ho he
    simp only[R.bind]at hq ho he
    have sy:=dF l a1 hl' hx.2 [59]
    have ih:=fun a2 (h12:a1≤a2) hle ho hq he=>ih (acc++[x]) a2 hle (by have:=hx.1;simp;omega) ho hq he
    refine DW.dP pQ rfl rfl rfl rfl rfl (sp.ok trivial (qQ _) (R:=1000) (by decide) rfl) (.put .base rfl) rfl ?_
    obtain⟨xn,xa,⟨xtk,xta,xtp,xtn,xtl⟩⟩:=x
    refine DW.m 1000 rfl ?_
    cases acc with
    |nil=>
     refine DW.cW pQ rfl (iB (n2:=1) (es2:=[dJ ⟨xn,xa,⟨xtk,xta,xtp,xtn,xtl⟩⟩]) rfl rfl (Nat.zero_lt_one) (by simp) (by simp) (by show 96*1≤lim;decide) rfl rfl rfl rfl) rfl (DW.m 1000 rfl ?_)
     refine DW.stS pQ rfl rfl rfl rfl (DW.m 1000 rfl (DW.bO pQ ?_))
     repeat apply sQ
     refine WR.m 2 rfl ?_
     cases h3:bP l 4 [59] a1 with
     |out=>have:=bG (l:=l) (k:=4) (x:=[59]) (a:=a1);rw[h3]at this;cases this
     |er a2 d2 z c=>
      rw[h3]at sy he
      exact WQ.aK rfl rfl rfl rfl rfl (sy.er ⟨trivial,trivial⟩ (R:=1000) (by decide) rfl) (.put .base rfl) (he _ _ _ _ rfl _ rfl rfl (fun b hb=>sE rfl hb))
     |ok u a2=>
      have hm:=aN (by decide) h3
      rw[h3]at sy hq ho he
      have ih:=ih a2 (by omega) hm.2.1 ho hq he
      refine WQ.c rfl (sy.ok ⟨trivial,trivial⟩ trivial (R:=1000) (by decide) rfl) (.put .base rfl) rfl ?_
      refine WQ.q rfl ?_
      refine WIr.again (WLr.weak ?_ ih)
      refine SW.aP ?_ ?_
      ·exact tQ
      ·exact lQ
    |cons q r=>
     refine DW.cW pQ rfl (iF (n:=(q::r).length) (n2:=(q::r++[(⟨xn,xa,⟨xtk,xta,xtp,xtn,xtl⟩⟩:Pm)]).length) (es2:=(q::r++[(⟨xn,xa,⟨xtk,xta,xtp,xtn,xtl⟩⟩:Pm)]).map dJ) rfl rfl rfl (List.length_map ..).symm ?_ ?_ ?_ rfl ?_ ?_ rfl) rfl ?_
     ·intro e he
      obtain⟨y,_,rfl⟩:=List.mem_map.1 (show e∈(q::r).map dJ from he)
      exact zW y
     ·simp
     ·simp only[List.length_map,List.length_cons,List.length_nil]at hacc⊢;unfold lim;omega
     ·rw[List.map_append];rfl
     ·simp
     refine DW.m 1000 rfl ?_
     refine DW.stS pQ rfl rfl rfl rfl (DW.m 1000 rfl (DW.bO pQ ?_))
     repeat apply sQ
     refine WR.m 2 rfl ?_
     cases h3:bP l 4 [59] a1 with
     |out=>have:=bG (l:=l) (k:=4) (x:=[59]) (a:=a1);rw[h3]at this;cases this
     |er a2 d2 z c=>
      rw[h3]at sy he
      exact WQ.aK rfl rfl rfl rfl rfl (sy.er ⟨trivial,trivial⟩ (R:=1000) (by decide) rfl) (.put .base rfl) (he _ _ _ _ rfl _ rfl rfl (fun b hb=>dR (q::r++[(⟨xn,xa,⟨xtk,xta,xtp,xtn,xtl⟩⟩:Pm)]) hb))
     |ok u a2=>
      have hm:=aN (by decide) h3
      rw[h3]at sy hq ho he
      have ih:=ih a2 (by omega) hm.2.1 ho hq he
      refine WQ.c rfl (sy.ok ⟨trivial,trivial⟩ trivial (R:=1000) (by decide) rfl) (.put .base rfl) rfl ?_
      refine WQ.q rfl ?_
      refine WIr.again (WLr.weak ?_ ih)
      refine SW.aP ?_ ?_
      ·exact tQ
      ·exact lQ
end Go.VM
end
section
/- Files: declarations of types. -/
set_option maxRecDepth 100000
namespace Go.VM
open Go.RowKit
def aRf:List Nat:=[105,110,116,101,114,102,97,99,101]
def aKr:List Nat:=[115,116,114,117,99,116]
def eW(l:List Tz)(m a:Nat):R Dx:=(fName l a).bind fun t a1=>match isF l a1 5 aRf with
 |true=>(bP l 4 [123] (a1+1)).bind fun _ a2=>(fTo l (eZ l m) m [] a2).bind fun ms a3=>.ok ⟨2,t.a,aOm l a3,t.t,false,zPm,[],[],ms,false,zT,[]⟩ a3
 |false=>(bP l 5 aKr a1).bind fun _ a2=>(bP l 4 [123] a2).bind fun _ a3=>(fTo l (jV l) m [] a3).bind fun fs a4=>.ok ⟨1,t.a,aOm l a4,t.t,false,zPm,[],fs,[],false,zT,[]⟩ a4
theorem lW{l:List Tz}{m a:Nat}{x:Dx}{a':Nat}(h:eW l m a=.ok x a'):a<a'∧a'≤l.length:=by
 obtain⟨t,a1,h1,h⟩:=R.aF h
 have q1:=cA h1
 split at h
 ·obtain⟨_,a2,h2,h⟩:=R.aF h
  obtain⟨ms,a3,h3,h⟩:=R.aF h
  cases h
  have q2:=aN (by decide) h2
  have q3:=pH (fun _ _ _ _=>kA) _ _ _ _ _ q2.2.1 h3
  omega
 ·obtain⟨_,a2,h2,h⟩:=R.aF h
  obtain⟨_,a3,h3,h⟩:=R.aF h
  obtain⟨fs,a4,h4,h⟩:=R.aF h
  cases h
  have q2:=aN (by decide) h2
  have q3:=aN (by decide) h3
  have q4:=pH (fun _ _ _ _=>hJ) _ _ _ _ _ q3.2.1 h4
  omega
theorem uB{l:List Tz}{m a:Nat}(hm:l.length<m):(eW l m a).aU=false:=by
 refine R.aO gN fun t a1 h1=>?_
 split
 ·exact R.aO bG fun _ a2 h2=>R.aO (yW (fun _ _ _ _=>kA) (fun _ ha=>yA ha hm) _ _ _ (aN (by decide) h2).2.1 (by omega)) fun _ _ _=>rfl
 ·exact R.aO bG fun _ a2 h2=>R.aO bG fun _ a3 h3=>R.aO (yW (fun _ _ _ _=>hJ) (fun _ ha=>aCo) _ _ _ (aN (by decide) h3).2.1 (by omega)) fun _ _ _=>rfl
theorem aIp(l:List Tz)(hl:l.length<20000)(m a:Nat)(ha:a≤l.length):Fp 43 [] l a aAj (eW l m a):=by
 intro ho
 have hl':l.length<4294967296:=by omega
 generalize hF:eW l m a=F at ho⊢
 unfold eW aRf aKr at hF
 refine SCall.aI (fn:=Go.Proofs.Tryz.f43) (by kernel_rfl) bEp (by kernel_rfl) (by kernel_rfl) (Nat.le_refl _) rfl (bX _ _) (by exact kL ho (fun x _=>uN x)) ?_
 unfold bGk
 repeat apply sQ
 refine WR.q rfl ?_
 repeat apply sQ
 refine WR.m 1 rfl ?_
 have s1:=iA l a hl' ha
 cases h1:fName l a with
 |out=>rw[h1]at hF;subst hF;cases ho
 |er a1 d1 p c=>
  rw[h1]at hF s1
  subst hF
  exact WQ.aK rfl rfl rfl rfl rfl (s1.er trivial (R:=1000) (by decide) rfl) (.put .base rfl) ⟨rfl,rfl,rfl,fun b hb=>rfl⟩
 |ok t b1=>
 rw[h1]at hF s1
 simp only[R.bind]at hF
 refine WQ.c rfl (s1.ok trivial (kM _) (R:=1000) (by decide) rfl) (.put .base rfl) rfl ?_
 have q1:=cA h1
 obtain⟨tk,ta,te,tt⟩:=t
 refine WQ.q rfl ?_
 repeat apply sQ
 refine WR.q rfl ?_
 repeat apply sQ
 refine WR.m 1 rfl ?_
 refine WQ.c rfl (fU (k:=5) (s:=[105,110,116,101,114,102,97,99,101]) hl' q1.2.1 (by decide) rfl) (.put .base rfl) rfl ?_
 unfold isA
 cases h2:isF l b1 5 [105,110,116,101,114,102,97,99,101]with
 |true=>
  have hlt:=bB h2 (by decide)
  rw[h2]at hF
  refine WQ.q rfl ?_
  repeat apply sQ
  refine WR.aC rfl ?_
  repeat apply sQ
  refine WR.q rfl ?_
  unfold aCr
  repeat apply sQ
  refine WR.m 1 rfl ?_
  have s2:=dF l (b1+1) hl' hlt [123]
  dsimp only at hF
  cases h3:bP l 4 [123] (b1+1)with
  |out=>rw[h3]at hF;subst hF;cases ho
  |er a1 d1 p c=>
   rw[h3]at hF s2
   subst hF
   exact WQ.aK rfl rfl rfl rfl rfl (s2.er ⟨trivial,trivial⟩ (R:=1000) (by decide) rfl) (.put .base rfl) ⟨rfl,rfl,rfl,fun b hb=>rfl⟩
  |ok u b2=>
  rw[h3]at hF s2
  simp only[R.bind]at hF
  refine WQ.c rfl (s2.ok ⟨trivial,trivial⟩ trivial (R:=1000) (by decide) rfl) (.put .base rfl) rfl ?_
  have q2:=aN (by decide) h3
  refine WQ.q rfl ?_
  repeat apply sQ
  have kn:(fTo l (eZ l m) m [] b2).aU=false:=by
   cases h4:fTo l (eZ l m) m [] b2 with
   |out=>rw[h4]at hF;subst hF;cases ho
   |er _ _ _ _=>rfl
   |ok _ _=>rfl
  refine WR.block (WR.loop (WLr.weak (s:=SL.toS ⟨aMj,[],none,nxG ([]:List Mx),(1000,frO l b2)::tJ ([]:List Mx),tdI ta tt []⟩) ?_ (aTr l hl m ta tt m [] b2 q2.2.1 (Nat.zero_le _) kn (fun ms b3 h4 tm lc htm hlc=>?_) (fun b3 d q c h4 s g1 g2 g3=>?_))))
  ·refine SW.aP ?_ ?_
   ·exact tQ
   ·exact lQ
  ·have q3:=pH (fun _ _ _ _=>kA) _ _ _ _ _ q2.2.1 h4
   rw[h4]at hF
   subst hF
   obtain⟨c,hc⟩:=aKt qT ms
   unfold tdI at htm hlc
   rw[hc]at htm hlc
   refine WR.weak (SW.aP htm hlc) ?_
   unfold aBe
   repeat apply sQ
   refine WR.m 1 rfl ?_
   refine WQ.c rfl (aBk (l:=l) (a:=b3) hl' q3.2 (by omega) (by decide) rfl) .base rfl ?_
   refine WQ.q rfl ?_
   repeat apply sQ
   refine WR.q rfl ?_
   exact WR.ret ⟨rfl,rfl,⟨_,rfl,by repeat(first|exact VLe.refl _|exact VLe.unk _ _|exact jJ _ _|refine VLe.tup ?_|refine VLe.agg ?_|exact VLL.nil|refine VLL.cons ?_ ?_)⟩,fun b hb=>dR ms hb⟩
  ·rw[h4]at hF
   subst hF
   exact⟨rfl,g1,g2,g3⟩
 |false=>
  rw[h2]at hF
  dsimp only at hF
  refine WQ.q rfl ?_
  refine WR.aM rfl ?_
  repeat apply sQ
  refine WR.m 1 rfl ?_
  have s2:=pL l b1 hl' q1.2.1 5 [115,116,114,117,99,116]
  cases h3:bP l 5 [115,116,114,117,99,116] b1 with
  |out=>rw[h3]at hF;subst hF;cases ho
  |er a1 d1 p c=>
   rw[h3]at hF s2
   subst hF
   exact WQ.aK rfl rfl rfl rfl rfl (s2.er ⟨trivial,trivial,trivial⟩ (R:=1000) (by decide) rfl) (.put .base rfl) ⟨rfl,rfl,rfl,fun b hb=>rfl⟩
  |ok u b2=>
  rw[h3]at hF s2
  simp only[R.bind]at hF
  refine WQ.c rfl (s2.ok ⟨trivial,trivial,trivial⟩ trivial (R:=1000) (by decide) rfl) (.put .base rfl) rfl ?_
  have q2:=aN (by decide) h3
  refine WQ.q rfl ?_
  unfold aCr
  repeat apply sQ
  refine WR.m 1 rfl ?_
  have s3:=dF l b2 hl' q2.2.1 [123]
  cases h4:bP l 4 [123] b2 with
  |out=>rw[h4]at hF;subst hF;cases ho
  |er a1 d1 p c=>
   rw[h4]at hF s3
   subst hF
   exact WQ.aK rfl rfl rfl rfl rfl (s3.er ⟨trivial,trivial⟩ (R:=1000) (by decide) rfl) (.put .base rfl) ⟨rfl,rfl,rfl,fun b hb=>rfl⟩
  |ok u2 b3=>
  rw[h4]at hF s3
  simp only[R.bind]at hF
  refine WQ.c rfl (s3.ok ⟨trivial,trivial⟩ trivial (R:=1000) (by decide) rfl) (.put .base rfl) rfl ?_
  have q3:=aN (by decide) h4
  refine WQ.q rfl ?_
  repeat apply sQ
  have kn:(fTo l (jV l) m [] b3).aU=false:=by
   cases h5:fTo l (jV l) m [] b3 with
   |out=>rw[h5]at hF;subst hF;cases ho
   |er _ _ _ _=>rfl
   |ok _ _=>rfl
  refine WR.block (WR.loop (WLr.weak (s:=SL.toS ⟨aMj,[],none,nxG ([]:List Pm),(1000,frO l b3)::tJ ([]:List Pm),tdS ta tt []⟩) ?_ (aSb l hl ta tt m [] b3 q3.2.1 (Nat.zero_le _) kn (fun fs b4 h5 tm lc htm hlc=>?_) (fun b4 d q c h5 s g1 g2 g3=>?_))))
  ·refine SW.aP ?_ ?_
   ·exact tQ
   ·exact lQ
  ·have q4:=pH (fun _ _ _ _=>hJ) _ _ _ _ _ q3.2.1 h5
   rw[h5]at hF
   subst hF
   obtain⟨c,hc⟩:=aKt dJ fs
   unfold tdS at htm hlc
   rw[hc]at htm hlc
   refine WR.weak (SW.aP htm hlc) ?_
   unfold aBe
   repeat apply sQ
   refine WR.m 1 rfl ?_
   refine WQ.c rfl (aBk (l:=l) (a:=b4) hl' q4.2 (by omega) (by decide) rfl) .base rfl ?_
   refine WQ.q rfl ?_
   repeat apply sQ
   refine WR.q rfl ?_
   exact WR.ret ⟨rfl,rfl,⟨_,rfl,by repeat(first|exact VLe.refl _|exact VLe.unk _ _|exact jJ _ _|refine VLe.tup ?_|refine VLe.agg ?_|exact VLL.nil|refine VLL.cons ?_ ?_)⟩,fun b hb=>dR fs hb⟩
  ·rw[h5]at hF
   subst hF
   exact⟨rfl,g1,g2,g3⟩
end Go.VM
end
section
/- Files: declarations of functions. -/
set_option maxRecDepth 100000
namespace Go.VM
open Go.RowKit
def stR(r:R (List Sx)):V:=match r with
 |.ok b n=>.tup [.lst (fY b) .unk,.int .i64 n,.agg (dgX 0 0)]
 |.er _ _ p c=>.tup [.lst [] (.ex 0),.int .i64 0,.agg (dgX p c)]
 |.out=>.bool false
structure StmOk(l:List Tz)(S:Nat→R (List Sx)):Prop where
 sp:∀a,a≤l.length→∀h:H,SCall Go.Proofs.Tryz.prog [] 79 [lsV l,.int .i64 a] none h (.ret (stR (S a))) none h
 known:∀a,a≤l.length→(S a).aU=false
 ok:∀a x n,a≤l.length→S a=.ok x n→a<n∧n≤l.length
 er:∀a a1 d p c,S a=.er a1 d p c→c≠0
def mV(l:List Tz)(S:Nat→R (List Sx))(p:Int)(nm:List Nat)(mt:Bool)(rv:Pm)(bs fs:List Pm)(has:Bool)(res:Tx)(a:Nat):R Dx:=match S a with
 |.ok b n=>.ok ⟨3,p,aOm l n,nm,mt,rv,bs,fs,[],has,res,b⟩ n
 |.er _ _ q c=>.er a 0 q c
 |.out=>.out
def fJ3(l:List Tz)(S:Nat→R (List Sx))(m:Nat)(p:Int)(nm:List Nat)(mt:Bool)(rv:Pm)(bs:List Pm)(a:Nat):R Dx:=
 (bP l 4 [40] a).bind fun _ a1=>(bS l (cL l) [41] true m a1).bind fun fs a2=>(xQ l [123] a2).bind fun r a3=>mV l S p nm mt rv bs fs r.1 r.2 a3
def fJ4(l:List Tz)(S:Nat→R (List Sx))(m:Nat)(mt:Bool)(rv:Pm)(a:Nat):R Dx:=(fName l a).bind fun t a1=>match isF l a1 4 [91]with
 |true=>(bS l (cL l) [93] false m (a1+1)).bind fun bs a2=>fJ3 l S m t.a t.t mt rv bs a2
 |false=>fJ3 l S m t.a t.t mt rv [] a1
def kT(l:List Tz)(S:Nat→R (List Sx))(m a:Nat):R Dx:=match isF l a 4 [40]with
 |true=>(cL l (a+1)).bind fun p a1=>(bP l 4 [41] a1).bind fun _ a2=>fJ4 l S m true p a2
 |false=>fJ4 l S m false zPm a
section
variable{l:List Tz}{S:Nat→R (List Sx)}
theorem aDi(hS:StmOk l S){p nm mt rv bs fs has res a x a'}(ha:a≤l.length)(h:mV l S p nm mt rv bs fs has res a=.ok x a'):a<a'∧a'≤l.length:=by
 unfold mV at h
 cases h1:S a with
 |out=>rw[h1]at h;cases h
 |er _ _ _ _=>rw[h1]at h;cases h
 |ok b n=>rw[h1]at h;cases h;exact hS.ok _ _ _ ha h1
theorem aDc(hS:StmOk l S){p nm mt rv bs fs has res a}(ha:a≤l.length):(mV l S p nm mt rv bs fs has res a).aU=false:=by
 unfold mV
 have:=hS.known a ha
 cases h1:S a with
 |out=>rw[h1]at this;cases this
 |er _ _ _ _=>rfl
 |ok b n=>rfl
theorem aIq(hS:StmOk l S){m p nm mt rv bs a x a'}(h:fJ3 l S m p nm mt rv bs a=.ok x a'):a<a'∧a'≤l.length:=by
 obtain⟨_,a1,h1,h⟩:=R.aF h
 obtain⟨fs,a2,h2,h⟩:=R.aF h
 obtain⟨r,a3,h3,h⟩:=R.aF h
 have q1:=aN (by decide) h1
 have q2:=cO (fun _ _ _=>bT) h2
 have q3:=uI q2.2 h3
 have q4:=aDi hS q3.2 h
 omega
theorem zQ(hS:StmOk l S){m p nm mt rv bs a}(hm:l.length<m):(fJ3 l S m p nm mt rv bs a).aU=false:=
 R.aO bG fun _ _ h1=>R.aO (jR (fun _ _ _=>bT) (fun _ _=>iU) (aN (by decide) h1).2.1 hm) fun _ _ h2=>R.aO wM fun _ _ h3=>aDc hS (uI (cO (fun _ _ _=>bT) h2).2 h3).2
theorem aRy(hS:StmOk l S){m mt rv a x a'}(h:fJ4 l S m mt rv a=.ok x a'):a<a'∧a'≤l.length:=by
 obtain⟨t,a1,h1,h⟩:=R.aF h
 have q1:=cA h1
 split at h
 ·obtain⟨bs,a2,h2,h⟩:=R.aF h
  have q2:=cO (fun _ _ _=>bT) h2
  have:=aIq hS h
  omega
 ·have:=aIq hS h
  omega
theorem zN(hS:StmOk l S){m mt rv a}(hm:l.length<m):(fJ4 l S m mt rv a).aU=false:=by
 refine R.aO gN fun t a1 h1=>?_
 split
 ·rename_i h2
  exact R.aO (jR (fun _ _ _=>bT) (fun _ _=>iU) (bB h2 (by decide)) hm) fun _ _ _=>zQ hS hm
 ·exact zQ hS hm
theorem aEs(hS:StmOk l S){m a x a'}(h:kT l S m a=.ok x a'):a<a'∧a'≤l.length:=by
 unfold kT at h
 split at h
 ·obtain⟨p,a1,h1,h⟩:=R.aF h
  obtain⟨_,a2,h2,h⟩:=R.aF h
  have:=bT h1
  have:=aN (by decide) h2
  have:=aRy hS h
  omega
 ·exact aRy hS h
theorem aFx(hS:StmOk l S){m a}(hm:l.length<m):(kT l S m a).aU=false:=by
 unfold kT
 split
 ·exact R.aO iU fun _ _ _=>R.aO bG fun _ _ _=>zN hS hm
 ·exact zN hS hm
end
def bBq:TM:=[(0,.v (.ptr 1000 0)),(2,.l 2 0),(3,.l 3 0)]
def aLw(p:Int)(nm:List Nat)(mt:Bool)(rv:Pm)(bs fs:List Pm)(has:Bool)(res:Tx):LM:=[(2,zDx),(3,dC 3 p 0 nm mt (dJ rv) (jX dJ bs) (jX dJ fs) bZ has (gI res) bZ)]
theorem aYl{l:List Tz}{S:Nat→R (List Sx)}(hS:StmOk l S)(hl:l.length<20000){p:Int}{nm:List Nat}{mt:Bool}{rv:Pm}{bs fs:List Pm}{has:Bool}{res:Tx}{a:Nat}(ha:a≤l.length){F:R Dx}(hF:mV l S p nm mt rv bs fs has res a=F){tm:TM}{lc:LM}(htm:TellT tm (aLw p nm mt rv bs fs has res) bBq)(hlc:TellL lc (aLw p nm mt rv bs fs has res)):
  WR Go.Proofs.Tryz.prog [] ⟨Go.Proofs.Tryz.f44.ntmps,none,44⟩ aAh (SL.toS ⟨tm,[],none,1001,[(1000,frO l a)],lc⟩) (xZ Go.Proofs.Tryz.prog Go.Proofs.Tryz.f44 (F.nZ aAj) 1001 (frL l F.at')) (xX Go.Proofs.Tryz.prog Go.Proofs.Tryz.f44 (F.nZ aAj) 1001 (frL l F.at')):=by
 have hl':l.length<4294967296:=by omega
 refine WR.weak (SW.aP htm hlc) ?_
 have sp:=hS.sp a ha
 have kn:=hS.known a ha
 have er:=hS.er a
 have ok:=hS.ok a
 unfold mV at hF
 obtain⟨rn,ra,⟨rtk,rta,rtp,rtn,rtl⟩⟩:=rv
 obtain⟨ytk,yta,ytp,ytn,ytl⟩:=res
 unfold aAh
 repeat apply sQ
 refine WR.aL aT (DW.m 1000 rfl ?_)
 cases hs:S a with
 |out=>rw[hs]at kn;cases kn
 |er a1 d1 q c=>
  rw[hs]at hF sp
  subst hF
  refine DW.dP pQ rfl rfl rfl rfl rfl (sp _) .base rfl (DW.m 1000 rfl ?_)
  refine DW.stS pQ rfl rfl rfl rfl (DW.m 1000 rfl (DW.bO pQ ?_))
  repeat apply sQ
  refine WR.m 3 rfl ?_
  rw[show decide (c=0)=false from decide_eq_false (er _ _ _ _ hs)]
  refine WQ.q rfl ?_
  repeat apply sQ
  refine WR.aC rfl ?_
  repeat apply sQ
  refine WR.m 2 rfl ?_
  refine WQ.aSy rfl rfl rfl ⟨rfl,rfl,rfl,fun b hb=>sE rfl hb⟩
 |ok bd n=>
  have q:=ok _ _ ha hs
  rw[hs]at hF sp
  subst hF
  refine DW.dP pQ rfl rfl rfl rfl rfl (sp _) .base rfl (DW.m 1000 rfl ?_)
  refine DW.stS pQ rfl rfl rfl rfl (DW.m 1000 rfl (DW.bO pQ ?_))
  repeat apply sQ
  refine WR.q rfl ?_
  repeat apply sQ
  refine WR.k rfl ?_
  unfold aLl
  repeat apply sQ
  refine WR.q rfl ?_
  repeat apply sQ
  refine WR.m 2 rfl ?_
  refine WQ.c rfl (aBk (l:=l) (a:=n) hl' q.2 (by omega) (by decide) rfl) .base rfl ?_
  refine WQ.q rfl ?_
  repeat apply sQ
  refine WR.q rfl ?_
  exact WR.ret ⟨rfl,rfl,⟨_,rfl,by repeat(first|exact VLe.refl _|exact VLe.unk _ _|exact jJ _ _|refine VLe.tup ?_|refine VLe.agg ?_|exact VLL.nil|refine VLL.cons ?_ ?_)⟩,fun b hb=>sE rfl hb⟩
theorem aYx{l:List Tz}{S:Nat→R (List Sx)}(hS:StmOk l S)(hl:l.length<20000){m:Nat}{p:Int}{nm:List Nat}{mt:Bool}{rv:Pm}{bs:List Pm}{a:Nat}(ha:a≤l.length){F:R Dx}(hF:fJ3 l S m p nm mt rv bs a=F)(ho:F.aU=false){tm:TM}{lc:LM}(htm:TellT tm (aLw p nm mt rv bs [] false zT) bBq)(hlc:TellL lc (aLw p nm mt rv bs [] false zT)):
  WR Go.Proofs.Tryz.prog [] ⟨Go.Proofs.Tryz.f44.ntmps,none,44⟩ aAx (SL.toS ⟨tm,[],none,1001,[(1000,frO l a)],lc⟩) (xZ Go.Proofs.Tryz.prog Go.Proofs.Tryz.f44 (F.nZ aAj) 1001 (frL l F.at')) (xX Go.Proofs.Tryz.prog Go.Proofs.Tryz.f44 (F.nZ aAj) 1001 (frL l F.at')):=by
 have hl':l.length<4294967296:=by omega
 refine WR.weak (SW.aP htm hlc) ?_
 unfold fJ3 at hF
 obtain⟨rn,ra,⟨rtk,rta,rtp,rtn,rtl⟩⟩:=rv
 unfold aAx
 repeat apply sQ
 refine WR.m 1 rfl ?_
 have s2:=dF l a hl' ha [40]
 cases h2:bP l 4 [40] a with
 |out=>rw[h2]at hF;subst hF;cases ho
 |er a1 d1 p c=>
  rw[h2]at hF s2
  subst hF
  exact WQ.aK rfl rfl rfl rfl rfl (s2.er ⟨trivial,trivial⟩ (R:=1000) (by decide) rfl) (.put .base rfl) ⟨rfl,rfl,rfl,fun b hb=>rfl⟩
 |ok u b2=>
 rw[h2]at hF s2
 simp only[R.bind]at hF
 refine WQ.c rfl (s2.ok ⟨trivial,trivial⟩ trivial (R:=1000) (by decide) rfl) (.put .base rfl) rfl ?_
 have q2:=aN (by decide) h2
 refine WQ.q rfl ?_
 repeat apply sQ
 refine WR.m 3 rfl ?_
 have s3:=uT l hl [41] true m b2 q2.2.1
 cases h3:bS l (cL l) [41] true m b2 with
 |out=>rw[h3]at hF;subst hF;cases ho
 |er a1 d1 p c=>
  rw[h3]at hF s3
  subst hF
  exact WQ.aK rfl rfl rfl rfl rfl (mF (r:=.pan (cC p c)) (s3 rfl) ⟨(by show 1000<1001;decide),trivial,trivial,⟨trivial,⟨(by show 1000<1001;decide),trivial⟩,trivial⟩,trivial⟩ aV (R:=1000) (by decide) rfl (fun ρ e=>by simp only[cH,V.ren,tU,e]<;>rfl)) (.put .base rfl) ⟨rfl,rfl,rfl,fun b hb=>rfl⟩
 |ok fs b3=>
 rw[h3]at hF s3
 simp only[R.bind]at hF
 refine WQ.c rfl (mF (r:=.ret _) (s3 rfl) ⟨(by show 1000<1001;decide),trivial,trivial,⟨trivial,⟨(by show 1000<1001;decide),trivial⟩,trivial⟩,trivial⟩ (eY jE _) (R:=1000) (by decide) rfl (fun ρ e=>by simp only[cH,V.ren,tU,e]<;>rfl)) (.put .base rfl) rfl ?_
 have q3:=cO (fun a x a1=>bT) h3
 refine WQ.q rfl ?_
 repeat apply sQ
 refine WR.m 1 rfl ?_
 refine WQ.c rfl (sH (l:=l) (a:=b3) (k:=4) (s:=[123]) hl' (by decide) rfl) .base rfl ?_
 unfold xQ at hF
 cases h4:isF l b3 4 [123]with
 |true=>
  rw[h4]at hF
  simp only[R.bind]at hF
  refine WQ.q rfl ?_
  repeat apply sQ
  refine WR.q rfl ?_
  repeat apply sQ
  refine WR.k rfl ?_
  refine aYl hS hl q3.2 hF ?_ ?_
  ·exact tQ
  ·exact lQ
 |false=>
  rw[h4]at hF
  refine WQ.q rfl ?_
  repeat apply sQ
  refine WR.q rfl ?_
  repeat apply sQ
  refine WR.aC rfl ?_
  repeat apply sQ
  refine WR.m 1 rfl ?_
  have s4:=kR l b3 hl' q3.2
  simp only[R.bind]at hF
  cases h6:cJ l b3 with
  |out=>rw[h6]at hF;subst hF;cases ho
  |er a1 d1 p c=>
   rw[h6]at hF s4
   subst hF
   exact WQ.aK rfl rfl rfl rfl rfl (s4.er trivial (R:=1000) (by decide) rfl) (.put .base rfl) ⟨rfl,rfl,rfl,fun b hb=>rfl⟩
  |ok x b4=>
  rw[h6]at hF s4
  simp only[R.bind]at hF
  refine WQ.c rfl (s4.ok trivial (oX _) (R:=1000) (by decide) rfl) (.put .base rfl) rfl ?_
  have q4:=eS h6
  obtain⟨xk,xa,xp,xn,xl⟩:=x
  refine WQ.q rfl ?_
  refine aYl hS hl q4.2 hF ?_ ?_
  ·exact tQ
  ·exact lQ
theorem aYj{l:List Tz}{S:Nat→R (List Sx)}(hS:StmOk l S)(hl:l.length<20000){m:Nat}{mt:Bool}{rv:Pm}{a:Nat}(ha:a≤l.length){F:R Dx}(hF:fJ4 l S m mt rv a=F)(ho:F.aU=false){tm:TM}{lc:LM}(htm:TellT tm (aLw 0 [] mt rv [] [] false zT) bBq)(hlc:TellL lc (aLw 0 [] mt rv [] [] false zT)):
  WR Go.Proofs.Tryz.prog [] ⟨Go.Proofs.Tryz.f44.ntmps,none,44⟩ aCk (SL.toS ⟨tm,[],none,1001,[(1000,frO l a)],lc⟩) (xZ Go.Proofs.Tryz.prog Go.Proofs.Tryz.f44 (F.nZ aAj) 1001 (frL l F.at')) (xX Go.Proofs.Tryz.prog Go.Proofs.Tryz.f44 (F.nZ aAj) 1001 (frL l F.at')):=by
 have hl':l.length<4294967296:=by omega
 refine WR.weak (SW.aP htm hlc) ?_
 unfold fJ4 at hF
 obtain⟨rn,ra,⟨rtk,rta,rtp,rtn,rtl⟩⟩:=rv
 unfold aCk
 repeat apply sQ
 refine WR.m 1 rfl ?_
 have s1:=iA l a hl' ha
 cases h1:fName l a with
 |out=>rw[h1]at hF;subst hF;cases ho
 |er a1 d1 p c=>
  rw[h1]at hF s1
  subst hF
  exact WQ.aK rfl rfl rfl rfl rfl (s1.er trivial (R:=1000) (by decide) rfl) (.put .base rfl) ⟨rfl,rfl,rfl,fun b hb=>rfl⟩
 |ok t b1=>
 rw[h1]at hF s1
 simp only[R.bind]at hF
 refine WQ.c rfl (s1.ok trivial (kM _) (R:=1000) (by decide) rfl) (.put .base rfl) rfl ?_
 have q1:=cA h1
 obtain⟨tk,ta,te,tt⟩:=t
 refine WQ.q rfl ?_
 repeat apply sQ
 refine WR.aL aT (DW.m 1000 rfl ?_)
 refine DW.stS pQ rfl rfl rfl rfl (DW.m 1000 rfl ?_)
 refine DW.stS pQ rfl rfl rfl rfl (DW.m 1000 rfl (DW.bO pQ ?_))
 repeat apply sQ
 refine WR.m 1 rfl ?_
 refine WQ.c rfl (fU (k:=4) (s:=[91]) hl' q1.2.1 (by decide) rfl) (.put .base rfl) rfl ?_
 unfold isA
 cases h2:isF l b1 4 [91]with
 |true=>
  have hlt:=bB h2 (by decide)
  rw[h2]at hF
  dsimp only at hF
  refine WQ.q rfl ?_
  repeat apply sQ
  refine WR.aC rfl ?_
  repeat apply sQ
  refine WR.m 3 rfl ?_
  have s3:=uT l hl [93] false m (b1+1) hlt
  cases h3:bS l (cL l) [93] false m (b1+1)with
  |out=>rw[h3]at hF;subst hF;cases ho
  |er a1 d1 p c=>
   rw[h3]at hF s3
   subst hF
   exact WQ.aK rfl rfl rfl rfl rfl (mF (r:=.pan (cC p c)) (s3 rfl) ⟨(by show 1000<1001;decide),trivial,trivial,⟨trivial,⟨(by show 1000<1001;decide),trivial⟩,trivial⟩,trivial⟩ aV (R:=1000) (by decide) rfl (fun ρ e=>by simp only[cH,V.ren,tU,e]<;>rfl)) (.put .base rfl) ⟨rfl,rfl,rfl,fun b hb=>rfl⟩
  |ok bs b3=>
  rw[h3]at hF s3
  simp only[R.bind]at hF
  refine WQ.c rfl (mF (r:=.ret _) (s3 rfl) ⟨(by show 1000<1001;decide),trivial,trivial,⟨trivial,⟨(by show 1000<1001;decide),trivial⟩,trivial⟩,trivial⟩ (eY jE _) (R:=1000) (by decide) rfl (fun ρ e=>by simp only[cH,V.ren,tU,e]<;>rfl)) (.put .base rfl) rfl ?_
  have q3:=cO (fun a x a1=>bT) h3
  refine WQ.q rfl ?_
  refine aYx hS hl q3.2 hF ho ?_ ?_
  ·exact tQ
  ·exact lQ
 |false=>
  rw[h2]at hF
  refine WQ.q rfl ?_
  repeat apply sQ
  refine WR.k rfl ?_
  refine aYx hS hl q1.2.1 hF ho ?_ ?_
  ·exact tQ
  ·exact lQ
theorem aHy{l:List Tz}{S:Nat→R (List Sx)}(hS:StmOk l S)(hl:l.length<20000)(m a:Nat)(ha:a≤l.length):Fp 44 [] l a aAj (kT l S m a):=by
 intro ho
 have hl':l.length<4294967296:=by omega
 generalize hF:kT l S m a=F at ho⊢
 unfold kT at hF
 refine SCall.aI (fn:=Go.Proofs.Tryz.f44) (by kernel_rfl) bFp (by kernel_rfl) (by kernel_rfl) (Nat.le_refl _) rfl (bX _ _) (by exact kL ho (fun x _=>uN x)) ?_
 unfold bDg
 repeat apply sQ
 refine WR.q rfl ?_
 repeat apply sQ
 refine WR.q rfl ?_
 repeat apply sQ
 refine WR.m 1 rfl ?_
 refine WQ.c rfl (fU (k:=4) (s:=[40]) hl' ha (by decide) rfl) (.put .base rfl) rfl ?_
 unfold isA
 cases h1:isF l a 4 [40]with
 |true=>
  have hlt:=bB h1 (by decide)
  rw[h1]at hF
  dsimp only at hF
  refine WQ.q rfl ?_
  repeat apply sQ
  refine WR.aC rfl ?_
  repeat apply sQ
  refine WR.m 1 rfl ?_
  have s1:=nI l (a+1) hl' hlt
  cases h2:cL l (a+1)with
  |out=>rw[h2]at hF;subst hF;cases ho
  |er a1 d1 p c=>
   rw[h2]at hF s1
   subst hF
   exact WQ.aK rfl rfl rfl rfl rfl (s1.er trivial (R:=1000) (by decide) rfl) (.put .base rfl) ⟨rfl,rfl,rfl,fun b hb=>rfl⟩
  |ok rv b1=>
  rw[h2]at hF s1
  simp only[R.bind]at hF
  refine WQ.c rfl (s1.ok trivial (qQ _) (R:=1000) (by decide) rfl) (.put .base rfl) rfl ?_
  have q1:=bT h2
  obtain⟨rn,ra,⟨rtk,rta,rtp,rtn,rtl⟩⟩:=rv
  refine WQ.q rfl ?_
  repeat apply sQ
  refine WR.m 1 rfl ?_
  have s2:=dF l b1 hl' q1.2 [41]
  cases h3:bP l 4 [41] b1 with
  |out=>rw[h3]at hF;subst hF;cases ho
  |er a1 d1 p c=>
   rw[h3]at hF s2
   subst hF
   exact WQ.aK rfl rfl rfl rfl rfl (s2.er ⟨trivial,trivial⟩ (R:=1000) (by decide) rfl) (.put .base rfl) ⟨rfl,rfl,rfl,fun b hb=>rfl⟩
  |ok u b2=>
  rw[h3]at hF s2
  simp only[R.bind]at hF
  refine WQ.c rfl (s2.ok ⟨trivial,trivial⟩ trivial (R:=1000) (by decide) rfl) (.put .base rfl) rfl ?_
  have q2:=aN (by decide) h3
  refine WQ.q rfl ?_
  refine aYj hS hl q2.2.1 hF ho ?_ ?_
  ·exact tQ
  ·refine .cons rfl (.inl rfl) (.cons rfl (.inr cQ) .nil)
 |false=>
  rw[h1]at hF
  refine WQ.q rfl ?_
  repeat apply sQ
  refine WR.k rfl ?_
  refine aYj hS hl ha hF ho ?_ ?_
  ·exact tQ
  ·refine .cons rfl (.inl rfl) (.cons rfl (.inr cQ) .nil)
end Go.VM
end
