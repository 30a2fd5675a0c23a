/- laid for this seat: VqR VqS -/
import Derived.Test.YtipiffhjilidlaaGreatDoorVh4
set_option linter.unusedVariables false
set_option linter.unusedSimpArgs false
section
/- The document's statements: a statement. -/
set_option maxRecDepth 100000
namespace Go.VM
open Go.RowKit
theorem aPf{l:List Tz}(hl:l.length<20000)(a:Nat):Rel (match decide ((aA l a).k=1)with|true=>⟨a+1,0,0⟩|false=>⟨a,(aA l a).a,5⟩) (mU l (live a)):=by
 have nl:=xU hl a
 cases hk:decide ((aA l a).k=1)with
 |true=>
  rw[hk]at nl
  have nl:mU l (live a)=live (a+1):=nl
  rw[nl]
  exact fQ _
 |false=>
  rw[hk]at nl
  obtain⟨k,nl⟩:=nl
  rw[nl]
  exact lF (by decide)
def aZf(d:Nat)(b1 b2 b3 b4 b5:Bool):TM:=[(0,.v (.ptr 1000 0)),(1,.v (.int .i64 d)),(4,.l 4 0),(5,.l 5 0),(6,.l 6 0),(7,.v (.bool b1)),(8,.v (.bool b2)),(9,.v (.bool b3)),(10,.v (.bool b4)),(12,.v (.bool b5))]
def aWd(t:Tz):LM:=[(4,sC 0 0 [] false zEx dQ dQ),(5,bS t),(6,sC 0 t.a [] false zEx dQ dQ)]
def aWt(l:List Tz)(r:Rk)(u:Tz):OL:=[(1000,rrO l r),(1001,.cells false (bS u))]
theorem gV(l:List Tz)(r:Rk)(u:Tz)(b:Nat)(hb:b<1001):og (rrL l r) b=og (aWt l r u) b:=by
 unfold rrL aWt
 simp only[aQ]
 split
 ·rfl
 ·rw[if_neg (by omega)]
def bEp(l:List Tz)(v:Sx)(s':Sr)(st:S):Prop:=∃i:Got v s',wH Go.Proofs.Tryz.prog Go.Proofs.Tryz.f23 (.ret (.agg (eY i.1.1))) 1001 (rrL l i.1.2) st
def bEt(l:List Tz)(v:Sx)(s':Sr)(x:X)(st:S):Prop:=∃i:Got v s',aOc Go.Proofs.Tryz.prog Go.Proofs.Tryz.f23 (.ret (.agg (eY i.1.1))) 1001 (rrL l i.1.2) x st
theorem aLb(l:List Tz)(a:Nat)(k:Int)(x:List Nat):isS l ⟨a,0,0⟩ k x=isF l a k x:=by
 unfold isS
 rw[show bI ⟨a,0,0⟩=true from rfl,Bool.true_and]
theorem aCo(l:List Tz){s:Sr}(h:s.c≠0)(k:Int)(x:List Nat):isS l s k x=false:=by
 unfold isS
 rw[show bI s=false from decide_eq_false h,Bool.false_and]
theorem Rel.lY{s:Sr}{r:Rk}(h:Rel s r)(hc:s.c=0):s=⟨s.a,0,0⟩∧r=live s.a:=by
 obtain⟨a,p,c⟩:=s
 have hc:c=0:=hc
 subst hc
 obtain⟨hp,hr⟩:=h.1 rfl
 have hp:p=0:=hp
 subst hp
 exact⟨rfl,hr⟩
theorem Rel.code{s:Sr}{r:Rk}(h:Rel s r):r.c=s.c:=by
 by_cases hc:s.c=0
 ·rw[(h.1 hc).2,hc];rfl
 ·exact(h.2 hc).2
section
variable{l:List Tz}{P:Nat→R Ex}(hP:ParseOk l P)(hl:l.length<20000)(h4:∀a,a≤l.length→∀h:H,SCall Go.Proofs.Tryz.prog [] 48 [lsV l,.int .i64 a] none h (.ret (exV (P a))) none h)
variable(n:Nat)(hs:∀m,m<n+1→SpecD l (cA l P m))(d a:Nat)(v:Sx)(s':Sr)(hd:d<30)(ha:a≤l.length)
include hP hl h4 hs hd ha
theorem aHr(e:jK l P (cA l P n) (d+1) ⟨a,0,0⟩=some (v,s')){r1 r2 r3 r4 r5 r6 r7 r8 r9 r:RC}(hr:aMu=.seq r1 (.seq r2 (.seq r3 (.seq r4 (.seq r5 (.seq r6 (.seq r7 (.seq r8 (.seq r9 r)))))))))
  {tm:TM} {lc:LM} (htm:TellT tm (aWd (aA l a)) (aZf d (isF l a 5 aEu) (isF l a 5 aFy) (isF l a 5 sIf) (isF l a 5 aGd) (aAp l a))) (hlc:TellL lc (aWd (aA l a))):
  WR Go.Proofs.Tryz.prog [] ⟨Go.Proofs.Tryz.f23.ntmps,none,23⟩ r (SL.toS ⟨tm,[],none,1002,aWt l (live a) (aA l (a+1)),lc⟩) (bEp l v s') (bEt l v s'):=by
 have hl':l.length<4294967296:=by omega
 have hI:∀a,cX l (live a).k=aA l a:=fun a=>bJ l a
 refine WR.weak (SW.aP htm hlc) ?_
 unfold aMu at hr
 cases hr
 unfold jK at e
 simp only[aLb]at e
 have hlt:∀{x},isF l a 5 x=true→a<l.length:=fun h=>bB h (by decide)
 have hset:aAp l a=true→a+1<l.length∧isF l (a+1) 4 [61]=true:=fun h=>by
  unfold aAp at h
  simp only[Bool.and_eq_true]at h
  refine⟨cJ (by rw[of_decide_eq_true h.2.1];decide),?_⟩
  unfold isF
  rw[h.2.1,h.2.2]
  rfl
 generalize hp:aA l a=t at e⊢
 generalize hu:aA l (a+1)=u at e⊢
 repeat(first|refine WR.seq ?_|refine WR.block ?_)
 refine WR.q rfl ?_
 cases h1:isF l a 5 aEu with
 |true=>
  have h0:=hlt h1
  rw[h1]at e
  have nr:=aPf hl (a+1)
  have e:(match decide (u.k=1)with|true=>some (jY l P 1 t.a u.t ⟨a+1+1,0,0⟩)|false=>some (jY l P 1 t.a [] (eA l ⟨a+1,0,0⟩ 5)))=some (v,s'):=e
  have hfs:eA l ⟨a+1,0,0⟩ 5=⟨a+1,u.a,5⟩:=by
   unfold eA
   rw[show bI ⟨a+1,0,0⟩=true from rfl]
   show(⟨a+1,(aA l (a+1)).a,5⟩:Sr)=_
   rw[hu]
  rw[hfs]at e
  rw[hu]at nr
  obtain⟨s1,nm,hs1,hrel,he,hnm⟩:∃(s1:Sr) (nm:List Nat),s1.a≤l.length∧Rel s1 (mU l (live (a+1)))∧jY l P 1 t.a nm s1=(v,s')∧(s1.c=0→nm=u.t):=by
   cases hk:decide (u.k=1)with
   |true=>
    rw[hk]at e nr
    have:=cJ (l:=l) (a:=a+1) (by rw[hu,of_decide_eq_true hk];decide)
    exact⟨_,_,by show a+1+1≤_;omega,nr,Option.some.inj e,fun _=>rfl⟩
   |false=>
    rw[hk]at e nr
    exact⟨_,_,by show a+1≤_;omega,nr,Option.some.inj e,fun h=>absurd h (by show(5:Int)≠0;decide)⟩
  have st1:=cP hs1 (x:=[61])
  have mr:=nK hl hrel [61]
  have st2:=bR hP st1.len
  obtain⟨y,r2,⟨hr2,hy⟩,sc⟩:=lH hP h4 _ _ st1.len mr
  have st3:=cP st2.len (x:=[59])
  have mr3:=nK hl hr2 [59]
  unfold jY at he
  obtain⟨yk,ya,ye,yn,yv,⟨ytk,yta,ytp,ytn,ytl⟩,ys⟩:=y
  refine WR.aB rfl ?_
  repeat apply sQ
  refine WR.m 5 rfl ?_
  rw[show IntKind.i64.wrap ((live a).k+1)=(live (a+1)).k from aN (by unfold big;omega)]
  refine WQ.q rfl ?_
  repeat apply sQ
  refine WR.q rfl ?_
  repeat apply sQ
  refine WR.m 1 rfl ?_
  refine WQ.c rfl (aEn hl' (s:=live (a+1)) (by decide) rfl) (.put .base rfl) rfl ?_
  rw[hI (a+1),hu]
  refine WQ.q rfl ?_
  repeat apply sQ
  refine WR.q rfl ?_
  repeat apply sQ
  refine WR.m 1 rfl ?_
  refine WQ.c rfl (eK hl' (s:=mU l (live (a+1))) (x:=[61]) (by decide) rfl) (.put .base rfl) rfl ?_
  refine WQ.q rfl ?_
  repeat apply sQ
  refine WR.m 1 rfl ?_
  refine WQ.c rfl (sc (by decide) rfl) (.put .base rfl) rfl ?_
  refine WQ.q rfl ?_
  repeat apply sQ
  refine WR.m 1 rfl ?_
  refine WQ.c rfl (eK hl' (s:=r2) (x:=[59]) (by decide) rfl) (.put .base rfl) rfl ?_
  refine WQ.q rfl ?_
  unfold fT
  repeat apply sQ
  refine WR.q rfl ?_
  cases he
  refine WR.ret ⟨⟨(.mk 1 t.a u.t false (.mk yk ya ye yn yv (.mk ytk yta ytp ytn ytl) ys) [] [],hY l r2 [59]),mr3,fun h=>?_⟩,rfl,rfl,⟨_,rfl,vQ⟩,fun b hb=>gV l _ _ b hb⟩
  have c2:=st3.lY h
  have c1:=st1.lY (st2.lY c2)
  rw[hnm c1,←hy c2]
 |false=>
 rw[h1]at e
 refine WR.aF rfl ?_
 repeat apply sQ
 refine WR.q rfl ?_
 cases h2:isF l a 5 aFy with
 |true=>
  have h0:=hlt h2
  rw[h2]at e
  have e:(match isS l ⟨a+1,0,0⟩ 4 [59]with
   |true=>some (.mk 3 t.a [] false zX [] [],⟨a+1+1,0,0⟩)
   |false=>some (.mk 3 t.a [] true (aS P ⟨a+1,0,0⟩).1 [] [],bH l (aS P ⟨a+1,0,0⟩).2 [59]))=some (v,s'):=e
  rw[aLb]at e
  refine WR.aB rfl ?_
  repeat apply sQ
  refine WR.m 5 rfl ?_
  rw[show IntKind.i64.wrap ((live a).k+1)=(live (a+1)).k from aN (by unfold big;omega)]
  refine WQ.q rfl ?_
  repeat apply sQ
  refine WR.q rfl ?_
  repeat apply sQ
  refine WR.m 1 rfl ?_
  refine WQ.c rfl (aU hl' (s:=live (a+1)) (x:=[59]) (by decide) rfl) .base rfl ?_
  rw[aC]
  cases h3:isF l (a+1) 4 [59]with
  |true=>
   have h5:=bB h3 (by decide)
   have ml:=jG hl (a+1) 0 [59]
   unfold bK at ml
   rw[h3]at e ml
   have ml:hY l (live (a+1)) [59]=live (a+1+1):=ml.1
   cases e
   refine WQ.q rfl ?_
   repeat apply sQ
   refine WR.q rfl ?_
   repeat apply sQ
   refine WR.k rfl ?_
   unfold aAi
   repeat apply sQ
   refine WR.m 1 rfl ?_
   refine WQ.c rfl (eK hl' (s:=live (a+1)) (x:=[59]) (by decide) rfl) (.put .base rfl) rfl ?_
   rw[ml]
   refine WQ.q rfl ?_
   unfold fT
   repeat apply sQ
   refine WR.q rfl ?_
   refine WR.ret ⟨⟨(.mk 3 t.a [] false zX [] [],live (a+1+1)),fQ _,fun _=>rfl⟩,rfl,rfl,⟨_,rfl,vQ⟩,fun b hb=>gV l _ _ b hb⟩
  |false=>
   rw[h3]at e
   have st2:=bR hP (s:=⟨a+1,0,0⟩) (by show a+1≤_;omega)
   obtain⟨y,r2,⟨hr2,hy⟩,sc⟩:=lH hP h4 ⟨a+1,0,0⟩ _ (by show a+1≤_;omega) (fQ _)
   have st3:=cP st2.len (x:=[59])
   have mr3:=nK hl hr2 [59]
   obtain⟨yk,ya,ye,yn,yv,⟨ytk,yta,ytp,ytn,ytl⟩,ys⟩:=y
   cases e
   refine WQ.q rfl ?_
   repeat apply sQ
   refine WR.q rfl ?_
   refine WR.aB rfl ?_
   repeat apply sQ
   refine WR.q rfl ?_
   repeat apply sQ
   refine WR.m 1 rfl ?_
   refine WQ.c rfl (sc (by decide) rfl) (.put .base rfl) rfl ?_
   refine WQ.q rfl ?_
   unfold aAi
   repeat apply sQ
   refine WR.m 1 rfl ?_
   refine WQ.c rfl (eK hl' (s:=r2) (x:=[59]) (by decide) rfl) (.put .base rfl) rfl ?_
   refine WQ.q rfl ?_
   unfold fT
   repeat apply sQ
   refine WR.q rfl ?_
   refine WR.ret ⟨⟨(.mk 3 t.a [] true (.mk yk ya ye yn yv (.mk ytk yta ytp ytn ytl) ys) [] [],hY l r2 [59]),mr3,fun h=>?_⟩,rfl,rfl,⟨_,rfl,vQ⟩,fun b hb=>gV l _ _ b hb⟩
   rw[←hy (st3.lY h)]
 |false=>
 rw[h2]at e
 refine WR.aF rfl ?_
 repeat apply sQ
 refine WR.q rfl ?_
 cases h3:isF l a 5 sIf with
 |true=>
  have h0:=hlt h3
  rw[h3]at e
  have e:(match(cA l P n).block (d+1) (aS P ⟨a+1,0,0⟩).2 with
   |none=>none
   |some (b,s1)=>match isS l s1 5 wZ with
    |true=>match(cA l P n).block (d+1) (bA s1)with
     |none=>none
     |some (e,s2)=>some (.mk 4 t.a [] true (aS P ⟨a+1,0,0⟩).1 b e,s2)
    |false=>some (.mk 4 t.a [] false (aS P ⟨a+1,0,0⟩).1 b [],s1))=some (v,s'):=e
  have st2:=bR hP (s:=⟨a+1,0,0⟩) (by show a+1≤_;omega)
  obtain⟨y,r2,⟨hr2,hy⟩,sc⟩:=lH hP h4 ⟨a+1,0,0⟩ _ (by show a+1≤_;omega) (fQ _)
  generalize aS P ⟨a+1,0,0⟩=q at e st2 hr2 hy
  obtain⟨x,s2⟩:=q
  have st2:Stp l ⟨a+1,0,0⟩ s2:=st2
  have hy:s2.c=0→y=x:=hy
  have hr2:Rel s2 r2:=hr2
  obtain⟨yk,ya,ye,yn,yv,⟨ytk,yta,ytp,ytn,ytl⟩,ys⟩:=y
  cases hb:(cA l P n).block (d+1) s2 with
  |none=>simp only[hb]at e;cases e
  |some q=>
   obtain⟨b,s3⟩:=q
   simp only[hb]at e
   refine WR.aB rfl ?_
   repeat apply sQ
   refine WR.m 5 rfl ?_
   rw[show IntKind.i64.wrap ((live a).k+1)=(live (a+1)).k from aN (by unfold big;omega)]
   refine WQ.q rfl ?_
   repeat apply sQ
   refine WR.q rfl ?_
   repeat apply sQ
   refine WR.m 1 rfl ?_
   refine WQ.c rfl (sc (by decide) rfl) (.put .base rfl) rfl ?_
   refine WQ.q rfl ?_
   by_cases hc:s2.c=0
   ·obtain⟨es2,rfl⟩:=hr2.lY hc
    have hlen2:=st2.len
    generalize s2.a=a2 at es2 hlen2 hr2
    subst es2
    have st3:=(iM hP n).block _ _ _ _ hlen2 hb
    obtain⟨b',r3,⟨hr3,hb'⟩,sb⟩:=vL (enc:=fun x=>.lst (cR x) .unk) (fun v=>⟨bY v,trivial⟩) (by exact⟨trivial,trivial⟩) ((hs n (by omega)).block (d+1) a2 b s3 (by omega) hlen2 hb)
    repeat apply sQ
    refine WR.q rfl ?_
    refine WR.aB rfl ?_
    repeat apply sQ
    refine WR.m 3 rfl ?_
    rw[show IntKind.i64.wrap ((d:Int)+1)=((d+1:Nat):Int)from aN (by unfold big;omega)]
    refine WQ.c rfl (sb (by decide) rfl) (.put .base rfl) rfl ?_
    refine WQ.q rfl ?_
    unfold aBu
    by_cases hc3:s3.c=0
    ·obtain⟨es3,rfl⟩:=hr3.lY hc3
     have hlen3:=st3.len
     generalize s3.a=a3 at es3 hlen3 hr3
     subst es3
     rw[aLb]at e
     repeat apply sQ
     refine WR.m 1 rfl ?_
     refine WQ.c rfl (aM hl' (s:=live a3) (x:=[101,108,115,101]) (by decide) rfl) .base rfl ?_
     rw[aC]
     unfold wZ at e
     cases h5:isF l a3 5 [101,108,115,101]with
     |true=>
      have hlt3:=bB h5 (by decide)
      rw[h5]at e
      have e:(match(cA l P n).block (d+1) ⟨a3+1,0,0⟩with
       |none=>none
       |some (e,s2)=>some (.mk 4 t.a [] true x b e,s2))=some (v,s'):=e
      cases hb2:(cA l P n).block (d+1) ⟨a3+1,0,0⟩with
      |none=>simp only[hb2]at e;cases e
      |some q=>
       obtain⟨el,s4⟩:=q
       simp only[hb2]at e
       obtain⟨el',r4,⟨hr4,hel⟩,sb2⟩:=vL (enc:=fun x=>.lst (cR x) .unk) (fun v=>⟨bY v,trivial⟩) (by exact⟨trivial,trivial⟩) ((hs n (by omega)).block (d+1) (a3+1) el s4 (by omega) hlt3 hb2)
       cases e
       refine WQ.q rfl ?_
       repeat apply sQ
       refine WR.q rfl ?_
       repeat apply sQ
       refine WR.aB rfl ?_
       repeat apply sQ
       refine WR.m 5 rfl ?_
       rw[show IntKind.i64.wrap ((live a3).k+1)=(live (a3+1)).k from aN (by unfold big;omega)]
       refine WQ.q rfl ?_
       repeat apply sQ
       refine WR.q rfl ?_
       repeat apply sQ
       refine WR.m 3 rfl ?_
       rw[show IntKind.i64.wrap ((d:Int)+1)=((d+1:Nat):Int)from aN (by unfold big;omega)]
       refine WQ.c rfl (sb2 (by decide) rfl) (.put .base rfl) rfl ?_
       refine WQ.q rfl ?_
       unfold fT
       repeat apply sQ
       refine WR.q rfl ?_
       refine WR.ret ⟨⟨(.mk 4 t.a [] true (.mk yk ya ye yn yv (.mk ytk yta ytp ytn ytl) ys) b' el',r4),hr4,fun h=>?_⟩,rfl,rfl,⟨_,rfl,vQ⟩,fun b hb=>gV l _ _ b hb⟩
       rw[←hy rfl,hb' rfl,hel h]
     |false=>
      rw[h5]at e
      cases e
      refine WQ.q rfl ?_
      repeat apply sQ
      refine WR.q rfl ?_
      repeat apply sQ
      refine WR.k rfl ?_
      unfold fT
      repeat apply sQ
      refine WR.q rfl ?_
      refine WR.ret ⟨⟨(.mk 4 t.a [] false (.mk yk ya ye yn yv (.mk ytk yta ytp ytn ytl) ys) b' [],live a3),hr3,fun h=>?_⟩,rfl,rfl,⟨_,rfl,vQ⟩,fun b hb=>gV l _ _ b hb⟩
      rw[←hy rfl,hb' rfl]
    ·have hr3c:r3.c≠0:=by rw[hr3.code];exact hc3
     rw[aCo l hc3]at e
     cases e
     repeat apply sQ
     refine WR.m 1 rfl ?_
     refine WQ.c rfl (aM hl' (s:=r3) (x:=[101,108,115,101]) (by decide) rfl) .base rfl ?_
     refine WQ.q rfl ?_
     repeat apply sQ
     refine WR.m 6 rfl ?_
     rw[show decide (r3.c=0)=false from decide_eq_false hr3c]
     refine WQ.q rfl ?_
     repeat apply sQ
     refine WR.k rfl ?_
     unfold fT
     repeat apply sQ
     refine WR.q rfl ?_
     refine WR.ret ⟨⟨(.mk 4 t.a [] false (.mk yk ya ye yn yv (.mk ytk yta ytp ytn ytl) ys) b' [],r3),hr3,fun h=>absurd h hc3⟩,rfl,rfl,⟨_,rfl,vQ⟩,fun b hb=>gV l _ _ b hb⟩
   ·have hr2c:r2.c≠0:=by rw[hr2.code];exact hc
    obtain⟨rfl,rfl⟩:=tG hb hc
    rw[aCo l hc]at e
    cases e
    repeat apply sQ
    refine WR.m 5 rfl ?_
    refine WQ.m 1 rfl ?_
    rw[show decide (r2.c=0)=false from decide_eq_false hr2c]
    refine WQ.q rfl ?_
    repeat apply sQ
    refine WR.k rfl ?_
    unfold aBu
    repeat apply sQ
    refine WR.m 1 rfl ?_
    refine WQ.c rfl (aM hl' (s:=r2) (x:=[101,108,115,101]) (by decide) rfl) .base rfl ?_
    refine WQ.q rfl ?_
    repeat apply sQ
    refine WR.m 6 rfl ?_
    rw[show decide (r2.c=0)=false from decide_eq_false hr2c]
    refine WQ.q rfl ?_
    repeat apply sQ
    refine WR.k rfl ?_
    unfold fT
    repeat apply sQ
    refine WR.q rfl ?_
    refine WR.ret ⟨⟨(.mk 4 t.a [] false (.mk yk ya ye yn yv (.mk ytk yta ytp ytn ytl) ys) [] [],r2),hr2,fun h=>absurd h hc⟩,rfl,rfl,⟨_,rfl,vQ⟩,fun b hb=>gV l _ _ b hb⟩
 |false=>
 rw[h3]at e
 refine WR.aF rfl ?_
 repeat apply sQ
 refine WR.q rfl ?_
 cases h6:isF l a 5 aGd with
 |true=>
  have h0:=hlt h6
  rw[h6]at e
  have e:(match(cA l P n).block (d+1) (aS P ⟨a+1,0,0⟩).2 with
   |none=>none
   |some (b,s1)=>some (.mk 5 t.a [] false (aS P ⟨a+1,0,0⟩).1 b [],s1))=some (v,s'):=e
  have st2:=bR hP (s:=⟨a+1,0,0⟩) (by show a+1≤_;omega)
  obtain⟨y,r2,⟨hr2,hy⟩,sc⟩:=lH hP h4 ⟨a+1,0,0⟩ _ (by show a+1≤_;omega) (fQ _)
  generalize aS P ⟨a+1,0,0⟩=q at e st2 hr2 hy
  obtain⟨x,s2⟩:=q
  have st2:Stp l ⟨a+1,0,0⟩ s2:=st2
  have hy:s2.c=0→y=x:=hy
  have hr2:Rel s2 r2:=hr2
  obtain⟨yk,ya,ye,yn,yv,⟨ytk,yta,ytp,ytn,ytl⟩,ys⟩:=y
  cases hb:(cA l P n).block (d+1) s2 with
  |none=>simp only[hb]at e;cases e
  |some q=>
   obtain⟨b,s3⟩:=q
   simp only[hb]at e
   refine WR.aB rfl ?_
   repeat apply sQ
   refine WR.m 5 rfl ?_
   rw[show IntKind.i64.wrap ((live a).k+1)=(live (a+1)).k from aN (by unfold big;omega)]
   refine WQ.q rfl ?_
   repeat apply sQ
   refine WR.q rfl ?_
   repeat apply sQ
   refine WR.m 1 rfl ?_
   refine WQ.c rfl (sc (by decide) rfl) (.put .base rfl) rfl ?_
   refine WQ.q rfl ?_
   by_cases hc:s2.c=0
   ·obtain⟨es2,rfl⟩:=hr2.lY hc
    have hlen2:=st2.len
    generalize s2.a=a2 at es2 hlen2 hr2
    subst es2
    obtain⟨b',r3,⟨hr3,hb'⟩,sb⟩:=vL (enc:=fun x=>.lst (cR x) .unk) (fun v=>⟨bY v,trivial⟩) (by exact⟨trivial,trivial⟩) ((hs n (by omega)).block (d+1) a2 b s3 (by omega) hlen2 hb)
    cases e
    repeat apply sQ
    refine WR.q rfl ?_
    refine WR.aB rfl ?_
    repeat apply sQ
    refine WR.m 3 rfl ?_
    rw[show IntKind.i64.wrap ((d:Int)+1)=((d+1:Nat):Int)from aN (by unfold big;omega)]
    refine WQ.c rfl (sb (by decide) rfl) (.put .base rfl) rfl ?_
    refine WQ.q rfl ?_
    unfold fT
    repeat apply sQ
    refine WR.q rfl ?_
    refine WR.ret ⟨⟨(.mk 5 t.a [] false (.mk yk ya ye yn yv (.mk ytk yta ytp ytn ytl) ys) b' [],r3),hr3,fun h=>?_⟩,rfl,rfl,⟨_,rfl,vQ⟩,fun b hb=>gV l _ _ b hb⟩
    rw[←hy rfl,hb' h]
   ·have hr2c:r2.c≠0:=by rw[hr2.code];exact hc
    obtain⟨rfl,rfl⟩:=tG hb hc
    cases e
    repeat apply sQ
    refine WR.m 5 rfl ?_
    refine WQ.m 1 rfl ?_
    rw[show decide (r2.c=0)=false from decide_eq_false hr2c]
    refine WQ.q rfl ?_
    repeat apply sQ
    refine WR.k rfl ?_
    unfold fT
    repeat apply sQ
    refine WR.q rfl ?_
    refine WR.ret ⟨⟨(.mk 5 t.a [] false (.mk yk ya ye yn yv (.mk ytk yta ytp ytn ytl) ys) [] [],r2),hr2,fun h=>absurd h hc⟩,rfl,rfl,⟨_,rfl,vQ⟩,fun b hb=>gV l _ _ b hb⟩
 |false=>
 rw[h6]at e
 refine WR.aF rfl ?_
 repeat apply sQ
 refine WR.q rfl ?_
 cases h7:aAp l a with
 |true=>
  obtain⟨h0,h8⟩:=hset h7
  rw[h7]at e
  have e:some (jY l P 2 t.a t.t ⟨a+1,0,0⟩)=some (v,s'):=e
  have em:bH l ⟨a+1,0,0⟩ [61]=⟨a+2,0,0⟩:=by
   unfold bH
   rw[aLb,h8]
   rfl
  have he:=Option.some.inj e
  unfold jY at he
  rw[em]at he
  have st2:=bR hP (s:=⟨a+2,0,0⟩) (by show a+2≤_;omega)
  obtain⟨y,r2,⟨hr2,hy⟩,sc⟩:=lH hP h4 ⟨a+2,0,0⟩ _ (by show a+2≤_;omega) (fQ _)
  have st3:=cP st2.len (x:=[59])
  have mr3:=nK hl hr2 [59]
  obtain⟨yk,ya,ye,yn,yv,⟨ytk,yta,ytp,ytn,ytl⟩,ys⟩:=y
  cases he
  refine WR.aB rfl ?_
  repeat apply sQ
  refine WR.m 6 rfl ?_
  rw[show IntKind.i64.wrap ((live a).k+2)=(live (a+2)).k from by show IntKind.i64.wrap ((a:Int)+2)=((a+2:Nat):Int);rw[wrap64 (by omega) (by omega)];rfl]
  refine WQ.q rfl ?_
  repeat apply sQ
  refine WR.q rfl ?_
  repeat apply sQ
  refine WR.q rfl ?_
  repeat apply sQ
  refine WR.m 1 rfl ?_
  refine WQ.c rfl (sc (by decide) rfl) (.put .base rfl) rfl ?_
  refine WQ.q rfl ?_
  repeat apply sQ
  refine WR.m 1 rfl ?_
  refine WQ.c rfl (eK hl' (s:=r2) (x:=[59]) (by decide) rfl) (.put .base rfl) rfl ?_
  refine WQ.q rfl ?_
  unfold fT
  repeat apply sQ
  refine WR.q rfl ?_
  refine WR.ret ⟨⟨(.mk 2 t.a t.t false (.mk yk ya ye yn yv (.mk ytk yta ytp ytn ytl) ys) [] [],hY l r2 [59]),mr3,fun h=>?_⟩,rfl,rfl,⟨_,rfl,vQ⟩,fun b hb=>gV l _ _ b hb⟩
  rw[←hy (st3.lY h)]
 |false=>
  rw[h7]at e
  have st2:=bR hP (s:=⟨a,0,0⟩) (by show a≤_;omega)
  obtain⟨y,r2,⟨hr2,hy⟩,sc⟩:=lH hP h4 ⟨a,0,0⟩ _ (by show a≤_;omega) (fQ _)
  have st3:=cP st2.len (x:=[59])
  have mr3:=nK hl hr2 [59]
  obtain⟨yk,ya,ye,yn,yv,⟨ytk,yta,ytp,ytn,ytl⟩,ys⟩:=y
  cases e
  refine WR.aF rfl ?_
  repeat apply sQ
  refine WR.q rfl ?_
  repeat apply sQ
  refine WR.m 1 rfl ?_
  refine WQ.c rfl (sc (by decide) rfl) (.put .base rfl) rfl ?_
  refine WQ.q rfl ?_
  repeat apply sQ
  refine WR.m 1 rfl ?_
  refine WQ.c rfl (eK hl' (s:=r2) (x:=[59]) (by decide) rfl) (.put .base rfl) rfl ?_
  refine WQ.q rfl ?_
  unfold fT
  repeat apply sQ
  refine WR.q rfl ?_
  refine WR.ret ⟨⟨(.mk 6 t.a [] false (.mk yk ya ye yn yv (.mk ytk yta ytp ytn ytl) ys) [] [],hY l r2 [59]),mr3,fun h=>?_⟩,rfl,rfl,⟨_,rfl,vQ⟩,fun b hb=>gV l _ _ b hb⟩
  rw[←hy (st3.lY h)]
end
end Go.VM
end
section
/- The document's statements: all; a parse. -/
set_option maxRecDepth 100000
namespace Go.VM
open Go.RowKit
theorem aIi{l:List Tz}{P:Nat→R Ex}(hP:ParseOk l P)(hl:l.length<20000)(h4:∀a,a≤l.length→∀h:H,SCall Go.Proofs.Tryz.prog [] 48 [lsV l,.int .i64 a] none h (.ret (exV (P a))) none h)
  (n:Nat) (hs:∀m,m<n+1→SpecD l (cA l P m)) (d a:Nat) (v:Sx) (s':Sr) (hd:d<30) (ha:a≤l.length) (e:jK l P (cA l P n) (d+1) ⟨a,0,0⟩=some (v,s')):
  ∃i:Got v s',SCall Go.Proofs.Tryz.prog [] 23 (.ptr 1000 0::[.int .i64 d]) none ⟨1001,og (rrL l (live a)),[]⟩ (.ret (.agg (eY i.1.1))) none ⟨1001,og (rrL l i.1.2),[]⟩:=by
 have hl':l.length<4294967296:=by omega
 have hI:∀a,cX l (live a).k=aA l a:=fun a=>bJ l a
 obtain⟨r1,r2,r3,r4,r5,r6,r7,r8,r9,r,hr⟩:∃r1 r2 r3 r4 r5 r6 r7 r8 r9 r,aMu=.seq r1 (.seq r2 (.seq r3 (.seq r4 (.seq r5 (.seq r6 (.seq r7 (.seq r8 (.seq r9 r)))))))):=by unfold aMu;exact⟨_,_,_,_,_,_,_,_,_,_,rfl⟩
 have body:=fun tm lc htm hlc=>aHr hP hl h4 n hs d a v s' hd ha e hr (tm:=tm) (lc:=lc) htm hlc
 have tk:=aBt l hl' ((a+1:Nat):Int)
 rw[bJ]at tk
 refine SCall.rM (nx':=fun _=>1001) (fn:=Go.Proofs.Tryz.f23) (by kernel_rfl) aZu (by kernel_rfl) (by kernel_rfl) (fun _=>Nat.le_refl _) (fun _=>rfl) (fun _=>aX _ _) (fun i=>by exact nU _) ?_
 unfold aMu at hr⊢
 cases hr
 unfold aEu aFy sIf aGd aAp at body
 repeat apply sQ
 refine WR.q rfl ?_
 repeat apply sQ
 refine WR.m 1 rfl ?_
 refine WQ.c rfl (bO hl' (s:=live a) (by decide) rfl) .base rfl ?_
 rw[hI]
 refine WQ.q rfl ?_
 repeat apply sQ
 refine WR.q rfl ?_
 repeat apply sQ
 refine WR.m 1 rfl ?_
 refine WQ.c rfl (aM hl' (s:=live a) (x:=[108,101,116]) (by decide) rfl) .base rfl ?_
 rw[aC]
 refine WQ.q rfl ?_
 repeat apply sQ
 refine WR.m 1 rfl ?_
 refine WQ.c rfl (aM hl' (s:=live a) (x:=[114,101,116,117,114,110]) (by decide) rfl) .base rfl ?_
 rw[aC]
 refine WQ.q rfl ?_
 repeat apply sQ
 refine WR.m 1 rfl ?_
 refine WQ.c rfl (aM hl' (s:=live a) (x:=[105,102]) (by decide) rfl) .base rfl ?_
 rw[aC]
 refine WQ.q rfl ?_
 repeat apply sQ
 refine WR.m 1 rfl ?_
 refine WQ.c rfl (aM hl' (s:=live a) (x:=[102,111,114]) (by decide) rfl) .base rfl ?_
 rw[aC]
 refine WQ.q rfl ?_
 repeat apply sQ
 refine WR.aO aV (DW.m 9 rfl ?_)
 rw[show IntKind.i64.wrap ((live a).k+1)=((a+1:Nat):Int)from aN (by unfold big;omega)]
 refine DW.m 1000 rfl ?_
 refine DW.eR pQ rfl rfl rfl rfl rfl (tk _) .base rfl (DW.m 1000 rfl ?_)
 refine DW.stS pQ rfl rfl rfl rfl (DW.m 1000 rfl (DW.cD pQ ?_))
 repeat apply sQ
 refine WR.m 3 rfl ?_
 cases g1:decide ((aA l a).k=1)with
 |false=>
  rw[g1]at body
  refine WQ.q rfl ?_
  refine body _ _ ?_ ?_
  ·exact tQ
  ·exact lQ
 |true=>
  rw[g1]at body
  refine WQ.m 5 rfl ?_
  cases g2:decide ((aA l (a+1)).k=4)with
  |false=>
   rw[g2]at body
   refine WQ.q rfl ?_
   refine body _ _ ?_ ?_
   ·exact tQ
   ·exact lQ
  |true=>
   rw[g2]at body
   refine WQ.m 5 rfl ?_
   cases g3:decide ((aA l (a+1)).t=[61])with
   |false=>
    rw[g3]at body
    refine WQ.q rfl ?_
    refine body _ _ ?_ ?_
    ·exact tQ
    ·exact lQ
   |true=>
    rw[g3]at body
    refine WQ.q rfl ?_
    refine body _ _ ?_ ?_
    ·exact tQ
    ·exact lQ
theorem xR{l:List Tz}{P:Nat→R Ex}(hP:ParseOk l P)(hl:l.length<20000)(h4:∀a,a≤l.length→∀h:H,SCall Go.Proofs.Tryz.prog [] 48 [lsV l,.int .i64 a] none h (.ret (exV (P a))) none h):∀N m,m<N→SpecD l (cA l P m)
 |0,m,h=>absurd h (Nat.not_lt_zero m)
 |N+1,0,_=>⟨fun _ _ _ _ _ _ e=>(by cases e),fun _ _ _ _ _ _ e=>(by cases e)⟩
 |N+1,m+1,h=>by
  have hs:∀k,k<m+1→SpecD l (cA l P k):=fun k hk=>xR hP hl h4 N k (by omega)
  exact⟨fun d a v s' hd ha e=>aCd hP hl m hs d a v s' hd ha e,fun d a v s' hd ha e=>aIi hP hl h4 m hs d a v s' hd ha e⟩
end Go.VM
end
