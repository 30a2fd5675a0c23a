/- laid for this seat: VzI VqP VqQ -/
import Derived.Test.YtipiffhjilidlaaGreatDoorVg9
import Derived.Test.YtipiffhjilidlaaGreatDoorVg7
import Derived.Test.YtipiffhjilidlaaGreatDoorVh3
set_option linter.unusedVariables false
set_option linter.unusedSimpArgs false
section
/- Statements: the calls at the head of the laws. -/
set_option maxRecDepth 100000
namespace Go.VM
open Go.RowKit
def aFn(l:List Tz)(F:Nat):Bool:=(List.range (l.length+1)).all fun a=>!((fns l F).expr 1 a 0).dP
theorem aDv{l:List Tz}{F:Nat}(h:aFn l F=true):∀a,a≤l.length→((fns l F).expr 1 a 0).dP=false:=by
 intro a ha
 have:=List.all_eq_true.1 h a (List.mem_range.2 (by omega))
 simpa using this
def w1:List Nat:=[123,108,101,116,32,120,61,49,59,105,102,32,120,60,50,123,125,101,108,115,101,123,114,101,116,117,114,110,59,125,125]
def w2:List Nat:=[123,120,61,59,125]
def Y1:List Tz:=(cE w1).1.map toZ
def Y2:List Tz:=(cE w2).1.map toZ
def B1:List Sx:=[.mk 1 1 [120] false (.mk 1 7 8 [] 1 zT []) [] [],.mk 4 9 [] true (.mk 9 12 15 [60] 0 zT [.mk 4 12 13 [120] 0 zT [],.mk 1 14 15 [] 2 zT []]) [] [.mk 3 22 [] false zX [] []]]
theorem bDb:(cE w1).2=(0,0):=by kernel_rfl
theorem aYx:(cE w2).2=(0,0):=by kernel_rfl
theorem kn1:aFn Y1 60=true:=by kernel_rfl
theorem kn2:aFn Y2 60=true:=by kernel_rfl
theorem bl1:(cA Y1 (fun a=>(fns Y1 60).expr 1 a 0) 40).block 0 ⟨0,0,0⟩=some (B1,⟨18,0,0⟩):=by kernel_rfl
theorem bl2:(cA Y2 (fun a=>(fns Y2 60).expr 1 a 0) 40).block 0 ⟨0,0,0⟩=some ([.mk 2 1 [120] false zX [] []],⟨3,3,5⟩):=by kernel_rfl
theorem bCz:Y1.length<19999:=by decide
theorem bCy:Y2.length<19999:=by decide
theorem aOu{s:List Nat}(h8:∀c∈s,c<256)(hl:s.length<big)(h:(cE s).2=(0,0)):SCall Go.Proofs.Tryz.prog [0] 9 [.str s] none ⟨1000,og tOl,[]⟩ (.ret (.tup [lsV ((cE s).1.map toZ),.agg (dg 0 0)])) none ⟨1000,og tOl,[]⟩:=by
 have a:=aRi s h8 hl
 unfold aCu at a
 rw[h]at a
 have e:V.lst (List.map hC (cE s).1) .unk=lsV ((cE s).1.map toZ):=by unfold lsV;rw[aDj]
 rw[←e]
 exact a
theorem aNm:SCall Go.Proofs.Tryz.prog [0] 5 [] none ⟨1000,og tOl,[]⟩ (.ret (.bool true)) none ⟨1000,og tOl,[]⟩:=by
 have a1:=aOu (s:=w1) (by decide) (by decide) bDb
 have a2:=aOu (s:=w2) (by decide) (by decide) aYx
 have p1:=sJ (aCn Y1 bCz (by decide) 60 (aDv kn1)) (by have:=bCz;omega) 40 0 (Nat.zero_le _) bl1
 have p2:=sJ (aCn Y2 bCy (by decide) 60 (aDv kn2)) (by have:=bCy;omega) 40 0 (Nat.zero_le _) bl2
 rw[show(cE w1).1.map toZ=Y1 from rfl]at a1
 rw[show(cE w2).1.map toZ=Y2 from rfl]at a2
 rw[show stV (B1,⟨18,0,0⟩)=.tup [.lst (cR B1) .unk,.int .i64 18,.agg (dgX 0 0)]from rfl]at p1
 rw[show stV ([.mk 2 1 [120] false zX [] []],⟨3,3,5⟩)=.tup [.lst [] (.ex 0),.int .i64 0,.agg (dgX 3 5)]from rfl]at p2
 generalize Y1=Z1 at a1 p1
 generalize Y2=Z2 at a2 p2
 refine SCall.listed (fn:=Go.Proofs.Tryz.f5) (by kernel_rfl) bEc (by kernel_rfl) (by kernel_rfl) (Nat.le_refl _) rfl ((by exact⟨qY,trivial⟩)) trivial ?_
 unfold rc5
 repeat apply sQ
 refine WR.q rfl ?_
 repeat apply sQ
 refine WR.reg (WQ.c rfl a1 .base rfl ?_)
 refine WQ.q rfl ?_
 repeat apply sQ
 refine WR.m 1 rfl ?_
 refine WQ.c rfl (p1 _) .base rfl ?_
 refine WQ.q rfl ?_
 repeat apply sQ
 refine WR.reg (WQ.c rfl (SCall.dU a2 _) .base rfl ?_)
 refine WQ.q rfl ?_
 repeat apply sQ
 refine WR.m 1 rfl ?_
 refine WQ.c rfl (p2 _) .base rfl ?_
 refine WQ.q rfl ?_
 repeat apply sQ
 refine WR.q rfl ?_
 repeat apply sQ
 refine WR.k rfl ?_
 repeat apply sQ
 refine WR.q rfl ?_
 exact WR.e
end Go.VM
end
section
/- The document's statements: an expression's reading. -/
set_option maxRecDepth 100000
namespace Go.VM
open Go.RowKit
theorem rU{o:Obj}(x:Nat)(h:x<1000):og [] x=og [(1000,o)] x:=by
 rw[aQ,if_neg (by omega)]
theorem aDl(l:List Tz)(hl:l.length<19999)(hT:∀t∈l,t.t.length<big)(a n:Nat)(ha:a≤l.length)(hn:((fns l n).expr 1 a 0).dP=false):
  SCall Go.Proofs.Tryz.prog [] 48 [lsV l,.int .i64 a] none ⟨1000,og [],[]⟩ (.ret (exV ((fns l n).expr 1 a 0))) none ⟨1000,og [],[]⟩:=by
 have sp:=(xO l hl hT (n+1) n (Nat.lt_succ_self n)).expr 1 a 0 (by decide) (by decide) ha (by decide)
 have ec:=(eH (l:=l) n).expr 1 a 0
 generalize(fns l n).expr 1 a 0=r at sp hn ec⊢
 cases r with
 |out=>cases hn
 |er a1 d1 p c=>
  have hc:=ec _ _ _ _ rfl
  obtain⟨y,k,sc⟩:=SpR.erA sp (by exact⟨trivial,trivial,trivial⟩) (fun v=>aI v)
  obtain⟨yk,ya,ye,yn,yv,⟨ytk,yta,ytp,ytn,ytl⟩,ys⟩:=y
  refine SCall.listed (fn:=Go.Proofs.Tryz.f48) (by kernel_rfl) aWb (by kernel_rfl) (by kernel_rfl) (Nat.le_refl _) rfl (trivial) (by exact sX (.er a1 d1 p c)) ?_
  unfold aYn
  unfold lsV
  repeat apply sQ
  refine WR.q rfl ?_
  repeat apply sQ
  refine WR.reg (WQ.aJ [12] 1000 _ _ _ _ rfl (WQ.aL ?_))
  repeat apply sQ
  refine WR.m 2 rfl ?_
  rw[show decide ((a:Int)<0)=false from decide_eq_false (by omega)]
  refine WQ.m 4 rfl ?_
  rw[List.length_map]
  refine WQ.m 1 rfl ?_
  rw[show decide ((a:Int)>(l.length:Int))=false from decide_eq_false (by omega)]
  refine WQ.q rfl ?_
  repeat apply sQ
  refine WR.k rfl ?_
  repeat apply sQ
  refine WR.m 1 rfl ?_
  refine WQ.c rfl (sc (by decide) rfl) (.put .base rfl) rfl ?_
  refine WQ.q rfl ?_
  repeat apply sQ
  refine WR.m 5 rfl ?_
  refine WQ.m 1 rfl ?_
  rw[show decide (c=0)=false from decide_eq_false hc]
  refine WQ.q rfl ?_
  repeat apply sQ
  refine WR.aB rfl ?_
  refine WR.seq (WR.aO aV (DW.m 1000 rfl ?_))
  refine DW.stS pQ rfl rfl rfl rfl (DW.m 1000 rfl ?_)
  refine DW.stS pQ rfl rfl rfl rfl (DW.m 1000 rfl (DW.cD pQ ?_))
  refine WR.ret ⟨rfl,rfl,⟨_,rfl,vQ⟩,fun b hb=>rU b hb⟩
 |ok y n=>
  obtain⟨yk,ya,ye,yn,yv,⟨ytk,yta,ytp,ytn,ytl⟩,ys⟩:=y
  refine SCall.listed (fn:=Go.Proofs.Tryz.f48) (by kernel_rfl) aWb (by kernel_rfl) (by kernel_rfl) (Nat.le_refl _) rfl (trivial) (by exact sX (.ok (.mk yk ya ye yn yv (.mk ytk yta ytp ytn ytl) ys) n)) ?_
  unfold aYn
  unfold lsV
  repeat apply sQ
  refine WR.q rfl ?_
  repeat apply sQ
  refine WR.reg (WQ.aJ [12] 1000 _ _ _ _ rfl (WQ.aL ?_))
  repeat apply sQ
  refine WR.m 2 rfl ?_
  rw[show decide ((a:Int)<0)=false from decide_eq_false (by omega)]
  refine WQ.m 4 rfl ?_
  rw[List.length_map]
  refine WQ.m 1 rfl ?_
  rw[show decide ((a:Int)>(l.length:Int))=false from decide_eq_false (by omega)]
  refine WQ.q rfl ?_
  repeat apply sQ
  refine WR.k rfl ?_
  repeat apply sQ
  refine WR.m 1 rfl ?_
  refine WQ.c rfl (SpR.okA sp (by exact⟨trivial,trivial,trivial⟩) (aI _) (by decide) rfl) (.put .base rfl) rfl ?_
  refine WQ.q rfl ?_
  repeat apply sQ
  refine WR.q rfl ?_
  repeat apply sQ
  refine WR.k rfl ?_
  refine WR.seq (WR.aO aV (DW.m 1000 rfl ?_))
  refine DW.stS pQ rfl rfl rfl rfl (DW.m 1000 rfl ?_)
  refine DW.stS pQ rfl rfl rfl rfl (DW.m 1000 rfl (DW.cD pQ ?_))
  refine WR.ret ⟨rfl,rfl,⟨_,rfl,vQ⟩,fun b hb=>rU b hb⟩
def Rel(s:Sr)(r:Rk):Prop:=(s.c=0→s.p=0∧r=live s.a)∧(s.c≠0→r.p=s.p∧r.c=s.c)
theorem fQ(a:Nat):Rel ⟨a,0,0⟩ (live a):=⟨fun _=>⟨rfl,rfl⟩,fun h=>absurd rfl h⟩
theorem lF{a:Nat}{k p c:Int}(h:c≠0):Rel ⟨a,p,c⟩ ⟨k,p,c⟩:=⟨fun e=>absurd e h,fun _=>⟨rfl,rfl⟩⟩
theorem nK{l:List Tz}(hl:l.length<20000){s:Sr}{r:Rk}(h:Rel s r)(x:List Nat):Rel (bH l s x) (hY l r x):=by
 obtain⟨a,p,c⟩:=s
 by_cases hc:c=0
 ·subst hc
  obtain⟨hp,hr⟩:=h.1 rfl
  have hp:p=0:=hp
  subst hp;subst hr
  have ml:=jG hl a 0 x
  unfold bK fN at ml
  unfold bH isS
  show Rel (match bI ⟨a,0,0⟩&&isF l a 4 x with|true=>_|false=>_) _
  rw[show bI ⟨a,0,0⟩=true from rfl,Bool.true_and]
  cases hi:isF l a 4 x with
  |true=>
   rw[hi]at ml
   show Rel ⟨a+1,0,0⟩ _
   rw[show hY l (live (⟨a,0,0⟩:Sr).a) x=live (a+1)from ml.1]
   exact fQ _
  |false=>
   rw[hi]at ml
   obtain⟨k,ml⟩:=ml
   show Rel ⟨a,(aA l a).a,5⟩ _
   rw[show hY l (live (⟨a,0,0⟩:Sr).a) x=⟨k,(aA l a).a,5⟩from ml]
   exact lF (by decide)
 ·obtain⟨h1,h2⟩:=h.2 hc
  obtain⟨k,p1,c1⟩:=r
  have h1:p1=p:=h1
  have h2:c1=c:=h2
  subst h1;subst h2
  rw[mA l k p1 c1 hc]
  have e:bH l ⟨a,p1,c1⟩ x=⟨a,p1,c1⟩:=by
   unfold bH isS eA
   rw[show bI ⟨a,p1,c1⟩=false from decide_eq_false hc,Bool.false_and]
  rw[e]
  exact lF hc
abbrev Got{α:Type}(v:α)(s':Sr):={x:α×Rk//Rel s' x.2∧(s'.c=0→x.1=v)}
theorem aGw{l:List Tz}{P:Nat→R Ex}(hP:ParseOk l P)(h4:∀a,a≤l.length→∀h:H,SCall Go.Proofs.Tryz.prog [] 48 [lsV l,.int .i64 a] none h (.ret (exV (P a))) none h)(s:Sr)(r:Rk)(hs:s.a≤l.length)(hr:Rel s r):
  ∃i:Got (aS P s).1 (aS P s).2,SCall Go.Proofs.Tryz.prog [] 36 [.ptr 1000 0] none ⟨1001,og (rrL l r),[]⟩ (.ret (cF i.1.1)) none ⟨1001,og (rrL l i.1.2),[]⟩:=by
 obtain⟨a,p,c⟩:=s
 have ha:a≤l.length:=hs
 by_cases hc:c=0
 ·subst hc
  obtain⟨hp,hr⟩:=hr.1 rfl
  have hp:p=0:=hp
  subst hp;subst hr
  show ∃i:Got (aS P ⟨a,0,0⟩).1 (aS P ⟨a,0,0⟩).2,SCall Go.Proofs.Tryz.prog [] 36 [.ptr 1000 0] none ⟨1001,og (rrL l (live a)),[]⟩ (.ret (cF i.1.1)) none ⟨1001,og (rrL l i.1.2),[]⟩
  have ps:=h4 a ha
  cases hp:P a with
  |out=>have:=hP.known a ha;rw[hp]at this;cases this
  |er a1 d1 p c=>
   have hc:=hP.er _ _ _ _ _ hp
   have e:aS P ⟨a,0,0⟩=(zX,⟨a,p,c⟩):=by
    unfold aS
    rw[show bI ⟨a,0,0⟩=true from rfl]
    show(match P a with|.ok x n=>(x,⟨n,0,0⟩)|.er _ _ p c=>(zX,⟨a,p,c⟩)|.out=>(zX,⟨a,0,0⟩):Ex×Sr)=_
    rw[hp]
   rw[e]
   rw[hp]at ps
   refine⟨⟨(zX,⟨a,p,c⟩),lF hc,fun e=>absurd e hc⟩,?_⟩
   show SCall Go.Proofs.Tryz.prog [] 36 [.ptr 1000 0] none ⟨1001,og (rrL l (live a)),[]⟩ (.ret (cF zX)) none ⟨1001,og (rrL l ⟨a,p,c⟩),[]⟩
   refine SCall.aG (fn:=Go.Proofs.Tryz.f36) (by kernel_rfl) aQv (by kernel_rfl) (by kernel_rfl) (Nat.le_refl _) rfl ((aX _ _)) (by exact aI _) ?_
   unfold aSs
   repeat apply sQ
   refine WR.q rfl ?_
   repeat apply sQ
   refine WR.q rfl ?_
   repeat apply sQ
   refine WR.k rfl ?_
   refine WR.seq (WR.aO aV (DW.m 1000 rfl ?_))
   refine DW.eR pQ rfl rfl rfl rfl rfl (ps _) .base rfl (DW.m 1000 rfl ?_)
   refine DW.stS pQ rfl rfl rfl rfl (DW.m 1000 rfl ?_)
   refine DW.stS pQ rfl rfl rfl rfl (DW.m 1000 rfl (DW.cD pQ ?_))
   repeat apply sQ
   refine WR.m 2 rfl ?_
   refine WQ.m 1 rfl ?_
   rw[show decide (c=0)=false from decide_eq_false hc]
   refine WQ.q rfl ?_
   repeat apply sQ
   refine WR.aB rfl ?_
   repeat apply sQ
   refine WR.q rfl ?_
   repeat apply sQ
   refine WR.q rfl ?_
   refine WR.ret ⟨rfl,rfl,⟨_,rfl,vQ⟩,fun b hb=>tV b hb⟩
  |ok x n=>
   have e:aS P ⟨a,0,0⟩=(x,⟨n,0,0⟩):=by
    unfold aS
    rw[show bI ⟨a,0,0⟩=true from rfl]
    show(match P a with|.ok x n=>(x,⟨n,0,0⟩)|.er _ _ p c=>(zX,⟨a,p,c⟩)|.out=>(zX,⟨a,0,0⟩):Ex×Sr)=_
    rw[hp]
   rw[e]
   rw[hp]at ps
   refine⟨⟨(x,live n),fQ n,fun _=>rfl⟩,?_⟩
   show SCall Go.Proofs.Tryz.prog [] 36 [.ptr 1000 0] none ⟨1001,og (rrL l (live a)),[]⟩ (.ret (cF x)) none ⟨1001,og (rrL l (live n)),[]⟩
   obtain⟨xk,xa,xe,xn,xv,⟨xtk,xta,xtp,xtn,xtl⟩,xs⟩:=x
   refine SCall.aG (fn:=Go.Proofs.Tryz.f36) (by kernel_rfl) aQv (by kernel_rfl) (by kernel_rfl) (Nat.le_refl _) rfl ((aX _ _)) (by exact aI _) ?_
   unfold aSs
   repeat apply sQ
   refine WR.q rfl ?_
   repeat apply sQ
   refine WR.q rfl ?_
   repeat apply sQ
   refine WR.k rfl ?_
   refine WR.seq (WR.aO aV (DW.m 1000 rfl ?_))
   refine DW.eR pQ rfl rfl rfl rfl rfl (ps _) .base rfl (DW.m 1000 rfl ?_)
   refine DW.stS pQ rfl rfl rfl rfl (DW.m 1000 rfl ?_)
   refine DW.stS pQ rfl rfl rfl rfl (DW.m 1000 rfl (DW.cD pQ ?_))
   repeat apply sQ
   refine WR.q rfl ?_
   repeat apply sQ
   refine WR.k rfl ?_
   repeat apply sQ
   refine WR.q rfl ?_
   repeat apply sQ
   refine WR.q rfl ?_
   refine WR.ret ⟨rfl,rfl,⟨_,rfl,vQ⟩,fun b hb=>tV b hb⟩
 ·have e:aS P ⟨a,p,c⟩=(zX,⟨a,p,c⟩):=by
   unfold aS
   rw[show bI ⟨a,p,c⟩=false from decide_eq_false hc]
  rw[e]
  have hrc:=(hr.2 hc).2
  obtain⟨k,p1,c1⟩:=r
  have hrc:c1=c:=hrc
  subst hrc
  refine⟨⟨(zX,⟨k,p1,c1⟩),hr,fun e=>absurd e hc⟩,?_⟩
  show SCall Go.Proofs.Tryz.prog [] 36 [.ptr 1000 0] none ⟨1001,og (rrL l ⟨k,p1,c1⟩),[]⟩ (.ret (cF zX)) none ⟨1001,og (rrL l ⟨k,p1,c1⟩),[]⟩
  refine SCall.aG (fn:=Go.Proofs.Tryz.f36) (by kernel_rfl) aQv (by kernel_rfl) (by kernel_rfl) (Nat.le_refl _) rfl ((aX _ _)) (by exact aI _) ?_
  unfold aSs
  repeat apply sQ
  refine WR.q rfl ?_
  repeat apply sQ
  refine WR.m 5 rfl ?_
  refine WQ.m 1 rfl ?_
  rw[show decide (c1=0)=false from decide_eq_false hc]
  refine WQ.q rfl ?_
  repeat apply sQ
  refine WR.aB rfl ?_
  repeat apply sQ
  refine WR.q rfl ?_
  exact WR.e
theorem lH{l:List Tz}{P:Nat→R Ex}(hP:ParseOk l P)(h4:∀a,a≤l.length→∀h:H,SCall Go.Proofs.Tryz.prog [] 48 [lsV l,.int .i64 a] none h (.ret (exV (P a))) none h)(s:Sr)(r:Rk)(hs:s.a≤l.length)(hr:Rel s r):
  ∃(y:Ex) (r':Rk),(Rel (aS P s).2 r'∧((aS P s).2.c=0→y=(aS P s).1))∧∀{h:H} {R:Nat} (hR:aD≤R) (h1:h.ob R=some (rrO l r)),SCall Go.Proofs.Tryz.prog [] 36 [.ptr R 0] none h (.ret (cF y)) none (h.put R (rrO l r')):=by
 obtain⟨⟨⟨y,r'⟩,hi⟩,sc⟩:=aGw hP h4 s r hs hr
 exact⟨y,r',hi,fun hR h1=>gX sc trivial (aI _) hR h1⟩
end Go.VM
end
section
/- The document's statements: a block. -/
set_option maxRecDepth 100000
namespace Go.VM
open Go.RowKit
theorem pN{l:List Tz}{P:Nat→R Ex}{n d:Nat}{acc:List Sx}{s:Sr}{v:List Sx}{s':Sr}(h:(cA l P n).loop d acc s=some (v,s'))(hc:s.c≠0):v=acc∧s'=s:=by
 cases n with
 |zero=>cases h
 |succ n=>
  have h:gR l (cA l P n) d acc s=some (v,s'):=h
  unfold gR at h
  rw[show bI s=false from decide_eq_false hc]at h
  cases h
  exact⟨rfl,rfl⟩
theorem tG{l:List Tz}{P:Nat→R Ex}{n d:Nat}{s:Sr}{v:List Sx}{s':Sr}(h:(cA l P n).block d s=some (v,s'))(hc:s.c≠0):v=[]∧s'=s:=by
 cases n with
 |zero=>cases h
 |succ n=>
  have h:dN l (cA l P n) d s=some (v,s'):=h
  unfold dN nL at h
  rw[show bI s=false from decide_eq_false hc,Bool.false_and,Bool.and_false]at h
  have e:bH l s [123]=s:=by
   unfold bH isS eA
   rw[show bI s=false from decide_eq_false hc,Bool.false_and]
  have h:(cA l P n).loop (d+1) [] (bH l s [123])=some (v,s'):=h
  rw[e]at h
  exact pN h hc
structure SpecD(l:List Tz)(f:Sf):Prop where
 block:∀d a v s',d≤30→a≤l.length→f.block d ⟨a,0,0⟩=some (v,s')→∃i:Got v s',SCall Go.Proofs.Tryz.prog [] 14 (.ptr 1000 0::[.int .i64 d]) none ⟨1001,og (rrL l (live a)),[]⟩ (.ret (.lst (cR i.1.1) .unk)) none ⟨1001,og (rrL l i.1.2),[]⟩
 stmt:∀d a v s',d<30→a≤l.length→f.stmt (d+1) ⟨a,0,0⟩=some (v,s')→∃i:Got v s',SCall Go.Proofs.Tryz.prog [] 23 (.ptr 1000 0::[.int .i64 d]) none ⟨1001,og (rrL l (live a)),[]⟩ (.ret (.agg (eY i.1.1))) none ⟨1001,og (rrL l i.1.2),[]⟩
theorem vL{α:Type}{enc:α→V}(henc:∀v,(enc v).In (fun _=>False)){f:FuncId}{xs:List V}(hxs:Ins (fun _=>False) xs){l:List Tz}{r:Rk}{v:α}{s':Sr}(h:∃i:Got v s',SCall Go.Proofs.Tryz.prog [] f (.ptr 1000 0::xs) none ⟨1001,og (rrL l r),[]⟩ (.ret (enc i.1.1)) none ⟨1001,og (rrL l i.1.2),[]⟩):
  ∃(y:α) (r':Rk),(Rel s' r'∧(s'.c=0→y=v))∧∀{h:H} {R:Nat} (hR:aD≤R) (h1:h.ob R=some (rrO l r)),SCall Go.Proofs.Tryz.prog [] f (.ptr R 0::xs) none h (.ret (enc y)) none (h.put R (rrO l r')):=by
 obtain⟨⟨⟨y,r'⟩,hi⟩,sc⟩:=h
 exact⟨y,r',hi,fun hR h1=>gX sc hxs (henc y) hR h1⟩
def aIf(l:List Tz)(r:Rk)(acc:List Sx):OL:=(1000,rrO l r)::aUn acc
def wC(d:Nat)(acc:List Sx):TM:=[(0,.v (.ptr 1000 0)),(1,.v (.int .i64 d)),(6,.v (lvS acc))]
theorem aOv{QN:S→Prop}{QX:X→S→Prop}(l:List Tz)(d:Nat)(acc:List Sx)(r:Rk)(hc:r.c≠0){tm:TM}{lc:LM}(htm:TellT tm [] (wC d acc))
  (h0:∀tm,TellT tm [] (wC d acc)→QX (.exit 0) (SL.toS ⟨tm,[],none,nxS acc,aIf l r acc,[]⟩)):
  WLr Go.Proofs.Tryz.prog [] ⟨Go.Proofs.Tryz.f14.ntmps,none,14⟩ oZ (SL.toS ⟨tm,[],none,nxS acc,aIf l r acc,lc⟩) QN QX:=by
 refine WLr.weak (s:=SL.toS ⟨wC d acc,[],none,nxS acc,aIf l r acc,[]⟩) (SW.aP htm .nil) ?_
 unfold oZ
 refine WLr.of ?_
 repeat apply sQ
 refine WR.m 5 rfl ?_
 refine WQ.m 1 rfl ?_
 rw[show decide (r.c=0)=false from decide_eq_false hc]
 refine WQ.q rfl ?_
 repeat apply sQ
 refine WR.aF rfl (WR.exit (h0 _ ?_))
 exact tQ
theorem aQf{QN:S→Prop}{QX:X→S→Prop}{l:List Tz}{P:Nat→R Ex}(hP:ParseOk l P)(hl:l.length<20000)(d:Nat)(hd:d<30):∀(n:Nat) (hs:∀m,m<n→SpecD l (cA l P m)) (acc:List Sx) (a:Nat) (v:List Sx) (s':Sr),a≤l.length→acc.length≤a→(cA l P n).loop (d+1) acc ⟨a,0,0⟩=some (v,s')→
  (∀es r,(Rel s' r∧(s'.c=0→es=v))→∀st,iO Go.Proofs.Tryz.prog Go.Proofs.Tryz.f14 (.lst (cR es) .unk) 1001 (rrL l r) st→QX .ret st)→
  (∀es r,(Rel s' r∧(s'.c=0→es=v))→∀tm,TellT tm [] (wC d es)→QX (.exit 0) (SL.toS ⟨tm,[],none,nxS es,aIf l r es,[]⟩))→
  ∀tm,TellT tm [] (wC d acc)→
  WLr Go.Proofs.Tryz.prog [] ⟨Go.Proofs.Tryz.f14.ntmps,none,14⟩ oZ (SL.toS ⟨tm,[],none,nxS acc,aIf l (live a) acc,[]⟩) QN QX:=by
 intro n
 have hl':l.length<4294967296:=by omega
 induction n with
 |zero=>intro _ acc a v s' _ _ e;cases e
 |succ n ih=>
  intro hs acc a v s' ha hacc e hret hex tm htm
  have e:gR l (cA l P n) (d+1) acc ⟨a,0,0⟩=some (v,s'):=e
  unfold gR at e
  rw[show bI ⟨a,0,0⟩=true from rfl]at e
  have eis:isS l ⟨a,0,0⟩ 4 [125]=isF l a 4 [125]:=by
   unfold isS
   rw[show bI ⟨a,0,0⟩=true from rfl,Bool.true_and]
  simp only[eis]at e
  have aw:=fun nx rw=>aU hl' (s:=live a) (x:=[125]) (h:=⟨nx,og ((1000,rrO l (live a))::rw),[]⟩) (R:=1000) (by decide) rfl
  refine WLr.weak (SW.aP htm .nil) ?_
  unfold oZ
  refine WLr.of ?_
  repeat apply sQ
  refine WR.q rfl ?_
  repeat apply sQ
  refine WR.aB rfl (WR.skip ?_)
  repeat(first|refine WR.seq ?_|refine WR.block ?_)
  refine WR.m 1 rfl ?_
  refine WQ.c rfl (aw _ _) .base rfl ?_
  rw[aC]
  cases hb:isF l a 4 [125]with
  |true=>
   have hlt:=bB hb (by decide)
   rw[hb]at e
   cases e
   refine WQ.q rfl ?_
   repeat apply sQ
   refine WR.q rfl ?_
   repeat apply sQ
   refine WR.aB rfl ?_
   repeat apply sQ
   refine WR.m 5 rfl ?_
   rw[show IntKind.i64.wrap ((live a).k+1)=(live (a+1)).k from aN (by unfold big;omega)]
   refine WQ.q rfl ?_
   repeat apply sQ
   refine WR.q rfl ?_
   refine WR.ret (hret acc (live (a+1)) ⟨fQ (a+1),fun _=>rfl⟩ _ ⟨rfl,rfl,⟨_,rfl,aHf acc⟩,fun b hb=>wV acc b hb⟩)
  |false=>
   rw[hb]at e
   cases h3:(cA l P n).stmt (d+1) ⟨a,0,0⟩with
   |none=>simp only[h3]at e;cases e
   |some q=>
    obtain⟨x,s1⟩:=q
    simp only[h3]at e
    have st:=(iM hP n).stmt _ _ _ _ (show(⟨a,0,0⟩:Sr).a≤l.length from ha) h3
    obtain⟨y,r1,⟨hr1,hy⟩,sc⟩:=vL (enc:=fun x=>.agg (eY x)) (fun v=>nU v) (by exact⟨trivial,trivial⟩) ((hs n (by omega)).stmt d a x s1 hd ha h3)
    have again:∀tm,TellT tm [] (wC d (acc++[y]))→WLr Go.Proofs.Tryz.prog [] ⟨Go.Proofs.Tryz.f14.ntmps,none,14⟩ oZ (SL.toS ⟨tm,[],none,nxS (acc++[y]),aIf l r1 (acc++[y]),[]⟩) QN QX:=by
     intro tm ht
     by_cases hc:s1.c=0
     ·obtain⟨a1,p1,c1⟩:=s1
      have hc:c1=0:=hc
      subst hc
      obtain⟨hp,rfl⟩:=hr1.1 rfl
      have hp:p1=0:=hp
      subst hp
      rw[hy rfl]at ht⊢
      have:=st.lt rfl
      exact ih (fun m hm=>hs m (by omega)) (acc++[x]) a1 v s' st.len (by simp;show acc.length+1≤a1;have:a<a1:=this;omega) e hret hex tm ht
     ·obtain⟨rfl,rfl⟩:=pN e hc
      exact aOv l d _ r1 (by rw[(hr1.2 hc).2];exact hc) ht (fun tm ht=>hex _ _ ⟨hr1,fun h=>absurd h hc⟩ tm ht)
    obtain⟨xk,xa,xn,xh,⟨yk,ya,ye,yn,yv,⟨ytk,yta,ytp,ytn,ytl⟩,ys⟩,xb,xe⟩:=y
    refine WQ.q rfl ?_
    repeat apply sQ
    refine WR.q rfl ?_
    repeat apply sQ
    refine WR.k rfl ?_
    cases acc with
    |nil=>
     repeat apply sQ
     refine WR.m 3 rfl ?_
     refine WQ.c rfl (sc (by decide) rfl) (.put .base rfl) rfl ?_
     refine WQ.m 1 rfl ?_
     refine WQ.eJ rfl (oM (n2:=1) (es2:=[eY (.mk xk xa xn xh (.mk yk ya ye yn yv (.mk ytk yta ytp ytn ytl) ys) xb xe)]) rfl rfl (Nat.zero_lt_one) (by simp) (by simp) (by show 232*1≤lim;decide) rfl rfl rfl rfl) rfl ?_
     refine WQ.q rfl ?_
     refine WIr.again (again _ ?_)
     exact tQ
    |cons q r=>
     repeat apply sQ
     refine WR.m 3 rfl ?_
     refine WQ.c rfl (sc (by decide) rfl) (.put .base rfl) rfl ?_
     refine WQ.m 1 rfl ?_
     refine WQ.eJ rfl (oJ (n:=(q::r).length) (n2:=(q::r++[Sx.mk xk xa xn xh (.mk yk ya ye yn yv (.mk ytk yta ytp ytn ytl) ys) xb xe]).length) (es2:=(q::r++[Sx.mk xk xa xn xh (.mk yk ya ye yn yv (.mk ytk yta ytp ytn ytl) ys) xb xe]).map eY) rfl rfl rfl (List.length_map ..).symm ?_ ?_ ?_ rfl ?_ ?_ rfl) rfl ?_
     ·intro e he
      obtain⟨y,_,rfl⟩:=List.mem_map.1 (show e∈(q::r).map eY from he)
      exact zD y
     ·simp
     ·simp only[List.length_map,List.length_cons,List.length_nil]at hacc⊢;unfold lim;omega
     ·rw[List.map_append];rfl
     ·simp
     refine WQ.q rfl ?_
     refine WIr.again (again _ ?_)
     exact tQ
theorem aCd{l:List Tz}{P:Nat→R Ex}(hP:ParseOk l P)(hl:l.length<20000)(n:Nat)(hs:∀m,m<n+1→SpecD l (cA l P m))(d a:Nat)(v:List Sx)(s':Sr)(hd:d≤30)(ha:a≤l.length)(e:dN l (cA l P n) d ⟨a,0,0⟩=some (v,s')):
  ∃i:Got v s',SCall Go.Proofs.Tryz.prog [] 14 (.ptr 1000 0::[.int .i64 d]) none ⟨1001,og (rrL l (live a)),[]⟩ (.ret (.lst (cR i.1.1) .unk)) none ⟨1001,og (rrL l i.1.2),[]⟩:=by
 have hl':l.length<4294967296:=by omega
 have hI:∀a,cX l (live a).k=aA l a:=fun a=>bJ l a
 have hfl:∀c,dB l (live a) c=⟨a,(aA l a).a,c⟩:=fun c=>by
  unfold dB
  rw[hI]
  rfl
 have edp:nL l d ⟨a,0,0⟩=(decide (d=30)&&isF l a 4 [123]):=by
  unfold nL isF
  rw[show bI ⟨a,0,0⟩=true from rfl,Bool.true_and]
 have emu:bH l ⟨a,0,0⟩ [123]=match isF l a 4 [123]with|true=>⟨a+1,0,0⟩|false=>⟨a,(aA l a).a,5⟩:=by
  unfold bH isS eA
  rw[show bI ⟨a,0,0⟩=true from rfl,Bool.true_and]
  rfl
 unfold dN at e
 rw[edp,emu]at e
 cases hb:isF l a 4 [123]with
 |false=>
  rw[hb,Bool.and_false]at e
  obtain⟨rfl,rfl⟩:=pN e (by show(5:Int)≠0;decide)
  refine⟨⟨([],⟨a,(aA l a).a,5⟩),lF (by decide),fun _=>rfl⟩,?_⟩
  show SCall Go.Proofs.Tryz.prog [] 14 (.ptr 1000 0::[.int .i64 d]) none ⟨1001,og (rrL l (live a)),[]⟩ (.ret (.lst [] .unk)) none ⟨1001,og (rrL l ⟨a,(aA l a).a,5⟩),[]⟩
  refine SCall.aG (fn:=Go.Proofs.Tryz.f14) (by kernel_rfl) aSf (by kernel_rfl) (by kernel_rfl) (Nat.le_refl _) rfl ((aX _ _)) (by exact⟨trivial,trivial⟩) ?_
  unfold aTs
  repeat apply sQ
  refine WR.q rfl ?_
  repeat apply sQ
  refine WR.m 1 rfl ?_
  refine WQ.c rfl (aU hl' (s:=live a) (x:=[123]) (by decide) rfl) .base rfl ?_
  rw[aC,hb]
  refine WQ.q rfl ?_
  repeat apply sQ
  refine WR.q rfl ?_
  repeat apply sQ
  refine WR.aB rfl ?_
  repeat apply sQ
  refine WR.m 1 rfl ?_
  refine WQ.c rfl (dX hl' (s:=live a) (c:=5) (by decide) rfl) (.put .base rfl) rfl ?_
  rw[hfl]
  refine WQ.q rfl ?_
  repeat apply sQ
  refine WR.q rfl ?_
  exact WR.e
 |true=>
  have hlt:=bB hb (by decide)
  rw[hb,Bool.and_true]at e
  rcases Nat.eq_or_lt_of_le hd with rfl|hd30
  ·cases e
   refine⟨⟨([],⟨a,(aA l a).a,6⟩),?_,fun _=>rfl⟩,?_⟩
   ·exact lF (by decide)
   show SCall Go.Proofs.Tryz.prog [] 14 (.ptr 1000 0::[.int .i64 (30:Nat)]) none ⟨1001,og (rrL l (live a)),[]⟩ (.ret (.lst [] .unk)) none ⟨1001,og (rrL l ⟨a,(aA l a).a,6⟩),[]⟩
   refine SCall.aG (fn:=Go.Proofs.Tryz.f14) (by kernel_rfl) aSf (by kernel_rfl) (by kernel_rfl) (Nat.le_refl _) rfl ((aX _ _)) (by exact⟨trivial,trivial⟩) ?_
   unfold aTs
   repeat apply sQ
   refine WR.q rfl ?_
   repeat apply sQ
   refine WR.m 1 rfl ?_
   refine WQ.c rfl (aU hl' (s:=live a) (x:=[123]) (by decide) rfl) .base rfl ?_
   rw[aC,hb]
   refine WQ.q rfl ?_
   repeat apply sQ
   refine WR.q rfl ?_
   repeat apply sQ
   refine WR.k rfl ?_
   repeat apply sQ
   refine WR.q rfl ?_
   repeat apply sQ
   refine WR.aB rfl ?_
   repeat apply sQ
   refine WR.m 1 rfl ?_
   refine WQ.c rfl (dX hl' (s:=live a) (c:=6) (by decide) rfl) (.put .base rfl) rfl ?_
   rw[hfl]
   refine WQ.q rfl ?_
   repeat apply sQ
   refine WR.q rfl ?_
   exact WR.e
  ·rw[show decide (d=30)=false from decide_eq_false (by omega)]at e
   have e:(cA l P n).loop (d+1) [] ⟨a+1,0,0⟩=some (v,s'):=e
   have lp:=fun QN QX=>aQf (QN:=QN) (QX:=QX) hP hl d hd30 n (fun m hm=>hs m (by omega)) [] (a+1) v s' (by omega) (Nat.zero_le _) e
   refine SCall.rM (nx':=fun _=>1001) (fn:=Go.Proofs.Tryz.f14) (by kernel_rfl) aSf (by kernel_rfl) (by kernel_rfl) (fun _=>Nat.le_refl _) (fun _=>rfl) (fun _=>aX _ _) (fun i=>by exact⟨bY _,trivial⟩) ?_
   unfold aTs
   repeat apply sQ
   refine WR.q rfl ?_
   repeat apply sQ
   refine WR.m 1 rfl ?_
   refine WQ.c rfl (aU hl' (s:=live a) (x:=[123]) (by decide) rfl) .base rfl ?_
   rw[aC,hb]
   refine WQ.q rfl ?_
   repeat apply sQ
   refine WR.q rfl ?_
   repeat apply sQ
   refine WR.k rfl ?_
   repeat apply sQ
   refine WR.m 2 rfl ?_
   rw[show decide ((d:Int)≥30)=false from decide_eq_false (by omega)]
   refine WQ.q rfl ?_
   repeat apply sQ
   refine WR.k rfl ?_
   repeat apply sQ
   refine WR.m 5 rfl ?_
   rw[show IntKind.i64.wrap ((live a).k+1)=(live (a+1)).k from aN (by unfold big;omega)]
   refine WQ.q rfl ?_
   repeat apply sQ
   refine WR.q rfl ?_
   repeat apply sQ
   refine WR.block (WR.loop (WLr.weak (s:=SL.toS ⟨wC d [],[],none,nxS [],aIf l (live (a+1)) [],[]⟩) ?_ (lp _ _ (fun es r hr st hst=>⟨⟨(es,r),hr⟩,hst⟩) (fun es r hr tm ht=>?_) _ ?_)))
   ·refine SW.aP ?_ ?_
    ·exact tQ
    ·exact lQ
   ·refine WR.weak (SW.aP ht .nil) ?_
    unfold aJc
    repeat apply sQ
    refine WR.q rfl ?_
    refine WR.ret ⟨⟨(es,r),hr⟩,rfl,rfl,⟨_,rfl,aHf es⟩,fun b hb=>wV es b hb⟩
   ·exact tQ
end Go.VM
end
