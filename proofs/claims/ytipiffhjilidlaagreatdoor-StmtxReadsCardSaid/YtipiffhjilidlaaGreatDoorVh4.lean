/- laid for this seat: VzI VqP VqQ -/
import Derived.Test.YtipiffhjilidlaaGreatDoorVg9
import Derived.Test.YtipiffhjilidlaaGreatDoorVg7
import Derived.Test.YtipiffhjilidlaaGreatDoorVh3
set_option linter.unusedVariables false
set_option linter.unusedSimpArgs false
section
/- Statements: the calls at the head of the laws. -/
set_option maxRecDepth 100000
namespace Go.VM
open Go.RowKit
def aHg(l:List Tz)(F:Nat):Bool:=(List.range (l.length+1)).all fun a=>!((fns l F).expr 1 a 0).dO
theorem aBx{l:List Tz}{F:Nat}(h:aHg l F=true):∀a,a≤l.length→((fns l F).expr 1 a 0).dO=false:=by
 intro a ha
 have:=List.all_eq_true.1 h a (List.mem_range.2 (by omega))
 simpa using this
def w1:List Nat:=[123,108,101,116,32,120,61,49,59,105,102,32,120,60,50,123,125,101,108,115,101,123,114,101,116,117,114,110,59,125,125]
def w2:List Nat:=[123,120,61,59,125]
def Y1:List Tz:=(cV w1).1.map toZ
def Y2:List Tz:=(cV w2).1.map toZ
def B1:List Sx:=[.mk 1 1 [120] false (.mk 1 7 8 [] 1 zT []) [] [],.mk 4 9 [] true (.mk 9 12 15 [60] 0 zT [.mk 4 12 13 [120] 0 zT [],.mk 1 14 15 [] 2 zT []]) [] [.mk 3 22 [] false zX [] []]]
theorem bAq:(cV w1).2=(0,0):=by kernel_rfl
theorem bCp:(cV w2).2=(0,0):=by kernel_rfl
theorem kn1:aHg Y1 60=true:=by kernel_rfl
theorem kn2:aHg Y2 60=true:=by kernel_rfl
theorem bl1:(cB Y1 (fun a=>(fns Y1 60).expr 1 a 0) 40).block 0 ⟨0,0,0⟩=some (B1,⟨18,0,0⟩):=by kernel_rfl
theorem bl2:(cB Y2 (fun a=>(fns Y2 60).expr 1 a 0) 40).block 0 ⟨0,0,0⟩=some ([.mk 2 1 [120] false zX [] []],⟨3,3,5⟩):=by kernel_rfl
theorem bCy:Y1.length<19999:=by decide
theorem bBd:Y2.length<19999:=by decide
theorem aPv{s:List Nat}(h8:∀c∈s,c<256)(hl:s.length<big)(h:(cV s).2=(0,0)):SCall Go.Proofs.Tryz.prog [0] 9 [.str s] none ⟨1000,og tOl,[]⟩ (.ret (.tup [lsV ((cV s).1.map toZ),.agg (dg 0 0)])) none ⟨1000,og tOl,[]⟩:=by
 have a:=aYc s h8 hl
 unfold aGi at a
 rw[h]at a
 have e:V.lst (List.map gR (cV s).1) .unk=lsV ((cV s).1.map toZ):=by unfold lsV;rw[aOu]
 rw[←e]
 exact a
theorem aNy:SCall Go.Proofs.Tryz.prog [0] 5 [] none ⟨1000,og tOl,[]⟩ (.ret (.bool true)) none ⟨1000,og tOl,[]⟩:=by
 have a1:=aPv (s:=w1) (by decide) (by decide) bAq
 have a2:=aPv (s:=w2) (by decide) (by decide) bCp
 have p1:=rS (aEd Y1 bCy (by decide) 60 (aBx kn1)) (by have:=bCy;omega) 40 0 (Nat.zero_le _) bl1
 have p2:=rS (aEd Y2 bBd (by decide) 60 (aBx kn2)) (by have:=bBd;omega) 40 0 (Nat.zero_le _) bl2
 rw[show(cV w1).1.map toZ=Y1 from rfl]at a1
 rw[show(cV w2).1.map toZ=Y2 from rfl]at a2
 rw[show stV (B1,⟨18,0,0⟩)=.tup [.lst (cR B1) .unk,.int .i64 18,.agg (dgX 0 0)]from rfl]at p1
 rw[show stV ([.mk 2 1 [120] false zX [] []],⟨3,3,5⟩)=.tup [.lst [] (.ex 0),.int .i64 0,.agg (dgX 3 5)]from rfl]at p2
 generalize Y1=Z1 at a1 p1
 generalize Y2=Z2 at a2 p2
 refine SCall.listed (fn:=Go.Proofs.Tryz.f5) (by kernel_rfl) bEk (by kernel_rfl) (by kernel_rfl) (Nat.le_refl _) rfl ((by exact⟨rH,trivial⟩)) trivial ?_
 unfold rc5
 repeat apply sQ
 refine WR.q rfl ?_
 repeat apply sQ
 refine WR.reg (WQ.c rfl a1 .base rfl ?_)
 refine WQ.q rfl ?_
 repeat apply sQ
 refine WR.m 1 rfl ?_
 refine WQ.c rfl (p1 _) .base rfl ?_
 refine WQ.q rfl ?_
 repeat apply sQ
 refine WR.reg (WQ.c rfl (SCall.dX a2 _) .base rfl ?_)
 refine WQ.q rfl ?_
 repeat apply sQ
 refine WR.m 1 rfl ?_
 refine WQ.c rfl (p2 _) .base rfl ?_
 refine WQ.q rfl ?_
 repeat apply sQ
 refine WR.q rfl ?_
 repeat apply sQ
 refine WR.k rfl ?_
 repeat apply sQ
 refine WR.q rfl ?_
 exact WR.e
end Go.VM
end
section
/- The document's statements: an expression's reading. -/
set_option maxRecDepth 100000
namespace Go.VM
open Go.RowKit
theorem rV{o:Obj}(x:Nat)(h:x<1000):og [] x=og [(1000,o)] x:=by
 rw[aQ,if_neg (by omega)]
theorem aEk(l:List Tz)(hl:l.length<19999)(hT:∀t∈l,t.t.length<big)(a n:Nat)(ha:a≤l.length)(hn:((fns l n).expr 1 a 0).dO=false):
  SCall Go.Proofs.Tryz.prog [] 48 [lsV l,.int .i64 a] none ⟨1000,og [],[]⟩ (.ret (exV ((fns l n).expr 1 a 0))) none ⟨1000,og [],[]⟩:=by
 have sp:=(xU l hl hT (n+1) n (Nat.lt_succ_self n)).expr 1 a 0 (by decide) (by decide) ha (by decide)
 have ec:=(eH (l:=l) n).expr 1 a 0
 generalize(fns l n).expr 1 a 0=r at sp hn ec⊢
 cases r with
 |out=>cases hn
 |er a1 d1 p c=>
  have hc:=ec _ _ _ _ rfl
  obtain⟨y,k,sc⟩:=SpR.erA sp (by exact⟨trivial,trivial,trivial⟩) (fun v=>aI v)
  obtain⟨yk,ya,ye,yn,yv,⟨ytk,yta,ytp,ytn,ytl⟩,ys⟩:=y
  refine SCall.listed (fn:=Go.Proofs.Tryz.f48) (by kernel_rfl) aWg (by kernel_rfl) (by kernel_rfl) (Nat.le_refl _) rfl (trivial) (by exact sM (.er a1 d1 p c)) ?_
  unfold aYg
  unfold lsV
  repeat apply sQ
  refine WR.q rfl ?_
  repeat apply sQ
  refine WR.reg (WQ.aJ [12] 1000 _ _ _ _ rfl (WQ.aL ?_))
  repeat apply sQ
  refine WR.m 2 rfl ?_
  rw[show decide ((a:Int)<0)=false from decide_eq_false (by omega)]
  refine WQ.m 4 rfl ?_
  rw[List.length_map]
  refine WQ.m 1 rfl ?_
  rw[show decide ((a:Int)>(l.length:Int))=false from decide_eq_false (by omega)]
  refine WQ.q rfl ?_
  repeat apply sQ
  refine WR.k rfl ?_
  repeat apply sQ
  refine WR.m 1 rfl ?_
  refine WQ.c rfl (sc (by decide) rfl) (.put .base rfl) rfl ?_
  refine WQ.q rfl ?_
  repeat apply sQ
  refine WR.m 5 rfl ?_
  refine WQ.m 1 rfl ?_
  rw[show decide (c=0)=false from decide_eq_false hc]
  refine WQ.q rfl ?_
  repeat apply sQ
  refine WR.aB rfl ?_
  refine WR.seq (WR.aO aV (DW.m 1000 rfl ?_))
  refine DW.stS pQ rfl rfl rfl rfl (DW.m 1000 rfl ?_)
  refine DW.stS pQ rfl rfl rfl rfl (DW.m 1000 rfl (DW.cD pQ ?_))
  refine WR.ret ⟨rfl,rfl,⟨_,rfl,vQ⟩,fun b hb=>rV b hb⟩
 |ok y n=>
  obtain⟨yk,ya,ye,yn,yv,⟨ytk,yta,ytp,ytn,ytl⟩,ys⟩:=y
  refine SCall.listed (fn:=Go.Proofs.Tryz.f48) (by kernel_rfl) aWg (by kernel_rfl) (by kernel_rfl) (Nat.le_refl _) rfl (trivial) (by exact sM (.ok (.mk yk ya ye yn yv (.mk ytk yta ytp ytn ytl) ys) n)) ?_
  unfold aYg
  unfold lsV
  repeat apply sQ
  refine WR.q rfl ?_
  repeat apply sQ
  refine WR.reg (WQ.aJ [12] 1000 _ _ _ _ rfl (WQ.aL ?_))
  repeat apply sQ
  refine WR.m 2 rfl ?_
  rw[show decide ((a:Int)<0)=false from decide_eq_false (by omega)]
  refine WQ.m 4 rfl ?_
  rw[List.length_map]
  refine WQ.m 1 rfl ?_
  rw[show decide ((a:Int)>(l.length:Int))=false from decide_eq_false (by omega)]
  refine WQ.q rfl ?_
  repeat apply sQ
  refine WR.k rfl ?_
  repeat apply sQ
  refine WR.m 1 rfl ?_
  refine WQ.c rfl (SpR.okA sp (by exact⟨trivial,trivial,trivial⟩) (aI _) (by decide) rfl) (.put .base rfl) rfl ?_
  refine WQ.q rfl ?_
  repeat apply sQ
  refine WR.q rfl ?_
  repeat apply sQ
  refine WR.k rfl ?_
  refine WR.seq (WR.aO aV (DW.m 1000 rfl ?_))
  refine DW.stS pQ rfl rfl rfl rfl (DW.m 1000 rfl ?_)
  refine DW.stS pQ rfl rfl rfl rfl (DW.m 1000 rfl (DW.cD pQ ?_))
  refine WR.ret ⟨rfl,rfl,⟨_,rfl,vQ⟩,fun b hb=>rV b hb⟩
def Rel(s:Sr)(r:Rk):Prop:=(s.c=0→s.p=0∧r=live s.a)∧(s.c≠0→r.p=s.p∧r.c=s.c)
theorem fL(a:Nat):Rel ⟨a,0,0⟩ (live a):=⟨fun _=>⟨rfl,rfl⟩,fun h=>absurd rfl h⟩
theorem kT{a:Nat}{k p c:Int}(h:c≠0):Rel ⟨a,p,c⟩ ⟨k,p,c⟩:=⟨fun e=>absurd e h,fun _=>⟨rfl,rfl⟩⟩
theorem nG{l:List Tz}(hl:l.length<20000){s:Sr}{r:Rk}(h:Rel s r)(x:List Nat):Rel (bI l s x) (hJ l r x):=by
 obtain⟨a,p,c⟩:=s
 by_cases hc:c=0
 ·subst hc
  obtain⟨hp,hr⟩:=h.1 rfl
  have hp:p=0:=hp
  subst hp;subst hr
  have ml:=jE hl a 0 x
  unfold bM fK at ml
  unfold bI isS
  show Rel (match bJ ⟨a,0,0⟩&&isF l a 4 x with|true=>_|false=>_) _
  rw[show bJ ⟨a,0,0⟩=true from rfl,Bool.true_and]
  cases hi:isF l a 4 x with
  |true=>
   rw[hi]at ml
   show Rel ⟨a+1,0,0⟩ _
   rw[show hJ l (live (⟨a,0,0⟩:Sr).a) x=live (a+1)from ml.1]
   exact fL _
  |false=>
   rw[hi]at ml
   obtain⟨k,ml⟩:=ml
   show Rel ⟨a,(aA l a).a,5⟩ _
   rw[show hJ l (live (⟨a,0,0⟩:Sr).a) x=⟨k,(aA l a).a,5⟩from ml]
   exact kT (by decide)
 ·obtain⟨h1,h2⟩:=h.2 hc
  obtain⟨k,p1,c1⟩:=r
  have h1:p1=p:=h1
  have h2:c1=c:=h2
  subst h1;subst h2
  rw[lS l k p1 c1 hc]
  have e:bI l ⟨a,p1,c1⟩ x=⟨a,p1,c1⟩:=by
   unfold bI isS eA
   rw[show bJ ⟨a,p1,c1⟩=false from decide_eq_false hc,Bool.false_and]
  rw[e]
  exact kT hc
abbrev Got{α:Type}(v:α)(s':Sr):={x:α×Rk//Rel s' x.2∧(s'.c=0→x.1=v)}
theorem aHb{l:List Tz}{P:Nat→R Ex}(hP:ParseOk l P)(h4:∀a,a≤l.length→∀h:H,SCall Go.Proofs.Tryz.prog [] 48 [lsV l,.int .i64 a] none h (.ret (exV (P a))) none h)(s:Sr)(r:Rk)(hs:s.a≤l.length)(hr:Rel s r):
  ∃i:Got (aS P s).1 (aS P s).2,SCall Go.Proofs.Tryz.prog [] 36 [.ptr 1000 0] none ⟨1001,og (rrL l r),[]⟩ (.ret (cF i.1.1)) none ⟨1001,og (rrL l i.1.2),[]⟩:=by
 obtain⟨a,p,c⟩:=s
 have ha:a≤l.length:=hs
 by_cases hc:c=0
 ·subst hc
  obtain⟨hp,hr⟩:=hr.1 rfl
  have hp:p=0:=hp
  subst hp;subst hr
  show ∃i:Got (aS P ⟨a,0,0⟩).1 (aS P ⟨a,0,0⟩).2,SCall Go.Proofs.Tryz.prog [] 36 [.ptr 1000 0] none ⟨1001,og (rrL l (live a)),[]⟩ (.ret (cF i.1.1)) none ⟨1001,og (rrL l i.1.2),[]⟩
  have ps:=h4 a ha
  cases hp:P a with
  |out=>have:=hP.known a ha;rw[hp]at this;cases this
  |er a1 d1 p c=>
   have hc:=hP.er _ _ _ _ _ hp
   have e:aS P ⟨a,0,0⟩=(zX,⟨a,p,c⟩):=by
    unfold aS
    rw[show bJ ⟨a,0,0⟩=true from rfl]
    show(match P a with|.ok x n=>(x,⟨n,0,0⟩)|.er _ _ p c=>(zX,⟨a,p,c⟩)|.out=>(zX,⟨a,0,0⟩):Ex×Sr)=_
    rw[hp]
   rw[e]
   rw[hp]at ps
   refine⟨⟨(zX,⟨a,p,c⟩),kT hc,fun e=>absurd e hc⟩,?_⟩
   show SCall Go.Proofs.Tryz.prog [] 36 [.ptr 1000 0] none ⟨1001,og (rrL l (live a)),[]⟩ (.ret (cF zX)) none ⟨1001,og (rrL l ⟨a,p,c⟩),[]⟩
   refine SCall.aG (fn:=Go.Proofs.Tryz.f36) (by kernel_rfl) aQl (by kernel_rfl) (by kernel_rfl) (Nat.le_refl _) rfl ((aX _ _)) (by exact aI _) ?_
   unfold aUw
   repeat apply sQ
   refine WR.q rfl ?_
   repeat apply sQ
   refine WR.q rfl ?_
   repeat apply sQ
   refine WR.k rfl ?_
   refine WR.seq (WR.aO aV (DW.m 1000 rfl ?_))
   refine DW.eP pQ rfl rfl rfl rfl rfl (ps _) .base rfl (DW.m 1000 rfl ?_)
   refine DW.stS pQ rfl rfl rfl rfl (DW.m 1000 rfl ?_)
   refine DW.stS pQ rfl rfl rfl rfl (DW.m 1000 rfl (DW.cD pQ ?_))
   repeat apply sQ
   refine WR.m 2 rfl ?_
   refine WQ.m 1 rfl ?_
   rw[show decide (c=0)=false from decide_eq_false hc]
   refine WQ.q rfl ?_
   repeat apply sQ
   refine WR.aB rfl ?_
   repeat apply sQ
   refine WR.q rfl ?_
   repeat apply sQ
   refine WR.q rfl ?_
   refine WR.ret ⟨rfl,rfl,⟨_,rfl,vQ⟩,fun b hb=>tM b hb⟩
  |ok x n=>
   have e:aS P ⟨a,0,0⟩=(x,⟨n,0,0⟩):=by
    unfold aS
    rw[show bJ ⟨a,0,0⟩=true from rfl]
    show(match P a with|.ok x n=>(x,⟨n,0,0⟩)|.er _ _ p c=>(zX,⟨a,p,c⟩)|.out=>(zX,⟨a,0,0⟩):Ex×Sr)=_
    rw[hp]
   rw[e]
   rw[hp]at ps
   refine⟨⟨(x,live n),fL n,fun _=>rfl⟩,?_⟩
   show SCall Go.Proofs.Tryz.prog [] 36 [.ptr 1000 0] none ⟨1001,og (rrL l (live a)),[]⟩ (.ret (cF x)) none ⟨1001,og (rrL l (live n)),[]⟩
   obtain⟨xk,xa,xe,xn,xv,⟨xtk,xta,xtp,xtn,xtl⟩,xs⟩:=x
   refine SCall.aG (fn:=Go.Proofs.Tryz.f36) (by kernel_rfl) aQl (by kernel_rfl) (by kernel_rfl) (Nat.le_refl _) rfl ((aX _ _)) (by exact aI _) ?_
   unfold aUw
   repeat apply sQ
   refine WR.q rfl ?_
   repeat apply sQ
   refine WR.q rfl ?_
   repeat apply sQ
   refine WR.k rfl ?_
   refine WR.seq (WR.aO aV (DW.m 1000 rfl ?_))
   refine DW.eP pQ rfl rfl rfl rfl rfl (ps _) .base rfl (DW.m 1000 rfl ?_)
   refine DW.stS pQ rfl rfl rfl rfl (DW.m 1000 rfl ?_)
   refine DW.stS pQ rfl rfl rfl rfl (DW.m 1000 rfl (DW.cD pQ ?_))
   repeat apply sQ
   refine WR.q rfl ?_
   repeat apply sQ
   refine WR.k rfl ?_
   repeat apply sQ
   refine WR.q rfl ?_
   repeat apply sQ
   refine WR.q rfl ?_
   refine WR.ret ⟨rfl,rfl,⟨_,rfl,vQ⟩,fun b hb=>tM b hb⟩
 ·have e:aS P ⟨a,p,c⟩=(zX,⟨a,p,c⟩):=by
   unfold aS
   rw[show bJ ⟨a,p,c⟩=false from decide_eq_false hc]
  rw[e]
  have hrc:=(hr.2 hc).2
  obtain⟨k,p1,c1⟩:=r
  have hrc:c1=c:=hrc
  subst hrc
  refine⟨⟨(zX,⟨k,p1,c1⟩),hr,fun e=>absurd e hc⟩,?_⟩
  show SCall Go.Proofs.Tryz.prog [] 36 [.ptr 1000 0] none ⟨1001,og (rrL l ⟨k,p1,c1⟩),[]⟩ (.ret (cF zX)) none ⟨1001,og (rrL l ⟨k,p1,c1⟩),[]⟩
  refine SCall.aG (fn:=Go.Proofs.Tryz.f36) (by kernel_rfl) aQl (by kernel_rfl) (by kernel_rfl) (Nat.le_refl _) rfl ((aX _ _)) (by exact aI _) ?_
  unfold aUw
  repeat apply sQ
  refine WR.q rfl ?_
  repeat apply sQ
  refine WR.m 5 rfl ?_
  refine WQ.m 1 rfl ?_
  rw[show decide (c1=0)=false from decide_eq_false hc]
  refine WQ.q rfl ?_
  repeat apply sQ
  refine WR.aB rfl ?_
  repeat apply sQ
  refine WR.q rfl ?_
  exact WR.e
theorem kN{l:List Tz}{P:Nat→R Ex}(hP:ParseOk l P)(h4:∀a,a≤l.length→∀h:H,SCall Go.Proofs.Tryz.prog [] 48 [lsV l,.int .i64 a] none h (.ret (exV (P a))) none h)(s:Sr)(r:Rk)(hs:s.a≤l.length)(hr:Rel s r):
  ∃(y:Ex) (r':Rk),(Rel (aS P s).2 r'∧((aS P s).2.c=0→y=(aS P s).1))∧∀{h:H} {R:Nat} (hR:aD≤R) (h1:h.ob R=some (rrO l r)),SCall Go.Proofs.Tryz.prog [] 36 [.ptr R 0] none h (.ret (cF y)) none (h.put R (rrO l r')):=by
 obtain⟨⟨⟨y,r'⟩,hi⟩,sc⟩:=aHb hP h4 s r hs hr
 exact⟨y,r',hi,fun hR h1=>gZ sc trivial (aI _) hR h1⟩
end Go.VM
end
section
/- The document's statements: a block. -/
set_option maxRecDepth 100000
namespace Go.VM
open Go.RowKit
theorem pO{l:List Tz}{P:Nat→R Ex}{n d:Nat}{acc:List Sx}{s:Sr}{v:List Sx}{s':Sr}(h:(cB l P n).loop d acc s=some (v,s'))(hc:s.c≠0):v=acc∧s'=s:=by
 cases n with
 |zero=>cases h
 |succ n=>
  have h:gS l (cB l P n) d acc s=some (v,s'):=h
  unfold gS at h
  rw[show bJ s=false from decide_eq_false hc]at h
  cases h
  exact⟨rfl,rfl⟩
theorem sX{l:List Tz}{P:Nat→R Ex}{n d:Nat}{s:Sr}{v:List Sx}{s':Sr}(h:(cB l P n).block d s=some (v,s'))(hc:s.c≠0):v=[]∧s'=s:=by
 cases n with
 |zero=>cases h
 |succ n=>
  have h:dN l (cB l P n) d s=some (v,s'):=h
  unfold dN nM at h
  rw[show bJ s=false from decide_eq_false hc,Bool.false_and,Bool.and_false]at h
  have e:bI l s [123]=s:=by
   unfold bI isS eA
   rw[show bJ s=false from decide_eq_false hc,Bool.false_and]
  have h:(cB l P n).loop (d+1) [] (bI l s [123])=some (v,s'):=h
  rw[e]at h
  exact pO h hc
structure SpecD(l:List Tz)(f:Sf):Prop where
 block:∀d a v s',d≤30→a≤l.length→f.block d ⟨a,0,0⟩=some (v,s')→∃i:Got v s',SCall Go.Proofs.Tryz.prog [] 14 (.ptr 1000 0::[.int .i64 d]) none ⟨1001,og (rrL l (live a)),[]⟩ (.ret (.lst (cR i.1.1) .unk)) none ⟨1001,og (rrL l i.1.2),[]⟩
 stmt:∀d a v s',d<30→a≤l.length→f.stmt (d+1) ⟨a,0,0⟩=some (v,s')→∃i:Got v s',SCall Go.Proofs.Tryz.prog [] 23 (.ptr 1000 0::[.int .i64 d]) none ⟨1001,og (rrL l (live a)),[]⟩ (.ret (.agg (eU i.1.1))) none ⟨1001,og (rrL l i.1.2),[]⟩
theorem vE{α:Type}{enc:α→V}(henc:∀v,(enc v).In (fun _=>False)){f:FuncId}{xs:List V}(hxs:Ins (fun _=>False) xs){l:List Tz}{r:Rk}{v:α}{s':Sr}(h:∃i:Got v s',SCall Go.Proofs.Tryz.prog [] f (.ptr 1000 0::xs) none ⟨1001,og (rrL l r),[]⟩ (.ret (enc i.1.1)) none ⟨1001,og (rrL l i.1.2),[]⟩):
  ∃(y:α) (r':Rk),(Rel s' r'∧(s'.c=0→y=v))∧∀{h:H} {R:Nat} (hR:aD≤R) (h1:h.ob R=some (rrO l r)),SCall Go.Proofs.Tryz.prog [] f (.ptr R 0::xs) none h (.ret (enc y)) none (h.put R (rrO l r')):=by
 obtain⟨⟨⟨y,r'⟩,hi⟩,sc⟩:=h
 exact⟨y,r',hi,fun hR h1=>gZ sc hxs (henc y) hR h1⟩
def aGk(l:List Tz)(r:Rk)(acc:List Sx):OL:=(1000,rrO l r)::aUe acc
def uO(d:Nat)(acc:List Sx):TM:=[(0,.v (.ptr 1000 0)),(1,.v (.int .i64 d)),(6,.v (lvS acc))]
theorem aPk{QN:S→Prop}{QX:X→S→Prop}(l:List Tz)(d:Nat)(acc:List Sx)(r:Rk)(hc:r.c≠0){tm:TM}{lc:LM}(htm:TellT tm [] (uO d acc))
  (h0:∀tm,TellT tm [] (uO d acc)→QX (.exit 0) (SL.toS ⟨tm,[],none,nxS acc,aGk l r acc,[]⟩)):
  WLr Go.Proofs.Tryz.prog [] ⟨Go.Proofs.Tryz.f14.ntmps,none,14⟩ oQ (SL.toS ⟨tm,[],none,nxS acc,aGk l r acc,lc⟩) QN QX:=by
 refine WLr.weak (s:=SL.toS ⟨uO d acc,[],none,nxS acc,aGk l r acc,[]⟩) (SW.aP htm .nil) ?_
 unfold oQ
 refine WLr.of ?_
 repeat apply sQ
 refine WR.m 5 rfl ?_
 refine WQ.m 1 rfl ?_
 rw[show decide (r.c=0)=false from decide_eq_false hc]
 refine WQ.q rfl ?_
 repeat apply sQ
 refine WR.aE rfl (WR.exit (h0 _ ?_))
 exact tQ
theorem aRe{QN:S→Prop}{QX:X→S→Prop}{l:List Tz}{P:Nat→R Ex}(hP:ParseOk l P)(hl:l.length<20000)(d:Nat)(hd:d<30):∀(n:Nat) (hs:∀m,m<n→SpecD l (cB l P m)) (acc:List Sx) (a:Nat) (v:List Sx) (s':Sr),a≤l.length→acc.length≤a→(cB l P n).loop (d+1) acc ⟨a,0,0⟩=some (v,s')→
  (∀es r,(Rel s' r∧(s'.c=0→es=v))→∀st,iH Go.Proofs.Tryz.prog Go.Proofs.Tryz.f14 (.lst (cR es) .unk) 1001 (rrL l r) st→QX .ret st)→
  (∀es r,(Rel s' r∧(s'.c=0→es=v))→∀tm,TellT tm [] (uO d es)→QX (.exit 0) (SL.toS ⟨tm,[],none,nxS es,aGk l r es,[]⟩))→
  ∀tm,TellT tm [] (uO d acc)→
  WLr Go.Proofs.Tryz.prog [] ⟨Go.Proofs.Tryz.f14.ntmps,none,14⟩ oQ (SL.toS ⟨tm,[],none,nxS acc,aGk l (live a) acc,[]⟩) QN QX:=by
 intro n
 have hl':l.length<4294967296:=by omega
 induction n with
 |zero=>intro _ acc a v s' _ _ e;cases e
 |succ n ih=>
  intro hs acc a v s' ha hacc e hret hex tm htm
  have e:gS l (cB l P n) (d+1) acc ⟨a,0,0⟩=some (v,s'):=e
  unfold gS at e
  rw[show bJ ⟨a,0,0⟩=true from rfl]at e
  have eis:isS l ⟨a,0,0⟩ 4 [125]=isF l a 4 [125]:=by
   unfold isS
   rw[show bJ ⟨a,0,0⟩=true from rfl,Bool.true_and]
  simp only[eis]at e
  have aw:=fun nx rw=>aU hl' (s:=live a) (x:=[125]) (h:=⟨nx,og ((1000,rrO l (live a))::rw),[]⟩) (R:=1000) (by decide) rfl
  refine WLr.weak (SW.aP htm .nil) ?_
  unfold oQ
  refine WLr.of ?_
  repeat apply sQ
  refine WR.q rfl ?_
  repeat apply sQ
  refine WR.aB rfl (WR.skip ?_)
  repeat(first|refine WR.seq ?_|refine WR.block ?_)
  refine WR.m 1 rfl ?_
  refine WQ.c rfl (aw _ _) .base rfl ?_
  rw[aC]
  cases hb:isF l a 4 [125]with
  |true=>
   have hlt:=bB hb (by decide)
   rw[hb]at e
   cases e
   refine WQ.q rfl ?_
   repeat apply sQ
   refine WR.q rfl ?_
   repeat apply sQ
   refine WR.aB rfl ?_
   repeat apply sQ
   refine WR.m 5 rfl ?_
   rw[show IntKind.i64.wrap ((live a).k+1)=(live (a+1)).k from aN (by unfold big;omega)]
   refine WQ.q rfl ?_
   repeat apply sQ
   refine WR.q rfl ?_
   refine WR.ret (hret acc (live (a+1)) ⟨fL (a+1),fun _=>rfl⟩ _ ⟨rfl,rfl,⟨_,rfl,aFz acc⟩,fun b hb=>vT acc b hb⟩)
  |false=>
   rw[hb]at e
   cases h3:(cB l P n).stmt (d+1) ⟨a,0,0⟩with
   |none=>simp only[h3]at e;cases e
   |some q=>
    obtain⟨x,s1⟩:=q
    simp only[h3]at e
    have st:=(iL hP n).stmt _ _ _ _ (show(⟨a,0,0⟩:Sr).a≤l.length from ha) h3
    obtain⟨y,r1,⟨hr1,hy⟩,sc⟩:=vE (enc:=fun x=>.agg (eU x)) (fun v=>nC v) (by exact⟨trivial,trivial⟩) ((hs n (by omega)).stmt d a x s1 hd ha h3)
    have again:∀tm,TellT tm [] (uO d (acc++[y]))→WLr Go.Proofs.Tryz.prog [] ⟨Go.Proofs.Tryz.f14.ntmps,none,14⟩ oQ (SL.toS ⟨tm,[],none,nxS (acc++[y]),aGk l r1 (acc++[y]),[]⟩) QN QX:=by
     intro tm ht
     by_cases hc:s1.c=0
     ·obtain⟨a1,p1,c1⟩:=s1
      have hc:c1=0:=hc
      subst hc
      obtain⟨hp,rfl⟩:=hr1.1 rfl
      have hp:p1=0:=hp
      subst hp
      rw[hy rfl]at ht⊢
      have:=st.lt rfl
      exact ih (fun m hm=>hs m (by omega)) (acc++[x]) a1 v s' st.len (by simp;show acc.length+1≤a1;have:a<a1:=this;omega) e hret hex tm ht
     ·obtain⟨rfl,rfl⟩:=pO e hc
      exact aPk l d _ r1 (by rw[(hr1.2 hc).2];exact hc) ht (fun tm ht=>hex _ _ ⟨hr1,fun h=>absurd h hc⟩ tm ht)
    obtain⟨xk,xa,xn,xh,⟨yk,ya,ye,yn,yv,⟨ytk,yta,ytp,ytn,ytl⟩,ys⟩,xb,xe⟩:=y
    refine WQ.q rfl ?_
    repeat apply sQ
    refine WR.q rfl ?_
    repeat apply sQ
    refine WR.k rfl ?_
    cases acc with
    |nil=>
     repeat apply sQ
     refine WR.m 3 rfl ?_
     refine WQ.c rfl (sc (by decide) rfl) (.put .base rfl) rfl ?_
     refine WQ.m 1 rfl ?_
     refine WQ.dZ rfl (oH (n2:=1) (es2:=[eU (.mk xk xa xn xh (.mk yk ya ye yn yv (.mk ytk yta ytp ytn ytl) ys) xb xe)]) rfl rfl (Nat.zero_lt_one) (by simp) (by simp) (by show 232*1≤lim;decide) rfl rfl rfl rfl) rfl ?_
     refine WQ.q rfl ?_
     refine WIr.again (again _ ?_)
     exact tQ
    |cons q r=>
     repeat apply sQ
     refine WR.m 3 rfl ?_
     refine WQ.c rfl (sc (by decide) rfl) (.put .base rfl) rfl ?_
     refine WQ.m 1 rfl ?_
     refine WQ.dZ rfl (oJ (n:=(q::r).length) (n2:=(q::r++[Sx.mk xk xa xn xh (.mk yk ya ye yn yv (.mk ytk yta ytp ytn ytl) ys) xb xe]).length) (es2:=(q::r++[Sx.mk xk xa xn xh (.mk yk ya ye yn yv (.mk ytk yta ytp ytn ytl) ys) xb xe]).map eU) rfl rfl rfl (List.length_map ..).symm ?_ ?_ ?_ rfl ?_ ?_ rfl) rfl ?_
     ·intro e he
      obtain⟨y,_,rfl⟩:=List.mem_map.1 (show e∈(q::r).map eU from he)
      exact xH y
     ·simp
     ·simp only[List.length_map,List.length_cons,List.length_nil]at hacc⊢;unfold lim;omega
     ·rw[List.map_append];rfl
     ·simp
     refine WQ.q rfl ?_
     refine WIr.again (again _ ?_)
     exact tQ
theorem aCw{l:List Tz}{P:Nat→R Ex}(hP:ParseOk l P)(hl:l.length<20000)(n:Nat)(hs:∀m,m<n+1→SpecD l (cB l P m))(d a:Nat)(v:List Sx)(s':Sr)(hd:d≤30)(ha:a≤l.length)(e:dN l (cB l P n) d ⟨a,0,0⟩=some (v,s')):
  ∃i:Got v s',SCall Go.Proofs.Tryz.prog [] 14 (.ptr 1000 0::[.int .i64 d]) none ⟨1001,og (rrL l (live a)),[]⟩ (.ret (.lst (cR i.1.1) .unk)) none ⟨1001,og (rrL l i.1.2),[]⟩:=by
 have hl':l.length<4294967296:=by omega
 have hI:∀a,cZ l (live a).k=aA l a:=fun a=>bL l a
 have hfl:∀c,dA l (live a) c=⟨a,(aA l a).a,c⟩:=fun c=>by
  unfold dA
  rw[hI]
  rfl
 have edp:nM l d ⟨a,0,0⟩=(decide (d=30)&&isF l a 4 [123]):=by
  unfold nM isF
  rw[show bJ ⟨a,0,0⟩=true from rfl,Bool.true_and]
 have emu:bI l ⟨a,0,0⟩ [123]=match isF l a 4 [123]with|true=>⟨a+1,0,0⟩|false=>⟨a,(aA l a).a,5⟩:=by
  unfold bI isS eA
  rw[show bJ ⟨a,0,0⟩=true from rfl,Bool.true_and]
  rfl
 unfold dN at e
 rw[edp,emu]at e
 cases hb:isF l a 4 [123]with
 |false=>
  rw[hb,Bool.and_false]at e
  obtain⟨rfl,rfl⟩:=pO e (by show(5:Int)≠0;decide)
  refine⟨⟨([],⟨a,(aA l a).a,5⟩),kT (by decide),fun _=>rfl⟩,?_⟩
  show SCall Go.Proofs.Tryz.prog [] 14 (.ptr 1000 0::[.int .i64 d]) none ⟨1001,og (rrL l (live a)),[]⟩ (.ret (.lst [] .unk)) none ⟨1001,og (rrL l ⟨a,(aA l a).a,5⟩),[]⟩
  refine SCall.aG (fn:=Go.Proofs.Tryz.f14) (by kernel_rfl) aPd (by kernel_rfl) (by kernel_rfl) (Nat.le_refl _) rfl ((aX _ _)) (by exact⟨trivial,trivial⟩) ?_
  unfold aVl
  repeat apply sQ
  refine WR.q rfl ?_
  repeat apply sQ
  refine WR.m 1 rfl ?_
  refine WQ.c rfl (aU hl' (s:=live a) (x:=[123]) (by decide) rfl) .base rfl ?_
  rw[aC,hb]
  refine WQ.q rfl ?_
  repeat apply sQ
  refine WR.q rfl ?_
  repeat apply sQ
  refine WR.aB rfl ?_
  repeat apply sQ
  refine WR.m 1 rfl ?_
  refine WQ.c rfl (dS hl' (s:=live a) (c:=5) (by decide) rfl) (.put .base rfl) rfl ?_
  rw[hfl]
  refine WQ.q rfl ?_
  repeat apply sQ
  refine WR.q rfl ?_
  exact WR.e
 |true=>
  have hlt:=bB hb (by decide)
  rw[hb,Bool.and_true]at e
  rcases Nat.eq_or_lt_of_le hd with rfl|hd30
  ·cases e
   refine⟨⟨([],⟨a,(aA l a).a,6⟩),?_,fun _=>rfl⟩,?_⟩
   ·exact kT (by decide)
   show SCall Go.Proofs.Tryz.prog [] 14 (.ptr 1000 0::[.int .i64 (30:Nat)]) none ⟨1001,og (rrL l (live a)),[]⟩ (.ret (.lst [] .unk)) none ⟨1001,og (rrL l ⟨a,(aA l a).a,6⟩),[]⟩
   refine SCall.aG (fn:=Go.Proofs.Tryz.f14) (by kernel_rfl) aPd (by kernel_rfl) (by kernel_rfl) (Nat.le_refl _) rfl ((aX _ _)) (by exact⟨trivial,trivial⟩) ?_
   unfold aVl
   repeat apply sQ
   refine WR.q rfl ?_
   repeat apply sQ
   refine WR.m 1 rfl ?_
   refine WQ.c rfl (aU hl' (s:=live a) (x:=[123]) (by decide) rfl) .base rfl ?_
   rw[aC,hb]
   refine WQ.q rfl ?_
   repeat apply sQ
   refine WR.q rfl ?_
   repeat apply sQ
   refine WR.k rfl ?_
   repeat apply sQ
   refine WR.q rfl ?_
   repeat apply sQ
   refine WR.aB rfl ?_
   repeat apply sQ
   refine WR.m 1 rfl ?_
   refine WQ.c rfl (dS hl' (s:=live a) (c:=6) (by decide) rfl) (.put .base rfl) rfl ?_
   rw[hfl]
   refine WQ.q rfl ?_
   repeat apply sQ
   refine WR.q rfl ?_
   exact WR.e
  ·rw[show decide (d=30)=false from decide_eq_false (by omega)]at e
   have e:(cB l P n).loop (d+1) [] ⟨a+1,0,0⟩=some (v,s'):=e
   have lp:=fun QN QX=>aRe (QN:=QN) (QX:=QX) hP hl d hd30 n (fun m hm=>hs m (by omega)) [] (a+1) v s' (by omega) (Nat.zero_le _) e
   refine SCall.qN (nx':=fun _=>1001) (fn:=Go.Proofs.Tryz.f14) (by kernel_rfl) aPd (by kernel_rfl) (by kernel_rfl) (fun _=>Nat.le_refl _) (fun _=>rfl) (fun _=>aX _ _) (fun i=>by exact⟨bY _,trivial⟩) ?_
   unfold aVl
   repeat apply sQ
   refine WR.q rfl ?_
   repeat apply sQ
   refine WR.m 1 rfl ?_
   refine WQ.c rfl (aU hl' (s:=live a) (x:=[123]) (by decide) rfl) .base rfl ?_
   rw[aC,hb]
   refine WQ.q rfl ?_
   repeat apply sQ
   refine WR.q rfl ?_
   repeat apply sQ
   refine WR.k rfl ?_
   repeat apply sQ
   refine WR.m 2 rfl ?_
   rw[show decide ((d:Int)≥30)=false from decide_eq_false (by omega)]
   refine WQ.q rfl ?_
   repeat apply sQ
   refine WR.k rfl ?_
   repeat apply sQ
   refine WR.m 5 rfl ?_
   rw[show IntKind.i64.wrap ((live a).k+1)=(live (a+1)).k from aN (by unfold big;omega)]
   refine WQ.q rfl ?_
   repeat apply sQ
   refine WR.q rfl ?_
   repeat apply sQ
   refine WR.block (WR.loop (WLr.weak (s:=SL.toS ⟨uO d [],[],none,nxS [],aGk l (live (a+1)) [],[]⟩) ?_ (lp _ _ (fun es r hr st hst=>⟨⟨(es,r),hr⟩,hst⟩) (fun es r hr tm ht=>?_) _ ?_)))
   ·refine SW.aP ?_ ?_
    ·exact tQ
    ·exact lQ
   ·refine WR.weak (SW.aP ht .nil) ?_
    unfold aKs
    repeat apply sQ
    refine WR.q rfl ?_
    refine WR.ret ⟨⟨(es,r),hr⟩,rfl,rfl,⟨_,rfl,aFz es⟩,fun b hb=>vT es b hb⟩
   ·exact tQ
end Go.VM
end
