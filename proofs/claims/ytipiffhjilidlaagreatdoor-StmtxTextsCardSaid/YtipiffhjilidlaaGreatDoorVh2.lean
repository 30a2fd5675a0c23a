/- laid for this seat: VqH VqI VqJ VqK VqL -/
import Derived.Test.YtipiffhjilidlaaGreatDoorVh1
import Derived.Test.YtipiffhjilidlaaGreatDoorVg6
set_option linter.unusedVariables false
set_option linter.unusedSimpArgs false
section
/- The document's expressions: a list, and its end. -/
set_option maxRecDepth 100000
namespace Go.VM
open Go.RowKit
theorem aC(l:List Tz)(a:Nat)(k:Int)(x:List Nat):isI l (live a).k k x=isF l a k x:=aBs l a k x
theorem jG{l:List Tz}(hl:l.length<20000)(a d:Nat)(x:List Nat):match bK l a d x with
  |.ok e a'=>hY l (live a) x=live a'∧e=(aA l a).e
  |.er _ _ p c=>∃k,hY l (live a) x=⟨k,p,c⟩
  |.out=>True:=by
 unfold bK hY
 rw[show(live a).k=(a:Int)from rfl,aBs]
 cases hi:isF l a 4 x with
 |true=>
  have hlt:=bB hi (by decide)
  refine⟨?_,rfl⟩
  show iL (live a)=_
  unfold iL live
  rw[aN (by unfold big;omega)]
 |false=>
  refine⟨(iL (dB l (live a) 5)).k,?_⟩
  show iL (dB l (live a) 5)=_
  unfold dB
  have:cX l (live a).k=aA l a:=bJ l a
  rw[this]
  rfl
theorem mA(l:List Tz)(k p c:Int)(hc:c≠0)(x:List Nat):hY l ⟨k,p,c⟩ x=⟨IntKind.i64.wrap (k+1),p,c⟩:=by
 unfold hY dB
 simp only[decide_eq_false hc]
 split<;>rfl
theorem kW(l:List Tz)(a d:Nat)(hd:d<30):lB l (live a) d=live a:=by
 unfold lB
 rw[show Nat.ble 30 d=false from by cases h:Nat.ble 30 d with|false=>rfl|true=>have:=Nat.le_of_ble_eq_true h;omega]
theorem vT(l:List Tz)(hl:l.length<4294967296)(to:List Nat)(d:Nat)(es:List Ex)(s:Rk){tm:TM}(htm:TellT tm [] (nJ to d es)){QN:S→Prop}{QX:X→S→Prop}
  (hq:∀st,iO Go.Proofs.Tryz.prog Go.Proofs.Tryz.f69 (iU (es,(cX l s.k).e)) 1001 (rrL l (hY l s to)) st→QX .ret st):
  WR Go.Proofs.Tryz.prog [] ⟨Go.Proofs.Tryz.f69.ntmps,none,69⟩ aBq (SL.toS ⟨tm,[],none,nxE es,liM l s es,[]⟩) QN QX:=by
 refine WR.weak (SW.aP htm .nil) ?_
 have mw:=fun nx rw=>eK hl (s:=s) (x:=to) (h:=⟨nx,og ((1000,rrO l s)::rw),[]⟩) (R:=1000) (by decide) rfl
 unfold aBq
 repeat apply sQ
 refine WR.m 3 rfl ?_
 refine WQ.c rfl (mw _ _) (.put .base rfl) rfl ?_
 refine WQ.q rfl ?_
 refine WR.ret (hq _ ⟨rfl,rfl,⟨_,rfl,VLe.tup (.cons (aXs es) (.cons (VLe.refl _) .nil))⟩,fun b hb=>aQh es b hb⟩)
theorem aHs(l:List Tz)(hl:l.length<20000)(n:Nat)(hs:∀m,m<n+1→SpecR l (fns l m))(op to:List Nat)(a d:Nat)(ha:a<l.length)(hd:d≤30):SpL 69 [.str op,.str to,.int .i64 d] l a (eC l (fns l n) to a d):=by
 have hl':l.length<4294967296:=by omega
 rcases Nat.eq_or_lt_of_le hd with rfl|hd
 ·have e:eC l (fns l n) to a 30=.er a 30 (aA l a).a 6:=by unfold eC aW;rfl
  rw[e]
  refine⟨([],0),a,Nat.zero_le _,?_⟩
  have hop:lB l (live a) 30=⟨a,(aA l a).a,6⟩:=by
   show dB l (live a) 6=_
   unfold dB
   have:cX l (live a).k=aA l a:=bJ l a
   rw[this]
   rfl
  refine SCall.aG (fn:=Go.Proofs.Tryz.f69) (by kernel_rfl) xL (by kernel_rfl) (by kernel_rfl) (Nat.le_refl _) rfl ((aX _ _)) (by exact dL _) ?_
  unfold aGi
  repeat apply sQ
  refine WR.q rfl ?_
  repeat apply sQ
  refine WR.m 2 rfl ?_
  refine WQ.c rfl (dM hl' (s:=live a) (d:=30) (by decide) rfl) (.put .base rfl) rfl ?_
  rw[hop]
  refine WQ.q rfl ?_
  repeat apply sQ
  refine WR.q rfl ?_
  repeat apply sQ
  refine WR.aB rfl ?_
  repeat apply sQ
  refine WR.q rfl ?_
  exact WR.e
 have hop:=kW l a d hd
 have ew:eC l (fns l n) to a d=(eP l (fns l n) to (a+1) (d+1)).bind fun es a1=>(bK l a1 d to).bind fun e a2=>.ok (es,e) a2:=by
  unfold eC aW
  rw[if_neg (by omega)]
 rw[ew]
 unfold eP
 have hI:∀a,cX l (live a).k=aA l a:=fun a=>bJ l a
 cases hto:isF l (a+1) 4 to with
 |true=>
  have ml:=jG hl (a+1) d to
  have em:bK l (a+1) d to=.ok (aA l (a+1)).e (a+1+1):=by unfold bK;rw[hto]
  rw[em]at ml
  show SpL _ _ _ _ ((bK l (a+1) d to).bind _)
  rw[em]
  have e2:SCall Go.Proofs.Tryz.prog [] 69 (.ptr 1000 0::[.str op,.str to,.int .i64 d]) none ⟨1001,og (rrL l (live a)),[]⟩ (.ret (iU ([],(aA l (a+1)).e))) none ⟨1001,og (rrL l (live (a+1+1))),[]⟩:=by
   refine SCall.aG (fn:=Go.Proofs.Tryz.f69) (by kernel_rfl) xL (by kernel_rfl) (by kernel_rfl) (Nat.le_refl _) rfl ((aX _ _)) (by exact dL _) ?_
   unfold aGi
   repeat apply sQ
   refine WR.q rfl ?_
   repeat apply sQ
   refine WR.m 2 rfl ?_
   refine WQ.c rfl (dM hl' (s:=live a) (d:=d) (by decide) rfl) (.put .base rfl) rfl ?_
   rw[hop]
   refine WQ.q rfl ?_
   repeat apply sQ
   refine WR.q rfl ?_
   repeat apply sQ
   refine WR.k rfl ?_
   repeat apply sQ
   refine WR.m 5 rfl ?_
   rw[show IntKind.i64.wrap ((live a).k+1)=(live (a+1)).k from aN (by unfold big;omega)]
   refine WQ.q rfl ?_
   repeat apply sQ
   refine WR.q rfl ?_
   repeat apply sQ
   refine WR.m 2 rfl ?_
   refine WQ.c rfl (aU hl' (s:=live (a+1)) (x:=to) (by decide) rfl) .base rfl ?_
   rw[aC,hto]
   refine WQ.q rfl ?_
   repeat apply sQ
   refine WR.q rfl ?_
   repeat apply sQ
   refine WR.aB rfl ?_
   repeat apply sQ
   refine WR.m 2 rfl ?_
   refine WQ.c rfl (eK hl' (s:=live (a+1)) (x:=to) (by decide) rfl) (.put .base rfl) rfl ?_
   rw[ml.1,hI]
   refine WQ.q rfl ?_
   exact WR.e
  exact e2
 |false=>
  have lp:=fun QN QX ho hok her tm htm=>aHo (QN:=QN) (QX:=QX) l hl to d hd n (fun m hm=>hs m (by omega)) [] (a+1) (by omega) (Nat.zero_le _) ho hok her tm htm
  have ec:=(eH (l:=l) n).elts [] (a+1) (d+1)
  cases he:(fns l n).elts [] (a+1) (d+1)with
  |out=>exact trivial
  |er a1 d1 p c=>
   rw[he]at lp ec
   have hc:=ec _ _ _ _ rfl
   show ∃(v:List Ex×Int) (k:Int),v.1.length≤20000∧SCall Go.Proofs.Tryz.prog [] 69 (.ptr 1000 0::[.str op,.str to,.int .i64 d]) none ⟨1001,og (rrL l (live a)),[]⟩ (.ret (iU v)) none ⟨1001,og (rrL l ⟨k,p,c⟩),[]⟩
   suffices H:∃i:{r:List Ex×Int//r.1.length≤20000}×Int,SCall Go.Proofs.Tryz.prog [] 69 [.ptr 1000 0,.str op,.str to,.int .i64 d] none ⟨1001,og (rrL l (live a)),[]⟩ (.ret (iU i.1.1)) none ⟨1001,og (rrL l ⟨i.2,p,c⟩),[]⟩from by
    obtain⟨i,h⟩:=H
    exact⟨i.1.1,i.2,i.1.2,h⟩
   refine SCall.rM (nx':=fun _=>1001) (fn:=Go.Proofs.Tryz.f69) (by kernel_rfl) xL (by kernel_rfl) (by kernel_rfl) (fun _=>Nat.le_refl _) (fun _=>rfl) (fun _=>aX _ _) (fun i=>by exact dL i.1.1) ?_
   unfold aGi
   repeat apply sQ
   refine WR.q rfl ?_
   repeat apply sQ
   refine WR.m 2 rfl ?_
   refine WQ.c rfl (dM hl' (s:=live a) (d:=d) (by decide) rfl) (.put .base rfl) rfl ?_
   rw[hop]
   refine WQ.q rfl ?_
   repeat apply sQ
   refine WR.q rfl ?_
   repeat apply sQ
   refine WR.k rfl ?_
   repeat apply sQ
   refine WR.m 5 rfl ?_
   rw[show IntKind.i64.wrap ((live a).k+1)=(live (a+1)).k from aN (by unfold big;omega)]
   refine WQ.q rfl ?_
   repeat apply sQ
   refine WR.q rfl ?_
   repeat apply sQ
   refine WR.m 2 rfl ?_
   refine WQ.c rfl (aU hl' (s:=live (a+1)) (x:=to) (by decide) rfl) .base rfl ?_
   rw[aC,hto]
   refine WQ.q rfl ?_
   repeat apply sQ
   refine WR.q rfl ?_
   repeat apply sQ
   refine WR.k rfl ?_
   repeat apply sQ
   refine WR.block (WR.loop (WLr.weak (s:=SL.toS ⟨nJ to d [],[],none,nxE [],liM l (live (a+1)) [],[]⟩) ?_ (lp _ _ rfl (fun es a' e=>by cases e) (fun a3 d3 p3 c3 e=>?_) _ ?_)))
   ·refine SW.aP ?_ ?_
    ·exact tQ
    ·exact lQ
   ·cases e
    refine⟨hc,fun es k tm hes ht=>?_⟩
    refine vT l hl' to d es ⟨k,p,c⟩ ht (fun st hst=>?_)
    rw[mA l k p c hc]at hst
    exact⟨(⟨(es,(cX l k).e),hes⟩,IntKind.i64.wrap (k+1)),hst⟩
   ·exact tQ
  |ok es a1=>
   have hlen:es.length≤20000:=by
    have q1:=aCm l n _ _ _ _ _ he
    have q2:=((bX l n).elts _ _ _ _ _ he).2 (by omega)
    simp only[List.length_nil]at q1
    omega
   rw[he]at lp
   have ml:=jG hl a1 d to
   show SpL _ _ _ _ ((bK l a1 d to).bind _)
   cases hm:bK l a1 d to with
   |out=>exact trivial
   |er a2 d2 p c=>
    rw[hm]at ml
    obtain⟨k,ml⟩:=ml
    show ∃(v:List Ex×Int) (k:Int),v.1.length≤20000∧SCall Go.Proofs.Tryz.prog [] 69 (.ptr 1000 0::[.str op,.str to,.int .i64 d]) none ⟨1001,og (rrL l (live a)),[]⟩ (.ret (iU v)) none ⟨1001,og (rrL l ⟨k,p,c⟩),[]⟩
    refine⟨(es,(aA l a1).e),k,hlen,?_⟩
    refine SCall.aG (fn:=Go.Proofs.Tryz.f69) (by kernel_rfl) xL (by kernel_rfl) (by kernel_rfl) (Nat.le_refl _) rfl ((aX _ _)) (by exact dL _) ?_
    unfold aGi
    repeat apply sQ
    refine WR.q rfl ?_
    repeat apply sQ
    refine WR.m 2 rfl ?_
    refine WQ.c rfl (dM hl' (s:=live a) (d:=d) (by decide) rfl) (.put .base rfl) rfl ?_
    rw[hop]
    refine WQ.q rfl ?_
    repeat apply sQ
    refine WR.q rfl ?_
    repeat apply sQ
    refine WR.k rfl ?_
    repeat apply sQ
    refine WR.m 5 rfl ?_
    rw[show IntKind.i64.wrap ((live a).k+1)=(live (a+1)).k from aN (by unfold big;omega)]
    refine WQ.q rfl ?_
    repeat apply sQ
    refine WR.q rfl ?_
    repeat apply sQ
    refine WR.m 2 rfl ?_
    refine WQ.c rfl (aU hl' (s:=live (a+1)) (x:=to) (by decide) rfl) .base rfl ?_
    rw[aC,hto]
    refine WQ.q rfl ?_
    repeat apply sQ
    refine WR.q rfl ?_
    repeat apply sQ
    refine WR.k rfl ?_
    repeat apply sQ
    refine WR.block (WR.loop (WLr.weak (s:=SL.toS ⟨nJ to d [],[],none,nxE [],liM l (live (a+1)) [],[]⟩) ?_ (lp _ _ rfl (fun es' a' e tm ht=>?_) (fun a3 d3 p3 c3 e=>by cases e) _ ?_)))
    ·refine SW.aP ?_ ?_
     ·exact tQ
     ·exact lQ
    ·cases e
     refine vT l hl' to d es (live a1) ht (fun st hst=>?_)
     rw[ml,hI]at hst
     exact hst
    ·exact tQ
   |ok e a2=>
    rw[hm]at ml
    obtain⟨ml,rfl⟩:=ml
    have e2:SCall Go.Proofs.Tryz.prog [] 69 (.ptr 1000 0::[.str op,.str to,.int .i64 d]) none ⟨1001,og (rrL l (live a)),[]⟩ (.ret (iU (es,(aA l a1).e))) none ⟨1001,og (rrL l (live a2)),[]⟩:=by
     refine SCall.aG (fn:=Go.Proofs.Tryz.f69) (by kernel_rfl) xL (by kernel_rfl) (by kernel_rfl) (Nat.le_refl _) rfl ((aX _ _)) (by exact dL _) ?_
     unfold aGi
     repeat apply sQ
     refine WR.q rfl ?_
     repeat apply sQ
     refine WR.m 2 rfl ?_
     refine WQ.c rfl (dM hl' (s:=live a) (d:=d) (by decide) rfl) (.put .base rfl) rfl ?_
     rw[hop]
     refine WQ.q rfl ?_
     repeat apply sQ
     refine WR.q rfl ?_
     repeat apply sQ
     refine WR.k rfl ?_
     repeat apply sQ
     refine WR.m 5 rfl ?_
     rw[show IntKind.i64.wrap ((live a).k+1)=(live (a+1)).k from aN (by unfold big;omega)]
     refine WQ.q rfl ?_
     repeat apply sQ
     refine WR.q rfl ?_
     repeat apply sQ
     refine WR.m 2 rfl ?_
     refine WQ.c rfl (aU hl' (s:=live (a+1)) (x:=to) (by decide) rfl) .base rfl ?_
     rw[aC,hto]
     refine WQ.q rfl ?_
     repeat apply sQ
     refine WR.q rfl ?_
     repeat apply sQ
     refine WR.k rfl ?_
     repeat apply sQ
     refine WR.block (WR.loop (WLr.weak (s:=SL.toS ⟨nJ to d [],[],none,nxE [],liM l (live (a+1)) [],[]⟩) ?_ (lp _ _ rfl (fun es' a' e tm ht=>?_) (fun a3 d3 p3 c3 e=>by cases e) _ ?_)))
     ·refine SW.aP ?_ ?_
      ·exact tQ
      ·exact lQ
     ·cases e
      refine vT l hl' to d es (live a1) ht (fun st hst=>?_)
      rw[ml,hI]at hst
      exact hst
     ·exact tQ
    exact e2
end Go.VM
end
section
/- The document's expressions: primaries. -/
set_option maxRecDepth 100000
namespace Go.VM
open Go.RowKit
theorem fZ(l:List Tz)(a:Nat)(c:Int):dB l (live a) c=⟨a,(aA l a).a,c⟩:=by
 unfold dB
 have:cX l (live a).k=aA l a:=bJ l a
 rw[this]
 rfl
theorem wN(l:List Tz)(k p c c2:Int)(hc:c≠0):dB l ⟨k,p,c⟩ c2=⟨k,p,c⟩:=by
 unfold dB
 rw[decide_eq_false hc]
theorem aUk(l:List Tz)(hl:l.length<20000)(n:Nat)(a d:Nat)(ha:a≤l.length)(hd:d≤30)(h2:decide ((aA l a).k=2)=true):SpR 68 [.int .i64 d] l a cF (bZ l (fns l n) a d):=by
 have hl':l.length<4294967296:=by omega
 have hI:cX l (live a).k=aA l a:=bJ l a
 have hla:=cJ (l:=l) (a:=a) (by rw[of_decide_eq_true h2];decide)
 have nm:=aIb (aA l a).t
 have e:bZ l (fns l n) a d=(iF l (aA l a).t a d).bind fun v _=>.ok (.mk 1 (aA l a).a (aA l a).e [] v zT []) (a+1):=by unfold bZ;first|(rw[h2];done)|(rw[h2];rfl)
 rw[e]
 unfold iF
 unfold tN at nm
 cases hn:kS (aA l a).t with
 |true=>
  rw[hn]at nm
  have e2:SCall Go.Proofs.Tryz.prog [] 68 (.ptr 1000 0::[.int .i64 d]) none ⟨1001,og (rrL l (live a)),[]⟩ (.ret (cF (.mk 1 (aA l a).a (aA l a).e [] (sS (aA l a).t) zT []))) none ⟨1001,og (rrL l (live (a+1))),[]⟩:=by
   refine SCall.aG (fn:=Go.Proofs.Tryz.f68) (by kernel_rfl) iX (by kernel_rfl) (by kernel_rfl) (Nat.le_refl _) rfl ((aX _ _)) (by exact aI _) ?_
   unfold oC
   repeat apply sQ
   refine WR.q rfl ?_
   repeat apply sQ
   refine WR.m 1 rfl ?_
   refine WQ.c rfl (bO hl' (s:=live a) (by decide) rfl) .base rfl ?_
   rw[hI]
   refine WQ.q rfl ?_
   repeat apply sQ
   refine WR.q rfl ?_
   repeat apply sQ
   refine WR.m 1 rfl ?_
   refine WQ.c rfl (aM hl' (s:=live a) (x:=[116,114,117,101]) (by decide) rfl) .base rfl ?_
   rw[aC]
   refine WQ.q rfl ?_
   repeat apply sQ
   refine WR.m 1 rfl ?_
   refine WQ.c rfl (aM hl' (s:=live a) (x:=[102,97,108,115,101]) (by decide) rfl) .base rfl ?_
   rw[aC]
   refine WQ.q rfl ?_
   repeat apply sQ
   refine WR.m 1 rfl ?_
   refine WQ.c rfl (aM hl' (s:=live a) (x:=[110,101,119]) (by decide) rfl) .base rfl ?_
   rw[aC]
   refine WQ.q rfl ?_
   repeat apply sQ
   refine WR.m 1 rfl ?_
   refine WQ.c rfl (aU hl' (s:=live a) (x:=[40]) (by decide) rfl) .base rfl ?_
   rw[aC]
   refine WQ.q rfl ?_
   repeat(first|refine WR.seq ?_|refine WR.block ?_)
   refine WR.m 2 rfl ?_
   refine WQ.m 1 rfl ?_
   rw[h2]
   refine WQ.q rfl ?_
   repeat apply sQ
   refine WR.aB rfl ?_
   repeat apply sQ
   refine WR.m 2 rfl ?_
   refine WQ.c rfl (nm _) .base rfl ?_
   refine WQ.q rfl ?_
   repeat apply sQ
   refine WR.q rfl ?_
   repeat apply sQ
   refine WR.k rfl ?_
   unfold zY
   repeat apply sQ
   refine WR.q rfl ?_
   repeat apply sQ
   refine WR.q rfl ?_
   unfold kE
   repeat apply sQ
   refine WR.m 5 rfl ?_
   rw[show IntKind.i64.wrap ((live a).k+1)=(live (a+1)).k from aN (by unfold big;omega)]
   refine WQ.q rfl ?_
   repeat apply sQ
   refine WR.q rfl ?_
   exact WR.e
  exact e2
 |false=>
  rw[hn]at nm
  refine⟨.mk 1 (aA l a).a (aA l a).e [] 0 zT [],IntKind.i64.wrap ((a:Int)+1),?_⟩
  refine SCall.aG (fn:=Go.Proofs.Tryz.f68) (by kernel_rfl) iX (by kernel_rfl) (by kernel_rfl) (Nat.le_refl _) rfl ((aX _ _)) (by exact aI _) ?_
  unfold oC
  repeat apply sQ
  refine WR.q rfl ?_
  repeat apply sQ
  refine WR.m 1 rfl ?_
  refine WQ.c rfl (bO hl' (s:=live a) (by decide) rfl) .base rfl ?_
  rw[hI]
  refine WQ.q rfl ?_
  repeat apply sQ
  refine WR.q rfl ?_
  repeat apply sQ
  refine WR.m 1 rfl ?_
  refine WQ.c rfl (aM hl' (s:=live a) (x:=[116,114,117,101]) (by decide) rfl) .base rfl ?_
  rw[aC]
  refine WQ.q rfl ?_
  repeat apply sQ
  refine WR.m 1 rfl ?_
  refine WQ.c rfl (aM hl' (s:=live a) (x:=[102,97,108,115,101]) (by decide) rfl) .base rfl ?_
  rw[aC]
  refine WQ.q rfl ?_
  repeat apply sQ
  refine WR.m 1 rfl ?_
  refine WQ.c rfl (aM hl' (s:=live a) (x:=[110,101,119]) (by decide) rfl) .base rfl ?_
  rw[aC]
  refine WQ.q rfl ?_
  repeat apply sQ
  refine WR.m 1 rfl ?_
  refine WQ.c rfl (aU hl' (s:=live a) (x:=[40]) (by decide) rfl) .base rfl ?_
  rw[aC]
  refine WQ.q rfl ?_
  repeat(first|refine WR.seq ?_|refine WR.block ?_)
  refine WR.m 2 rfl ?_
  refine WQ.m 1 rfl ?_
  rw[h2]
  refine WQ.q rfl ?_
  repeat apply sQ
  refine WR.aB rfl ?_
  repeat apply sQ
  refine WR.m 2 rfl ?_
  refine WQ.c rfl (nm _) .base rfl ?_
  refine WQ.q rfl ?_
  repeat apply sQ
  refine WR.q rfl ?_
  repeat apply sQ
  refine WR.aB rfl ?_
  repeat apply sQ
  refine WR.m 1 rfl ?_
  refine WQ.c rfl (dX hl' (s:=live a) (c:=2) (by decide) rfl) (.put .base rfl) rfl ?_
  rw[fZ]
  refine WQ.q rfl ?_
  unfold zY
  repeat apply sQ
  refine WR.q rfl ?_
  repeat apply sQ
  refine WR.q rfl ?_
  unfold kE
  repeat apply sQ
  refine WR.q rfl ?_
  repeat apply sQ
  refine WR.q rfl ?_
  exact WR.e
end Go.VM
end
section
/- The document's expressions: primaries: texts, words, names. -/
set_option maxRecDepth 100000
namespace Go.VM
open Go.RowKit
theorem aTw(l:List Tz)(hl:l.length<20000)(hT:∀t∈l,t.t.length<big)(n:Nat)(a d:Nat)(ha:a≤l.length)(hd:d≤30)(h2:decide ((aA l a).k=2)=false)(h3:decide ((aA l a).k=3)=true):SpR 68 [.int .i64 d] l a cF (bZ l (fns l n) a d):=by
 have hl':l.length<4294967296:=by omega
 have hI:cX l (live a).k=aA l a:=bJ l a
 have hla:=cJ (l:=l) (a:=a) (by rw[of_decide_eq_true h3];decide)
 have hnt:(aA l a).t.length<big:=by
  unfold aA
  cases hc:l[a]? with
  |some t=>exact hT t (List.mem_of_getElem? hc)
  |none=>show 0<big;decide
 have e:bZ l (fns l n) a d=(match aDb (aA l a).t with|true=>.ok (.mk 2 (aA l a).a (aA l a).e (aLc (aA l a).t) 0 zT []) (a+1)|false=>fN l a d 3):=by unfold bZ;first|(rw[h2,h3];done)|(rw[h2,h3];rfl)
 rw[e]
 unfold aDb aLc
 generalize hs0:(aA l a).t=s at hnt⊢
 have bad:(!decide (s.length<2)&&(decide (s[0]? =some 34)&&decide (s[s.length-1]? =some 34)))=false→SCall Go.Proofs.Tryz.prog [] 68 (.ptr 1000 0::[.int .i64 d]) none ⟨1001,og (rrL l (live a)),[]⟩ (.ret (cF (.mk 0 (aA l a).a (aA l a).e [] 0 zT []))) none ⟨1001,og (rrL l ⟨a,(aA l a).a,3⟩),[]⟩:=by
  intro hb
  refine SCall.aG (fn:=Go.Proofs.Tryz.f68) (by kernel_rfl) iX (by kernel_rfl) (by kernel_rfl) (Nat.le_refl _) rfl ((aX _ _)) (by exact aI _) ?_
  unfold oC
  repeat apply sQ
  refine WR.q rfl ?_
  repeat apply sQ
  refine WR.m 1 rfl ?_
  refine WQ.c rfl (bO hl' (s:=live a) (by decide) rfl) .base rfl ?_
  rw[hI]
  refine WQ.q rfl ?_
  repeat apply sQ
  refine WR.q rfl ?_
  repeat apply sQ
  refine WR.m 1 rfl ?_
  refine WQ.c rfl (aM hl' (s:=live a) (x:=[116,114,117,101]) (by decide) rfl) .base rfl ?_
  rw[aC]
  refine WQ.q rfl ?_
  repeat apply sQ
  refine WR.m 1 rfl ?_
  refine WQ.c rfl (aM hl' (s:=live a) (x:=[102,97,108,115,101]) (by decide) rfl) .base rfl ?_
  rw[aC]
  refine WQ.q rfl ?_
  repeat apply sQ
  refine WR.m 1 rfl ?_
  refine WQ.c rfl (aM hl' (s:=live a) (x:=[110,101,119]) (by decide) rfl) .base rfl ?_
  rw[aC]
  refine WQ.q rfl ?_
  repeat apply sQ
  refine WR.m 1 rfl ?_
  refine WQ.c rfl (aU hl' (s:=live a) (x:=[40]) (by decide) rfl) .base rfl ?_
  rw[aC]
  refine WQ.q rfl ?_
  repeat(first|refine WR.seq ?_|refine WR.block ?_)
  refine WR.m 2 rfl ?_
  refine WQ.m 1 rfl ?_
  rw[h2]
  refine WQ.q rfl ?_
  refine WR.aF rfl ?_
  repeat apply sQ
  refine WR.m 2 rfl ?_
  refine WQ.m 1 rfl ?_
  rw[h3]
  refine WQ.q rfl ?_
  repeat apply sQ
  refine WR.aB rfl ?_
  repeat apply sQ
  refine WR.m 3 rfl ?_
  rw[hs0]
  refine WQ.q rfl ?_
  repeat apply sQ
  refine WR.m 2 rfl ?_
  by_cases hlen:s.length<2
  ·rw[show decide ((s.length:Int)<2)=true from decide_eq_true (by omega)]
   refine WQ.q rfl ?_
   repeat apply sQ
   refine WR.aB rfl ?_
   repeat apply sQ
   refine WR.m 1 rfl ?_
   refine WQ.c rfl (dX hl' (s:=live a) (c:=3) (by decide) rfl) (.put .base rfl) rfl ?_
   rw[fZ]
   refine WQ.q rfl ?_
   repeat apply sQ
   refine WR.q rfl ?_
   exact WR.e
  rw[show decide ((s.length:Int)<2)=false from decide_eq_false (by omega)]
  obtain⟨c0,hc0⟩:∃c,s[0]? =some c:=⟨s[0],List.getElem?_eq_getElem (by omega)⟩
  obtain⟨c1,hc1⟩:∃c,s[s.length-1]? =some c:=⟨s[s.length-1],List.getElem?_eq_getElem (by omega)⟩
  refine WQ.m 3 rfl ?_
  refine WQ.bP rfl rfl rfl (fW (n:=0) (s:=s) (by rw[←hs0];rfl) rfl hc0) rfl ?_
  refine WQ.m 1 rfl ?_
  by_cases h34:c0=34
  ·rw[show decide ((c0:Int)=34)=true from decide_eq_true (by omega)]
   refine WQ.m 6 rfl ?_
   rw[mF (by omega) hnt]
   refine WQ.bP rfl rfl rfl (fW (s:=s) (by rw[←hs0];rfl) rfl hc1) rfl ?_
   refine WQ.m 1 rfl ?_
   have h35:¬c1=34:=by
    intro h
    subst h;subst h34
    rw[hc0,hc1,decide_eq_false hlen]at hb
    cases hb
   rw[show decide ((c1:Int)=34)=false from decide_eq_false (by omega)]
   refine WQ.q rfl ?_
   repeat apply sQ
   refine WR.aB rfl ?_
   repeat apply sQ
   refine WR.m 1 rfl ?_
   refine WQ.c rfl (dX hl' (s:=live a) (c:=3) (by decide) rfl) (.put .base rfl) rfl ?_
   rw[fZ]
   refine WQ.q rfl ?_
   repeat apply sQ
   refine WR.q rfl ?_
   exact WR.e
  ·rw[show decide ((c0:Int)=34)=false from decide_eq_false (by omega)]
   refine WQ.q rfl ?_
   repeat apply sQ
   refine WR.aB rfl ?_
   repeat apply sQ
   refine WR.m 1 rfl ?_
   refine WQ.c rfl (dX hl' (s:=live a) (c:=3) (by decide) rfl) (.put .base rfl) rfl ?_
   rw[fZ]
   refine WQ.q rfl ?_
   repeat apply sQ
   refine WR.q rfl ?_
   exact WR.e
 cases hb:(!decide (s.length<2)&&(decide (s[0]? =some 34)&&decide (s[s.length-1]? =some 34)))with
 |false=>exact⟨_,_,bad hb⟩
 |true=>
  simp only[Bool.and_eq_true,Bool.not_eq_true',decide_eq_true_eq,decide_eq_false_iff_not]at hb
  obtain⟨hlen,hc0,hc1⟩:=hb
  have e2:SCall Go.Proofs.Tryz.prog [] 68 (.ptr 1000 0::[.int .i64 d]) none ⟨1001,og (rrL l (live a)),[]⟩ (.ret (cF (.mk 2 (aA l a).a (aA l a).e ((s.drop 1).take (s.length-1-1)) 0 zT []))) none ⟨1001,og (rrL l (live (a+1))),[]⟩:=by
   refine SCall.aG (fn:=Go.Proofs.Tryz.f68) (by kernel_rfl) iX (by kernel_rfl) (by kernel_rfl) (Nat.le_refl _) rfl ((aX _ _)) (by exact aI _) ?_
   unfold oC
   repeat apply sQ
   refine WR.q rfl ?_
   repeat apply sQ
   refine WR.m 1 rfl ?_
   refine WQ.c rfl (bO hl' (s:=live a) (by decide) rfl) .base rfl ?_
   rw[hI]
   refine WQ.q rfl ?_
   repeat apply sQ
   refine WR.q rfl ?_
   repeat apply sQ
   refine WR.m 1 rfl ?_
   refine WQ.c rfl (aM hl' (s:=live a) (x:=[116,114,117,101]) (by decide) rfl) .base rfl ?_
   rw[aC]
   refine WQ.q rfl ?_
   repeat apply sQ
   refine WR.m 1 rfl ?_
   refine WQ.c rfl (aM hl' (s:=live a) (x:=[102,97,108,115,101]) (by decide) rfl) .base rfl ?_
   rw[aC]
   refine WQ.q rfl ?_
   repeat apply sQ
   refine WR.m 1 rfl ?_
   refine WQ.c rfl (aM hl' (s:=live a) (x:=[110,101,119]) (by decide) rfl) .base rfl ?_
   rw[aC]
   refine WQ.q rfl ?_
   repeat apply sQ
   refine WR.m 1 rfl ?_
   refine WQ.c rfl (aU hl' (s:=live a) (x:=[40]) (by decide) rfl) .base rfl ?_
   rw[aC]
   refine WQ.q rfl ?_
   repeat(first|refine WR.seq ?_|refine WR.block ?_)
   refine WR.m 2 rfl ?_
   refine WQ.m 1 rfl ?_
   rw[h2]
   refine WQ.q rfl ?_
   refine WR.aF rfl ?_
   repeat apply sQ
   refine WR.m 2 rfl ?_
   refine WQ.m 1 rfl ?_
   rw[h3]
   refine WQ.q rfl ?_
   repeat apply sQ
   refine WR.aB rfl ?_
   repeat apply sQ
   refine WR.m 3 rfl ?_
   rw[hs0]
   refine WQ.q rfl ?_
   repeat apply sQ
   refine WR.m 2 rfl ?_
   rw[show decide ((s.length:Int)<2)=false from decide_eq_false (by omega)]
   refine WQ.m 3 rfl ?_
   refine WQ.bP rfl rfl rfl (fW (n:=0) (s:=s) (by rw[←hs0];rfl) rfl hc0) rfl ?_
   refine WQ.m 7 rfl ?_
   rw[mF (by omega) hnt]
   refine WQ.bP rfl rfl rfl (fW (s:=s) (by rw[←hs0];rfl) rfl hc1) rfl ?_
   refine WQ.q rfl ?_
   repeat apply sQ
   refine WR.k rfl ?_
   repeat apply sQ
   refine WR.q rfl ?_
   repeat apply sQ
   refine WR.m 4 rfl ?_
   rw[mF (by omega) hnt]
   refine WQ.bP rfl rfl rfl (uC (s:=s) (a:=1) (c:=s.length-1) (by rw[←hs0];rfl) rfl rfl (by omega) (by omega)) rfl ?_
   refine WQ.q rfl ?_
   unfold kE
   repeat apply sQ
   refine WR.m 5 rfl ?_
   rw[show IntKind.i64.wrap ((live a).k+1)=(live (a+1)).k from aN (by unfold big;omega)]
   refine WQ.q rfl ?_
   repeat apply sQ
   refine WR.q rfl ?_
   exact WR.e
  exact e2
end Go.VM
end
section
/- The document's expressions: primaries: words, names, what is none. -/
set_option maxRecDepth 100000
namespace Go.VM
open Go.RowKit
section
variable(l:List Tz)(hl:l.length<20000)(n:Nat)(a d:Nat)(h2:decide ((aA l a).k=2)=false)(h3:decide ((aA l a).k=3)=false)
include hl h2 h3
theorem aFh(h4:isF l a 5 [116,114,117,101]=true):SpR 68 [.int .i64 d] l a cF (bZ l (fns l n) a d):=by
 have hl':l.length<4294967296:=by omega
 have hI:cX l (live a).k=aA l a:=bJ l a
 have hla:=bB h4 (by decide)
 have e:bZ l (fns l n) a d=.ok (.mk 3 (aA l a).a (aA l a).e [] 1 zT []) (a+1):=by
  unfold bZ qZ;first|(rw[h2,h3,h4];done)|(rw[h2,h3,h4];rfl)
 rw[e]
 have e2:SCall Go.Proofs.Tryz.prog [] 68 (.ptr 1000 0::[.int .i64 d]) none ⟨1001,og (rrL l (live a)),[]⟩ (.ret (cF (.mk 3 (aA l a).a (aA l a).e [] 1 zT []))) none ⟨1001,og (rrL l (live (a+1))),[]⟩:=by
  refine SCall.aG (fn:=Go.Proofs.Tryz.f68) (by kernel_rfl) iX (by kernel_rfl) (by kernel_rfl) (Nat.le_refl _) rfl ((aX _ _)) (by exact aI _) ?_
  unfold oC
  repeat apply sQ
  refine WR.q rfl ?_
  repeat apply sQ
  refine WR.m 1 rfl ?_
  refine WQ.c rfl (bO hl' (s:=live a) (by decide) rfl) .base rfl ?_
  rw[hI]
  refine WQ.q rfl ?_
  repeat apply sQ
  refine WR.q rfl ?_
  repeat apply sQ
  refine WR.m 1 rfl ?_
  refine WQ.c rfl (aM hl' (s:=live a) (x:=[116,114,117,101]) (by decide) rfl) .base rfl ?_
  rw[aC]
  refine WQ.q rfl ?_
  repeat apply sQ
  refine WR.m 1 rfl ?_
  refine WQ.c rfl (aM hl' (s:=live a) (x:=[102,97,108,115,101]) (by decide) rfl) .base rfl ?_
  rw[aC]
  refine WQ.q rfl ?_
  repeat apply sQ
  refine WR.m 1 rfl ?_
  refine WQ.c rfl (aM hl' (s:=live a) (x:=[110,101,119]) (by decide) rfl) .base rfl ?_
  rw[aC]
  refine WQ.q rfl ?_
  repeat apply sQ
  refine WR.m 1 rfl ?_
  refine WQ.c rfl (aU hl' (s:=live a) (x:=[40]) (by decide) rfl) .base rfl ?_
  rw[aC]
  refine WQ.q rfl ?_
  repeat(first|refine WR.seq ?_|refine WR.block ?_)
  refine WR.m 2 rfl ?_
  refine WQ.m 1 rfl ?_
  rw[h2]
  refine WQ.q rfl ?_
  refine WR.aF rfl ?_
  repeat apply sQ
  refine WR.m 2 rfl ?_
  refine WQ.m 1 rfl ?_
  rw[h3]
  refine WQ.q rfl ?_
  refine WR.aF rfl ?_
  repeat apply sQ
  rw[h4]
  refine WR.q rfl ?_
  repeat apply sQ
  refine WR.aB rfl ?_
  repeat apply sQ
  refine WR.q rfl ?_
  repeat apply sQ
  refine WR.q rfl ?_
  repeat apply sQ
  refine WR.aB rfl ?_
  repeat apply sQ
  refine WR.q rfl ?_
  unfold kE
  repeat apply sQ
  refine WR.m 5 rfl ?_
  rw[show IntKind.i64.wrap ((live a).k+1)=(live (a+1)).k from aN (by unfold big;omega)]
  refine WQ.q rfl ?_
  repeat apply sQ
  refine WR.q rfl ?_
  exact WR.e
 exact e2
theorem aCh(h4:isF l a 5 [116,114,117,101]=false)(h5:isF l a 5 [102,97,108,115,101]=true):SpR 68 [.int .i64 d] l a cF (bZ l (fns l n) a d):=by
 have hl':l.length<4294967296:=by omega
 have hI:cX l (live a).k=aA l a:=bJ l a
 have hla:=bB h5 (by decide)
 have e:bZ l (fns l n) a d=.ok (.mk 3 (aA l a).a (aA l a).e [] 0 zT []) (a+1):=by
  unfold bZ qZ nX;first|(rw[h2,h3,h4,h5];done)|(rw[h2,h3,h4,h5];rfl)
 rw[e]
 have e2:SCall Go.Proofs.Tryz.prog [] 68 (.ptr 1000 0::[.int .i64 d]) none ⟨1001,og (rrL l (live a)),[]⟩ (.ret (cF (.mk 3 (aA l a).a (aA l a).e [] 0 zT []))) none ⟨1001,og (rrL l (live (a+1))),[]⟩:=by
  refine SCall.aG (fn:=Go.Proofs.Tryz.f68) (by kernel_rfl) iX (by kernel_rfl) (by kernel_rfl) (Nat.le_refl _) rfl ((aX _ _)) (by exact aI _) ?_
  unfold oC
  repeat apply sQ
  refine WR.q rfl ?_
  repeat apply sQ
  refine WR.m 1 rfl ?_
  refine WQ.c rfl (bO hl' (s:=live a) (by decide) rfl) .base rfl ?_
  rw[hI]
  refine WQ.q rfl ?_
  repeat apply sQ
  refine WR.q rfl ?_
  repeat apply sQ
  refine WR.m 1 rfl ?_
  refine WQ.c rfl (aM hl' (s:=live a) (x:=[116,114,117,101]) (by decide) rfl) .base rfl ?_
  rw[aC]
  refine WQ.q rfl ?_
  repeat apply sQ
  refine WR.m 1 rfl ?_
  refine WQ.c rfl (aM hl' (s:=live a) (x:=[102,97,108,115,101]) (by decide) rfl) .base rfl ?_
  rw[aC]
  refine WQ.q rfl ?_
  repeat apply sQ
  refine WR.m 1 rfl ?_
  refine WQ.c rfl (aM hl' (s:=live a) (x:=[110,101,119]) (by decide) rfl) .base rfl ?_
  rw[aC]
  refine WQ.q rfl ?_
  repeat apply sQ
  refine WR.m 1 rfl ?_
  refine WQ.c rfl (aU hl' (s:=live a) (x:=[40]) (by decide) rfl) .base rfl ?_
  rw[aC]
  refine WQ.q rfl ?_
  repeat(first|refine WR.seq ?_|refine WR.block ?_)
  refine WR.m 2 rfl ?_
  refine WQ.m 1 rfl ?_
  rw[h2]
  refine WQ.q rfl ?_
  refine WR.aF rfl ?_
  repeat apply sQ
  refine WR.m 2 rfl ?_
  refine WQ.m 1 rfl ?_
  rw[h3]
  refine WQ.q rfl ?_
  refine WR.aF rfl ?_
  repeat apply sQ
  rw[h4,h5]
  refine WR.q rfl ?_
  repeat apply sQ
  refine WR.aB rfl ?_
  repeat apply sQ
  refine WR.q rfl ?_
  repeat apply sQ
  refine WR.q rfl ?_
  repeat apply sQ
  refine WR.k rfl ?_
  unfold kE
  repeat apply sQ
  refine WR.m 5 rfl ?_
  rw[show IntKind.i64.wrap ((live a).k+1)=(live (a+1)).k from aN (by unfold big;omega)]
  refine WQ.q rfl ?_
  repeat apply sQ
  refine WR.q rfl ?_
  exact WR.e
 exact e2
variable(h4:isF l a 5 [116,114,117,101]=false)(h5:isF l a 5 [102,97,108,115,101]=false)
include h4 h5
theorem aFs(h6:decide ((aA l a).k=1)=true):SpR 68 [.int .i64 d] l a cF (bZ l (fns l n) a d):=by
 have hl':l.length<4294967296:=by omega
 have hI:cX l (live a).k=aA l a:=bJ l a
 have hla:=cJ (l:=l) (a:=a) (by rw[of_decide_eq_true h6];decide)
 have e:bZ l (fns l n) a d=.ok (.mk 4 (aA l a).a (aA l a).e (aA l a).t 0 zT []) (a+1):=by
  unfold bZ qZ nX;first|(rw[h2,h3,h4,h5,h6];done)|(rw[h2,h3,h4,h5,h6];rfl)
 rw[e]
 have e2:SCall Go.Proofs.Tryz.prog [] 68 (.ptr 1000 0::[.int .i64 d]) none ⟨1001,og (rrL l (live a)),[]⟩ (.ret (cF (.mk 4 (aA l a).a (aA l a).e (aA l a).t 0 zT []))) none ⟨1001,og (rrL l (live (a+1))),[]⟩:=by
  refine SCall.aG (fn:=Go.Proofs.Tryz.f68) (by kernel_rfl) iX (by kernel_rfl) (by kernel_rfl) (Nat.le_refl _) rfl ((aX _ _)) (by exact aI _) ?_
  unfold oC
  repeat apply sQ
  refine WR.q rfl ?_
  repeat apply sQ
  refine WR.m 1 rfl ?_
  refine WQ.c rfl (bO hl' (s:=live a) (by decide) rfl) .base rfl ?_
  rw[hI]
  refine WQ.q rfl ?_
  repeat apply sQ
  refine WR.q rfl ?_
  repeat apply sQ
  refine WR.m 1 rfl ?_
  refine WQ.c rfl (aM hl' (s:=live a) (x:=[116,114,117,101]) (by decide) rfl) .base rfl ?_
  rw[aC]
  refine WQ.q rfl ?_
  repeat apply sQ
  refine WR.m 1 rfl ?_
  refine WQ.c rfl (aM hl' (s:=live a) (x:=[102,97,108,115,101]) (by decide) rfl) .base rfl ?_
  rw[aC]
  refine WQ.q rfl ?_
  repeat apply sQ
  refine WR.m 1 rfl ?_
  refine WQ.c rfl (aM hl' (s:=live a) (x:=[110,101,119]) (by decide) rfl) .base rfl ?_
  rw[aC]
  refine WQ.q rfl ?_
  repeat apply sQ
  refine WR.m 1 rfl ?_
  refine WQ.c rfl (aU hl' (s:=live a) (x:=[40]) (by decide) rfl) .base rfl ?_
  rw[aC]
  refine WQ.q rfl ?_
  repeat(first|refine WR.seq ?_|refine WR.block ?_)
  refine WR.m 2 rfl ?_
  refine WQ.m 1 rfl ?_
  rw[h2]
  refine WQ.q rfl ?_
  refine WR.aF rfl ?_
  repeat apply sQ
  refine WR.m 2 rfl ?_
  refine WQ.m 1 rfl ?_
  rw[h3]
  refine WQ.q rfl ?_
  refine WR.aF rfl ?_
  repeat apply sQ
  rw[h4,h5]
  refine WR.q rfl ?_
  refine WR.aF rfl ?_
  repeat apply sQ
  refine WR.m 2 rfl ?_
  refine WQ.m 1 rfl ?_
  rw[h6]
  refine WQ.q rfl ?_
  repeat apply sQ
  refine WR.aB rfl ?_
  repeat apply sQ
  refine WR.q rfl ?_
  repeat apply sQ
  refine WR.q rfl ?_
  unfold kE
  repeat apply sQ
  refine WR.m 5 rfl ?_
  rw[show IntKind.i64.wrap ((live a).k+1)=(live (a+1)).k from aN (by unfold big;omega)]
  refine WQ.q rfl ?_
  repeat apply sQ
  refine WR.q rfl ?_
  exact WR.e
 exact e2
variable(h6:decide ((aA l a).k=1)=false)
include h6
theorem aGz(h7:isF l a 4 [40]=false)(h8:isF l a 5 [110,101,119]=false):SpR 68 [.int .i64 d] l a cF (bZ l (fns l n) a d):=by
 have hl':l.length<4294967296:=by omega
 have hI:cX l (live a).k=aA l a:=bJ l a
 have e:bZ l (fns l n) a d=.er a d (aA l a).a 5:=by
  unfold bZ qZ nX aRn;first|(rw[h2,h3,h4,h5,h6,h7,h8];done)|(rw[h2,h3,h4,h5,h6,h7,h8];rfl)
 rw[e]
 refine⟨.mk 0 (aA l a).a (aA l a).e [] 0 zT [],IntKind.i64.wrap ((a:Int)+1),?_⟩
 refine SCall.aG (fn:=Go.Proofs.Tryz.f68) (by kernel_rfl) iX (by kernel_rfl) (by kernel_rfl) (Nat.le_refl _) rfl ((aX _ _)) (by exact aI _) ?_
 unfold oC
 repeat apply sQ
 refine WR.q rfl ?_
 repeat apply sQ
 refine WR.m 1 rfl ?_
 refine WQ.c rfl (bO hl' (s:=live a) (by decide) rfl) .base rfl ?_
 rw[hI]
 refine WQ.q rfl ?_
 repeat apply sQ
 refine WR.q rfl ?_
 repeat apply sQ
 refine WR.m 1 rfl ?_
 refine WQ.c rfl (aM hl' (s:=live a) (x:=[116,114,117,101]) (by decide) rfl) .base rfl ?_
 rw[aC]
 refine WQ.q rfl ?_
 repeat apply sQ
 refine WR.m 1 rfl ?_
 refine WQ.c rfl (aM hl' (s:=live a) (x:=[102,97,108,115,101]) (by decide) rfl) .base rfl ?_
 rw[aC]
 refine WQ.q rfl ?_
 repeat apply sQ
 refine WR.m 1 rfl ?_
 refine WQ.c rfl (aM hl' (s:=live a) (x:=[110,101,119]) (by decide) rfl) .base rfl ?_
 rw[aC]
 refine WQ.q rfl ?_
 repeat apply sQ
 refine WR.m 1 rfl ?_
 refine WQ.c rfl (aU hl' (s:=live a) (x:=[40]) (by decide) rfl) .base rfl ?_
 rw[aC]
 refine WQ.q rfl ?_
 repeat(first|refine WR.seq ?_|refine WR.block ?_)
 refine WR.m 2 rfl ?_
 refine WQ.m 1 rfl ?_
 rw[h2]
 refine WQ.q rfl ?_
 refine WR.aF rfl ?_
 repeat apply sQ
 refine WR.m 2 rfl ?_
 refine WQ.m 1 rfl ?_
 rw[h3]
 refine WQ.q rfl ?_
 refine WR.aF rfl ?_
 repeat apply sQ
 rw[h4,h5,h7,h8]
 refine WR.q rfl ?_
 refine WR.aF rfl ?_
 repeat apply sQ
 refine WR.m 2 rfl ?_
 refine WQ.m 1 rfl ?_
 rw[h6]
 refine WQ.q rfl ?_
 refine WR.aF rfl ?_
 repeat apply sQ
 refine WR.q rfl ?_
 refine WR.aF rfl ?_
 repeat apply sQ
 refine WR.q rfl ?_
 refine WR.aF rfl ?_
 repeat apply sQ
 refine WR.m 1 rfl ?_
 refine WQ.c rfl (dX hl' (s:=live a) (c:=5) (by decide) rfl) (.put .base rfl) rfl ?_
 rw[fZ]
 refine WQ.q rfl ?_
 unfold kE
 repeat apply sQ
 refine WR.q rfl ?_
 repeat apply sQ
 refine WR.q rfl ?_
 exact WR.e
end
end Go.VM
end
section
/- The document's expressions: primaries: brackets. -/
set_option maxRecDepth 100000
namespace Go.VM
open Go.RowKit
section
variable(l:List Tz)(hl:l.length<20000)(n:Nat)(hs:∀m,m<n+1→SpecR l (fns l m))(a d:Nat)(hd:d≤30)(h2:decide ((aA l a).k=2)=false)(h3:decide ((aA l a).k=3)=false)
variable(h4:isF l a 5 [116,114,117,101]=false)(h5:isF l a 5 [102,97,108,115,101]=false)(h6:decide ((aA l a).k=1)=false)
include hl hs hd h2 h3 h4 h5 h6
theorem aHx(h7:isF l a 4 [40]=true):SpR 68 [.int .i64 d] l a cF (bZ l (fns l n) a d):=by
 have hl':l.length<4294967296:=by omega
 have hI:cX l (live a).k=aA l a:=bJ l a
 have hla:=bB h7 (by decide)
 have e:bZ l (fns l n) a d=(aW l a d ((fns l n).expr 1)).bind fun x a1=>(bK l a1 d [41]).bind fun _ a2=>.ok x a2:=by
  unfold bZ qZ nX;first|(rw[h2,h3,h4,h5,h6,h7];done)|(rw[h2,h3,h4,h5,h6,h7];rfl)
 rw[e]
 rcases Nat.eq_or_lt_of_le hd with rfl|hd
 ·have e2:aW l a 30 ((fns l n).expr 1)=.er a 30 (aA l a).a 6:=rfl
  rw[e2]
  have hop:lB l (live a) 30=⟨a,(aA l a).a,6⟩:=fZ l a 6
  refine⟨.mk 0 (aA l a).a (aA l a).e [] 0 zT [],a,?_⟩
  refine SCall.aG (fn:=Go.Proofs.Tryz.f68) (by kernel_rfl) iX (by kernel_rfl) (by kernel_rfl) (Nat.le_refl _) rfl ((aX _ _)) (by exact aI _) ?_
  unfold oC
  repeat apply sQ
  refine WR.q rfl ?_
  repeat apply sQ
  refine WR.m 1 rfl ?_
  refine WQ.c rfl (bO hl' (s:=live a) (by decide) rfl) .base rfl ?_
  rw[hI]
  refine WQ.q rfl ?_
  repeat apply sQ
  refine WR.q rfl ?_
  repeat apply sQ
  refine WR.m 1 rfl ?_
  refine WQ.c rfl (aM hl' (s:=live a) (x:=[116,114,117,101]) (by decide) rfl) .base rfl ?_
  rw[aC]
  refine WQ.q rfl ?_
  repeat apply sQ
  refine WR.m 1 rfl ?_
  refine WQ.c rfl (aM hl' (s:=live a) (x:=[102,97,108,115,101]) (by decide) rfl) .base rfl ?_
  rw[aC]
  refine WQ.q rfl ?_
  repeat apply sQ
  refine WR.m 1 rfl ?_
  refine WQ.c rfl (aM hl' (s:=live a) (x:=[110,101,119]) (by decide) rfl) .base rfl ?_
  rw[aC]
  refine WQ.q rfl ?_
  repeat apply sQ
  refine WR.m 1 rfl ?_
  refine WQ.c rfl (aU hl' (s:=live a) (x:=[40]) (by decide) rfl) .base rfl ?_
  rw[aC]
  refine WQ.q rfl ?_
  repeat(first|refine WR.seq ?_|refine WR.block ?_)
  refine WR.m 2 rfl ?_
  refine WQ.m 1 rfl ?_
  rw[h2]
  refine WQ.q rfl ?_
  refine WR.aF rfl ?_
  repeat apply sQ
  refine WR.m 2 rfl ?_
  refine WQ.m 1 rfl ?_
  rw[h3]
  refine WQ.q rfl ?_
  refine WR.aF rfl ?_
  repeat apply sQ
  rw[h4,h5]
  refine WR.q rfl ?_
  refine WR.aF rfl ?_
  repeat apply sQ
  refine WR.m 2 rfl ?_
  refine WQ.m 1 rfl ?_
  rw[h6]
  refine WQ.q rfl ?_
  refine WR.aF rfl ?_
  repeat apply sQ
  rw[h7]
  refine WR.q rfl ?_
  repeat apply sQ
  refine WR.aB rfl ?_
  repeat apply sQ
  refine WR.m 2 rfl ?_
  refine WQ.c rfl (dM hl' (s:=live a) (d:=30) (by decide) rfl) (.put .base rfl) rfl ?_
  rw[hop]
  refine WQ.q rfl ?_
  repeat apply sQ
  refine WR.q rfl ?_
  repeat apply sQ
  refine WR.aB rfl ?_
  repeat apply sQ
  refine WR.q rfl ?_
  exact WR.e
 have hop:=kW l a d hd
 have e2:aW l a d ((fns l n).expr 1)=(fns l n).expr 1 (a+1) (d+1):=by unfold aW;rw[if_neg (by omega)]
 rw[e2]
 have sp:=(hs n (by omega)).expr 1 (a+1) (d+1) (by omega) (by omega) (by omega) (by omega)
 have ec:=(eH (l:=l) n).expr 1 (a+1) (d+1)
 cases hx:(fns l n).expr 1 (a+1) (d+1)with
 |out=>exact trivial
 |er a1 d1 p c=>
  rw[hx]at sp ec
  have hc:=ec _ _ _ _ rfl
  obtain⟨y,k,sc⟩:=SpR.erA sp (by exact⟨trivial,trivial,trivial⟩) (fun v=>aI v)
  refine⟨y,IntKind.i64.wrap (k+1),?_⟩
  obtain⟨yk,ya,ye,yn,yv,⟨ytk,yta,ytp,ytn,ytl⟩,ys⟩:=y
  refine SCall.aG (fn:=Go.Proofs.Tryz.f68) (by kernel_rfl) iX (by kernel_rfl) (by kernel_rfl) (Nat.le_refl _) rfl ((aX _ _)) (by exact aI _) ?_
  unfold oC
  repeat apply sQ
  refine WR.q rfl ?_
  repeat apply sQ
  refine WR.m 1 rfl ?_
  refine WQ.c rfl (bO hl' (s:=live a) (by decide) rfl) .base rfl ?_
  rw[hI]
  refine WQ.q rfl ?_
  repeat apply sQ
  refine WR.q rfl ?_
  repeat apply sQ
  refine WR.m 1 rfl ?_
  refine WQ.c rfl (aM hl' (s:=live a) (x:=[116,114,117,101]) (by decide) rfl) .base rfl ?_
  rw[aC]
  refine WQ.q rfl ?_
  repeat apply sQ
  refine WR.m 1 rfl ?_
  refine WQ.c rfl (aM hl' (s:=live a) (x:=[102,97,108,115,101]) (by decide) rfl) .base rfl ?_
  rw[aC]
  refine WQ.q rfl ?_
  repeat apply sQ
  refine WR.m 1 rfl ?_
  refine WQ.c rfl (aM hl' (s:=live a) (x:=[110,101,119]) (by decide) rfl) .base rfl ?_
  rw[aC]
  refine WQ.q rfl ?_
  repeat apply sQ
  refine WR.m 1 rfl ?_
  refine WQ.c rfl (aU hl' (s:=live a) (x:=[40]) (by decide) rfl) .base rfl ?_
  rw[aC]
  refine WQ.q rfl ?_
  repeat(first|refine WR.seq ?_|refine WR.block ?_)
  refine WR.m 2 rfl ?_
  refine WQ.m 1 rfl ?_
  rw[h2]
  refine WQ.q rfl ?_
  refine WR.aF rfl ?_
  repeat apply sQ
  refine WR.m 2 rfl ?_
  refine WQ.m 1 rfl ?_
  rw[h3]
  refine WQ.q rfl ?_
  refine WR.aF rfl ?_
  repeat apply sQ
  rw[h4,h5]
  refine WR.q rfl ?_
  refine WR.aF rfl ?_
  repeat apply sQ
  refine WR.m 2 rfl ?_
  refine WQ.m 1 rfl ?_
  rw[h6]
  refine WQ.q rfl ?_
  refine WR.aF rfl ?_
  repeat apply sQ
  rw[h7]
  refine WR.q rfl ?_
  repeat apply sQ
  refine WR.aB rfl ?_
  repeat apply sQ
  refine WR.m 2 rfl ?_
  refine WQ.c rfl (dM hl' (s:=live a) (d:=d) (by decide) rfl) (.put .base rfl) rfl ?_
  rw[hop]
  refine WQ.q rfl ?_
  repeat apply sQ
  refine WR.q rfl ?_
  repeat apply sQ
  refine WR.k rfl ?_
  repeat apply sQ
  refine WR.m 5 rfl ?_
  rw[show IntKind.i64.wrap ((live a).k+1)=(live (a+1)).k from aN (by unfold big;omega)]
  refine WQ.q rfl ?_
  repeat apply sQ
  refine WR.m 3 rfl ?_
  rw[aN (by unfold big;omega)]
  refine WQ.c rfl (sc (by decide) rfl) (.put .base rfl) rfl ?_
  refine WQ.q rfl ?_
  repeat apply sQ
  refine WR.m 1 rfl ?_
  refine WQ.c rfl (eK hl' (s:=⟨k,p,c⟩) (x:=[41]) (by decide) rfl) (.put .base rfl) rfl ?_
  rw[mA l k p c hc]
  refine WQ.q rfl ?_
  repeat apply sQ
  refine WR.q rfl ?_
  exact WR.e
 |ok y a1=>
  rw[hx]at sp
  have ml:=jG hl a1 d [41]
  show SpR _ _ _ _ _ ((bK l a1 d [41]).bind _)
  obtain⟨yk,ya,ye,yn,yv,⟨ytk,yta,ytp,ytn,ytl⟩,ys⟩:=y
  have go:SCall Go.Proofs.Tryz.prog [] 68 (.ptr 1000 0::[.int .i64 d]) none ⟨1001,og (rrL l (live a)),[]⟩ (.ret (cF (.mk yk ya ye yn yv (.mk ytk yta ytp ytn ytl) ys))) none ⟨1001,og (rrL l (hY l (live a1) [41])),[]⟩:=by
   refine SCall.aG (fn:=Go.Proofs.Tryz.f68) (by kernel_rfl) iX (by kernel_rfl) (by kernel_rfl) (Nat.le_refl _) rfl ((aX _ _)) (by exact aI _) ?_
   unfold oC
   repeat apply sQ
   refine WR.q rfl ?_
   repeat apply sQ
   refine WR.m 1 rfl ?_
   refine WQ.c rfl (bO hl' (s:=live a) (by decide) rfl) .base rfl ?_
   rw[hI]
   refine WQ.q rfl ?_
   repeat apply sQ
   refine WR.q rfl ?_
   repeat apply sQ
   refine WR.m 1 rfl ?_
   refine WQ.c rfl (aM hl' (s:=live a) (x:=[116,114,117,101]) (by decide) rfl) .base rfl ?_
   rw[aC]
   refine WQ.q rfl ?_
   repeat apply sQ
   refine WR.m 1 rfl ?_
   refine WQ.c rfl (aM hl' (s:=live a) (x:=[102,97,108,115,101]) (by decide) rfl) .base rfl ?_
   rw[aC]
   refine WQ.q rfl ?_
   repeat apply sQ
   refine WR.m 1 rfl ?_
   refine WQ.c rfl (aM hl' (s:=live a) (x:=[110,101,119]) (by decide) rfl) .base rfl ?_
   rw[aC]
   refine WQ.q rfl ?_
   repeat apply sQ
   refine WR.m 1 rfl ?_
   refine WQ.c rfl (aU hl' (s:=live a) (x:=[40]) (by decide) rfl) .base rfl ?_
   rw[aC]
   refine WQ.q rfl ?_
   repeat(first|refine WR.seq ?_|refine WR.block ?_)
   refine WR.m 2 rfl ?_
   refine WQ.m 1 rfl ?_
   rw[h2]
   refine WQ.q rfl ?_
   refine WR.aF rfl ?_
   repeat apply sQ
   refine WR.m 2 rfl ?_
   refine WQ.m 1 rfl ?_
   rw[h3]
   refine WQ.q rfl ?_
   refine WR.aF rfl ?_
   repeat apply sQ
   rw[h4,h5]
   refine WR.q rfl ?_
   refine WR.aF rfl ?_
   repeat apply sQ
   refine WR.m 2 rfl ?_
   refine WQ.m 1 rfl ?_
   rw[h6]
   refine WQ.q rfl ?_
   refine WR.aF rfl ?_
   repeat apply sQ
   rw[h7]
   refine WR.q rfl ?_
   repeat apply sQ
   refine WR.aB rfl ?_
   repeat apply sQ
   refine WR.m 2 rfl ?_
   refine WQ.c rfl (dM hl' (s:=live a) (d:=d) (by decide) rfl) (.put .base rfl) rfl ?_
   rw[hop]
   refine WQ.q rfl ?_
   repeat apply sQ
   refine WR.q rfl ?_
   repeat apply sQ
   refine WR.k rfl ?_
   repeat apply sQ
   refine WR.m 5 rfl ?_
   rw[show IntKind.i64.wrap ((live a).k+1)=(live (a+1)).k from aN (by unfold big;omega)]
   refine WQ.q rfl ?_
   repeat apply sQ
   refine WR.m 3 rfl ?_
   rw[aN (by unfold big;omega)]
   refine WQ.c rfl (SpR.okA sp (by exact⟨trivial,trivial,trivial⟩) (aI _) (by decide) rfl) (.put .base rfl) rfl ?_
   refine WQ.q rfl ?_
   repeat apply sQ
   refine WR.m 1 rfl ?_
   refine WQ.c rfl (eK hl' (s:=live a1) (x:=[41]) (by decide) rfl) (.put .base rfl) rfl ?_
   refine WQ.q rfl ?_
   repeat apply sQ
   refine WR.q rfl ?_
   exact WR.e
  cases hm:bK l a1 d [41]with
  |out=>exact trivial
  |er a2 d2 p c=>
   rw[hm]at ml
   obtain⟨k,ml⟩:=ml
   rw[ml]at go
   exact⟨_,k,go⟩
  |ok e a2=>
   rw[hm]at ml
   rw[ml.1]at go
   exact go
end
end Go.VM
end
