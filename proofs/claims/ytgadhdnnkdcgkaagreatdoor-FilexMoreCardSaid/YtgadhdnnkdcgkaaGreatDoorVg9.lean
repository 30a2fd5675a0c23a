/- laid for this seat: VzE VzF VzG VzH -/
import Derived.Test.YtgadhdnnkdcgkaaGreatDoorVg8
set_option linter.unusedVariables false
set_option linter.unusedSimpArgs false
section
/- Statements: a name's value; one statement. -/
set_option maxRecDepth 100000
namespace Go.VM
open Go.RowKit
def sC(k:Int)(p:Int)(nm:List Nat)(has:Bool)(xc:List V)(b e:V):List V:=[.int .i64 k,.int .i64 p,.str nm,.bool has]++(xc++[b,e])
def cV:V:=.lst [] (.ex 0)
def sL(l:List Tz)(d:Nat)(s:Sr)(t u:Tz)(cs:List V):OL:=[(1000,srO l d s),(1001,.cells false (dA t)),(1002,.cells false (dA u)),(1003,.cells false cs)]
theorem bIl{D:Nat→Prop}(l:List Tz)(d:Nat)(s:Sr)(t u:Tz){cs:List V}(h:Ins D cs):gP D (sL l d s t u cs):=⟨aVi l d s,(by exact⟨trivial,trivial,trivial,trivial,trivial⟩),(by exact⟨trivial,trivial,trivial,trivial,trivial⟩),h,trivial⟩
theorem bHr{D:Nat→Prop}(k p:Int)(nm:List Nat)(has:Bool):∀x:Ex,Ins D (sC k p nm has (cA x) cV cV)
 |.mk xk xa xe xn xv (.mk tk ta tp tn tl) xs=>⟨trivial,trivial,trivial,trivial,trivial,trivial,trivial,trivial,trivial,trivial,trivial,trivial,trivial,⟨gM tl,trivial⟩,⟨nF xs,trivial⟩,⟨trivial,trivial⟩,⟨trivial,trivial⟩,trivial⟩
theorem aAd{l:List Tz}{P:Nat→R Ex}(hP:ParseOk l P)(hl:l.length<4294967296)(d:Nat)(s:Sr)(hs:s.a≤l.length)(k:Nat)(p:Int)(nm:List Nat)(t u:Tz):
  SCall Go.Proofs.Tryz.prog [] 107 [.ptr 1000 0,.ptr 1003 0,.int .i64 k] none ⟨1004,og (sL l d s t u (sC 0 p nm false zEx cV cV)),[]⟩ (.ret (.tup [])) none ⟨1004,og (sL l d (mQ l P k p nm s).2 t u (sC k p nm false (cA (aV P (bX l s [61])).1) cV cV)),[]⟩:=by
 have h1:=dH hs (x:=[61])
 have h2:=bY hP h1.len
 unfold mQ
 refine SCall.aJ (fn:=Go.Proofs.Tryz.f107) (by kernel_rfl) bHq (by kernel_rfl) (by kernel_rfl) (Nat.le_refl _) rfl ((bIl _ _ _ _ _ (bHr _ _ _ _ _))) trivial ?_
 unfold bEv
 repeat apply sQ
 refine WR.q rfl ?_
 repeat apply sQ
 refine WR.m 1 rfl ?_
 refine WQ.c rfl (kU (x:=[61]) hl hs (by decide) rfl) (.put .base rfl) rfl ?_
 have he:=lH hP (d:=d) h1.len (h:=⟨1004,og (sL l d (bX l s [61]) t u (sC k p nm false zEx cV cV)),[]⟩) (R:=1000) (by decide) rfl
 generalize(aV P (bX l s [61])).1=x at he⊢
 generalize(aV P (bX l s [61])).2=s2 at he h2⊢
 obtain⟨xk,xa,xe,xn,xv,⟨xtk,xta,xtp,xtn,xtl⟩,xs⟩:=x
 refine WQ.q rfl ?_
 repeat apply sQ
 refine WR.m 2 rfl ?_
 refine WQ.c rfl he (.put .base rfl) rfl ?_
 refine WQ.q rfl ?_
 repeat apply sQ
 refine WR.m 1 rfl ?_
 refine WQ.c rfl (kU (x:=[59]) hl h2.len (by decide) rfl) (.put .base rfl) rfl ?_
 refine WQ.q rfl ?_
 exact⟨rfl,rfl,⟨_,rfl,VLe.refl _⟩,fun _ _=>rfl⟩
structure SpecS(l:List Tz)(f:Sf):Prop where
 block:∀d s v s',d≤30→s.a≤l.length→f.block d s=some (v,s')→SCall Go.Proofs.Tryz.prog [] 90 [.ptr 1000 0] none ⟨1001,og (srL l d s),[]⟩ (.ret (.lst (fW v) .unk)) none ⟨1001,og (srL l d s'),[]⟩
 stmt:∀d s v s',d≤30→s.a≤l.length→f.stmt d s=some (v,s')→SCall Go.Proofs.Tryz.prog [] 103 [.ptr 1000 0] none ⟨1001,og (srL l d s),[]⟩ (.ret (.agg (kT v))) none ⟨1001,og (srL l d s'),[]⟩
end Go.VM
end
section
/- Statements: one statement. -/
set_option maxRecDepth 100000
namespace Go.VM
open Go.RowKit
def bMz:TM:=[(0,.v (.ptr 1000 0)),(2,.l 2 0),(3,.v (.ptr 1001 0)),(4,.v (.ptr 1002 0)),(5,.v (.ptr 1003 0)),(6,.v (.fn (.func 90) [.ptr 1000 0] []))]
def bMh:LM:=[(2,sC 0 0 [] false zEx cV cV)]
theorem jE{o a b c:Obj}(x:Nat)(h:x<1001):og [(1000,o)] x=og [(1000,o),(1001,a),(1002,b),(1003,c)] x:=by
 simp only[aT]
 split
 ·rfl
 ·rw[if_neg (by omega),if_neg (by omega),if_neg (by omega)]
theorem yM{l:List Tz}{f:Sf}(hf:SpecS l f){d:Nat}(hd:d≤30){s:Sr}(hs:s.a≤l.length){v:List Sx}{s':Sr}(e:f.block d s=some (v,s')){h:H}{R:Nat}(hR:aC≤R)(h1:h.ob R=some (srO l d s)):
  SCall Go.Proofs.Tryz.prog [] 90 [.ptr R 0] none h (.ret (.lst (fW v) .unk)) none (h.put R (srO l d s')):=
 lW (hf.block d s v s' hd hs e) trivial ⟨fR _,trivial⟩ hR h1
theorem aQo{l:List Tz}{P:Nat→R Ex}(hP:ParseOk l P)(hl:l.length<4294967296){f:Sf}(hf:SpecS l f)(iv:InvS l f)(d:Nat)(hd:d≤30)(s:Sr)(hs:s.a≤l.length){v:Sx}{s':Sr}(he:gZ l P f d s=some (v,s')){r1 r2 r3 r4 r:RC}(h4:aAy=.seq r1 (.seq r2 (.seq r3 (.seq r4 r))))
  {t u:Tz} (ht:t=aB l s.a) (hu:u=aB l (s.a+1)) {p:Int} (hp:p=t.a) {tm:TM} (htm:TellT tm bMh bMz) {lc:LM} (hlc:TellL lc bMh):
  WR Go.Proofs.Tryz.prog [] ⟨Go.Proofs.Tryz.f103.ntmps,none,103⟩ r (SL.toS ⟨tm,[],none,1004,sL l d s t u (sC 0 p [] false zEx cV cV),lc⟩) (aAx Go.Proofs.Tryz.prog Go.Proofs.Tryz.f103 (.ret (.agg (kT v))) 1001 (srL l d s')) (aAu Go.Proofs.Tryz.prog Go.Proofs.Tryz.f103 (.ret (.agg (kT v))) 1001 (srL l d s')):=by
 refine WR.weak (SW.aQ htm hlc) ?_
 unfold aAy at h4
 cases h4
 have tk:=fun lc=>uI (l:=l) (d:=d) (s:=aR s) (i:=s.a+1) hl (h:=⟨1004,og (sL l d (aR s) t u (sC 0 p [] false zEx cV cV)),lc⟩) (R:=1000) (by decide) rfl
 have i1:=fun lc=>pS (l:=l) (d:=d) (s:=s) (k:=5) (x:=aVr) hl hs (h:=⟨1004,og (sL l d (s) t u (sC 0 p [] false zEx cV cV)),lc⟩) (R:=1000) (by decide) rfl
 unfold isN at i1
 have i2:=fun lc=>pS (l:=l) (d:=d) (s:=s) (k:=5) (x:=aXd) hl hs (h:=⟨1004,og (sL l d (s) t u (sC 0 p [] false zEx cV cV)),lc⟩) (R:=1000) (by decide) rfl
 unfold isN at i2
 have i3:=fun lc=>pS (l:=l) (d:=d) (s:=s) (k:=5) (x:=sIf) hl hs (h:=⟨1004,og (sL l d (s) t u (sC 0 p [] false zEx cV cV)),lc⟩) (R:=1000) (by decide) rfl
 unfold isN at i3
 have i4:=fun lc=>pS (l:=l) (d:=d) (s:=s) (k:=5) (x:=aZf) hl hs (h:=⟨1004,og (sL l d (s) t u (sC 0 p [] false zEx cV cV)),lc⟩) (R:=1000) (by decide) rfl
 unfold isN at i4
 unfold gZ at he
 rw[←ht,←hu,←hp]at he
 rw[←hu]at tk
 unfold aVr at i1 he
 unfold aXd at i2 he
 unfold sIf at i3 he
 unfold aZf at i4 he
 repeat apply sQ
 refine WR.block ?_
 repeat apply sQ
 refine WR.reg (WQ.aG [5] 1 _ _ _ _ rfl ?_)
 refine WQ.c rfl (i1 _) (.put .base rfl) rfl ?_
 cases h1:isS l s 5 [108,101,116]with
 |true=>
  have h0:=dN h1 (by decide)
  rw[h1]at he
  refine WQ.aG [5] 1000 _ _ _ _ rfl (WQ.aK ?_)
  repeat apply sQ
  refine WR.aD rfl ?_
  repeat apply sQ
  refine WR.reg (WQ.aG [5] 5 _ _ _ _ rfl ?_)
  refine WQ.c rfl (tk _) .base rfl ?_
  refine WQ.aG [5] 1000 _ _ _ _ rfl (WQ.aK ?_)
  repeat apply sQ
  refine WR.reg (WQ.aG [5] 1000 _ _ _ _ rfl (WQ.aK ?_))
  cases hk:decide (u.k=1)with
  |true=>
   rw[hk]at he
   have he:=Option.some.inj he
   have hn:=cS (l:=l) (a:=s.a+1) (by rw[←hu,of_decide_eq_true hk];decide)
   have vc:=aAd hP hl d (aR (aR s)) hn 1 p u.t t u
   unfold mQ at he vc
   generalize(aV P (bX l (aR (aR s)) [61]))=r at he vc
   obtain⟨⟨xk,xa,xe,xn,xv,⟨xtk,xta,xtp,xtn,xtl⟩,xs⟩,s3⟩:=r
   cases he
   repeat apply sQ
   refine WR.aD rfl ?_
   repeat apply sQ
   refine WR.reg (WQ.aG [5] 1000 _ _ _ _ rfl (WQ.aK ?_))
   repeat apply sQ
   refine WR.reg (WQ.aG [5] 5 _ _ _ _ rfl ?_)
   rw[bJ (by show s.a+1<big;unfold big;omega)]
   refine WQ.aG [5] 1000 _ _ _ _ rfl (WQ.aK ?_)
   unfold yN
   repeat apply sQ
   refine WR.reg (WQ.aG [5] 1 _ _ _ _ rfl ?_)
   refine WQ.c rfl (SCall.eJ vc _) .base rfl ?_
   refine WQ.aG [5] 1000 _ _ _ _ rfl (WQ.aK ?_)
   unfold fQ
   repeat apply sQ
   refine WR.reg (WQ.aG [5] 1000 _ _ _ _ rfl (WQ.aK ?_))
   refine WR.ret ⟨rfl,rfl,⟨_,rfl,vQ⟩,fun b hb=>jE b hb⟩
  |false=>
   rw[hk]at he
   have he:=Option.some.inj he
   have hn:=pF (l:=l) (s:=aR s) (aW h0).len (c:=5) (by decide)
   have vc:=aAd hP hl d (gA l (aR s) 5) hn.len 1 p [] t u
   unfold mQ at he vc
   generalize(aV P (bX l (gA l (aR s) 5) [61]))=r at he vc
   obtain⟨⟨xk,xa,xe,xn,xv,⟨xtk,xta,xtp,xtn,xtl⟩,xs⟩,s3⟩:=r
   cases he
   refine WR.aO rfl ?_
   repeat apply sQ
   refine WR.reg (WQ.aG [5] 1 _ _ _ _ rfl ?_)
   have fl:=fun lc=>yW (l:=l) (d:=d) (s:=aR s) (c:=5) hl (h:=⟨1004,og (sL l d (aR s) t u (sC 0 p [] false zEx cV cV)),lc⟩) (R:=1000) (by decide) rfl
   refine WQ.c rfl (fl _) (.put .base rfl) rfl ?_
   refine WQ.aG [5] 1000 _ _ _ _ rfl (WQ.aK ?_)
   unfold yN
   repeat apply sQ
   refine WR.reg (WQ.aG [5] 1 _ _ _ _ rfl ?_)
   refine WQ.c rfl (SCall.eJ vc _) .base rfl ?_
   refine WQ.aG [5] 1000 _ _ _ _ rfl (WQ.aK ?_)
   unfold fQ
   repeat apply sQ
   refine WR.reg (WQ.aG [5] 1000 _ _ _ _ rfl (WQ.aK ?_))
   refine WR.ret ⟨rfl,rfl,⟨_,rfl,vQ⟩,fun b hb=>jE b hb⟩
 |false=>
 rw[h1]at he
 refine WQ.aG [5] 1000 _ _ _ _ rfl (WQ.aK ?_)
 refine WR.aO rfl ?_
 repeat apply sQ
 refine WR.reg (WQ.aG [5] 1 _ _ _ _ rfl ?_)
 refine WQ.c rfl (i2 _) (.put .base rfl) rfl ?_
 cases h2:isS l s 5 [114,101,116,117,114,110]with
 |true=>
  have h0:=dN h2 (by decide)
  rw[h2]at he
  have j:=fun lc=>pS (l:=l) (d:=d) (s:=aR s) (k:=4) (x:=[59]) hl (aW h0).len (h:=⟨1004,og (sL l d (aR s) t u (sC 3 p [] false zEx cV cV)),lc⟩) (R:=1000) (by decide) rfl
  unfold isN at j
  refine WQ.aG [5] 1000 _ _ _ _ rfl (WQ.aK ?_)
  repeat apply sQ
  refine WR.aD rfl ?_
  repeat apply sQ
  refine WR.reg (WQ.aG [5] 1000 _ _ _ _ rfl (WQ.aK ?_))
  repeat apply sQ
  refine WR.reg (WQ.aG [5] 1 _ _ _ _ rfl ?_)
  refine WQ.c rfl (j _) (.put .base rfl) rfl ?_
  cases h3:isS l (aR s) 4 [59]with
  |true=>
   rw[h3]at he
   cases he
   refine WQ.aG [5] 1000 _ _ _ _ rfl (WQ.aK ?_)
   repeat apply sQ
   refine WR.k rfl ?_
   unfold fQ
   repeat apply sQ
   refine WR.reg (WQ.aG [5] 1000 _ _ _ _ rfl (WQ.aK ?_))
   refine WR.ret ⟨rfl,rfl,⟨_,rfl,vQ⟩,fun b hb=>jE b hb⟩
  |false=>
   rw[h3]at he
   have hx:=bY hP (aW h0).len
   have ex:=fun lc=>lH hP (d:=d) (s:=aR s) (aW h0).len (h:=⟨1004,og (sL l d (aR s) t u (sC 3 p [] false zEx cV cV)),lc⟩) (R:=1000) (by decide) rfl
   generalize(aV P (aR s))=r at he hx ex
   obtain⟨⟨xk,xa,xe,xn,xv,⟨xtk,xta,xtp,xtn,xtl⟩,xs⟩,s3⟩:=r
   cases he
   refine WQ.aG [5] 1000 _ _ _ _ rfl (WQ.aK ?_)
   repeat apply sQ
   refine WR.aD rfl ?_
   repeat apply sQ
   refine WR.reg (WQ.aG [5] 1 _ _ _ _ rfl ?_)
   refine WQ.c rfl (ex _) (.put .base rfl) rfl ?_
   refine WQ.aG [5] 1000 _ _ _ _ rfl (WQ.aK ?_)
   repeat apply sQ
   refine WR.reg (WQ.aG [5] 1 _ _ _ _ rfl ?_)
   refine WQ.c rfl (kU (x:=[59]) hl hx.len (by decide) rfl) (.put .base rfl) rfl ?_
   refine WQ.aG [5] 1000 _ _ _ _ rfl (WQ.aK ?_)
   unfold fQ
   repeat apply sQ
   refine WR.reg (WQ.aG [5] 1000 _ _ _ _ rfl (WQ.aK ?_))
   refine WR.ret ⟨rfl,rfl,⟨_,rfl,vQ⟩,fun b hb=>jE b hb⟩
 |false=>
 rw[h2]at he
 refine WQ.aG [5] 1000 _ _ _ _ rfl (WQ.aK ?_)
 refine WR.aO rfl ?_
 repeat apply sQ
 refine WR.reg (WQ.aG [5] 1 _ _ _ _ rfl ?_)
 refine WQ.c rfl (i3 _) (.put .base rfl) rfl ?_
 cases h3:isS l s 5 [105,102]with
 |true=>
  have h0:=dN h3 (by decide)
  rw[h3]at he
  have hx:=bY hP (aW h0).len
  have ex:=fun lc=>lH hP (d:=d) (s:=aR s) (aW h0).len (h:=⟨1004,og (sL l d (aR s) t u (sC 0 p [] false zEx cV cV)),lc⟩) (R:=1000) (by decide) rfl
  generalize(aV P (aR s))=r at he hx ex
  obtain⟨⟨xk,xa,xe,xn,xv,⟨xtk,xta,xtp,xtn,xtl⟩,xs⟩,s3⟩:=r
  refine WQ.aG [5] 1000 _ _ _ _ rfl (WQ.aK ?_)
  repeat apply sQ
  refine WR.aD rfl ?_
  repeat apply sQ
  refine WR.reg (WQ.aG [5] 1 _ _ _ _ rfl ?_)
  refine WQ.c rfl (ex _) (.put .base rfl) rfl ?_
  refine WQ.aG [5] 1000 _ _ _ _ rfl (WQ.aK ?_)
  repeat apply sQ
  refine WR.reg (WQ.aG [5] 1 _ _ _ _ rfl ?_)
  cases hb:f.block d s3 with
  |none=>simp only[hb]at he;cases he
  |some q=>
   obtain⟨b,s4⟩:=q
   have hbs:=iv.block _ _ _ _ hx.len hb
   simp only[hb]at he
   refine WQ.c rfl (yM hf hd hx.len hb (by decide) rfl) (.put .base rfl) rfl ?_
   refine WQ.aG [5] 1000 _ _ _ _ rfl (WQ.aK ?_)
   repeat apply sQ
   refine WR.reg (WQ.aG [5] 1 _ _ _ _ rfl ?_)
   refine WQ.c rfl (pS (l:=l) (d:=d) (s:=s4) (k:=5) (x:=[101,108,115,101]) hl hbs.len (by decide) rfl) (.put .base rfl) rfl ?_
   unfold isN
   unfold wA at he
   cases h4:isS l s4 5 [101,108,115,101]with
   |false=>
    rw[h4]at he
    cases he
    refine WQ.aG [5] 1000 _ _ _ _ rfl (WQ.aK ?_)
    refine WR.k rfl ?_
    unfold fQ
    repeat apply sQ
    refine WR.reg (WQ.aG [5] 1000 _ _ _ _ rfl (WQ.aK ?_))
    refine WR.ret ⟨rfl,rfl,⟨_,rfl,vQ⟩,fun b hb=>jE b hb⟩
   |true=>
    have h5:=aW (dN h4 (by decide))
    rw[h4]at he
    cases hb2:f.block d (aR s4)with
    |none=>simp only[hb2]at he;cases he
    |some q=>
     obtain⟨b2,s5⟩:=q
     simp only[hb2]at he
     cases he
     refine WQ.aG [5] 1000 _ _ _ _ rfl (WQ.aK ?_)
     repeat apply sQ
     refine WR.aD rfl ?_
     repeat apply sQ
     refine WR.reg (WQ.aG [5] 1 _ _ _ _ rfl ?_)
     refine WQ.c rfl (yM hf hd h5.len hb2 (by decide) rfl) (.put .base rfl) rfl ?_
     refine WQ.aG [5] 1000 _ _ _ _ rfl (WQ.aK ?_)
     unfold fQ
     repeat apply sQ
     refine WR.reg (WQ.aG [5] 1000 _ _ _ _ rfl (WQ.aK ?_))
     refine WR.ret ⟨rfl,rfl,⟨_,rfl,vQ⟩,fun b hb=>jE b hb⟩
 |false=>
 rw[h3]at he
 refine WQ.aG [5] 1000 _ _ _ _ rfl (WQ.aK ?_)
 refine WR.aO rfl ?_
 repeat apply sQ
 refine WR.reg (WQ.aG [5] 1 _ _ _ _ rfl ?_)
 refine WQ.c rfl (i4 _) (.put .base rfl) rfl ?_
 cases h4:isS l s 5 [102,111,114]with
 |true=>
  have h0:=dN h4 (by decide)
  rw[h4]at he
  have hx:=bY hP (aW h0).len
  have ex:=fun lc=>lH hP (d:=d) (s:=aR s) (aW h0).len (h:=⟨1004,og (sL l d (aR s) t u (sC 0 p [] false zEx cV cV)),lc⟩) (R:=1000) (by decide) rfl
  generalize(aV P (aR s))=r at he hx ex
  obtain⟨⟨xk,xa,xe,xn,xv,⟨xtk,xta,xtp,xtn,xtl⟩,xs⟩,s3⟩:=r
  refine WQ.aG [5] 1000 _ _ _ _ rfl (WQ.aK ?_)
  repeat apply sQ
  refine WR.aD rfl ?_
  repeat apply sQ
  refine WR.reg (WQ.aG [5] 1 _ _ _ _ rfl ?_)
  refine WQ.c rfl (ex _) (.put .base rfl) rfl ?_
  refine WQ.aG [5] 1000 _ _ _ _ rfl (WQ.aK ?_)
  repeat apply sQ
  refine WR.reg (WQ.aG [5] 1 _ _ _ _ rfl ?_)
  cases hb:f.block d s3 with
  |none=>simp only[hb]at he;cases he
  |some q=>
   obtain⟨b,s4⟩:=q
   simp only[hb]at he
   cases he
   refine WQ.c rfl (yM hf hd hx.len hb (by decide) rfl) (.put .base rfl) rfl ?_
   refine WQ.aG [5] 1000 _ _ _ _ rfl (WQ.aK ?_)
   unfold fQ
   repeat apply sQ
   refine WR.reg (WQ.aG [5] 1000 _ _ _ _ rfl (WQ.aK ?_))
   refine WR.ret ⟨rfl,rfl,⟨_,rfl,vQ⟩,fun b hb=>jE b hb⟩
 |false=>
 rw[h4]at he
 unfold wP at he
 rw[←ht,←hu]at he
 refine WQ.aG [5] 1000 _ _ _ _ rfl (WQ.aK ?_)
 refine WR.aO rfl ?_
 repeat apply sQ
 refine WR.reg (WQ.aG [5] 3 _ _ _ _ rfl ?_)
 cases g1:decide (t.k=1)with
 |false=>
  rw[g1]at he
  have hx:=bY hP hs
  have ex:=fun lc=>lH hP (d:=d) (s:=s) hs (h:=⟨1004,og (sL l d s t u (sC 0 p [] false zEx cV cV)),lc⟩) (R:=1000) (by decide) rfl
  generalize(aV P s)=r at he hx ex
  obtain⟨⟨xk,xa,xe,xn,xv,⟨xtk,xta,xtp,xtn,xtl⟩,xs⟩,s3⟩:=r
  cases he
  refine WQ.aG [5] 1000 _ _ _ _ rfl (WQ.aK ?_)
  refine WR.aO rfl ?_
  repeat apply sQ
  refine WR.reg (WQ.aG [5] 1 _ _ _ _ rfl ?_)
  refine WQ.c rfl (ex _) (.put .base rfl) rfl ?_
  refine WQ.aG [5] 1000 _ _ _ _ rfl (WQ.aK ?_)
  repeat apply sQ
  refine WR.reg (WQ.aG [5] 1 _ _ _ _ rfl ?_)
  refine WQ.c rfl (kU (x:=[59]) hl hx.len (by decide) rfl) (.put .base rfl) rfl ?_
  refine WQ.aG [5] 1000 _ _ _ _ rfl (WQ.aK ?_)
  unfold fQ
  repeat apply sQ
  refine WR.reg (WQ.aG [5] 1000 _ _ _ _ rfl (WQ.aK ?_))
  refine WR.ret ⟨rfl,rfl,⟨_,rfl,vQ⟩,fun b hb=>jE b hb⟩
 |true=>
  rw[g1]at he
  refine WQ.aG [5] 5 _ _ _ _ rfl ?_
  cases g2:decide (u.k=4)with
  |false=>
   rw[g2]at he
   have hx:=bY hP hs
   have ex:=fun lc=>lH hP (d:=d) (s:=s) hs (h:=⟨1004,og (sL l d s t u (sC 0 p [] false zEx cV cV)),lc⟩) (R:=1000) (by decide) rfl
   generalize(aV P s)=r at he hx ex
   obtain⟨⟨xk,xa,xe,xn,xv,⟨xtk,xta,xtp,xtn,xtl⟩,xs⟩,s3⟩:=r
   cases he
   refine WQ.aG [5] 1000 _ _ _ _ rfl (WQ.aK ?_)
   refine WR.aO rfl ?_
   repeat apply sQ
   refine WR.reg (WQ.aG [5] 1 _ _ _ _ rfl ?_)
   refine WQ.c rfl (ex _) (.put .base rfl) rfl ?_
   refine WQ.aG [5] 1000 _ _ _ _ rfl (WQ.aK ?_)
   repeat apply sQ
   refine WR.reg (WQ.aG [5] 1 _ _ _ _ rfl ?_)
   refine WQ.c rfl (kU (x:=[59]) hl hx.len (by decide) rfl) (.put .base rfl) rfl ?_
   refine WQ.aG [5] 1000 _ _ _ _ rfl (WQ.aK ?_)
   unfold fQ
   repeat apply sQ
   refine WR.reg (WQ.aG [5] 1000 _ _ _ _ rfl (WQ.aK ?_))
   refine WR.ret ⟨rfl,rfl,⟨_,rfl,vQ⟩,fun b hb=>jE b hb⟩
  |true=>
   rw[g2]at he
   refine WQ.aG [5] 5 _ _ _ _ rfl ?_
   cases g3:decide (u.t=[61])with
   |false=>
    rw[g3]at he
    have hx:=bY hP hs
    have ex:=fun lc=>lH hP (d:=d) (s:=s) hs (h:=⟨1004,og (sL l d s t u (sC 0 p [] false zEx cV cV)),lc⟩) (R:=1000) (by decide) rfl
    generalize(aV P s)=r at he hx ex
    obtain⟨⟨xk,xa,xe,xn,xv,⟨xtk,xta,xtp,xtn,xtl⟩,xs⟩,s3⟩:=r
    cases he
    refine WQ.aG [5] 1000 _ _ _ _ rfl (WQ.aK ?_)
    refine WR.aO rfl ?_
    repeat apply sQ
    refine WR.reg (WQ.aG [5] 1 _ _ _ _ rfl ?_)
    refine WQ.c rfl (ex _) (.put .base rfl) rfl ?_
    refine WQ.aG [5] 1000 _ _ _ _ rfl (WQ.aK ?_)
    repeat apply sQ
    refine WR.reg (WQ.aG [5] 1 _ _ _ _ rfl ?_)
    refine WQ.c rfl (kU (x:=[59]) hl hx.len (by decide) rfl) (.put .base rfl) rfl ?_
    refine WQ.aG [5] 1000 _ _ _ _ rfl (WQ.aK ?_)
    unfold fQ
    repeat apply sQ
    refine WR.reg (WQ.aG [5] 1000 _ _ _ _ rfl (WQ.aK ?_))
    refine WR.ret ⟨rfl,rfl,⟨_,rfl,vQ⟩,fun b hb=>jE b hb⟩
   |true=>
    rw[g3]at he
    have h0:=cS (l:=l) (a:=s.a) (by rw[←ht,of_decide_eq_true g1];decide)
    have he:=Option.some.inj he
    have vc:=aAd hP hl d (aR s) h0 2 p t.t t u
    unfold mQ at he vc
    generalize(aV P (bX l (aR s) [61]))=r at he vc
    obtain⟨⟨xk,xa,xe,xn,xv,⟨xtk,xta,xtp,xtn,xtl⟩,xs⟩,s3⟩:=r
    cases he
    refine WQ.aG [5] 1000 _ _ _ _ rfl (WQ.aK ?_)
    repeat apply sQ
    refine WR.aD rfl ?_
    repeat apply sQ
    refine WR.reg (WQ.aG [5] 5 _ _ _ _ rfl ?_)
    rw[bJ (by show s.a<big;unfold big;omega)]
    refine WQ.aG [5] 1000 _ _ _ _ rfl (WQ.aK ?_)
    repeat apply sQ
    refine WR.reg (WQ.aG [5] 1000 _ _ _ _ rfl (WQ.aK ?_))
    repeat apply sQ
    refine WR.reg (WQ.aG [5] 1 _ _ _ _ rfl ?_)
    refine WQ.c rfl (SCall.eJ vc _) .base rfl ?_
    refine WQ.aG [5] 1000 _ _ _ _ rfl (WQ.aK ?_)
    unfold fQ
    repeat apply sQ
    refine WR.reg (WQ.aG [5] 1000 _ _ _ _ rfl (WQ.aK ?_))
    refine WR.ret ⟨rfl,rfl,⟨_,rfl,vQ⟩,fun b hb=>jE b hb⟩
theorem aSx{l:List Tz}{P:Nat→R Ex}(hP:ParseOk l P)(hl:l.length<4294967296){f:Sf}(hf:SpecS l f)(iv:InvS l f)(d:Nat)(hd:d≤30)(s:Sr)(hs:s.a≤l.length){v:Sx}{s':Sr}(he:gZ l P f d s=some (v,s')):
  SCall Go.Proofs.Tryz.prog [] 103 [.ptr 1000 0] none ⟨1001,og (srL l d s),[]⟩ (.ret (.agg (kT v))) none ⟨1001,og (srL l d s'),[]⟩:=by
 have hz:∀(i j:Nat) (cs cs':List V),SCall Go.Proofs.Tryz.prog [] 100 [.ptr 1000 0,.int .i64 i] none ⟨1003,og [(1000,srO l d s),(1001,.cells false cs),(1002,.cells false cs')],[]⟩ (.ret (.agg (dA (aB l i)))) none ⟨1003,og [(1000,srO l d s),(1001,.cells false cs),(1002,.cells false cs')],[]⟩:=fun i j cs cs'=>uI hl (by decide) rfl
 obtain⟨r1,r2,r3,r4,r,h4⟩:∃r1 r2 r3 r4 r,aAy=.seq r1 (.seq r2 (.seq r3 (.seq r4 r))):=by unfold aAy;exact⟨_,_,_,_,_,rfl⟩
 have body:=fun tm lc htm hlc=>aQo hP hl hf iv d hd s hs he h4 (t:=aB l s.a) (u:=aB l (s.a+1)) rfl rfl (p:=(aB l s.a).a) rfl (tm:=tm) htm (lc:=lc) hlc
 refine SCall.aJ (fn:=Go.Proofs.Tryz.f103) (by kernel_rfl) bGs (by kernel_rfl) (by kernel_rfl) (Nat.le_refl _) rfl (jX _ _ _) (by exact zZ _) ?_
 unfold aAy at h4⊢
 cases h4
 repeat apply sQ
 refine WR.q rfl ?_
 repeat apply sQ
 refine WR.aN aZ (DW.m 11 rfl ?_)
 rw[bJ (by unfold big;omega)]
 refine DW.m 1000 rfl ?_
 refine DW.dX pQ rfl rfl rfl rfl rfl (SCall.eJ (hz s.a 0 _ _) _) .base rfl (DW.m 1000 rfl ?_)
 refine DW.dX pQ rfl rfl rfl rfl rfl (SCall.eJ (hz (s.a+1) 0 _ _) _) .base rfl (DW.m 1000 rfl ?_)
 refine DW.stS pQ rfl rfl rfl rfl (DW.m 1000 rfl ?_)
 refine DW.stS pQ rfl rfl rfl rfl (DW.m 1000 rfl (DW.bS pQ ?_))
 repeat apply sQ
 refine WR.reg (WQ.aG [5] 1000 _ _ _ _ rfl (WQ.aK ?_))
 refine WR.seq (WR.reg (WQ.aG [5] 1000 _ _ _ _ rfl (WQ.aK ?_)))
 refine body _ _ ?_ ?_
 ·exact tQ
 ·exact lQ
end Go.VM
end
section
/- Statements: a block. -/
set_option maxRecDepth 100000
namespace Go.VM
open Go.RowKit
def lvS:List Sx→V
 |[]=>.lst [] (.ex 0)
 |x::l=>.lst ((x::l).map kT) (.tk 1001)
def bGo:List Sx→OL
 |[]=>[]
 |x::l=>[(1001,.tok (x::l).length)]
def nxS:List Sx→Nat
 |[]=>1001
 |_::_=>1002
def blM(l:List Tz)(d:Nat)(s:Sr)(acc:List Sx):OL:=(1000,srO l d s)::bGo acc
def bAm(acc:List Sx):TM:=[(0,.v (.ptr 1000 0)),(2,.v (lvS acc))]
theorem aYh{o:Obj}(acc:List Sx)(b:Nat)(h:b<1001):og [(1000,o)] b=og ((1000,o)::bGo acc) b:=by
 cases acc with
 |nil=>rfl
 |cons p l=>
  simp only[bGo,aT]
  split
  ·rfl
  ·rw[if_neg (by omega)]
theorem bFh(acc:List Sx):VLe (lvS acc) (.lst (fW acc) .unk):=by
 rw[jJ]
 cases acc with
 |nil=>exact VLe.unk _ _
 |cons x l=>exact VLe.unk _ _
theorem bBv{l:List Tz}{f:Sf}(hf:SpecS l f){d:Nat}(hd:d≤30){s:Sr}(hs:s.a≤l.length){v:Sx}{s':Sr}(e:f.stmt d s=some (v,s')){h:H}{R:Nat}(hR:aC≤R)(h1:h.ob R=some (srO l d s)):
  SCall Go.Proofs.Tryz.prog [] 103 [.ptr R 0] none h (.ret (.agg (kT v))) none (h.put R (srO l d s')):=
 lW (hf.stmt d s v s' hd hs e) trivial (zZ _) hR h1
theorem aSc{QN:S→Prop}{QX:X→S→Prop}{l:List Tz}{P:Nat→R Ex}(hP:ParseOk l P)(hl:l.length<20000)(d:Nat):∀(n:Nat) (hsp:∀m,m<n→SpecS l (cG l P m)) (acc:List Sx) (s:Sr) (v:List Sx) (s':Sr),
  (cG l P n).loop d acc s=some (v,s')→s.a≤l.length→(s.c=0→acc.length≤s.a∧d≤30)→(∀tm,TellT tm [] (bAm v)→QX (.exit 0) (SL.toS ⟨tm,[],none,nxS v,blM l d s' v,[]⟩))→
  WLr Go.Proofs.Tryz.prog [] ⟨Go.Proofs.Tryz.f90.ntmps,none,90⟩ aDz (SL.toS ⟨bAm acc,[],none,nxS acc,blM l d s acc,[]⟩) QN QX:=by
 intro n
 induction n with
 |zero=>intro _ acc s v s' e;cases e
 |succ n ih=>
  intro hsp acc s v s' e hs hd h0
  have hl':l.length<4294967296:=by omega
  have e:gB l (cG l P n) d acc s=some (v,s'):=e
  unfold gB at e
  have hf:=fun nx rw=>nG (l:=l) (d:=d) (s:=s) (h:=⟨nx,og ((1000,srO l d s)::rw),[]⟩) (R:=1000) (by decide) rfl
  unfold aDz
  refine WLr.of ?_
  repeat apply sQ
  refine WR.m 1 rfl ?_
  refine WQ.c rfl (hf _ _) .base rfl ?_
  cases h1:bZ s with
  |false=>
   rw[h1]at e
   cases e
   refine WQ.q rfl ?_
   repeat apply sQ
   refine WR.aO rfl (WR.exit (h0 _ ?_))
   exact tQ
  |true=>
   rw[h1]at e
   have hc0:=fM.1 h1
   obtain⟨hacc,hd30⟩:=hd hc0
   have hi:=fun nx rw=>pS (l:=l) (d:=d) (s:=s) (k:=4) (x:=[125]) hl' hs (h:=⟨nx,og ((1000,srO l d s)::rw),[]⟩) (R:=1000) (by decide) rfl
   unfold isN at hi
   refine WQ.q rfl ?_
   repeat apply sQ
   refine WR.aD rfl (WR.skip ?_)
   repeat apply sQ
   refine WR.block ?_
   repeat apply sQ
   refine WR.m 1 rfl ?_
   refine WQ.c rfl (hi _ _) (.put .base rfl) rfl ?_
   cases h2:isS l s 4 [125]with
   |true=>
    rw[h2]at e
    cases e
    refine WQ.q rfl ?_
    repeat apply sQ
    refine WR.aD rfl (WR.exit (h0 _ ?_))
    exact tQ
   |false=>
    rw[h2]at e
    cases h3:(cG l P n).stmt d s with
    |none=>simp only[h3]at e;cases e
    |some q=>
     obtain⟨x,s1⟩:=q
     simp only[h3]at e
     have st:=(gX hP n).stmt _ _ _ _ hs h3
     have sx:=fun nx rw=>bBv (hsp n (by omega)) hd30 hs h3 (h:=⟨nx,og ((1000,srO l d s)::rw),[]⟩) (R:=1000) (by decide) rfl
     have ih:=ih (fun m hm=>hsp m (by omega)) (acc++[x]) s1 v s' e st.len (fun hc=>⟨by have:=st.lt hc;simp;omega,hd30⟩) h0
     obtain⟨xk,xa,xn,xh,⟨yk,ya,ye,yn,yv,⟨ytk,yta,ytp,ytn,ytl⟩,ys⟩,xb,xe⟩:=x
     refine WQ.q rfl ?_
     repeat apply sQ
     refine WR.k rfl ?_
     cases acc with
     |nil=>
      repeat apply sQ
      refine WR.m 2 rfl ?_
      refine WQ.c rfl (sx _ _) (.put .base rfl) rfl ?_
      refine WQ.m 1 rfl ?_
      refine WQ.eC rfl (jN (n2:=1) (es2:=[kT (.mk xk xa xn xh (.mk yk ya ye yn yv (.mk ytk yta ytp ytn ytl) ys) xb xe)]) rfl rfl (Nat.zero_lt_one) (by simp) (by simp) (by show 232*1≤lim;decide) rfl rfl rfl rfl) rfl ?_
      refine WQ.q rfl ?_
      refine WIr.again (WLr.weak ?_ ih)
      refine SW.aQ ?_ ?_
      ·exact tQ
      ·exact lQ
     |cons q r=>
      repeat apply sQ
      refine WR.m 2 rfl ?_
      refine WQ.c rfl (sx _ _) (.put .base rfl) rfl ?_
      refine WQ.m 1 rfl ?_
      refine WQ.eC rfl (jL (n:=(q::r).length) (n2:=(q::r++[Sx.mk xk xa xn xh (.mk yk ya ye yn yv (.mk ytk yta ytp ytn ytl) ys) xb xe]).length) (es2:=(q::r++[Sx.mk xk xa xn xh (.mk yk ya ye yn yv (.mk ytk yta ytp ytn ytl) ys) xb xe]).map kT) rfl rfl rfl (List.length_map ..).symm ?_ ?_ ?_ rfl ?_ ?_ rfl) rfl ?_
      ·intro e he
       obtain⟨y,_,rfl⟩:=List.mem_map.1 (show e∈(q::r).map kT from he)
       exact aTg y
      ·simp
      ·simp only[List.length_map,List.length_cons,List.length_nil]at hacc⊢;unfold lim;omega
      ·rw[List.map_append];rfl
      ·simp
      refine WQ.q rfl ?_
      refine WIr.again (WLr.weak ?_ ih)
      refine SW.aQ ?_ ?_
      ·exact tQ
      ·exact lQ
end Go.VM
end
section
/- Statements: a block; all of it. -/
set_option maxRecDepth 100000
namespace Go.VM
open Go.RowKit
theorem aQw{l:List Tz}{s:Sr}{x:List Nat}(h:¬(bZ s=true∧isF l s.a 4 x=true)):(bX l s x).c≠0:=by
 unfold bX isS
 cases hf:bZ s with
 |false=>
  have h1:¬s.c=0:=of_decide_eq_false hf
  unfold gA
  rw[hf]
  exact h1
 |true=>
  cases hi:isF l s.a 4 x with
  |true=>exact absurd ⟨hf,hi⟩ h
  |false=>
   unfold gA
   rw[hf]
   show(5:Int)≠0
   decide
theorem aKn{QN:S→Prop}{QX:X→S→Prop}{l:List Tz}{P:Nat→R Ex}(hP:ParseOk l P)(hl:l.length<20000)(n:Nat)(hsp:∀m,m<n→SpecS l (cG l P m))(d:Nat)(hd:d≤30)(s:Sr)(hs:s.a≤l.length){v:List Sx}{s':Sr}(he:dF l (cG l P n) d s=some (v,s'))(hdp:pG l d s=false)
  {r1 r2 r:RC} (h4:aQd=.seq r1 (.scope (.seq r2 r))) {tm:TM} (htm:TellT tm [] (bAm [])) (hq:∀st,aAx Go.Proofs.Tryz.prog Go.Proofs.Tryz.f90 (.ret (.lst (fW v) .unk)) 1001 (srL l d s') st→QX .ret st):
  WR Go.Proofs.Tryz.prog [] ⟨Go.Proofs.Tryz.f90.ntmps,none,90⟩ r (SL.toS ⟨tm,[],none,1001,srL l d s,[]⟩) QN QX:=by
 have hl':l.length<4294967296:=by omega
 refine WR.weak (SW.aQ htm .nil) ?_
 unfold aQd at h4
 cases h4
 unfold dF at he
 rw[hdp]at he
 have hm:=dH hs (x:=[123])
 have hd2:(bX l s [123]).c=0→d+1≤30:=by
  intro hc
  rcases Nat.lt_or_ge d 30 with h|h
  ·omega
  ·exfalso
   have h30:d=30:=by omega
   refine aQw (l:=l) (s:=s) (x:=[123]) ?_ hc
   intro⟨q1,q2⟩
   unfold isF at q2
   unfold pG at hdp
   rw[q1,q2,decide_eq_true h30]at hdp
   cases hdp
 repeat apply sQ
 refine WR.m 1 rfl ?_
 refine WQ.c rfl (kU (l:=l) (d:=d) (s:=s) (x:=[123]) hl' hs (by decide) rfl) (.put .base rfl) rfl ?_
 refine WQ.q rfl ?_
 repeat apply sQ
 refine WR.m 5 rfl ?_
 rw[bJ (by unfold big;omega)]
 refine WQ.q rfl ?_
 refine WR.seq (WR.skip ?_)
 repeat apply sQ
 refine WR.block (WR.loop (WLr.weak (s:=SL.toS ⟨bAm [],[],none,nxS [],blM l (d+1) (bX l s [123]) [],[]⟩) ?_ (aSc hP hl (d+1) n hsp [] (bX l s [123]) v s' he hm.len (fun hc=>⟨Nat.zero_le _,hd2 hc⟩) (fun tm ht=>?_))))
 ·refine SW.aQ ?_ ?_
  ·exact tQ
  ·exact lQ
 ·refine WR.weak (SW.aQ ht .nil) ?_
  unfold aMr
  repeat apply sQ
  refine WR.m 5 rfl ?_
  rw[rB (by omega) (by unfold big;omega),Nat.add_sub_cancel]
  refine WQ.q rfl ?_
  repeat apply sQ
  refine WR.q rfl ?_
  exact WR.ret (hq _ ⟨rfl,rfl,⟨_,rfl,bFh v⟩,fun b hb=>aYh v b hb⟩)
theorem aKt{l:List Tz}{P:Nat→R Ex}(hP:ParseOk l P)(hl:l.length<20000)(n:Nat)(hsp:∀m,m<n→SpecS l (cG l P m))(d:Nat)(hd:d≤30)(s:Sr)(hs:s.a≤l.length){v:List Sx}{s':Sr}(he:dF l (cG l P n) d s=some (v,s')):
  SCall Go.Proofs.Tryz.prog [] 90 [.ptr 1000 0] none ⟨1001,og (srL l d s),[]⟩ (.ret (.lst (fW v) .unk)) none ⟨1001,og (srL l d s'),[]⟩:=by
 have hl':l.length<4294967296:=by omega
 have hf:=nG (l:=l) (d:=d) (s:=s) (h:=⟨1001,og (srL l d s),[]⟩) (R:=1000) (by decide) rfl
 have ht:=uI (l:=l) (d:=d) (s:=s) (i:=s.a) hl' (h:=⟨1001,og (srL l d s),[]⟩) (R:=1000) (by decide) rfl
 obtain⟨r1,r2,r,h4⟩:∃r1 r2 r,aQd=.seq r1 (.scope (.seq r2 r)):=by unfold aQd;exact⟨_,_,_,rfl⟩
 have rest:=fun QN QX hdp tm htm hq=>aKn (QN:=QN) (QX:=QX) hP hl n hsp d hd s hs he hdp h4 (tm:=tm) htm hq
 refine SCall.aJ (fn:=Go.Proofs.Tryz.f90) (by kernel_rfl) bLk (by kernel_rfl) (by kernel_rfl) (Nat.le_refl _) rfl (jX _ _ _) (by exact⟨fR _,trivial⟩) ?_
 unfold pG at rest
 unfold dF pG at he
 unfold aQd at h4⊢
 cases h4
 repeat apply sQ
 refine WR.q rfl ?_
 refine WR.scope ?_
 repeat apply sQ
 refine WR.m 4 rfl ?_
 cases h30:decide (d=30)with
 |false=>
  have:decide ((d:Int)=30)=false:=decide_eq_false (by have:=of_decide_eq_false h30;omega)
  rw[h30]at rest
  refine WQ.m 1 rfl ?_
  rw[this]
  refine WQ.q rfl ?_
  refine WR.k rfl ?_
  refine rest _ _ rfl _ ?_ (fun _ h=>h)
  exact tQ
 |true=>
  have:decide ((d:Int)=30)=true:=decide_eq_true (by have:=of_decide_eq_true h30;omega)
  rw[h30]at rest he
  refine WQ.m 1 rfl ?_
  rw[this]
  refine WQ.m 2 rfl ?_
  refine WQ.c rfl hf .base rfl ?_
  cases h1:bZ s with
  |false=>
   rw[h1]at rest
   refine WQ.q rfl ?_
   refine WR.k rfl ?_
   refine rest _ _ rfl _ ?_ (fun _ h=>h)
   exact tQ
  |true=>
   rw[h1]at rest he
   refine WQ.m 8 rfl ?_
   refine WQ.c rfl ht .base rfl ?_
   refine WQ.m 2 rfl ?_
   cases hk:decide ((aB l s.a).k=4)with
   |false=>
    rw[hk]at rest
    refine WQ.q rfl ?_
    refine WR.k rfl ?_
    refine rest _ _ rfl _ ?_ (fun _ h=>h)
    exact tQ
   |true=>
    rw[hk]at rest he
    refine WQ.m 7 rfl ?_
    refine WQ.c rfl ht .base rfl ?_
    refine WQ.m 2 rfl ?_
    cases hx:decide ((aB l s.a).t=[123])with
    |false=>
     rw[hx]at rest
     refine WQ.q rfl ?_
     refine WR.k rfl ?_
     refine rest _ _ rfl _ ?_ (fun _ h=>h)
     exact tQ
    |true=>
     rw[hx]at he
     cases he
     have fl:=yW (l:=l) (d:=d) (s:=s) (c:=6) hl' (h:=⟨1001,og (srL l d s),[]⟩) (R:=1000) (by decide) rfl
     refine WQ.q rfl ?_
     refine WR.aD rfl ?_
     repeat apply sQ
     refine WR.m 1 rfl ?_
     refine WQ.c rfl fl (.put .base rfl) rfl ?_
     refine WQ.q rfl ?_
     repeat apply sQ
     refine WR.q rfl ?_
     exact WR.e
theorem aSg{l:List Tz}{P:Nat→R Ex}(hP:ParseOk l P)(hl:l.length<20000):∀n,∀m,m<n→SpecS l (cG l P m):=by
 intro n
 induction n with
 |zero=>intro m hm;omega
 |succ n ih=>
  intro m hm
  rcases Nat.lt_or_ge m n with h|h
  ·exact ih m h
  have:m=n:=by omega
  subst this
  cases m with
  |zero=>exact⟨fun _ _ _ _ _ _ e=>(by cases e),fun _ _ _ _ _ _ e=>(by cases e)⟩
  |succ m=>
   exact⟨fun d s v s' hd hs e=>aKt hP hl m (fun k hk=>ih k (by omega)) d hd s hs e,fun d s v s' hd hs e=>aSx hP (by omega) (ih m (by omega)) (gX hP m) d hd s hs e⟩
theorem aNo{o:Obj}(b:Nat)(h:b<1000):og [] b=og [(1000,o)] b:=by
 simp only[aT]
 rw[if_neg (by omega)]
def stV(r:List Sx×Sr):V:=match bZ r.2 with
 |true=>.tup [.lst (fW r.1) .unk,.int .i64 r.2.a,.agg (dgX 0 0)]
 |false=>.tup [.lst [] (.ex 0),.int .i64 0,.agg (dgX r.2.p r.2.c)]
theorem aXz{D:Nat→Prop}(r:List Sx×Sr):(stV r).In D:=by
 unfold stV
 cases bZ r.2 with
 |true=>exact⟨⟨fR _,trivial⟩,trivial,⟨trivial,trivial,trivial⟩,trivial⟩
 |false=>exact⟨⟨trivial,trivial⟩,trivial,⟨trivial,trivial,trivial⟩,trivial⟩
theorem aHf{l:List Tz}{P:Nat→R Ex}(hP:ParseOk l P)(hl:l.length<20000)(n a:Nat)(ha:a≤l.length){r:List Sx×Sr}(he:(cG l P n).block 0 ⟨a,0,0⟩=some r):
  SCall Go.Proofs.Tryz.prog [] 79 [lsV l,.int .i64 a] none ⟨1000,og [],[]⟩ (.ret (stV r)) none ⟨1000,og [],[]⟩:=by
 obtain⟨v,s'⟩:=r
 have bk:=(aSg hP hl (n+1) n (by omega)).block 0 ⟨a,0,0⟩ v s' (by omega) ha he
 have hf:=nG (l:=l) (d:=0) (s:=s') (h:=⟨1001,og (srL l 0 s'),[]⟩) (R:=1000) (by decide) rfl
 refine SCall.listed (fn:=Go.Proofs.Tryz.f79) (by kernel_rfl) bJh (by kernel_rfl) (by kernel_rfl) (Nat.le_refl _) rfl (trivial) (by exact aXz _) ?_
 unfold bIi
 unfold lsV
 repeat apply sQ
 refine WR.q rfl ?_
 refine WR.seq (WR.reg (WQ.aG [7,12] 1000 _ _ _ _ rfl (WQ.aK ?_)))
 repeat apply sQ
 refine WR.m 2 rfl ?_
 rw[show decide ((a:Int)<0)=false from decide_eq_false (by omega)]
 refine WQ.m 4 rfl ?_
 rw[List.length_map]
 refine WQ.m 1 rfl ?_
 rw[show decide ((a:Int)>(l.length:Int))=false from decide_eq_false (by omega)]
 refine WQ.q rfl ?_
 repeat apply sQ
 refine WR.k rfl ?_
 unfold aPd
 repeat apply sQ
 refine WR.m 1 rfl ?_
 refine WQ.c rfl (lW bk trivial (by exact⟨fR _,trivial⟩) (h:=⟨1001,og [(1000,srO l 0 ⟨a,0,0⟩)],[(6,[.int .i64 0,.int .i64 0])]⟩) (R:=1000) (by decide) rfl) (.put .base rfl) rfl ?_
 refine WQ.q rfl ?_
 repeat apply sQ
 refine WR.m 1 rfl ?_
 refine WQ.c rfl (SCall.eJ hf _) .base rfl ?_
 cases h1:bZ s' with
 |false=>
  have e:stV (v,s')=.tup [.lst [] (.ex 0),.int .i64 0,.agg (dgX s'.p s'.c)]:=by unfold stV;rw[h1]
  rw[e]
  refine WQ.q rfl ?_
  repeat apply sQ
  refine WR.aD rfl ?_
  refine WR.seq (WR.aN aZ (DW.m 1000 rfl ?_))
  refine DW.stS pQ rfl rfl rfl rfl (DW.m 1000 rfl (DW.bS pQ ?_))
  exact WR.ret ⟨rfl,rfl,⟨_,rfl,vQ⟩,fun b hb=>aNo b hb⟩
 |true=>
  have e:stV (v,s')=.tup [.lst (fW v) .unk,.int .i64 s'.a,.agg (dgX 0 0)]:=by unfold stV;rw[h1]
  rw[e]
  refine WQ.q rfl ?_
  repeat apply sQ
  refine WR.k rfl ?_
  refine WR.seq (WR.aN aZ (DW.m 1000 rfl ?_))
  refine DW.stS pQ rfl rfl rfl rfl (DW.m 1000 rfl (DW.bS pQ ?_))
  exact WR.ret ⟨rfl,rfl,⟨_,rfl,vQ⟩,fun b hb=>aNo b hb⟩
theorem aJq{l:List Tz}{P:Nat→R Ex}(hP:ParseOk l P)(a:Nat)(ha:a≤l.length):∃N r,∀n,N≤n→(cG l P n).block 0 ⟨a,0,0⟩=some r:=(bNe hP l.length a (by omega) ha).block 0 ⟨a,0,0⟩ rfl
end Go.VM
end
