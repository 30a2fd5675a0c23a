/- laid for this seat: VzE VzF VzG VzH -/
import Derived.Test.YtgadhdnnkdcgkaaGreatDoorVg8
set_option linter.unusedVariables false
set_option linter.unusedSimpArgs false
section
/- Statements: a name's value; one statement. -/
set_option maxRecDepth 100000
namespace Go.VM
open Go.RowKit
def sC(k:Int)(p:Int)(nm:List Nat)(has:Bool)(xc:List V)(b e:V):List V:=[.int .i64 k,.int .i64 p,.str nm,.bool has]++(xc++[b,e])
def cS:V:=.lst [] (.ex 0)
def sL(l:List Tz)(d:Nat)(s:Sr)(t u:Tz)(cs:List V):OL:=[(1000,srO l d s),(1001,.cells false (cD t)),(1002,.cells false (cD u)),(1003,.cells false cs)]
theorem bKb{D:Nat→Prop}(l:List Tz)(d:Nat)(s:Sr)(t u:Tz){cs:List V}(h:Ins D cs):gC D (sL l d s t u cs):=⟨aVw l d s,(by exact⟨trivial,trivial,trivial,trivial,trivial⟩),(by exact⟨trivial,trivial,trivial,trivial,trivial⟩),h,trivial⟩
theorem bHb{D:Nat→Prop}(k p:Int)(nm:List Nat)(has:Bool):∀x:Ex,Ins D (sC k p nm has (eA x) cS cS)
 |.mk xk xa xe xn xv (.mk tk ta tp tn tl) xs=>⟨trivial,trivial,trivial,trivial,trivial,trivial,trivial,trivial,trivial,trivial,trivial,trivial,trivial,⟨gH tl,trivial⟩,⟨nH xs,trivial⟩,⟨trivial,trivial⟩,⟨trivial,trivial⟩,trivial⟩
theorem aAh{l:List Tz}{P:Nat→R Ex}(hP:ParseOk l P)(hl:l.length<4294967296)(d:Nat)(s:Sr)(hs:s.a≤l.length)(k:Nat)(p:Int)(nm:List Nat)(t u:Tz):
  SCall Go.Proofs.Tryz.prog [] 107 [.ptr 1000 0,.ptr 1003 0,.int .i64 k] none ⟨1004,og (sL l d s t u (sC 0 p nm false zEx cS cS)),[]⟩ (.ret (.tup [])) none ⟨1004,og (sL l d (mI l P k p nm s).2 t u (sC k p nm false (eA (aT P (bN l s [61])).1) cS cS)),[]⟩:=by
 have h1:=dD hs (x:=[61])
 have h2:=bZ hP h1.len
 unfold mI
 refine SCall.aI (fn:=Go.Proofs.Tryz.f107) (by kernel_rfl) bFy (by kernel_rfl) (by kernel_rfl) (Nat.le_refl _) rfl ((bKb _ _ _ _ _ (bHb _ _ _ _ _))) trivial ?_
 unfold bEj
 repeat apply sQ
 refine WR.q rfl ?_
 repeat apply sQ
 refine WR.m 1 rfl ?_
 refine WQ.c rfl (kM (x:=[61]) hl hs (by decide) rfl) (.put .base rfl) rfl ?_
 have he:=lE hP (d:=d) h1.len (h:=⟨1004,og (sL l d (bN l s [61]) t u (sC k p nm false zEx cS cS)),[]⟩) (R:=1000) (by decide) rfl
 generalize(aT P (bN l s [61])).1=x at he⊢
 generalize(aT P (bN l s [61])).2=s2 at he h2⊢
 obtain⟨xk,xa,xe,xn,xv,⟨xtk,xta,xtp,xtn,xtl⟩,xs⟩:=x
 refine WQ.q rfl ?_
 repeat apply sQ
 refine WR.m 2 rfl ?_
 refine WQ.c rfl he (.put .base rfl) rfl ?_
 refine WQ.q rfl ?_
 repeat apply sQ
 refine WR.m 1 rfl ?_
 refine WQ.c rfl (kM (x:=[59]) hl h2.len (by decide) rfl) (.put .base rfl) rfl ?_
 refine WQ.q rfl ?_
 exact⟨rfl,rfl,⟨_,rfl,VLe.refl _⟩,fun _ _=>rfl⟩
structure SpecS(l:List Tz)(f:Sf):Prop where
 block:∀d s v s',d≤30→s.a≤l.length→f.block d s=some (v,s')→SCall Go.Proofs.Tryz.prog [] 90 [.ptr 1000 0] none ⟨1001,og (srL l d s),[]⟩ (.ret (.lst (iC v) .unk)) none ⟨1001,og (srL l d s'),[]⟩
 stmt:∀d s v s',d≤30→s.a≤l.length→f.stmt d s=some (v,s')→SCall Go.Proofs.Tryz.prog [] 103 [.ptr 1000 0] none ⟨1001,og (srL l d s),[]⟩ (.ret (.agg (jZ v))) none ⟨1001,og (srL l d s'),[]⟩
end Go.VM
end
section
/- Statements: one statement. -/
set_option maxRecDepth 100000
namespace Go.VM
open Go.RowKit
def bMy:TM:=[(0,.v (.ptr 1000 0)),(2,.l 2 0),(3,.v (.ptr 1001 0)),(4,.v (.ptr 1002 0)),(5,.v (.ptr 1003 0)),(6,.v (.fn (.func 90) [.ptr 1000 0] []))]
def bLy:LM:=[(2,sC 0 0 [] false zEx cS cS)]
theorem jA{o a b c:Obj}(x:Nat)(h:x<1001):og [(1000,o)] x=og [(1000,o),(1001,a),(1002,b),(1003,c)] x:=by
 simp only[aR]
 split
 ·rfl
 ·rw[if_neg (by omega),if_neg (by omega),if_neg (by omega)]
theorem zL{l:List Tz}{f:Sf}(hf:SpecS l f){d:Nat}(hd:d≤30){s:Sr}(hs:s.a≤l.length){v:List Sx}{s':Sr}(e:f.block d s=some (v,s')){h:H}{R:Nat}(hR:aC≤R)(h1:h.ob R=some (srO l d s)):
  SCall Go.Proofs.Tryz.prog [] 90 [.ptr R 0] none h (.ret (.lst (iC v) .unk)) none (h.put R (srO l d s')):=
 lZ (hf.block d s v s' hd hs e) trivial ⟨iQ _,trivial⟩ hR h1
theorem aTe{l:List Tz}{P:Nat→R Ex}(hP:ParseOk l P)(hl:l.length<4294967296){f:Sf}(hf:SpecS l f)(iv:InvS l f)(d:Nat)(hd:d≤30)(s:Sr)(hs:s.a≤l.length){v:Sx}{s':Sr}(he:eP l P f d s=some (v,s')){r1 r2 r3 r4 r:RC}(h4:aBt=.seq r1 (.seq r2 (.seq r3 (.seq r4 r))))
  {t u:Tz} (ht:t=aA l s.a) (hu:u=aA l (s.a+1)) {p:Int} (hp:p=t.a) {tm:TM} (htm:TellT tm bLy bMy) {lc:LM} (hlc:TellL lc bLy):
  WR Go.Proofs.Tryz.prog [] ⟨Go.Proofs.Tryz.f103.ntmps,none,103⟩ r (SL.toS ⟨tm,[],none,1004,sL l d s t u (sC 0 p [] false zEx cS cS),lc⟩) (aAq Go.Proofs.Tryz.prog Go.Proofs.Tryz.f103 (.ret (.agg (jZ v))) 1001 (srL l d s')) (aAl Go.Proofs.Tryz.prog Go.Proofs.Tryz.f103 (.ret (.agg (jZ v))) 1001 (srL l d s')):=by
 refine WR.weak (SW.aM htm hlc) ?_
 unfold aBt at h4
 cases h4
 have tk:=fun lc=>sZ (l:=l) (d:=d) (s:=aK s) (i:=s.a+1) hl (h:=⟨1004,og (sL l d (aK s) t u (sC 0 p [] false zEx cS cS)),lc⟩) (R:=1000) (by decide) rfl
 have i1:=fun lc=>pJ (l:=l) (d:=d) (s:=s) (k:=5) (x:=bAd) hl hs (h:=⟨1004,og (sL l d (s) t u (sC 0 p [] false zEx cS cS)),lc⟩) (R:=1000) (by decide) rfl
 unfold isN at i1
 have i2:=fun lc=>pJ (l:=l) (d:=d) (s:=s) (k:=5) (x:=bAj) hl hs (h:=⟨1004,og (sL l d (s) t u (sC 0 p [] false zEx cS cS)),lc⟩) (R:=1000) (by decide) rfl
 unfold isN at i2
 have i3:=fun lc=>pJ (l:=l) (d:=d) (s:=s) (k:=5) (x:=sIf) hl hs (h:=⟨1004,og (sL l d (s) t u (sC 0 p [] false zEx cS cS)),lc⟩) (R:=1000) (by decide) rfl
 unfold isN at i3
 have i4:=fun lc=>pJ (l:=l) (d:=d) (s:=s) (k:=5) (x:=aVo) hl hs (h:=⟨1004,og (sL l d (s) t u (sC 0 p [] false zEx cS cS)),lc⟩) (R:=1000) (by decide) rfl
 unfold isN at i4
 unfold eP at he
 rw[←ht,←hu,←hp]at he
 rw[←hu]at tk
 unfold bAd at i1 he
 unfold bAj at i2 he
 unfold sIf at i3 he
 unfold aVo at i4 he
 repeat apply sQ
 refine WR.block ?_
 repeat apply sQ
 refine WR.reg (WQ.aG [5] 1 _ _ _ _ rfl ?_)
 refine WQ.c rfl (i1 _) (.put .base rfl) rfl ?_
 cases h1:isS l s 5 [108,101,116]with
 |true=>
  have h0:=dO h1 (by decide)
  rw[h1]at he
  refine WQ.aG [5] 1000 _ _ _ _ rfl (WQ.aJ ?_)
  repeat apply sQ
  refine WR.aD rfl ?_
  repeat apply sQ
  refine WR.reg (WQ.aG [5] 5 _ _ _ _ rfl ?_)
  refine WQ.c rfl (tk _) .base rfl ?_
  refine WQ.aG [5] 1000 _ _ _ _ rfl (WQ.aJ ?_)
  repeat apply sQ
  refine WR.reg (WQ.aG [5] 1000 _ _ _ _ rfl (WQ.aJ ?_))
  cases hk:decide (u.k=1)with
  |true=>
   rw[hk]at he
   have he:=Option.some.inj he
   have hn:=cP (l:=l) (a:=s.a+1) (by rw[←hu,of_decide_eq_true hk];decide)
   have vc:=aAh hP hl d (aK (aK s)) hn 1 p u.t t u
   unfold mI at he vc
   generalize(aT P (bN l (aK (aK s)) [61]))=r at he vc
   obtain⟨⟨xk,xa,xe,xn,xv,⟨xtk,xta,xtp,xtn,xtl⟩,xs⟩,s3⟩:=r
   cases he
   repeat apply sQ
   refine WR.aD rfl ?_
   repeat apply sQ
   refine WR.reg (WQ.aG [5] 1000 _ _ _ _ rfl (WQ.aJ ?_))
   repeat apply sQ
   refine WR.reg (WQ.aG [5] 5 _ _ _ _ rfl ?_)
   rw[bI (by show s.a+1<big;unfold big;omega)]
   refine WQ.aG [5] 1000 _ _ _ _ rfl (WQ.aJ ?_)
   unfold yW
   repeat apply sQ
   refine WR.reg (WQ.aG [5] 1 _ _ _ _ rfl ?_)
   refine WQ.c rfl (SCall.fI vc _) .base rfl ?_
   refine WQ.aG [5] 1000 _ _ _ _ rfl (WQ.aJ ?_)
   unfold fO
   repeat apply sQ
   refine WR.reg (WQ.aG [5] 1000 _ _ _ _ rfl (WQ.aJ ?_))
   refine WR.ret ⟨rfl,rfl,⟨_,rfl,vQ⟩,fun b hb=>jA b hb⟩
  |false=>
   rw[hk]at he
   have he:=Option.some.inj he
   have hn:=pM (l:=l) (s:=aK s) (aU h0).len (c:=5) (by decide)
   have vc:=aAh hP hl d (eO l (aK s) 5) hn.len 1 p [] t u
   unfold mI at he vc
   generalize(aT P (bN l (eO l (aK s) 5) [61]))=r at he vc
   obtain⟨⟨xk,xa,xe,xn,xv,⟨xtk,xta,xtp,xtn,xtl⟩,xs⟩,s3⟩:=r
   cases he
   refine WR.aO rfl ?_
   repeat apply sQ
   refine WR.reg (WQ.aG [5] 1 _ _ _ _ rfl ?_)
   have fl:=fun lc=>zU (l:=l) (d:=d) (s:=aK s) (c:=5) hl (h:=⟨1004,og (sL l d (aK s) t u (sC 0 p [] false zEx cS cS)),lc⟩) (R:=1000) (by decide) rfl
   refine WQ.c rfl (fl _) (.put .base rfl) rfl ?_
   refine WQ.aG [5] 1000 _ _ _ _ rfl (WQ.aJ ?_)
   unfold yW
   repeat apply sQ
   refine WR.reg (WQ.aG [5] 1 _ _ _ _ rfl ?_)
   refine WQ.c rfl (SCall.fI vc _) .base rfl ?_
   refine WQ.aG [5] 1000 _ _ _ _ rfl (WQ.aJ ?_)
   unfold fO
   repeat apply sQ
   refine WR.reg (WQ.aG [5] 1000 _ _ _ _ rfl (WQ.aJ ?_))
   refine WR.ret ⟨rfl,rfl,⟨_,rfl,vQ⟩,fun b hb=>jA b hb⟩
 |false=>
 rw[h1]at he
 refine WQ.aG [5] 1000 _ _ _ _ rfl (WQ.aJ ?_)
 refine WR.aO rfl ?_
 repeat apply sQ
 refine WR.reg (WQ.aG [5] 1 _ _ _ _ rfl ?_)
 refine WQ.c rfl (i2 _) (.put .base rfl) rfl ?_
 cases h2:isS l s 5 [114,101,116,117,114,110]with
 |true=>
  have h0:=dO h2 (by decide)
  rw[h2]at he
  have j:=fun lc=>pJ (l:=l) (d:=d) (s:=aK s) (k:=4) (x:=[59]) hl (aU h0).len (h:=⟨1004,og (sL l d (aK s) t u (sC 3 p [] false zEx cS cS)),lc⟩) (R:=1000) (by decide) rfl
  unfold isN at j
  refine WQ.aG [5] 1000 _ _ _ _ rfl (WQ.aJ ?_)
  repeat apply sQ
  refine WR.aD rfl ?_
  repeat apply sQ
  refine WR.reg (WQ.aG [5] 1000 _ _ _ _ rfl (WQ.aJ ?_))
  repeat apply sQ
  refine WR.reg (WQ.aG [5] 1 _ _ _ _ rfl ?_)
  refine WQ.c rfl (j _) (.put .base rfl) rfl ?_
  cases h3:isS l (aK s) 4 [59]with
  |true=>
   rw[h3]at he
   cases he
   refine WQ.aG [5] 1000 _ _ _ _ rfl (WQ.aJ ?_)
   repeat apply sQ
   refine WR.k rfl ?_
   unfold fO
   repeat apply sQ
   refine WR.reg (WQ.aG [5] 1000 _ _ _ _ rfl (WQ.aJ ?_))
   refine WR.ret ⟨rfl,rfl,⟨_,rfl,vQ⟩,fun b hb=>jA b hb⟩
  |false=>
   rw[h3]at he
   have hx:=bZ hP (aU h0).len
   have ex:=fun lc=>lE hP (d:=d) (s:=aK s) (aU h0).len (h:=⟨1004,og (sL l d (aK s) t u (sC 3 p [] false zEx cS cS)),lc⟩) (R:=1000) (by decide) rfl
   generalize(aT P (aK s))=r at he hx ex
   obtain⟨⟨xk,xa,xe,xn,xv,⟨xtk,xta,xtp,xtn,xtl⟩,xs⟩,s3⟩:=r
   cases he
   refine WQ.aG [5] 1000 _ _ _ _ rfl (WQ.aJ ?_)
   repeat apply sQ
   refine WR.aD rfl ?_
   repeat apply sQ
   refine WR.reg (WQ.aG [5] 1 _ _ _ _ rfl ?_)
   refine WQ.c rfl (ex _) (.put .base rfl) rfl ?_
   refine WQ.aG [5] 1000 _ _ _ _ rfl (WQ.aJ ?_)
   repeat apply sQ
   refine WR.reg (WQ.aG [5] 1 _ _ _ _ rfl ?_)
   refine WQ.c rfl (kM (x:=[59]) hl hx.len (by decide) rfl) (.put .base rfl) rfl ?_
   refine WQ.aG [5] 1000 _ _ _ _ rfl (WQ.aJ ?_)
   unfold fO
   repeat apply sQ
   refine WR.reg (WQ.aG [5] 1000 _ _ _ _ rfl (WQ.aJ ?_))
   refine WR.ret ⟨rfl,rfl,⟨_,rfl,vQ⟩,fun b hb=>jA b hb⟩
 |false=>
 rw[h2]at he
 refine WQ.aG [5] 1000 _ _ _ _ rfl (WQ.aJ ?_)
 refine WR.aO rfl ?_
 repeat apply sQ
 refine WR.reg (WQ.aG [5] 1 _ _ _ _ rfl ?_)
 refine WQ.c rfl (i3 _) (.put .base rfl) rfl ?_
 cases h3:isS l s 5 [105,102]with
 |true=>
  have h0:=dO h3 (by decide)
  rw[h3]at he
  have hx:=bZ hP (aU h0).len
  have ex:=fun lc=>lE hP (d:=d) (s:=aK s) (aU h0).len (h:=⟨1004,og (sL l d (aK s) t u (sC 0 p [] false zEx cS cS)),lc⟩) (R:=1000) (by decide) rfl
  generalize(aT P (aK s))=r at he hx ex
  obtain⟨⟨xk,xa,xe,xn,xv,⟨xtk,xta,xtp,xtn,xtl⟩,xs⟩,s3⟩:=r
  refine WQ.aG [5] 1000 _ _ _ _ rfl (WQ.aJ ?_)
  repeat apply sQ
  refine WR.aD rfl ?_
  repeat apply sQ
  refine WR.reg (WQ.aG [5] 1 _ _ _ _ rfl ?_)
  refine WQ.c rfl (ex _) (.put .base rfl) rfl ?_
  refine WQ.aG [5] 1000 _ _ _ _ rfl (WQ.aJ ?_)
  repeat apply sQ
  refine WR.reg (WQ.aG [5] 1 _ _ _ _ rfl ?_)
  cases hb:f.block d s3 with
  |none=>simp only[hb]at he;cases he
  |some q=>
   obtain⟨b,s4⟩:=q
   have hbs:=iv.block _ _ _ _ hx.len hb
   simp only[hb]at he
   refine WQ.c rfl (zL hf hd hx.len hb (by decide) rfl) (.put .base rfl) rfl ?_
   refine WQ.aG [5] 1000 _ _ _ _ rfl (WQ.aJ ?_)
   repeat apply sQ
   refine WR.reg (WQ.aG [5] 1 _ _ _ _ rfl ?_)
   refine WQ.c rfl (pJ (l:=l) (d:=d) (s:=s4) (k:=5) (x:=[101,108,115,101]) hl hbs.len (by decide) rfl) (.put .base rfl) rfl ?_
   unfold isN
   unfold wA at he
   cases h4:isS l s4 5 [101,108,115,101]with
   |false=>
    rw[h4]at he
    cases he
    refine WQ.aG [5] 1000 _ _ _ _ rfl (WQ.aJ ?_)
    refine WR.k rfl ?_
    unfold fO
    repeat apply sQ
    refine WR.reg (WQ.aG [5] 1000 _ _ _ _ rfl (WQ.aJ ?_))
    refine WR.ret ⟨rfl,rfl,⟨_,rfl,vQ⟩,fun b hb=>jA b hb⟩
   |true=>
    have h5:=aU (dO h4 (by decide))
    rw[h4]at he
    cases hb2:f.block d (aK s4)with
    |none=>simp only[hb2]at he;cases he
    |some q=>
     obtain⟨b2,s5⟩:=q
     simp only[hb2]at he
     cases he
     refine WQ.aG [5] 1000 _ _ _ _ rfl (WQ.aJ ?_)
     repeat apply sQ
     refine WR.aD rfl ?_
     repeat apply sQ
     refine WR.reg (WQ.aG [5] 1 _ _ _ _ rfl ?_)
     refine WQ.c rfl (zL hf hd h5.len hb2 (by decide) rfl) (.put .base rfl) rfl ?_
     refine WQ.aG [5] 1000 _ _ _ _ rfl (WQ.aJ ?_)
     unfold fO
     repeat apply sQ
     refine WR.reg (WQ.aG [5] 1000 _ _ _ _ rfl (WQ.aJ ?_))
     refine WR.ret ⟨rfl,rfl,⟨_,rfl,vQ⟩,fun b hb=>jA b hb⟩
 |false=>
 rw[h3]at he
 refine WQ.aG [5] 1000 _ _ _ _ rfl (WQ.aJ ?_)
 refine WR.aO rfl ?_
 repeat apply sQ
 refine WR.reg (WQ.aG [5] 1 _ _ _ _ rfl ?_)
 refine WQ.c rfl (i4 _) (.put .base rfl) rfl ?_
 cases h4:isS l s 5 [102,111,114]with
 |true=>
  have h0:=dO h4 (by decide)
  rw[h4]at he
  have hx:=bZ hP (aU h0).len
  have ex:=fun lc=>lE hP (d:=d) (s:=aK s) (aU h0).len (h:=⟨1004,og (sL l d (aK s) t u (sC 0 p [] false zEx cS cS)),lc⟩) (R:=1000) (by decide) rfl
  generalize(aT P (aK s))=r at he hx ex
  obtain⟨⟨xk,xa,xe,xn,xv,⟨xtk,xta,xtp,xtn,xtl⟩,xs⟩,s3⟩:=r
  refine WQ.aG [5] 1000 _ _ _ _ rfl (WQ.aJ ?_)
  repeat apply sQ
  refine WR.aD rfl ?_
  repeat apply sQ
  refine WR.reg (WQ.aG [5] 1 _ _ _ _ rfl ?_)
  refine WQ.c rfl (ex _) (.put .base rfl) rfl ?_
  refine WQ.aG [5] 1000 _ _ _ _ rfl (WQ.aJ ?_)
  repeat apply sQ
  refine WR.reg (WQ.aG [5] 1 _ _ _ _ rfl ?_)
  cases hb:f.block d s3 with
  |none=>simp only[hb]at he;cases he
  |some q=>
   obtain⟨b,s4⟩:=q
   simp only[hb]at he
   cases he
   refine WQ.c rfl (zL hf hd hx.len hb (by decide) rfl) (.put .base rfl) rfl ?_
   refine WQ.aG [5] 1000 _ _ _ _ rfl (WQ.aJ ?_)
   unfold fO
   repeat apply sQ
   refine WR.reg (WQ.aG [5] 1000 _ _ _ _ rfl (WQ.aJ ?_))
   refine WR.ret ⟨rfl,rfl,⟨_,rfl,vQ⟩,fun b hb=>jA b hb⟩
 |false=>
 rw[h4]at he
 unfold rI at he
 rw[←ht,←hu]at he
 refine WQ.aG [5] 1000 _ _ _ _ rfl (WQ.aJ ?_)
 refine WR.aO rfl ?_
 repeat apply sQ
 refine WR.reg (WQ.aG [5] 3 _ _ _ _ rfl ?_)
 cases g1:decide (t.k=1)with
 |false=>
  rw[g1]at he
  have hx:=bZ hP hs
  have ex:=fun lc=>lE hP (d:=d) (s:=s) hs (h:=⟨1004,og (sL l d s t u (sC 0 p [] false zEx cS cS)),lc⟩) (R:=1000) (by decide) rfl
  generalize(aT P s)=r at he hx ex
  obtain⟨⟨xk,xa,xe,xn,xv,⟨xtk,xta,xtp,xtn,xtl⟩,xs⟩,s3⟩:=r
  cases he
  refine WQ.aG [5] 1000 _ _ _ _ rfl (WQ.aJ ?_)
  refine WR.aO rfl ?_
  repeat apply sQ
  refine WR.reg (WQ.aG [5] 1 _ _ _ _ rfl ?_)
  refine WQ.c rfl (ex _) (.put .base rfl) rfl ?_
  refine WQ.aG [5] 1000 _ _ _ _ rfl (WQ.aJ ?_)
  repeat apply sQ
  refine WR.reg (WQ.aG [5] 1 _ _ _ _ rfl ?_)
  refine WQ.c rfl (kM (x:=[59]) hl hx.len (by decide) rfl) (.put .base rfl) rfl ?_
  refine WQ.aG [5] 1000 _ _ _ _ rfl (WQ.aJ ?_)
  unfold fO
  repeat apply sQ
  refine WR.reg (WQ.aG [5] 1000 _ _ _ _ rfl (WQ.aJ ?_))
  refine WR.ret ⟨rfl,rfl,⟨_,rfl,vQ⟩,fun b hb=>jA b hb⟩
 |true=>
  rw[g1]at he
  refine WQ.aG [5] 5 _ _ _ _ rfl ?_
  cases g2:decide (u.k=4)with
  |false=>
   rw[g2]at he
   have hx:=bZ hP hs
   have ex:=fun lc=>lE hP (d:=d) (s:=s) hs (h:=⟨1004,og (sL l d s t u (sC 0 p [] false zEx cS cS)),lc⟩) (R:=1000) (by decide) rfl
   generalize(aT P s)=r at he hx ex
   obtain⟨⟨xk,xa,xe,xn,xv,⟨xtk,xta,xtp,xtn,xtl⟩,xs⟩,s3⟩:=r
   cases he
   refine WQ.aG [5] 1000 _ _ _ _ rfl (WQ.aJ ?_)
   refine WR.aO rfl ?_
   repeat apply sQ
   refine WR.reg (WQ.aG [5] 1 _ _ _ _ rfl ?_)
   refine WQ.c rfl (ex _) (.put .base rfl) rfl ?_
   refine WQ.aG [5] 1000 _ _ _ _ rfl (WQ.aJ ?_)
   repeat apply sQ
   refine WR.reg (WQ.aG [5] 1 _ _ _ _ rfl ?_)
   refine WQ.c rfl (kM (x:=[59]) hl hx.len (by decide) rfl) (.put .base rfl) rfl ?_
   refine WQ.aG [5] 1000 _ _ _ _ rfl (WQ.aJ ?_)
   unfold fO
   repeat apply sQ
   refine WR.reg (WQ.aG [5] 1000 _ _ _ _ rfl (WQ.aJ ?_))
   refine WR.ret ⟨rfl,rfl,⟨_,rfl,vQ⟩,fun b hb=>jA b hb⟩
  |true=>
   rw[g2]at he
   refine WQ.aG [5] 5 _ _ _ _ rfl ?_
   cases g3:decide (u.t=[61])with
   |false=>
    rw[g3]at he
    have hx:=bZ hP hs
    have ex:=fun lc=>lE hP (d:=d) (s:=s) hs (h:=⟨1004,og (sL l d s t u (sC 0 p [] false zEx cS cS)),lc⟩) (R:=1000) (by decide) rfl
    generalize(aT P s)=r at he hx ex
    obtain⟨⟨xk,xa,xe,xn,xv,⟨xtk,xta,xtp,xtn,xtl⟩,xs⟩,s3⟩:=r
    cases he
    refine WQ.aG [5] 1000 _ _ _ _ rfl (WQ.aJ ?_)
    refine WR.aO rfl ?_
    repeat apply sQ
    refine WR.reg (WQ.aG [5] 1 _ _ _ _ rfl ?_)
    refine WQ.c rfl (ex _) (.put .base rfl) rfl ?_
    refine WQ.aG [5] 1000 _ _ _ _ rfl (WQ.aJ ?_)
    repeat apply sQ
    refine WR.reg (WQ.aG [5] 1 _ _ _ _ rfl ?_)
    refine WQ.c rfl (kM (x:=[59]) hl hx.len (by decide) rfl) (.put .base rfl) rfl ?_
    refine WQ.aG [5] 1000 _ _ _ _ rfl (WQ.aJ ?_)
    unfold fO
    repeat apply sQ
    refine WR.reg (WQ.aG [5] 1000 _ _ _ _ rfl (WQ.aJ ?_))
    refine WR.ret ⟨rfl,rfl,⟨_,rfl,vQ⟩,fun b hb=>jA b hb⟩
   |true=>
    rw[g3]at he
    have h0:=cP (l:=l) (a:=s.a) (by rw[←ht,of_decide_eq_true g1];decide)
    have he:=Option.some.inj he
    have vc:=aAh hP hl d (aK s) h0 2 p t.t t u
    unfold mI at he vc
    generalize(aT P (bN l (aK s) [61]))=r at he vc
    obtain⟨⟨xk,xa,xe,xn,xv,⟨xtk,xta,xtp,xtn,xtl⟩,xs⟩,s3⟩:=r
    cases he
    refine WQ.aG [5] 1000 _ _ _ _ rfl (WQ.aJ ?_)
    repeat apply sQ
    refine WR.aD rfl ?_
    repeat apply sQ
    refine WR.reg (WQ.aG [5] 5 _ _ _ _ rfl ?_)
    rw[bI (by show s.a<big;unfold big;omega)]
    refine WQ.aG [5] 1000 _ _ _ _ rfl (WQ.aJ ?_)
    repeat apply sQ
    refine WR.reg (WQ.aG [5] 1000 _ _ _ _ rfl (WQ.aJ ?_))
    repeat apply sQ
    refine WR.reg (WQ.aG [5] 1 _ _ _ _ rfl ?_)
    refine WQ.c rfl (SCall.fI vc _) .base rfl ?_
    refine WQ.aG [5] 1000 _ _ _ _ rfl (WQ.aJ ?_)
    unfold fO
    repeat apply sQ
    refine WR.reg (WQ.aG [5] 1000 _ _ _ _ rfl (WQ.aJ ?_))
    refine WR.ret ⟨rfl,rfl,⟨_,rfl,vQ⟩,fun b hb=>jA b hb⟩
theorem aTb{l:List Tz}{P:Nat→R Ex}(hP:ParseOk l P)(hl:l.length<4294967296){f:Sf}(hf:SpecS l f)(iv:InvS l f)(d:Nat)(hd:d≤30)(s:Sr)(hs:s.a≤l.length){v:Sx}{s':Sr}(he:eP l P f d s=some (v,s')):
  SCall Go.Proofs.Tryz.prog [] 103 [.ptr 1000 0] none ⟨1001,og (srL l d s),[]⟩ (.ret (.agg (jZ v))) none ⟨1001,og (srL l d s'),[]⟩:=by
 have hz:∀(i j:Nat) (cs cs':List V),SCall Go.Proofs.Tryz.prog [] 100 [.ptr 1000 0,.int .i64 i] none ⟨1003,og [(1000,srO l d s),(1001,.cells false cs),(1002,.cells false cs')],[]⟩ (.ret (.agg (cD (aA l i)))) none ⟨1003,og [(1000,srO l d s),(1001,.cells false cs),(1002,.cells false cs')],[]⟩:=fun i j cs cs'=>sZ hl (by decide) rfl
 obtain⟨r1,r2,r3,r4,r,h4⟩:∃r1 r2 r3 r4 r,aBt=.seq r1 (.seq r2 (.seq r3 (.seq r4 r))):=by unfold aBt;exact⟨_,_,_,_,_,rfl⟩
 have body:=fun tm lc htm hlc=>aTe hP hl hf iv d hd s hs he h4 (t:=aA l s.a) (u:=aA l (s.a+1)) rfl rfl (p:=(aA l s.a).a) rfl (tm:=tm) htm (lc:=lc) hlc
 refine SCall.aI (fn:=Go.Proofs.Tryz.f103) (by kernel_rfl) bIe (by kernel_rfl) (by kernel_rfl) (Nat.le_refl _) rfl (jY _ _ _) (by exact yZ _) ?_
 unfold aBt at h4⊢
 cases h4
 repeat apply sQ
 refine WR.q rfl ?_
 repeat apply sQ
 refine WR.aP aZ (DW.m 11 rfl ?_)
 rw[bI (by unfold big;omega)]
 refine DW.m 1000 rfl ?_
 refine DW.eU pQ rfl rfl rfl rfl rfl (SCall.fI (hz s.a 0 _ _) _) .base rfl (DW.m 1000 rfl ?_)
 refine DW.eU pQ rfl rfl rfl rfl rfl (SCall.fI (hz (s.a+1) 0 _ _) _) .base rfl (DW.m 1000 rfl ?_)
 refine DW.stS pQ rfl rfl rfl rfl (DW.m 1000 rfl ?_)
 refine DW.stS pQ rfl rfl rfl rfl (DW.m 1000 rfl (DW.cC pQ ?_))
 repeat apply sQ
 refine WR.reg (WQ.aG [5] 1000 _ _ _ _ rfl (WQ.aJ ?_))
 refine WR.seq (WR.reg (WQ.aG [5] 1000 _ _ _ _ rfl (WQ.aJ ?_)))
 refine body _ _ ?_ ?_
 ·exact tQ
 ·exact lQ
end Go.VM
end
section
/- Statements: a block. -/
set_option maxRecDepth 100000
namespace Go.VM
open Go.RowKit
def lvS:List Sx→V
 |[]=>.lst [] (.ex 0)
 |x::l=>.lst ((x::l).map jZ) (.tk 1001)
def bHn:List Sx→OL
 |[]=>[]
 |x::l=>[(1001,.tok (x::l).length)]
def nxS:List Sx→Nat
 |[]=>1001
 |_::_=>1002
def blM(l:List Tz)(d:Nat)(s:Sr)(acc:List Sx):OL:=(1000,srO l d s)::bHn acc
def bCf(acc:List Sx):TM:=[(0,.v (.ptr 1000 0)),(2,.v (lvS acc))]
theorem aZf{o:Obj}(acc:List Sx)(b:Nat)(h:b<1001):og [(1000,o)] b=og ((1000,o)::bHn acc) b:=by
 cases acc with
 |nil=>rfl
 |cons p l=>
  simp only[bHn,aR]
  split
  ·rfl
  ·rw[if_neg (by omega)]
theorem bGh(acc:List Sx):VLe (lvS acc) (.lst (iC acc) .unk):=by
 rw[lJ]
 cases acc with
 |nil=>exact VLe.unk _ _
 |cons x l=>exact VLe.unk _ _
theorem bAv{l:List Tz}{f:Sf}(hf:SpecS l f){d:Nat}(hd:d≤30){s:Sr}(hs:s.a≤l.length){v:Sx}{s':Sr}(e:f.stmt d s=some (v,s')){h:H}{R:Nat}(hR:aC≤R)(h1:h.ob R=some (srO l d s)):
  SCall Go.Proofs.Tryz.prog [] 103 [.ptr R 0] none h (.ret (.agg (jZ v))) none (h.put R (srO l d s')):=
 lZ (hf.stmt d s v s' hd hs e) trivial (yZ _) hR h1
theorem aSa{QN:S→Prop}{QX:X→S→Prop}{l:List Tz}{P:Nat→R Ex}(hP:ParseOk l P)(hl:l.length<20000)(d:Nat):∀(n:Nat) (hsp:∀m,m<n→SpecS l (cF l P m)) (acc:List Sx) (s:Sr) (v:List Sx) (s':Sr),
  (cF l P n).loop d acc s=some (v,s')→s.a≤l.length→(s.c=0→acc.length≤s.a∧d≤30)→(∀tm,TellT tm [] (bCf v)→QX (.exit 0) (SL.toS ⟨tm,[],none,nxS v,blM l d s' v,[]⟩))→
  WLr Go.Proofs.Tryz.prog [] ⟨Go.Proofs.Tryz.f90.ntmps,none,90⟩ aDd (SL.toS ⟨bCf acc,[],none,nxS acc,blM l d s acc,[]⟩) QN QX:=by
 intro n
 induction n with
 |zero=>intro _ acc s v s' e;cases e
 |succ n ih=>
  intro hsp acc s v s' e hs hd h0
  have hl':l.length<4294967296:=by omega
  have e:dX l (cF l P n) d acc s=some (v,s'):=e
  unfold dX at e
  have hf:=fun nx rw=>mO (l:=l) (d:=d) (s:=s) (h:=⟨nx,og ((1000,srO l d s)::rw),[]⟩) (R:=1000) (by decide) rfl
  unfold aDd
  refine WLr.of ?_
  repeat apply sQ
  refine WR.m 1 rfl ?_
  refine WQ.c rfl (hf _ _) .base rfl ?_
  cases h1:bW s with
  |false=>
   rw[h1]at e
   cases e
   refine WQ.q rfl ?_
   repeat apply sQ
   refine WR.aO rfl (WR.exit (h0 _ ?_))
   exact tQ
  |true=>
   rw[h1]at e
   have hc0:=eT.1 h1
   obtain⟨hacc,hd30⟩:=hd hc0
   have hi:=fun nx rw=>pJ (l:=l) (d:=d) (s:=s) (k:=4) (x:=[125]) hl' hs (h:=⟨nx,og ((1000,srO l d s)::rw),[]⟩) (R:=1000) (by decide) rfl
   unfold isN at hi
   refine WQ.q rfl ?_
   repeat apply sQ
   refine WR.aD rfl (WR.skip ?_)
   repeat apply sQ
   refine WR.block ?_
   repeat apply sQ
   refine WR.m 1 rfl ?_
   refine WQ.c rfl (hi _ _) (.put .base rfl) rfl ?_
   cases h2:isS l s 4 [125]with
   |true=>
    rw[h2]at e
    cases e
    refine WQ.q rfl ?_
    repeat apply sQ
    refine WR.aD rfl (WR.exit (h0 _ ?_))
    exact tQ
   |false=>
    rw[h2]at e
    cases h3:(cF l P n).stmt d s with
    |none=>simp only[h3]at e;cases e
    |some q=>
     obtain⟨x,s1⟩:=q
     simp only[h3]at e
     have st:=(gW hP n).stmt _ _ _ _ hs h3
     have sx:=fun nx rw=>bAv (hsp n (by omega)) hd30 hs h3 (h:=⟨nx,og ((1000,srO l d s)::rw),[]⟩) (R:=1000) (by decide) rfl
     have ih:=ih (fun m hm=>hsp m (by omega)) (acc++[x]) s1 v s' e st.len (fun hc=>⟨by have:=st.lt hc;simp;omega,hd30⟩) h0
     obtain⟨xk,xa,xn,xh,⟨yk,ya,ye,yn,yv,⟨ytk,yta,ytp,ytn,ytl⟩,ys⟩,xb,xe⟩:=x
     refine WQ.q rfl ?_
     repeat apply sQ
     refine WR.k rfl ?_
     cases acc with
     |nil=>
      repeat apply sQ
      refine WR.m 2 rfl ?_
      refine WQ.c rfl (sx _ _) (.put .base rfl) rfl ?_
      refine WQ.m 1 rfl ?_
      refine WQ.dM rfl (iU (n2:=1) (es2:=[jZ (.mk xk xa xn xh (.mk yk ya ye yn yv (.mk ytk yta ytp ytn ytl) ys) xb xe)]) rfl rfl (Nat.zero_lt_one) (by simp) (by simp) (by show 232*1≤lim;decide) rfl rfl rfl rfl) rfl ?_
      refine WQ.q rfl ?_
      refine WIr.again (WLr.weak ?_ ih)
      refine SW.aM ?_ ?_
      ·exact tQ
      ·exact lQ
     |cons q r=>
      repeat apply sQ
      refine WR.m 2 rfl ?_
      refine WQ.c rfl (sx _ _) (.put .base rfl) rfl ?_
      refine WQ.m 1 rfl ?_
      refine WQ.dM rfl (jD (n:=(q::r).length) (n2:=(q::r++[Sx.mk xk xa xn xh (.mk yk ya ye yn yv (.mk ytk yta ytp ytn ytl) ys) xb xe]).length) (es2:=(q::r++[Sx.mk xk xa xn xh (.mk yk ya ye yn yv (.mk ytk yta ytp ytn ytl) ys) xb xe]).map jZ) rfl rfl rfl (List.length_map ..).symm ?_ ?_ ?_ rfl ?_ ?_ rfl) rfl ?_
      ·intro e he
       obtain⟨y,_,rfl⟩:=List.mem_map.1 (show e∈(q::r).map jZ from he)
       exact aRj y
      ·simp
      ·simp only[List.length_map,List.length_cons,List.length_nil]at hacc⊢;unfold lim;omega
      ·rw[List.map_append];rfl
      ·simp
      refine WQ.q rfl ?_
      refine WIr.again (WLr.weak ?_ ih)
      refine SW.aM ?_ ?_
      ·exact tQ
      ·exact lQ
end Go.VM
end
section
/- Statements: a block; all of it. -/
set_option maxRecDepth 100000
namespace Go.VM
open Go.RowKit
theorem aSi{l:List Tz}{s:Sr}{x:List Nat}(h:¬(bW s=true∧isF l s.a 4 x=true)):(bN l s x).c≠0:=by
 unfold bN isS
 cases hf:bW s with
 |false=>
  have h1:¬s.c=0:=of_decide_eq_false hf
  unfold eO
  rw[hf]
  exact h1
 |true=>
  cases hi:isF l s.a 4 x with
  |true=>exact absurd ⟨hf,hi⟩ h
  |false=>
   unfold eO
   rw[hf]
   show(5:Int)≠0
   decide
theorem aLz{QN:S→Prop}{QX:X→S→Prop}{l:List Tz}{P:Nat→R Ex}(hP:ParseOk l P)(hl:l.length<20000)(n:Nat)(hsp:∀m,m<n→SpecS l (cF l P m))(d:Nat)(hd:d≤30)(s:Sr)(hs:s.a≤l.length){v:List Sx}{s':Sr}(he:cA l (cF l P n) d s=some (v,s'))(hdp:mF l d s=false)
  {r1 r2 r:RC} (h4:aSx=.seq r1 (.scope (.seq r2 r))) {tm:TM} (htm:TellT tm [] (bCf [])) (hq:∀st,aAq Go.Proofs.Tryz.prog Go.Proofs.Tryz.f90 (.ret (.lst (iC v) .unk)) 1001 (srL l d s') st→QX .ret st):
  WR Go.Proofs.Tryz.prog [] ⟨Go.Proofs.Tryz.f90.ntmps,none,90⟩ r (SL.toS ⟨tm,[],none,1001,srL l d s,[]⟩) QN QX:=by
 have hl':l.length<4294967296:=by omega
 refine WR.weak (SW.aM htm .nil) ?_
 unfold aSx at h4
 cases h4
 unfold cA at he
 rw[hdp]at he
 have hm:=dD hs (x:=[123])
 have hd2:(bN l s [123]).c=0→d+1≤30:=by
  intro hc
  rcases Nat.lt_or_ge d 30 with h|h
  ·omega
  ·exfalso
   have h30:d=30:=by omega
   refine aSi (l:=l) (s:=s) (x:=[123]) ?_ hc
   intro⟨q1,q2⟩
   unfold isF at q2
   unfold mF at hdp
   rw[q1,q2,decide_eq_true h30]at hdp
   cases hdp
 repeat apply sQ
 refine WR.m 1 rfl ?_
 refine WQ.c rfl (kM (l:=l) (d:=d) (s:=s) (x:=[123]) hl' hs (by decide) rfl) (.put .base rfl) rfl ?_
 refine WQ.q rfl ?_
 repeat apply sQ
 refine WR.m 5 rfl ?_
 rw[bI (by unfold big;omega)]
 refine WQ.q rfl ?_
 refine WR.seq (WR.skip ?_)
 repeat apply sQ
 refine WR.block (WR.loop (WLr.weak (s:=SL.toS ⟨bCf [],[],none,nxS [],blM l (d+1) (bN l s [123]) [],[]⟩) ?_ (aSa hP hl (d+1) n hsp [] (bN l s [123]) v s' he hm.len (fun hc=>⟨Nat.zero_le _,hd2 hc⟩) (fun tm ht=>?_))))
 ·refine SW.aM ?_ ?_
  ·exact tQ
  ·exact lQ
 ·refine WR.weak (SW.aM ht .nil) ?_
  unfold aPe
  repeat apply sQ
  refine WR.m 5 rfl ?_
  rw[pF (by omega) (by unfold big;omega),Nat.add_sub_cancel]
  refine WQ.q rfl ?_
  repeat apply sQ
  refine WR.q rfl ?_
  exact WR.ret (hq _ ⟨rfl,rfl,⟨_,rfl,bGh v⟩,fun b hb=>aZf v b hb⟩)
theorem aLq{l:List Tz}{P:Nat→R Ex}(hP:ParseOk l P)(hl:l.length<20000)(n:Nat)(hsp:∀m,m<n→SpecS l (cF l P m))(d:Nat)(hd:d≤30)(s:Sr)(hs:s.a≤l.length){v:List Sx}{s':Sr}(he:cA l (cF l P n) d s=some (v,s')):
  SCall Go.Proofs.Tryz.prog [] 90 [.ptr 1000 0] none ⟨1001,og (srL l d s),[]⟩ (.ret (.lst (iC v) .unk)) none ⟨1001,og (srL l d s'),[]⟩:=by
 have hl':l.length<4294967296:=by omega
 have hf:=mO (l:=l) (d:=d) (s:=s) (h:=⟨1001,og (srL l d s),[]⟩) (R:=1000) (by decide) rfl
 have ht:=sZ (l:=l) (d:=d) (s:=s) (i:=s.a) hl' (h:=⟨1001,og (srL l d s),[]⟩) (R:=1000) (by decide) rfl
 obtain⟨r1,r2,r,h4⟩:∃r1 r2 r,aSx=.seq r1 (.scope (.seq r2 r)):=by unfold aSx;exact⟨_,_,_,rfl⟩
 have rest:=fun QN QX hdp tm htm hq=>aLz (QN:=QN) (QX:=QX) hP hl n hsp d hd s hs he hdp h4 (tm:=tm) htm hq
 refine SCall.aI (fn:=Go.Proofs.Tryz.f90) (by kernel_rfl) bKg (by kernel_rfl) (by kernel_rfl) (Nat.le_refl _) rfl (jY _ _ _) (by exact⟨iQ _,trivial⟩) ?_
 unfold mF at rest
 unfold cA mF at he
 unfold aSx at h4⊢
 cases h4
 repeat apply sQ
 refine WR.q rfl ?_
 refine WR.scope ?_
 repeat apply sQ
 refine WR.m 4 rfl ?_
 cases h30:decide (d=30)with
 |false=>
  have:decide ((d:Int)=30)=false:=decide_eq_false (by have:=of_decide_eq_false h30;omega)
  rw[h30]at rest
  refine WQ.m 1 rfl ?_
  rw[this]
  refine WQ.q rfl ?_
  refine WR.k rfl ?_
  refine rest _ _ rfl _ ?_ (fun _ h=>h)
  exact tQ
 |true=>
  have:decide ((d:Int)=30)=true:=decide_eq_true (by have:=of_decide_eq_true h30;omega)
  rw[h30]at rest he
  refine WQ.m 1 rfl ?_
  rw[this]
  refine WQ.m 2 rfl ?_
  refine WQ.c rfl hf .base rfl ?_
  cases h1:bW s with
  |false=>
   rw[h1]at rest
   refine WQ.q rfl ?_
   refine WR.k rfl ?_
   refine rest _ _ rfl _ ?_ (fun _ h=>h)
   exact tQ
  |true=>
   rw[h1]at rest he
   refine WQ.m 8 rfl ?_
   refine WQ.c rfl ht .base rfl ?_
   refine WQ.m 2 rfl ?_
   cases hk:decide ((aA l s.a).k=4)with
   |false=>
    rw[hk]at rest
    refine WQ.q rfl ?_
    refine WR.k rfl ?_
    refine rest _ _ rfl _ ?_ (fun _ h=>h)
    exact tQ
   |true=>
    rw[hk]at rest he
    refine WQ.m 7 rfl ?_
    refine WQ.c rfl ht .base rfl ?_
    refine WQ.m 2 rfl ?_
    cases hx:decide ((aA l s.a).t=[123])with
    |false=>
     rw[hx]at rest
     refine WQ.q rfl ?_
     refine WR.k rfl ?_
     refine rest _ _ rfl _ ?_ (fun _ h=>h)
     exact tQ
    |true=>
     rw[hx]at he
     cases he
     have fl:=zU (l:=l) (d:=d) (s:=s) (c:=6) hl' (h:=⟨1001,og (srL l d s),[]⟩) (R:=1000) (by decide) rfl
     refine WQ.q rfl ?_
     refine WR.aD rfl ?_
     repeat apply sQ
     refine WR.m 1 rfl ?_
     refine WQ.c rfl fl (.put .base rfl) rfl ?_
     refine WQ.q rfl ?_
     repeat apply sQ
     refine WR.q rfl ?_
     exact WR.e
theorem aPw{l:List Tz}{P:Nat→R Ex}(hP:ParseOk l P)(hl:l.length<20000):∀n,∀m,m<n→SpecS l (cF l P m):=by
 intro n
 induction n with
 |zero=>intro m hm;omega
 |succ n ih=>
  intro m hm
  rcases Nat.lt_or_ge m n with h|h
  ·exact ih m h
  have:m=n:=by omega
  subst this
  cases m with
  |zero=>exact⟨fun _ _ _ _ _ _ e=>(by cases e),fun _ _ _ _ _ _ e=>(by cases e)⟩
  |succ m=>
   exact⟨fun d s v s' hd hs e=>aLq hP hl m (fun k hk=>ih k (by omega)) d hd s hs e,fun d s v s' hd hs e=>aTb hP (by omega) (ih m (by omega)) (gW hP m) d hd s hs e⟩
theorem aDy{o:Obj}(b:Nat)(h:b<1000):og [] b=og [(1000,o)] b:=by
 simp only[aR]
 rw[if_neg (by omega)]
def stV(r:List Sx×Sr):V:=match bW r.2 with
 |true=>.tup [.lst (iC r.1) .unk,.int .i64 r.2.a,.agg (dgX 0 0)]
 |false=>.tup [.lst [] (.ex 0),.int .i64 0,.agg (dgX r.2.p r.2.c)]
theorem aYc{D:Nat→Prop}(r:List Sx×Sr):(stV r).In D:=by
 unfold stV
 cases bW r.2 with
 |true=>exact⟨⟨iQ _,trivial⟩,trivial,⟨trivial,trivial,trivial⟩,trivial⟩
 |false=>exact⟨⟨trivial,trivial⟩,trivial,⟨trivial,trivial,trivial⟩,trivial⟩
theorem aHl{l:List Tz}{P:Nat→R Ex}(hP:ParseOk l P)(hl:l.length<20000)(n a:Nat)(ha:a≤l.length){r:List Sx×Sr}(he:(cF l P n).block 0 ⟨a,0,0⟩=some r):
  SCall Go.Proofs.Tryz.prog [] 79 [lsV l,.int .i64 a] none ⟨1000,og [],[]⟩ (.ret (stV r)) none ⟨1000,og [],[]⟩:=by
 obtain⟨v,s'⟩:=r
 have bk:=(aPw hP hl (n+1) n (by omega)).block 0 ⟨a,0,0⟩ v s' (by omega) ha he
 have hf:=mO (l:=l) (d:=0) (s:=s') (h:=⟨1001,og (srL l 0 s'),[]⟩) (R:=1000) (by decide) rfl
 refine SCall.listed (fn:=Go.Proofs.Tryz.f79) (by kernel_rfl) bLh (by kernel_rfl) (by kernel_rfl) (Nat.le_refl _) rfl (trivial) (by exact aYc _) ?_
 unfold bJb
 unfold lsV
 repeat apply sQ
 refine WR.q rfl ?_
 refine WR.seq (WR.reg (WQ.aG [7,12] 1000 _ _ _ _ rfl (WQ.aJ ?_)))
 repeat apply sQ
 refine WR.m 2 rfl ?_
 rw[show decide ((a:Int)<0)=false from decide_eq_false (by omega)]
 refine WQ.m 4 rfl ?_
 rw[List.length_map]
 refine WQ.m 1 rfl ?_
 rw[show decide ((a:Int)>(l.length:Int))=false from decide_eq_false (by omega)]
 refine WQ.q rfl ?_
 repeat apply sQ
 refine WR.k rfl ?_
 unfold aMy
 repeat apply sQ
 refine WR.m 1 rfl ?_
 refine WQ.c rfl (lZ bk trivial (by exact⟨iQ _,trivial⟩) (h:=⟨1001,og [(1000,srO l 0 ⟨a,0,0⟩)],[(6,[.int .i64 0,.int .i64 0])]⟩) (R:=1000) (by decide) rfl) (.put .base rfl) rfl ?_
 refine WQ.q rfl ?_
 repeat apply sQ
 refine WR.m 1 rfl ?_
 refine WQ.c rfl (SCall.fI hf _) .base rfl ?_
 cases h1:bW s' with
 |false=>
  have e:stV (v,s')=.tup [.lst [] (.ex 0),.int .i64 0,.agg (dgX s'.p s'.c)]:=by unfold stV;rw[h1]
  rw[e]
  refine WQ.q rfl ?_
  repeat apply sQ
  refine WR.aD rfl ?_
  refine WR.seq (WR.aP aZ (DW.m 1000 rfl ?_))
  refine DW.stS pQ rfl rfl rfl rfl (DW.m 1000 rfl (DW.cC pQ ?_))
  exact WR.ret ⟨rfl,rfl,⟨_,rfl,vQ⟩,fun b hb=>aDy b hb⟩
 |true=>
  have e:stV (v,s')=.tup [.lst (iC v) .unk,.int .i64 s'.a,.agg (dgX 0 0)]:=by unfold stV;rw[h1]
  rw[e]
  refine WQ.q rfl ?_
  repeat apply sQ
  refine WR.k rfl ?_
  refine WR.seq (WR.aP aZ (DW.m 1000 rfl ?_))
  refine DW.stS pQ rfl rfl rfl rfl (DW.m 1000 rfl (DW.cC pQ ?_))
  exact WR.ret ⟨rfl,rfl,⟨_,rfl,vQ⟩,fun b hb=>aDy b hb⟩
theorem rS{l:List Tz}{P:Nat→R Ex}(hP:ParseOk l P)(a:Nat)(ha:a≤l.length):∃N r,∀n,N≤n→(cF l P n).block 0 ⟨a,0,0⟩=some r:=(bMz hP l.length a (by omega) ha).block 0 ⟨a,0,0⟩ rfl
end Go.VM
end
