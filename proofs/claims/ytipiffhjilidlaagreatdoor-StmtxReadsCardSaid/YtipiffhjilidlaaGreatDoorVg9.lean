/- laid for this seat: VzE VzF VzG VzH -/
import Derived.Test.YtipiffhjilidlaaGreatDoorVg8
set_option linter.unusedVariables false
set_option linter.unusedSimpArgs false
section
/- Statements: a name's value; one statement. -/
set_option maxRecDepth 100000
namespace Go.VM
open Go.RowKit
def sC(k:Int)(p:Int)(nm:List Nat)(has:Bool)(xc:List V)(b e:V):List V:=[.int .i64 k,.int .i64 p,.str nm,.bool has]++(xc++[b,e])
def dP:V:=.lst [] (.ex 0)
def sL(l:List Tz)(d:Nat)(s:Sr)(t u:Tz)(cs:List V):OL:=[(1000,srO l d s),(1001,.cells false (bH t)),(1002,.cells false (bH u)),(1003,.cells false cs)]
theorem bDb{D:Nat→Prop}(l:List Tz)(d:Nat)(s:Sr)(t u:Tz){cs:List V}(h:Ins D cs):fF D (sL l d s t u cs):=⟨aQa l d s,(by exact⟨trivial,trivial,trivial,trivial,trivial⟩),(by exact⟨trivial,trivial,trivial,trivial,trivial⟩),h,trivial⟩
theorem aXp{D:Nat→Prop}(k p:Int)(nm:List Nat)(has:Bool):∀x:Ex,Ins D (sC k p nm has (bG x) dP dP)
 |.mk xk xa xe xn xv (.mk tk ta tp tn tl) xs=>⟨trivial,trivial,trivial,trivial,trivial,trivial,trivial,trivial,trivial,trivial,trivial,trivial,trivial,⟨kP tl,trivial⟩,⟨kX xs,trivial⟩,⟨trivial,trivial⟩,⟨trivial,trivial⟩,trivial⟩
theorem wE{l:List Tz}{P:Nat→R Ex}(hP:ParseOk l P)(hl:l.length<4294967296)(d:Nat)(s:Sr)(hs:s.a≤l.length)(k:Nat)(p:Int)(nm:List Nat)(t u:Tz):
  SCall Go.Proofs.Tryz.prog [] 29 [.ptr 1000 0,.ptr 1003 0,.int .i64 k] none ⟨1004,og (sL l d s t u (sC 0 p nm false zEx dP dP)),[]⟩ (.ret (.tup [])) none ⟨1004,og (sL l d (jV l P k p nm s).2 t u (sC k p nm false (bG (aS P (bI l s [61])).1) dP dP)),[]⟩:=by
 have h1:=cN hs (x:=[61])
 have h2:=bS hP h1.len
 unfold jV
 refine SCall.aG (fn:=Go.Proofs.Tryz.f29) (by kernel_rfl) bCf (by kernel_rfl) (by kernel_rfl) (Nat.le_refl _) rfl ((bDb _ _ _ _ _ (aXp _ _ _ _ _))) trivial ?_
 unfold aZk
 repeat apply sQ
 refine WR.q rfl ?_
 repeat apply sQ
 refine WR.m 1 rfl ?_
 refine WQ.c rfl (jL (x:=[61]) hl hs (by decide) rfl) (.put .base rfl) rfl ?_
 have he:=jJ hP (d:=d) h1.len (h:=⟨1004,og (sL l d (bI l s [61]) t u (sC k p nm false zEx dP dP)),[]⟩) (R:=1000) (by decide) rfl
 generalize(aS P (bI l s [61])).1=x at he⊢
 generalize(aS P (bI l s [61])).2=s2 at he h2⊢
 obtain⟨xk,xa,xe,xn,xv,⟨xtk,xta,xtp,xtn,xtl⟩,xs⟩:=x
 refine WQ.q rfl ?_
 repeat apply sQ
 refine WR.m 2 rfl ?_
 refine WQ.c rfl he (.put .base rfl) rfl ?_
 refine WQ.q rfl ?_
 repeat apply sQ
 refine WR.m 1 rfl ?_
 refine WQ.c rfl (jL (x:=[59]) hl h2.len (by decide) rfl) (.put .base rfl) rfl ?_
 refine WQ.q rfl ?_
 exact⟨rfl,rfl,⟨_,rfl,VLe.refl _⟩,fun _ _=>rfl⟩
structure SpecS(l:List Tz)(f:Sf):Prop where
 block:∀d s v s',d≤30→s.a≤l.length→f.block d s=some (v,s')→SCall Go.Proofs.Tryz.prog [] 11 [.ptr 1000 0] none ⟨1001,og (srL l d s),[]⟩ (.ret (.lst (cR v) .unk)) none ⟨1001,og (srL l d s'),[]⟩
 stmt:∀d s v s',d≤30→s.a≤l.length→f.stmt d s=some (v,s')→SCall Go.Proofs.Tryz.prog [] 20 [.ptr 1000 0] none ⟨1001,og (srL l d s),[]⟩ (.ret (.agg (eU v))) none ⟨1001,og (srL l d s'),[]⟩
end Go.VM
end
section
/- Statements: one statement. -/
set_option maxRecDepth 100000
namespace Go.VM
open Go.RowKit
def bEg:TM:=[(0,.v (.ptr 1000 0)),(2,.l 2 0),(3,.v (.ptr 1001 0)),(4,.v (.ptr 1002 0)),(5,.v (.ptr 1003 0)),(6,.v (.fn (.func 11) [.ptr 1000 0] []))]
def bDx:LM:=[(2,sC 0 0 [] false zEx dP dP)]
theorem gT{o a b c:Obj}(x:Nat)(h:x<1001):og [(1000,o)] x=og [(1000,o),(1001,a),(1002,b),(1003,c)] x:=by
 simp only[aQ]
 split
 ·rfl
 ·rw[if_neg (by omega),if_neg (by omega),if_neg (by omega)]
theorem uT{l:List Tz}{f:Sf}(hf:SpecS l f){d:Nat}(hd:d≤30){s:Sr}(hs:s.a≤l.length){v:List Sx}{s':Sr}(e:f.block d s=some (v,s')){h:H}{R:Nat}(hR:aD≤R)(h1:h.ob R=some (srO l d s)):
  SCall Go.Proofs.Tryz.prog [] 11 [.ptr R 0] none h (.ret (.lst (cR v) .unk)) none (h.put R (srO l d s')):=
 iG (hf.block d s v s' hd hs e) trivial ⟨bY _,trivial⟩ hR h1
theorem aMf{l:List Tz}{P:Nat→R Ex}(hP:ParseOk l P)(hl:l.length<4294967296){f:Sf}(hf:SpecS l f)(iv:InvS l f)(d:Nat)(hd:d≤30)(s:Sr)(hs:s.a≤l.length){v:Sx}{s':Sr}(he:jQ l P f d s=some (v,s')){r1 r2 r3 r4 r:RC}(h4:aMn=.seq r1 (.seq r2 (.seq r3 (.seq r4 r))))
  {t u:Tz} (ht:t=aA l s.a) (hu:u=aA l (s.a+1)) {p:Int} (hp:p=t.a) {tm:TM} (htm:TellT tm bDx bEg) {lc:LM} (hlc:TellL lc bDx):
  WR Go.Proofs.Tryz.prog [] ⟨Go.Proofs.Tryz.f20.ntmps,none,20⟩ r (SL.toS ⟨tm,[],none,1004,sL l d s t u (sC 0 p [] false zEx dP dP),lc⟩) (wS Go.Proofs.Tryz.prog Go.Proofs.Tryz.f20 (.ret (.agg (eU v))) 1001 (srL l d s')) (aMy Go.Proofs.Tryz.prog Go.Proofs.Tryz.f20 (.ret (.agg (eU v))) 1001 (srL l d s')):=by
 refine WR.weak (SW.aP htm hlc) ?_
 unfold aMn at h4
 cases h4
 have tk:=fun lc=>qD (l:=l) (d:=d) (s:=bA s) (i:=s.a+1) hl (h:=⟨1004,og (sL l d (bA s) t u (sC 0 p [] false zEx dP dP)),lc⟩) (R:=1000) (by decide) rfl
 have i1:=fun lc=>mU (l:=l) (d:=d) (s:=s) (k:=5) (x:=aHk) hl hs (h:=⟨1004,og (sL l d (s) t u (sC 0 p [] false zEx dP dP)),lc⟩) (R:=1000) (by decide) rfl
 unfold isN at i1
 have i2:=fun lc=>mU (l:=l) (d:=d) (s:=s) (k:=5) (x:=aHj) hl hs (h:=⟨1004,og (sL l d (s) t u (sC 0 p [] false zEx dP dP)),lc⟩) (R:=1000) (by decide) rfl
 unfold isN at i2
 have i3:=fun lc=>mU (l:=l) (d:=d) (s:=s) (k:=5) (x:=sIf) hl hs (h:=⟨1004,og (sL l d (s) t u (sC 0 p [] false zEx dP dP)),lc⟩) (R:=1000) (by decide) rfl
 unfold isN at i3
 have i4:=fun lc=>mU (l:=l) (d:=d) (s:=s) (k:=5) (x:=aFh) hl hs (h:=⟨1004,og (sL l d (s) t u (sC 0 p [] false zEx dP dP)),lc⟩) (R:=1000) (by decide) rfl
 unfold isN at i4
 unfold jQ at he
 rw[←ht,←hu,←hp]at he
 rw[←hu]at tk
 unfold aHk at i1 he
 unfold aHj at i2 he
 unfold sIf at i3 he
 unfold aFh at i4 he
 repeat apply sQ
 refine WR.block ?_
 repeat apply sQ
 refine WR.reg (WQ.aJ [5] 1 _ _ _ _ rfl ?_)
 refine WQ.c rfl (i1 _) (.put .base rfl) rfl ?_
 cases h1:isS l s 5 [108,101,116]with
 |true=>
  have h0:=eF h1 (by decide)
  rw[h1]at he
  refine WQ.aJ [5] 1000 _ _ _ _ rfl (WQ.aL ?_)
  repeat apply sQ
  refine WR.aB rfl ?_
  repeat apply sQ
  refine WR.reg (WQ.aJ [5] 5 _ _ _ _ rfl ?_)
  refine WQ.c rfl (tk _) .base rfl ?_
  refine WQ.aJ [5] 1000 _ _ _ _ rfl (WQ.aL ?_)
  repeat apply sQ
  refine WR.reg (WQ.aJ [5] 1000 _ _ _ _ rfl (WQ.aL ?_))
  cases hk:decide (u.k=1)with
  |true=>
   rw[hk]at he
   have he:=Option.some.inj he
   have hn:=cH (l:=l) (a:=s.a+1) (by rw[←hu,of_decide_eq_true hk];decide)
   have vc:=wE hP hl d (bA (bA s)) hn 1 p u.t t u
   unfold jV at he vc
   generalize(aS P (bI l (bA (bA s)) [61]))=r at he vc
   obtain⟨⟨xk,xa,xe,xn,xv,⟨xtk,xta,xtp,xtn,xtl⟩,xs⟩,s3⟩:=r
   cases he
   repeat apply sQ
   refine WR.aB rfl ?_
   repeat apply sQ
   refine WR.reg (WQ.aJ [5] 1000 _ _ _ _ rfl (WQ.aL ?_))
   repeat apply sQ
   refine WR.reg (WQ.aJ [5] 5 _ _ _ _ rfl ?_)
   rw[aN (by show s.a+1<big;unfold big;omega)]
   refine WQ.aJ [5] 1000 _ _ _ _ rfl (WQ.aL ?_)
   unfold zF
   repeat apply sQ
   refine WR.reg (WQ.aJ [5] 1 _ _ _ _ rfl ?_)
   refine WQ.c rfl (SCall.dX vc _) .base rfl ?_
   refine WQ.aJ [5] 1000 _ _ _ _ rfl (WQ.aL ?_)
   unfold fS
   repeat apply sQ
   refine WR.reg (WQ.aJ [5] 1000 _ _ _ _ rfl (WQ.aL ?_))
   refine WR.ret ⟨rfl,rfl,⟨_,rfl,vQ⟩,fun b hb=>gT b hb⟩
  |false=>
   rw[hk]at he
   have he:=Option.some.inj he
   have hn:=pX (l:=l) (s:=bA s) (aY h0).len (c:=5) (by decide)
   have vc:=wE hP hl d (eA l (bA s) 5) hn.len 1 p [] t u
   unfold jV at he vc
   generalize(aS P (bI l (eA l (bA s) 5) [61]))=r at he vc
   obtain⟨⟨xk,xa,xe,xn,xv,⟨xtk,xta,xtp,xtn,xtl⟩,xs⟩,s3⟩:=r
   cases he
   refine WR.aE rfl ?_
   repeat apply sQ
   refine WR.reg (WQ.aJ [5] 1 _ _ _ _ rfl ?_)
   have fl:=fun lc=>rA (l:=l) (d:=d) (s:=bA s) (c:=5) hl (h:=⟨1004,og (sL l d (bA s) t u (sC 0 p [] false zEx dP dP)),lc⟩) (R:=1000) (by decide) rfl
   refine WQ.c rfl (fl _) (.put .base rfl) rfl ?_
   refine WQ.aJ [5] 1000 _ _ _ _ rfl (WQ.aL ?_)
   unfold zF
   repeat apply sQ
   refine WR.reg (WQ.aJ [5] 1 _ _ _ _ rfl ?_)
   refine WQ.c rfl (SCall.dX vc _) .base rfl ?_
   refine WQ.aJ [5] 1000 _ _ _ _ rfl (WQ.aL ?_)
   unfold fS
   repeat apply sQ
   refine WR.reg (WQ.aJ [5] 1000 _ _ _ _ rfl (WQ.aL ?_))
   refine WR.ret ⟨rfl,rfl,⟨_,rfl,vQ⟩,fun b hb=>gT b hb⟩
 |false=>
 rw[h1]at he
 refine WQ.aJ [5] 1000 _ _ _ _ rfl (WQ.aL ?_)
 refine WR.aE rfl ?_
 repeat apply sQ
 refine WR.reg (WQ.aJ [5] 1 _ _ _ _ rfl ?_)
 refine WQ.c rfl (i2 _) (.put .base rfl) rfl ?_
 cases h2:isS l s 5 [114,101,116,117,114,110]with
 |true=>
  have h0:=eF h2 (by decide)
  rw[h2]at he
  have j:=fun lc=>mU (l:=l) (d:=d) (s:=bA s) (k:=4) (x:=[59]) hl (aY h0).len (h:=⟨1004,og (sL l d (bA s) t u (sC 3 p [] false zEx dP dP)),lc⟩) (R:=1000) (by decide) rfl
  unfold isN at j
  refine WQ.aJ [5] 1000 _ _ _ _ rfl (WQ.aL ?_)
  repeat apply sQ
  refine WR.aB rfl ?_
  repeat apply sQ
  refine WR.reg (WQ.aJ [5] 1000 _ _ _ _ rfl (WQ.aL ?_))
  repeat apply sQ
  refine WR.reg (WQ.aJ [5] 1 _ _ _ _ rfl ?_)
  refine WQ.c rfl (j _) (.put .base rfl) rfl ?_
  cases h3:isS l (bA s) 4 [59]with
  |true=>
   rw[h3]at he
   cases he
   refine WQ.aJ [5] 1000 _ _ _ _ rfl (WQ.aL ?_)
   repeat apply sQ
   refine WR.k rfl ?_
   unfold fS
   repeat apply sQ
   refine WR.reg (WQ.aJ [5] 1000 _ _ _ _ rfl (WQ.aL ?_))
   refine WR.ret ⟨rfl,rfl,⟨_,rfl,vQ⟩,fun b hb=>gT b hb⟩
  |false=>
   rw[h3]at he
   have hx:=bS hP (aY h0).len
   have ex:=fun lc=>jJ hP (d:=d) (s:=bA s) (aY h0).len (h:=⟨1004,og (sL l d (bA s) t u (sC 3 p [] false zEx dP dP)),lc⟩) (R:=1000) (by decide) rfl
   generalize(aS P (bA s))=r at he hx ex
   obtain⟨⟨xk,xa,xe,xn,xv,⟨xtk,xta,xtp,xtn,xtl⟩,xs⟩,s3⟩:=r
   cases he
   refine WQ.aJ [5] 1000 _ _ _ _ rfl (WQ.aL ?_)
   repeat apply sQ
   refine WR.aB rfl ?_
   repeat apply sQ
   refine WR.reg (WQ.aJ [5] 1 _ _ _ _ rfl ?_)
   refine WQ.c rfl (ex _) (.put .base rfl) rfl ?_
   refine WQ.aJ [5] 1000 _ _ _ _ rfl (WQ.aL ?_)
   repeat apply sQ
   refine WR.reg (WQ.aJ [5] 1 _ _ _ _ rfl ?_)
   refine WQ.c rfl (jL (x:=[59]) hl hx.len (by decide) rfl) (.put .base rfl) rfl ?_
   refine WQ.aJ [5] 1000 _ _ _ _ rfl (WQ.aL ?_)
   unfold fS
   repeat apply sQ
   refine WR.reg (WQ.aJ [5] 1000 _ _ _ _ rfl (WQ.aL ?_))
   refine WR.ret ⟨rfl,rfl,⟨_,rfl,vQ⟩,fun b hb=>gT b hb⟩
 |false=>
 rw[h2]at he
 refine WQ.aJ [5] 1000 _ _ _ _ rfl (WQ.aL ?_)
 refine WR.aE rfl ?_
 repeat apply sQ
 refine WR.reg (WQ.aJ [5] 1 _ _ _ _ rfl ?_)
 refine WQ.c rfl (i3 _) (.put .base rfl) rfl ?_
 cases h3:isS l s 5 [105,102]with
 |true=>
  have h0:=eF h3 (by decide)
  rw[h3]at he
  have hx:=bS hP (aY h0).len
  have ex:=fun lc=>jJ hP (d:=d) (s:=bA s) (aY h0).len (h:=⟨1004,og (sL l d (bA s) t u (sC 0 p [] false zEx dP dP)),lc⟩) (R:=1000) (by decide) rfl
  generalize(aS P (bA s))=r at he hx ex
  obtain⟨⟨xk,xa,xe,xn,xv,⟨xtk,xta,xtp,xtn,xtl⟩,xs⟩,s3⟩:=r
  refine WQ.aJ [5] 1000 _ _ _ _ rfl (WQ.aL ?_)
  repeat apply sQ
  refine WR.aB rfl ?_
  repeat apply sQ
  refine WR.reg (WQ.aJ [5] 1 _ _ _ _ rfl ?_)
  refine WQ.c rfl (ex _) (.put .base rfl) rfl ?_
  refine WQ.aJ [5] 1000 _ _ _ _ rfl (WQ.aL ?_)
  repeat apply sQ
  refine WR.reg (WQ.aJ [5] 1 _ _ _ _ rfl ?_)
  cases hb:f.block d s3 with
  |none=>simp only[hb]at he;cases he
  |some q=>
   obtain⟨b,s4⟩:=q
   have hbs:=iv.block _ _ _ _ hx.len hb
   simp only[hb]at he
   refine WQ.c rfl (uT hf hd hx.len hb (by decide) rfl) (.put .base rfl) rfl ?_
   refine WQ.aJ [5] 1000 _ _ _ _ rfl (WQ.aL ?_)
   repeat apply sQ
   refine WR.reg (WQ.aJ [5] 1 _ _ _ _ rfl ?_)
   refine WQ.c rfl (mU (l:=l) (d:=d) (s:=s4) (k:=5) (x:=[101,108,115,101]) hl hbs.len (by decide) rfl) (.put .base rfl) rfl ?_
   unfold isN
   unfold uN at he
   cases h4:isS l s4 5 [101,108,115,101]with
   |false=>
    rw[h4]at he
    cases he
    refine WQ.aJ [5] 1000 _ _ _ _ rfl (WQ.aL ?_)
    refine WR.k rfl ?_
    unfold fS
    repeat apply sQ
    refine WR.reg (WQ.aJ [5] 1000 _ _ _ _ rfl (WQ.aL ?_))
    refine WR.ret ⟨rfl,rfl,⟨_,rfl,vQ⟩,fun b hb=>gT b hb⟩
   |true=>
    have h5:=aY (eF h4 (by decide))
    rw[h4]at he
    cases hb2:f.block d (bA s4)with
    |none=>simp only[hb2]at he;cases he
    |some q=>
     obtain⟨b2,s5⟩:=q
     simp only[hb2]at he
     cases he
     refine WQ.aJ [5] 1000 _ _ _ _ rfl (WQ.aL ?_)
     repeat apply sQ
     refine WR.aB rfl ?_
     repeat apply sQ
     refine WR.reg (WQ.aJ [5] 1 _ _ _ _ rfl ?_)
     refine WQ.c rfl (uT hf hd h5.len hb2 (by decide) rfl) (.put .base rfl) rfl ?_
     refine WQ.aJ [5] 1000 _ _ _ _ rfl (WQ.aL ?_)
     unfold fS
     repeat apply sQ
     refine WR.reg (WQ.aJ [5] 1000 _ _ _ _ rfl (WQ.aL ?_))
     refine WR.ret ⟨rfl,rfl,⟨_,rfl,vQ⟩,fun b hb=>gT b hb⟩
 |false=>
 rw[h3]at he
 refine WQ.aJ [5] 1000 _ _ _ _ rfl (WQ.aL ?_)
 refine WR.aE rfl ?_
 repeat apply sQ
 refine WR.reg (WQ.aJ [5] 1 _ _ _ _ rfl ?_)
 refine WQ.c rfl (i4 _) (.put .base rfl) rfl ?_
 cases h4:isS l s 5 [102,111,114]with
 |true=>
  have h0:=eF h4 (by decide)
  rw[h4]at he
  have hx:=bS hP (aY h0).len
  have ex:=fun lc=>jJ hP (d:=d) (s:=bA s) (aY h0).len (h:=⟨1004,og (sL l d (bA s) t u (sC 0 p [] false zEx dP dP)),lc⟩) (R:=1000) (by decide) rfl
  generalize(aS P (bA s))=r at he hx ex
  obtain⟨⟨xk,xa,xe,xn,xv,⟨xtk,xta,xtp,xtn,xtl⟩,xs⟩,s3⟩:=r
  refine WQ.aJ [5] 1000 _ _ _ _ rfl (WQ.aL ?_)
  repeat apply sQ
  refine WR.aB rfl ?_
  repeat apply sQ
  refine WR.reg (WQ.aJ [5] 1 _ _ _ _ rfl ?_)
  refine WQ.c rfl (ex _) (.put .base rfl) rfl ?_
  refine WQ.aJ [5] 1000 _ _ _ _ rfl (WQ.aL ?_)
  repeat apply sQ
  refine WR.reg (WQ.aJ [5] 1 _ _ _ _ rfl ?_)
  cases hb:f.block d s3 with
  |none=>simp only[hb]at he;cases he
  |some q=>
   obtain⟨b,s4⟩:=q
   simp only[hb]at he
   cases he
   refine WQ.c rfl (uT hf hd hx.len hb (by decide) rfl) (.put .base rfl) rfl ?_
   refine WQ.aJ [5] 1000 _ _ _ _ rfl (WQ.aL ?_)
   unfold fS
   repeat apply sQ
   refine WR.reg (WQ.aJ [5] 1000 _ _ _ _ rfl (WQ.aL ?_))
   refine WR.ret ⟨rfl,rfl,⟨_,rfl,vQ⟩,fun b hb=>gT b hb⟩
 |false=>
 rw[h4]at he
 unfold aAs at he
 rw[←ht,←hu]at he
 refine WQ.aJ [5] 1000 _ _ _ _ rfl (WQ.aL ?_)
 refine WR.aE rfl ?_
 repeat apply sQ
 refine WR.reg (WQ.aJ [5] 3 _ _ _ _ rfl ?_)
 cases g1:decide (t.k=1)with
 |false=>
  rw[g1]at he
  have hx:=bS hP hs
  have ex:=fun lc=>jJ hP (d:=d) (s:=s) hs (h:=⟨1004,og (sL l d s t u (sC 0 p [] false zEx dP dP)),lc⟩) (R:=1000) (by decide) rfl
  generalize(aS P s)=r at he hx ex
  obtain⟨⟨xk,xa,xe,xn,xv,⟨xtk,xta,xtp,xtn,xtl⟩,xs⟩,s3⟩:=r
  cases he
  refine WQ.aJ [5] 1000 _ _ _ _ rfl (WQ.aL ?_)
  refine WR.aE rfl ?_
  repeat apply sQ
  refine WR.reg (WQ.aJ [5] 1 _ _ _ _ rfl ?_)
  refine WQ.c rfl (ex _) (.put .base rfl) rfl ?_
  refine WQ.aJ [5] 1000 _ _ _ _ rfl (WQ.aL ?_)
  repeat apply sQ
  refine WR.reg (WQ.aJ [5] 1 _ _ _ _ rfl ?_)
  refine WQ.c rfl (jL (x:=[59]) hl hx.len (by decide) rfl) (.put .base rfl) rfl ?_
  refine WQ.aJ [5] 1000 _ _ _ _ rfl (WQ.aL ?_)
  unfold fS
  repeat apply sQ
  refine WR.reg (WQ.aJ [5] 1000 _ _ _ _ rfl (WQ.aL ?_))
  refine WR.ret ⟨rfl,rfl,⟨_,rfl,vQ⟩,fun b hb=>gT b hb⟩
 |true=>
  rw[g1]at he
  refine WQ.aJ [5] 5 _ _ _ _ rfl ?_
  cases g2:decide (u.k=4)with
  |false=>
   rw[g2]at he
   have hx:=bS hP hs
   have ex:=fun lc=>jJ hP (d:=d) (s:=s) hs (h:=⟨1004,og (sL l d s t u (sC 0 p [] false zEx dP dP)),lc⟩) (R:=1000) (by decide) rfl
   generalize(aS P s)=r at he hx ex
   obtain⟨⟨xk,xa,xe,xn,xv,⟨xtk,xta,xtp,xtn,xtl⟩,xs⟩,s3⟩:=r
   cases he
   refine WQ.aJ [5] 1000 _ _ _ _ rfl (WQ.aL ?_)
   refine WR.aE rfl ?_
   repeat apply sQ
   refine WR.reg (WQ.aJ [5] 1 _ _ _ _ rfl ?_)
   refine WQ.c rfl (ex _) (.put .base rfl) rfl ?_
   refine WQ.aJ [5] 1000 _ _ _ _ rfl (WQ.aL ?_)
   repeat apply sQ
   refine WR.reg (WQ.aJ [5] 1 _ _ _ _ rfl ?_)
   refine WQ.c rfl (jL (x:=[59]) hl hx.len (by decide) rfl) (.put .base rfl) rfl ?_
   refine WQ.aJ [5] 1000 _ _ _ _ rfl (WQ.aL ?_)
   unfold fS
   repeat apply sQ
   refine WR.reg (WQ.aJ [5] 1000 _ _ _ _ rfl (WQ.aL ?_))
   refine WR.ret ⟨rfl,rfl,⟨_,rfl,vQ⟩,fun b hb=>gT b hb⟩
  |true=>
   rw[g2]at he
   refine WQ.aJ [5] 5 _ _ _ _ rfl ?_
   cases g3:decide (u.t=[61])with
   |false=>
    rw[g3]at he
    have hx:=bS hP hs
    have ex:=fun lc=>jJ hP (d:=d) (s:=s) hs (h:=⟨1004,og (sL l d s t u (sC 0 p [] false zEx dP dP)),lc⟩) (R:=1000) (by decide) rfl
    generalize(aS P s)=r at he hx ex
    obtain⟨⟨xk,xa,xe,xn,xv,⟨xtk,xta,xtp,xtn,xtl⟩,xs⟩,s3⟩:=r
    cases he
    refine WQ.aJ [5] 1000 _ _ _ _ rfl (WQ.aL ?_)
    refine WR.aE rfl ?_
    repeat apply sQ
    refine WR.reg (WQ.aJ [5] 1 _ _ _ _ rfl ?_)
    refine WQ.c rfl (ex _) (.put .base rfl) rfl ?_
    refine WQ.aJ [5] 1000 _ _ _ _ rfl (WQ.aL ?_)
    repeat apply sQ
    refine WR.reg (WQ.aJ [5] 1 _ _ _ _ rfl ?_)
    refine WQ.c rfl (jL (x:=[59]) hl hx.len (by decide) rfl) (.put .base rfl) rfl ?_
    refine WQ.aJ [5] 1000 _ _ _ _ rfl (WQ.aL ?_)
    unfold fS
    repeat apply sQ
    refine WR.reg (WQ.aJ [5] 1000 _ _ _ _ rfl (WQ.aL ?_))
    refine WR.ret ⟨rfl,rfl,⟨_,rfl,vQ⟩,fun b hb=>gT b hb⟩
   |true=>
    rw[g3]at he
    have h0:=cH (l:=l) (a:=s.a) (by rw[←ht,of_decide_eq_true g1];decide)
    have he:=Option.some.inj he
    have vc:=wE hP hl d (bA s) h0 2 p t.t t u
    unfold jV at he vc
    generalize(aS P (bI l (bA s) [61]))=r at he vc
    obtain⟨⟨xk,xa,xe,xn,xv,⟨xtk,xta,xtp,xtn,xtl⟩,xs⟩,s3⟩:=r
    cases he
    refine WQ.aJ [5] 1000 _ _ _ _ rfl (WQ.aL ?_)
    repeat apply sQ
    refine WR.aB rfl ?_
    repeat apply sQ
    refine WR.reg (WQ.aJ [5] 5 _ _ _ _ rfl ?_)
    rw[aN (by show s.a<big;unfold big;omega)]
    refine WQ.aJ [5] 1000 _ _ _ _ rfl (WQ.aL ?_)
    repeat apply sQ
    refine WR.reg (WQ.aJ [5] 1000 _ _ _ _ rfl (WQ.aL ?_))
    repeat apply sQ
    refine WR.reg (WQ.aJ [5] 1 _ _ _ _ rfl ?_)
    refine WQ.c rfl (SCall.dX vc _) .base rfl ?_
    refine WQ.aJ [5] 1000 _ _ _ _ rfl (WQ.aL ?_)
    unfold fS
    repeat apply sQ
    refine WR.reg (WQ.aJ [5] 1000 _ _ _ _ rfl (WQ.aL ?_))
    refine WR.ret ⟨rfl,rfl,⟨_,rfl,vQ⟩,fun b hb=>gT b hb⟩
theorem aOc{l:List Tz}{P:Nat→R Ex}(hP:ParseOk l P)(hl:l.length<4294967296){f:Sf}(hf:SpecS l f)(iv:InvS l f)(d:Nat)(hd:d≤30)(s:Sr)(hs:s.a≤l.length){v:Sx}{s':Sr}(he:jQ l P f d s=some (v,s')):
  SCall Go.Proofs.Tryz.prog [] 20 [.ptr 1000 0] none ⟨1001,og (srL l d s),[]⟩ (.ret (.agg (eU v))) none ⟨1001,og (srL l d s'),[]⟩:=by
 have hz:∀(i j:Nat) (cs cs':List V),SCall Go.Proofs.Tryz.prog [] 17 [.ptr 1000 0,.int .i64 i] none ⟨1003,og [(1000,srO l d s),(1001,.cells false cs),(1002,.cells false cs')],[]⟩ (.ret (.agg (bH (aA l i)))) none ⟨1003,og [(1000,srO l d s),(1001,.cells false cs),(1002,.cells false cs')],[]⟩:=fun i j cs cs'=>qD hl (by decide) rfl
 obtain⟨r1,r2,r3,r4,r,h4⟩:∃r1 r2 r3 r4 r,aMn=.seq r1 (.seq r2 (.seq r3 (.seq r4 r))):=by unfold aMn;exact⟨_,_,_,_,_,rfl⟩
 have body:=fun tm lc htm hlc=>aMf hP hl hf iv d hd s hs he h4 (t:=aA l s.a) (u:=aA l (s.a+1)) rfl rfl (p:=(aA l s.a).a) rfl (tm:=tm) htm (lc:=lc) hlc
 refine SCall.aG (fn:=Go.Proofs.Tryz.f20) (by kernel_rfl) bDq (by kernel_rfl) (by kernel_rfl) (Nat.le_refl _) rfl (iP _ _ _) (by exact nC _) ?_
 unfold aMn at h4⊢
 cases h4
 repeat apply sQ
 refine WR.q rfl ?_
 repeat apply sQ
 refine WR.aO aV (DW.m 11 rfl ?_)
 rw[aN (by unfold big;omega)]
 refine DW.m 1000 rfl ?_
 refine DW.eP pQ rfl rfl rfl rfl rfl (SCall.dX (hz s.a 0 _ _) _) .base rfl (DW.m 1000 rfl ?_)
 refine DW.eP pQ rfl rfl rfl rfl rfl (SCall.dX (hz (s.a+1) 0 _ _) _) .base rfl (DW.m 1000 rfl ?_)
 refine DW.stS pQ rfl rfl rfl rfl (DW.m 1000 rfl ?_)
 refine DW.stS pQ rfl rfl rfl rfl (DW.m 1000 rfl (DW.cD pQ ?_))
 repeat apply sQ
 refine WR.reg (WQ.aJ [5] 1000 _ _ _ _ rfl (WQ.aL ?_))
 refine WR.seq (WR.reg (WQ.aJ [5] 1000 _ _ _ _ rfl (WQ.aL ?_)))
 refine body _ _ ?_ ?_
 ·exact tQ
 ·exact lQ
end Go.VM
end
section
/- Statements: a block. -/
set_option maxRecDepth 100000
namespace Go.VM
open Go.RowKit
def lvS:List Sx→V
 |[]=>.lst [] (.ex 0)
 |x::l=>.lst ((x::l).map eU) (.tk 1001)
def aUe:List Sx→OL
 |[]=>[]
 |x::l=>[(1001,.tok (x::l).length)]
def nxS:List Sx→Nat
 |[]=>1001
 |_::_=>1002
def blM(l:List Tz)(d:Nat)(s:Sr)(acc:List Sx):OL:=(1000,srO l d s)::aUe acc
def aUl(acc:List Sx):TM:=[(0,.v (.ptr 1000 0)),(2,.v (lvS acc))]
theorem vT{o:Obj}(acc:List Sx)(b:Nat)(h:b<1001):og [(1000,o)] b=og ((1000,o)::aUe acc) b:=by
 cases acc with
 |nil=>rfl
 |cons p l=>
  simp only[aUe,aQ]
  split
  ·rfl
  ·rw[if_neg (by omega)]
theorem aFz(acc:List Sx):VLe (lvS acc) (.lst (cR acc) .unk):=by
 rw[iA]
 cases acc with
 |nil=>exact VLe.unk _ _
 |cons x l=>exact VLe.unk _ _
theorem aVi{l:List Tz}{f:Sf}(hf:SpecS l f){d:Nat}(hd:d≤30){s:Sr}(hs:s.a≤l.length){v:Sx}{s':Sr}(e:f.stmt d s=some (v,s')){h:H}{R:Nat}(hR:aD≤R)(h1:h.ob R=some (srO l d s)):
  SCall Go.Proofs.Tryz.prog [] 20 [.ptr R 0] none h (.ret (.agg (eU v))) none (h.put R (srO l d s')):=
 iG (hf.stmt d s v s' hd hs e) trivial (nC _) hR h1
theorem aLl{QN:S→Prop}{QX:X→S→Prop}{l:List Tz}{P:Nat→R Ex}(hP:ParseOk l P)(hl:l.length<20000)(d:Nat):∀(n:Nat) (hsp:∀m,m<n→SpecS l (cB l P m)) (acc:List Sx) (s:Sr) (v:List Sx) (s':Sr),
  (cB l P n).loop d acc s=some (v,s')→s.a≤l.length→(s.c=0→acc.length≤s.a∧d≤30)→(∀tm,TellT tm [] (aUl v)→QX (.exit 0) (SL.toS ⟨tm,[],none,nxS v,blM l d s' v,[]⟩))→
  WLr Go.Proofs.Tryz.prog [] ⟨Go.Proofs.Tryz.f11.ntmps,none,11⟩ aBr (SL.toS ⟨aUl acc,[],none,nxS acc,blM l d s acc,[]⟩) QN QX:=by
 intro n
 induction n with
 |zero=>intro _ acc s v s' e;cases e
 |succ n ih=>
  intro hsp acc s v s' e hs hd h0
  have hl':l.length<4294967296:=by omega
  have e:gS l (cB l P n) d acc s=some (v,s'):=e
  unfold gS at e
  have hf:=fun nx rw=>jK (l:=l) (d:=d) (s:=s) (h:=⟨nx,og ((1000,srO l d s)::rw),[]⟩) (R:=1000) (by decide) rfl
  unfold aBr
  refine WLr.of ?_
  repeat apply sQ
  refine WR.m 1 rfl ?_
  refine WQ.c rfl (hf _ _) .base rfl ?_
  cases h1:bJ s with
  |false=>
   rw[h1]at e
   cases e
   refine WQ.q rfl ?_
   repeat apply sQ
   refine WR.aE rfl (WR.exit (h0 _ ?_))
   exact tQ
  |true=>
   rw[h1]at e
   have hc0:=mA.1 h1
   obtain⟨hacc,hd30⟩:=hd hc0
   have hi:=fun nx rw=>mU (l:=l) (d:=d) (s:=s) (k:=4) (x:=[125]) hl' hs (h:=⟨nx,og ((1000,srO l d s)::rw),[]⟩) (R:=1000) (by decide) rfl
   unfold isN at hi
   refine WQ.q rfl ?_
   repeat apply sQ
   refine WR.aB rfl (WR.skip ?_)
   repeat apply sQ
   refine WR.block ?_
   repeat apply sQ
   refine WR.m 1 rfl ?_
   refine WQ.c rfl (hi _ _) (.put .base rfl) rfl ?_
   cases h2:isS l s 4 [125]with
   |true=>
    rw[h2]at e
    cases e
    refine WQ.q rfl ?_
    repeat apply sQ
    refine WR.aB rfl (WR.exit (h0 _ ?_))
    exact tQ
   |false=>
    rw[h2]at e
    cases h3:(cB l P n).stmt d s with
    |none=>simp only[h3]at e;cases e
    |some q=>
     obtain⟨x,s1⟩:=q
     simp only[h3]at e
     have st:=(iL hP n).stmt _ _ _ _ hs h3
     have sx:=fun nx rw=>aVi (hsp n (by omega)) hd30 hs h3 (h:=⟨nx,og ((1000,srO l d s)::rw),[]⟩) (R:=1000) (by decide) rfl
     have ih:=ih (fun m hm=>hsp m (by omega)) (acc++[x]) s1 v s' e st.len (fun hc=>⟨by have:=st.lt hc;simp;omega,hd30⟩) h0
     obtain⟨xk,xa,xn,xh,⟨yk,ya,ye,yn,yv,⟨ytk,yta,ytp,ytn,ytl⟩,ys⟩,xb,xe⟩:=x
     refine WQ.q rfl ?_
     repeat apply sQ
     refine WR.k rfl ?_
     cases acc with
     |nil=>
      repeat apply sQ
      refine WR.m 2 rfl ?_
      refine WQ.c rfl (sx _ _) (.put .base rfl) rfl ?_
      refine WQ.m 1 rfl ?_
      refine WQ.dZ rfl (oH (n2:=1) (es2:=[eU (.mk xk xa xn xh (.mk yk ya ye yn yv (.mk ytk yta ytp ytn ytl) ys) xb xe)]) rfl rfl (Nat.zero_lt_one) (by simp) (by simp) (by show 232*1≤lim;decide) rfl rfl rfl rfl) rfl ?_
      refine WQ.q rfl ?_
      refine WIr.again (WLr.weak ?_ ih)
      refine SW.aP ?_ ?_
      ·exact tQ
      ·exact lQ
     |cons q r=>
      repeat apply sQ
      refine WR.m 2 rfl ?_
      refine WQ.c rfl (sx _ _) (.put .base rfl) rfl ?_
      refine WQ.m 1 rfl ?_
      refine WQ.dZ rfl (oJ (n:=(q::r).length) (n2:=(q::r++[Sx.mk xk xa xn xh (.mk yk ya ye yn yv (.mk ytk yta ytp ytn ytl) ys) xb xe]).length) (es2:=(q::r++[Sx.mk xk xa xn xh (.mk yk ya ye yn yv (.mk ytk yta ytp ytn ytl) ys) xb xe]).map eU) rfl rfl rfl (List.length_map ..).symm ?_ ?_ ?_ rfl ?_ ?_ rfl) rfl ?_
      ·intro e he
       obtain⟨y,_,rfl⟩:=List.mem_map.1 (show e∈(q::r).map eU from he)
       exact xH y
      ·simp
      ·simp only[List.length_map,List.length_cons,List.length_nil]at hacc⊢;unfold lim;omega
      ·rw[List.map_append];rfl
      ·simp
      refine WQ.q rfl ?_
      refine WIr.again (WLr.weak ?_ ih)
      refine SW.aP ?_ ?_
      ·exact tQ
      ·exact lQ
end Go.VM
end
section
/- Statements: a block; all of it. -/
set_option maxRecDepth 100000
namespace Go.VM
open Go.RowKit
theorem aNc{l:List Tz}{s:Sr}{x:List Nat}(h:¬(bJ s=true∧isF l s.a 4 x=true)):(bI l s x).c≠0:=by
 unfold bI isS
 cases hf:bJ s with
 |false=>
  have h1:¬s.c=0:=of_decide_eq_false hf
  unfold eA
  rw[hf]
  exact h1
 |true=>
  cases hi:isF l s.a 4 x with
  |true=>exact absurd ⟨hf,hi⟩ h
  |false=>
   unfold eA
   rw[hf]
   show(5:Int)≠0
   decide
theorem aEy{QN:S→Prop}{QX:X→S→Prop}{l:List Tz}{P:Nat→R Ex}(hP:ParseOk l P)(hl:l.length<20000)(n:Nat)(hsp:∀m,m<n→SpecS l (cB l P m))(d:Nat)(hd:d≤30)(s:Sr)(hs:s.a≤l.length){v:List Sx}{s':Sr}(he:dN l (cB l P n) d s=some (v,s'))(hdp:nM l d s=false)
  {r1 r2 r:RC} (h4:aLs=.seq r1 (.scope (.seq r2 r))) {tm:TM} (htm:TellT tm [] (aUl [])) (hq:∀st,wS Go.Proofs.Tryz.prog Go.Proofs.Tryz.f11 (.ret (.lst (cR v) .unk)) 1001 (srL l d s') st→QX .ret st):
  WR Go.Proofs.Tryz.prog [] ⟨Go.Proofs.Tryz.f11.ntmps,none,11⟩ r (SL.toS ⟨tm,[],none,1001,srL l d s,[]⟩) QN QX:=by
 have hl':l.length<4294967296:=by omega
 refine WR.weak (SW.aP htm .nil) ?_
 unfold aLs at h4
 cases h4
 unfold dN at he
 rw[hdp]at he
 have hm:=cN hs (x:=[123])
 have hd2:(bI l s [123]).c=0→d+1≤30:=by
  intro hc
  rcases Nat.lt_or_ge d 30 with h|h
  ·omega
  ·exfalso
   have h30:d=30:=by omega
   refine aNc (l:=l) (s:=s) (x:=[123]) ?_ hc
   intro⟨q1,q2⟩
   unfold isF at q2
   unfold nM at hdp
   rw[q1,q2,decide_eq_true h30]at hdp
   cases hdp
 repeat apply sQ
 refine WR.m 1 rfl ?_
 refine WQ.c rfl (jL (l:=l) (d:=d) (s:=s) (x:=[123]) hl' hs (by decide) rfl) (.put .base rfl) rfl ?_
 refine WQ.q rfl ?_
 repeat apply sQ
 refine WR.m 5 rfl ?_
 rw[aN (by unfold big;omega)]
 refine WQ.q rfl ?_
 refine WR.seq (WR.skip ?_)
 repeat apply sQ
 refine WR.block (WR.loop (WLr.weak (s:=SL.toS ⟨aUl [],[],none,nxS [],blM l (d+1) (bI l s [123]) [],[]⟩) ?_ (aLl hP hl (d+1) n hsp [] (bI l s [123]) v s' he hm.len (fun hc=>⟨Nat.zero_le _,hd2 hc⟩) (fun tm ht=>?_))))
 ·refine SW.aP ?_ ?_
  ·exact tQ
  ·exact lQ
 ·refine WR.weak (SW.aP ht .nil) ?_
  unfold aJa
  repeat apply sQ
  refine WR.m 5 rfl ?_
  rw[mG (by omega) (by unfold big;omega),Nat.add_sub_cancel]
  refine WQ.q rfl ?_
  repeat apply sQ
  refine WR.q rfl ?_
  exact WR.ret (hq _ ⟨rfl,rfl,⟨_,rfl,aFz v⟩,fun b hb=>vT v b hb⟩)
theorem aFa{l:List Tz}{P:Nat→R Ex}(hP:ParseOk l P)(hl:l.length<20000)(n:Nat)(hsp:∀m,m<n→SpecS l (cB l P m))(d:Nat)(hd:d≤30)(s:Sr)(hs:s.a≤l.length){v:List Sx}{s':Sr}(he:dN l (cB l P n) d s=some (v,s')):
  SCall Go.Proofs.Tryz.prog [] 11 [.ptr 1000 0] none ⟨1001,og (srL l d s),[]⟩ (.ret (.lst (cR v) .unk)) none ⟨1001,og (srL l d s'),[]⟩:=by
 have hl':l.length<4294967296:=by omega
 have hf:=jK (l:=l) (d:=d) (s:=s) (h:=⟨1001,og (srL l d s),[]⟩) (R:=1000) (by decide) rfl
 have ht:=qD (l:=l) (d:=d) (s:=s) (i:=s.a) hl' (h:=⟨1001,og (srL l d s),[]⟩) (R:=1000) (by decide) rfl
 obtain⟨r1,r2,r,h4⟩:∃r1 r2 r,aLs=.seq r1 (.scope (.seq r2 r)):=by unfold aLs;exact⟨_,_,_,rfl⟩
 have rest:=fun QN QX hdp tm htm hq=>aEy (QN:=QN) (QX:=QX) hP hl n hsp d hd s hs he hdp h4 (tm:=tm) htm hq
 refine SCall.aG (fn:=Go.Proofs.Tryz.f11) (by kernel_rfl) bBn (by kernel_rfl) (by kernel_rfl) (Nat.le_refl _) rfl (iP _ _ _) (by exact⟨bY _,trivial⟩) ?_
 unfold nM at rest
 unfold dN nM at he
 unfold aLs at h4⊢
 cases h4
 repeat apply sQ
 refine WR.q rfl ?_
 refine WR.scope ?_
 repeat apply sQ
 refine WR.m 4 rfl ?_
 cases h30:decide (d=30)with
 |false=>
  have:decide ((d:Int)=30)=false:=decide_eq_false (by have:=of_decide_eq_false h30;omega)
  rw[h30]at rest
  refine WQ.m 1 rfl ?_
  rw[this]
  refine WQ.q rfl ?_
  refine WR.k rfl ?_
  refine rest _ _ rfl _ ?_ (fun _ h=>h)
  exact tQ
 |true=>
  have:decide ((d:Int)=30)=true:=decide_eq_true (by have:=of_decide_eq_true h30;omega)
  rw[h30]at rest he
  refine WQ.m 1 rfl ?_
  rw[this]
  refine WQ.m 2 rfl ?_
  refine WQ.c rfl hf .base rfl ?_
  cases h1:bJ s with
  |false=>
   rw[h1]at rest
   refine WQ.q rfl ?_
   refine WR.k rfl ?_
   refine rest _ _ rfl _ ?_ (fun _ h=>h)
   exact tQ
  |true=>
   rw[h1]at rest he
   refine WQ.m 8 rfl ?_
   refine WQ.c rfl ht .base rfl ?_
   refine WQ.m 2 rfl ?_
   cases hk:decide ((aA l s.a).k=4)with
   |false=>
    rw[hk]at rest
    refine WQ.q rfl ?_
    refine WR.k rfl ?_
    refine rest _ _ rfl _ ?_ (fun _ h=>h)
    exact tQ
   |true=>
    rw[hk]at rest he
    refine WQ.m 7 rfl ?_
    refine WQ.c rfl ht .base rfl ?_
    refine WQ.m 2 rfl ?_
    cases hx:decide ((aA l s.a).t=[123])with
    |false=>
     rw[hx]at rest
     refine WQ.q rfl ?_
     refine WR.k rfl ?_
     refine rest _ _ rfl _ ?_ (fun _ h=>h)
     exact tQ
    |true=>
     rw[hx]at he
     cases he
     have fl:=rA (l:=l) (d:=d) (s:=s) (c:=6) hl' (h:=⟨1001,og (srL l d s),[]⟩) (R:=1000) (by decide) rfl
     refine WQ.q rfl ?_
     refine WR.aB rfl ?_
     repeat apply sQ
     refine WR.m 1 rfl ?_
     refine WQ.c rfl fl (.put .base rfl) rfl ?_
     refine WQ.q rfl ?_
     repeat apply sQ
     refine WR.q rfl ?_
     exact WR.e
theorem yP{l:List Tz}{P:Nat→R Ex}(hP:ParseOk l P)(hl:l.length<20000):∀n,∀m,m<n→SpecS l (cB l P m):=by
 intro n
 induction n with
 |zero=>intro m hm;omega
 |succ n ih=>
  intro m hm
  rcases Nat.lt_or_ge m n with h|h
  ·exact ih m h
  have:m=n:=by omega
  subst this
  cases m with
  |zero=>exact⟨fun _ _ _ _ _ _ e=>(by cases e),fun _ _ _ _ _ _ e=>(by cases e)⟩
  |succ m=>
   exact⟨fun d s v s' hd hs e=>aFa hP hl m (fun k hk=>ih k (by omega)) d hd s hs e,fun d s v s' hd hs e=>aOc hP (by omega) (ih m (by omega)) (iL hP m) d hd s hs e⟩
theorem uA{o:Obj}(b:Nat)(h:b<1000):og [] b=og [(1000,o)] b:=by
 simp only[aQ]
 rw[if_neg (by omega)]
def stV(r:List Sx×Sr):V:=match bJ r.2 with
 |true=>.tup [.lst (cR r.1) .unk,.int .i64 r.2.a,.agg (dgX 0 0)]
 |false=>.tup [.lst [] (.ex 0),.int .i64 0,.agg (dgX r.2.p r.2.c)]
theorem vO{D:Nat→Prop}(r:List Sx×Sr):(stV r).In D:=by
 unfold stV
 cases bJ r.2 with
 |true=>exact⟨⟨bY _,trivial⟩,trivial,⟨trivial,trivial,trivial⟩,trivial⟩
 |false=>exact⟨⟨trivial,trivial⟩,trivial,⟨trivial,trivial,trivial⟩,trivial⟩
theorem aCn{l:List Tz}{P:Nat→R Ex}(hP:ParseOk l P)(hl:l.length<20000)(n a:Nat)(ha:a≤l.length){r:List Sx×Sr}(he:(cB l P n).block 0 ⟨a,0,0⟩=some r):
  SCall Go.Proofs.Tryz.prog [] 6 [lsV l,.int .i64 a] none ⟨1000,og [],[]⟩ (.ret (stV r)) none ⟨1000,og [],[]⟩:=by
 obtain⟨v,s'⟩:=r
 have bk:=(yP hP hl (n+1) n (by omega)).block 0 ⟨a,0,0⟩ v s' (by omega) ha he
 have hf:=jK (l:=l) (d:=0) (s:=s') (h:=⟨1001,og (srL l 0 s'),[]⟩) (R:=1000) (by decide) rfl
 refine SCall.listed (fn:=Go.Proofs.Tryz.f6) (by kernel_rfl) bCq (by kernel_rfl) (by kernel_rfl) (Nat.le_refl _) rfl (trivial) (by exact vO _) ?_
 unfold rc6
 unfold lsV
 repeat apply sQ
 refine WR.q rfl ?_
 refine WR.seq (WR.reg (WQ.aJ [7,12] 1000 _ _ _ _ rfl (WQ.aL ?_)))
 repeat apply sQ
 refine WR.m 2 rfl ?_
 rw[show decide ((a:Int)<0)=false from decide_eq_false (by omega)]
 refine WQ.m 4 rfl ?_
 rw[List.length_map]
 refine WQ.m 1 rfl ?_
 rw[show decide ((a:Int)>(l.length:Int))=false from decide_eq_false (by omega)]
 refine WQ.q rfl ?_
 repeat apply sQ
 refine WR.k rfl ?_
 unfold zE
 repeat apply sQ
 refine WR.m 1 rfl ?_
 refine WQ.c rfl (iG bk trivial (by exact⟨bY _,trivial⟩) (h:=⟨1001,og [(1000,srO l 0 ⟨a,0,0⟩)],[(6,[.int .i64 0,.int .i64 0])]⟩) (R:=1000) (by decide) rfl) (.put .base rfl) rfl ?_
 refine WQ.q rfl ?_
 repeat apply sQ
 refine WR.m 1 rfl ?_
 refine WQ.c rfl (SCall.dX hf _) .base rfl ?_
 cases h1:bJ s' with
 |false=>
  have e:stV (v,s')=.tup [.lst [] (.ex 0),.int .i64 0,.agg (dgX s'.p s'.c)]:=by unfold stV;rw[h1]
  rw[e]
  refine WQ.q rfl ?_
  repeat apply sQ
  refine WR.aB rfl ?_
  refine WR.seq (WR.aO aV (DW.m 1000 rfl ?_))
  refine DW.stS pQ rfl rfl rfl rfl (DW.m 1000 rfl (DW.cD pQ ?_))
  exact WR.ret ⟨rfl,rfl,⟨_,rfl,vQ⟩,fun b hb=>uA b hb⟩
 |true=>
  have e:stV (v,s')=.tup [.lst (cR v) .unk,.int .i64 s'.a,.agg (dgX 0 0)]:=by unfold stV;rw[h1]
  rw[e]
  refine WQ.q rfl ?_
  repeat apply sQ
  refine WR.k rfl ?_
  refine WR.seq (WR.aO aV (DW.m 1000 rfl ?_))
  refine DW.stS pQ rfl rfl rfl rfl (DW.m 1000 rfl (DW.cD pQ ?_))
  exact WR.ret ⟨rfl,rfl,⟨_,rfl,vQ⟩,fun b hb=>uA b hb⟩
theorem rS{l:List Tz}{P:Nat→R Ex}(hP:ParseOk l P)(hl:l.length<20000)(n a:Nat)(ha:a≤l.length){r:List Sx×Sr}(he:(cB l P n).block 0 ⟨a,0,0⟩=some r)(h:H):
  SCall Go.Proofs.Tryz.prog [0] 6 [lsV l,.int .i64 a] none h (.ret (stV r)) none h:=
 SCall.more (SCall.cK rfl (aCn hP hl n a ha he) (by exact⟨gX l,trivial,trivial⟩) (by exact vO _) h)
theorem aHz{l:List Tz}{P:Nat→R Ex}(hP:ParseOk l P)(a:Nat)(ha:a≤l.length):∃N r,∀n,N≤n→(cB l P n).block 0 ⟨a,0,0⟩=some r:=(bEp hP l.length a (by omega) ha).block 0 ⟨a,0,0⟩ rfl
end Go.VM
end
