/- laid for this seat: VlLexA VlLexB VlLexC VlLexD -/
import Derived.Test.YtgadhdnnkdcgkaaGreatDoorVg0
import Derived.Test.YtgadhdnnkdcgkaaGreatDoorVmR
import Derived.Test.YtgadhdnnkdcgkaaGreatDoorVmT
set_option linter.unusedVariables false
set_option linter.unusedSimpArgs false
section
/- Tokens: bytes. -/
set_option maxRecDepth 100000
namespace Go.VM
open Go.RowKit
theorem aZ:Go.Proofs.Tryz.prog.follows .mixedOrders=true:=by kernel_rfl
def aRd(c:Nat):Int:=IntKind.u8.wrap (BitVec.ofInt 8 c|||BitVec.ofInt 8 32).toNat
def eS(c:Nat):Bool:=(decide (aRd c≥97)&&decide (aRd c≤122))||decide ((c:Int)=95)
def dL(c:Nat):Bool:=decide ((c:Int)≥48)&&decide ((c:Int)≤57)
def kX(c:Nat):Bool:=eS c||dL c
def gR(c:Nat):Bool:=(decide ((c:Int)≥32)&&decide ((c:Int)≤126))&&!decide ((c:Int)=34)
def fN(c:Nat):Bool:=!decide ((c:Int)=10)
theorem vW(c:Nat)(h:H):SCall Go.Proofs.Tryz.prog [] 69 [.int .u8 c] none h (.ret (.bool (eS c))) none h:=by
 refine SCall.fL rfl ?_ (by exact⟨trivial,trivial⟩) (by exact trivial) h
 refine SCall.listed (fn:=Go.Proofs.Tryz.f69) (by kernel_rfl) bLx (by kernel_rfl) (by kernel_rfl) (Nat.le_refl _) rfl (trivial) trivial ?_
 unfold bJo
 refine WR.seq (WR.q rfl ?_)
 refine WR.seq (WR.m 3 rfl ?_)
 unfold eS
 show WQ Go.Proofs.Tryz.prog [] _ _ (SL.toS ⟨(5,.v (.bool (decide (aRd c≥97))))::_,_,_,_,_,_⟩) _ _
 cases decide (aRd c≥97)
 ·refine WQ.m 8 rfl ?_
  rw[Bool.false_and,Bool.false_or]
  refine WQ.q rfl ?_
  exact WR.e
 ·refine WQ.m 4 rfl ?_
  rw[Bool.true_and]
  show WQ Go.Proofs.Tryz.prog [] _ _ (SL.toS ⟨(9,.v (.bool (decide (aRd c≤122))))::_,_,_,_,_,_⟩) _ _
  cases decide (aRd c≤122)
  ·rw[Bool.false_or]
   refine WQ.q rfl ?_
   exact WR.e
  ·rw[Bool.true_or]
   refine WQ.q rfl ?_
   exact WR.e
theorem rH(c:Nat)(h:H):SCall Go.Proofs.Tryz.prog [] 71 [.int .u8 c] none h (.ret (.bool (dL c))) none h:=by
 refine SCall.fL rfl ?_ (by exact⟨trivial,trivial⟩) (by exact trivial) h
 refine SCall.listed (fn:=Go.Proofs.Tryz.f71) (by kernel_rfl) bMq (by kernel_rfl) (by kernel_rfl) (Nat.le_refl _) rfl (trivial) trivial ?_
 unfold bKq
 refine WR.seq (WR.q rfl ?_)
 refine WR.seq (WR.m 2 rfl ?_)
 unfold dL
 cases decide ((c:Int)≥48)
 ·rw[Bool.false_and]
  refine WQ.q rfl ?_
  exact WR.e
 ·rw[Bool.true_and]
  refine WQ.q rfl ?_
  exact WR.e
theorem aQr(c:Nat)(h:H):SCall Go.Proofs.Tryz.prog [] 70 [.int .u8 c] none h (.ret (.bool (kX c))) none h:=by
 refine SCall.fL rfl ?_ (by exact⟨trivial,trivial⟩) (by exact trivial) h
 refine SCall.listed (fn:=Go.Proofs.Tryz.f70) (by kernel_rfl) bKs (by kernel_rfl) (by kernel_rfl) (Nat.le_refl _) rfl (trivial) trivial ?_
 unfold bJi
 refine WR.seq (WR.q rfl ?_)
 refine WR.seq (WR.m 1 rfl ?_)
 refine WQ.c rfl (vW c _) .base rfl ?_
 unfold kX
 cases eS c
 ·rw[Bool.false_or]
  refine WQ.m 2 rfl ?_
  refine WQ.c rfl (rH c _) .base rfl (WQ.q rfl ?_)
  exact WR.e
 ·rw[Bool.true_or]
  refine WQ.q rfl ?_
  exact WR.e
theorem aQf(c:Nat)(h:H):SCall Go.Proofs.Tryz.prog [] 68 [.int .u8 c] none h (.ret (.bool (fN c))) none h:=by
 refine SCall.fL rfl ?_ (by exact⟨trivial,trivial⟩) (by exact trivial) h
 refine SCall.listed (fn:=Go.Proofs.Tryz.f68) (by kernel_rfl) bMs (by kernel_rfl) (by kernel_rfl) (Nat.le_refl _) rfl (trivial) trivial ?_
 unfold bLg
 repeat(first|refine WR.seq ?_|refine WR.block ?_|refine WR.scope ?_|refine WR.skip ?_|refine WR.exit ?_|refine WR.aD rfl ?_|refine WR.aO rfl ?_|refine WR.m 1000 rfl ?_|refine WQ.aJ ?_|refine WR.aP aZ (DW.m 1000 rfl ?_))
 exact WR.e
theorem aJv(c:Nat)(h:H):SCall Go.Proofs.Tryz.prog [] 86 [.int .u8 c] none h (.ret (.bool (gR c))) none h:=by
 refine SCall.fL rfl ?_ (by exact⟨trivial,trivial⟩) (by exact trivial) h
 refine SCall.listed (fn:=Go.Proofs.Tryz.f86) (by kernel_rfl) bKo (by kernel_rfl) (by kernel_rfl) (Nat.le_refl _) rfl (trivial) trivial ?_
 unfold bMn
 refine WR.seq (WR.q rfl ?_)
 refine WR.seq (WR.m 2 rfl ?_)
 unfold gR
 cases decide ((c:Int)≥32)
 ·rw[Bool.false_and,Bool.false_and]
  refine WQ.q rfl ?_
  exact WR.e
 ·rw[Bool.true_and]
  refine WQ.m 3 rfl ?_
  cases decide ((c:Int)≤126)
  ·rw[Bool.false_and]
   refine WQ.q rfl ?_
   exact WR.e
  ·rw[Bool.true_and]
   refine WQ.q rfl ?_
   exact WR.e
theorem bLt:∃fn,(Go.Proofs.Tryz.prog).funcs[96]? =some fn∧fn.body=none∧fn.name= "internal/bytealg.IndexByteString" ∧Extern.findNext fn=none∧Extern.find fn=some Extern.BytealgIndexByte.indexByte:=
 ⟨Go.Proofs.Tryz.f96,by kernel_rfl,by kernel_rfl,by kernel_rfl,by kernel_rfl,by kernel_rfl⟩
theorem aYg(bs:List Nat)(c:Nat)(hc:c<256)(h:H):SCall Go.Proofs.Tryz.prog [] 84 [.str bs,.int .u8 c] none h (.ret (.int .i64 (ibV c bs))) none h:=by
 refine SCall.fL rfl ?_ (by exact⟨trivial,trivial,trivial⟩) (by exact trivial) h
 refine SCall.listed (fn:=Go.Proofs.Tryz.f84) (by kernel_rfl) bIv (by kernel_rfl) (by kernel_rfl) (Nat.le_refl _) rfl (trivial) trivial ?_
 unfold bIp
 obtain⟨fn,h1,h2,h3,h4,h5⟩:=bLt
 refine WR.seq (WR.q rfl ?_)
 refine WR.seq (WR.m 2 rfl ?_)
 refine WQ.dM rfl (aUv h1 h2 h3 h4 h5 rfl rfl hc) rfl (WQ.q rfl ?_)
 exact WR.e
theorem aMu(bs:List Nat)(c:Nat)(hc:c<256)(h:H):SCall Go.Proofs.Tryz.prog [] 66 [.str bs,.int .u8 c] none h (.ret (.int .i64 (ibV c bs))) none h:=by
 refine SCall.fL rfl ?_ (by exact⟨trivial,trivial,trivial⟩) (by exact trivial) h
 refine SCall.listed (fn:=Go.Proofs.Tryz.f66) (by kernel_rfl) bMg (by kernel_rfl) (by kernel_rfl) (Nat.le_refl _) rfl (trivial) trivial ?_
 unfold bKd
 refine WR.seq (WR.q rfl ?_)
 refine WR.seq (WR.m 2 rfl ?_)
 refine WQ.c rfl (aYg bs c hc _) .base rfl (WQ.q rfl ?_)
 exact WR.e
def bF(c:Nat):Bool:=decide (ibV c [32,9,10,13]≥0)
theorem aKr(c:Nat)(hc:c<256)(h:H):SCall Go.Proofs.Tryz.prog [] 65 [.int .u8 c] none h (.ret (.bool (bF c))) none h:=by
 refine SCall.fL rfl ?_ (by exact⟨trivial,trivial⟩) (by exact trivial) h
 refine SCall.listed (fn:=Go.Proofs.Tryz.f65) (by kernel_rfl) bIn (by kernel_rfl) (by kernel_rfl) (Nat.le_refl _) rfl (trivial) trivial ?_
 unfold bJt
 refine WR.seq (WR.q rfl ?_)
 refine WR.seq (WR.m 1 rfl ?_)
 refine WQ.c rfl (aMu [32,9,10,13] c hc _) .base rfl (WQ.q rfl ?_)
 exact WR.e
def dZ(s p:List Nat):Bool:=decide (p.length≤s.length)&&decide (s.take p.length=p)
theorem aSz(s p:List Nat)(h:H):SCall Go.Proofs.Tryz.prog [] 85 [.str s,.str p] none h (.ret (.bool (dZ s p))) none h:=by
 refine SCall.fL rfl ?_ (by exact⟨trivial,trivial,trivial⟩) (by exact trivial) h
 refine SCall.listed (fn:=Go.Proofs.Tryz.f85) (by kernel_rfl) bMj (by kernel_rfl) (by kernel_rfl) (Nat.le_refl _) rfl (trivial) trivial ?_
 unfold bIk
 refine WR.seq (WR.q rfl ?_)
 refine WR.seq (WR.m 5 rfl ?_)
 unfold dZ
 by_cases hl:p.length≤s.length
 ·rw[show decide ((s.length:Int)≥(p.length:Int))=true from decide_eq_true (by omega),decide_eq_true hl,Bool.true_and]
  refine WQ.m 4 rfl ?_
  refine WQ.bD rfl rfl rfl (aYu rfl rfl hl) rfl (WQ.q rfl ?_)
  exact WR.e
 ·rw[show decide ((s.length:Int)≥(p.length:Int))=false from decide_eq_false (by omega),decide_eq_false hl,Bool.false_and]
  refine WQ.q rfl ?_
  exact WR.e
theorem zE(s p:List Nat)(h:H):SCall Go.Proofs.Tryz.prog [] 67 [.str s,.str p] none h (.ret (.bool (dZ s p))) none h:=by
 refine SCall.fL rfl ?_ (by exact⟨trivial,trivial,trivial⟩) (by exact trivial) h
 refine SCall.listed (fn:=Go.Proofs.Tryz.f67) (by kernel_rfl) bIm (by kernel_rfl) (by kernel_rfl) (Nat.le_refl _) rfl (trivial) trivial ?_
 unfold bLj
 refine WR.seq (WR.q rfl ?_)
 refine WR.seq (WR.m 2 rfl ?_)
 refine WQ.c rfl (aSz s p _) .base rfl (WQ.q rfl ?_)
 exact WR.e
end Go.VM
end
section
/- Tokens: runs of bytes, layout. -/
set_option maxRecDepth 100000
namespace Go.VM
open Go.RowKit
def big:Nat:=4611686018427387904
theorem bI{i:Nat}(h:i<big):IntKind.i64.wrap ((i:Int)+1)=((i+1:Nat):Int):=by
 unfold big at h
 rw[wrap64 (by omega) (by omega)];rfl
theorem sS{P:Program}{gl:List Nat}{nt:Nat}{tm:TM}{h:H}{x i:RX}{k:IntKind}{s:List Nat}{n b:Nat}(hx:rv gl tm x=some (.str s))(hi:rv gl tm i=some (.int k n))(hg:s[n]? =some b):cG P gl nt tm h (some (.idxs x i)) (.v (.int .u8 b)):=by
 refine bJ ?_
 simp only[eM,rl,hx,hi,Option.bind_some,iP]
 have:¬((n:Int)<0):=by omega
 simp[this,hg]
theorem xO{P:Program}{gl:List Nat}{nt:Nat}{tm:TM}{h:H}{x lo:RX}{k:IntKind}{s:List Nat}{a:Nat}(hx:rv gl tm x=some (.str s))(hlo:rv gl tm lo=some (.int k a))(h1:a≤s.length):
  cG P gl nt tm h (some (.slc .str x (some lo) none none)) (.v (.str (s.drop a))):=by
 refine bJ ?_
 have e1:rvo gl tm (some lo)=some (some (.int k a)):=by simp[rvo,hlo]
 have e3:rvo gl tm none=some none:=rfl
 simp only[eM,rl,hx,e1,e3]
 simp[sJ,nat?,iP,h1,List.take_of_length_le]
def bE(p:Nat→Bool):List Nat→Nat
 |[]=>0
 |c::r=>match p c with
  |true=>bE p r+1
  |false=>0
theorem gK(p:Nat→Bool):∀l:List Nat,bE p l≤l.length
 |[]=>Nat.le_refl _
 |c::r=>by
  simp only[bE]
  split
  ·have:=gK p r;simp;omega
  ·simp
def bFp(s:List Nat)(f i:Nat):TM:=[(0,.v (.str s)),(1,.v (.int .i64 i)),(2,.v (.fn (.func f) [] []))]
theorem aMe{QN:S→Prop}{QX:X→S→Prop}(s:List Nat)(f:Nat)(p:Nat→Bool)(hf:∀c∈s,∀h:H,SCall Go.Proofs.Tryz.prog [] f [.int .u8 c] none h (.ret (.bool (p c))) none h)(hl:s.length<big)(e:Nat)
  (h0:∀tm,TellT tm [] (bFp s f e)→QX (.exit 0) (SL.toS ⟨tm,[],none,1000,[],[]⟩)):∀(m i:Nat),i+m=s.length→e=i+bE p (s.drop i)→
  WLr Go.Proofs.Tryz.prog [] ⟨Go.Proofs.Tryz.f64.ntmps,none,64⟩ xE (SL.toS ⟨bFp s f i,[],none,1000,[],[]⟩) QN QX:=by
 intro m
 induction m with
 |zero=>
  intro i hi he
  rw[List.drop_eq_nil_iff.2 (by omega)]at he
  have he:e=i:=he
  subst he
  unfold xE
  refine WLr.of ?_
  refine WR.seq (WR.seq (WR.m 4 rfl ?_))
  rw[show decide ((e:Int)<(s.length:Int))=false from decide_eq_false (by omega)]
  refine WQ.m 1000 rfl (WQ.aJ (WR.aO rfl (WR.exit (h0 _ ?_))))
  exact tQ
 |succ m ih=>
  intro i hi he
  obtain⟨c,hc,hd⟩:∃c,s[i]? =some c∧s.drop i=c::s.drop (i+1):=⟨s[i],List.getElem?_eq_getElem (by omega),List.drop_eq_getElem_cons (by omega)⟩
  have hfc:=hf c (List.mem_of_getElem? hc)
  rw[hd,bE]at he
  unfold xE
  refine WLr.of ?_
  refine WR.seq (WR.seq (WR.m 4 rfl ?_))
  rw[show decide ((i:Int)<(s.length:Int))=true from decide_eq_true (by omega)]
  refine WQ.m 4 rfl ?_
  refine WQ.bD rfl rfl rfl (sS rfl rfl hc) rfl ?_
  refine WQ.c rfl (hfc _) .base rfl ?_
  cases hp:p c
  ·rw[hp]at he
   have he:e=i:=he
   subst he
   refine WQ.m 1000 rfl (WQ.aJ (WR.aO rfl (WR.exit (h0 _ ?_))))
   exact tQ
  ·rw[hp]at he
   have he:e=i+1+bE p (s.drop (i+1)):=by simp only at he;omega
   refine WQ.m 1000 rfl (WQ.aJ (WR.aD rfl (WR.skip ?_)))
   repeat(first|refine WR.seq ?_|refine WR.block ?_|refine WR.scope ?_|refine WR.skip ?_|refine WR.exit ?_|refine WR.aD rfl ?_|refine WR.aO rfl ?_|refine WR.m 1000 rfl ?_|refine WQ.aJ ?_|refine WR.aP aZ (DW.m 1000 rfl ?_))
   rw[bI (by unfold big at hl⊢;omega)]
   refine WIr.again (WLr.weak ?_ (ih (i+1) (by omega) he))
   refine SW.aM ?_ ?_
   ·exact tQ
   ·exact lQ
theorem lH(s:List Nat)(f:Nat)(p:Nat→Bool)(hf:∀c∈s,∀h:H,SCall Go.Proofs.Tryz.prog [] f [.int .u8 c] none h (.ret (.bool (p c))) none h)(hl:s.length<big)(i:Nat)(hi:i≤s.length)(h:H):
  SCall Go.Proofs.Tryz.prog [] 64 [.str s,.int .i64 i,.fn (.func f) [] []] none h (.ret (.int .i64 (i+bE p (s.drop i):Nat))) none h:=by
 refine SCall.fL rfl ?_ (by exact⟨trivial,trivial,⟨trivial,trivial,trivial⟩,trivial⟩) (by exact trivial) h
 refine SCall.listed (fn:=Go.Proofs.Tryz.f64) (by kernel_rfl) bIq (by kernel_rfl) (by kernel_rfl) (Nat.le_refl _) rfl (trivial) trivial ?_
 unfold bKi
 repeat(first|refine WR.seq ?_|refine WR.block ?_|refine WR.scope ?_|refine WR.skip ?_|refine WR.exit ?_|refine WR.aD rfl ?_|refine WR.aO rfl ?_|refine WR.m 1000 rfl ?_|refine WQ.aJ ?_|refine WR.aP aZ (DW.m 1000 rfl ?_))
 refine WR.loop (WLr.weak (s:=SL.toS ⟨bFp s f i,[],none,1000,[],[]⟩) ?_ (aMe s f p hf hl _ (fun tm ht=>?_) (s.length-i) i (by omega) rfl))
 ·refine SW.aM ?_ ?_
  ·exact tQ
  ·exact lQ
 ·refine WR.weak (SW.aM ht .nil) ?_
  unfold aNe
  repeat(first|refine WR.seq ?_|refine WR.block ?_|refine WR.scope ?_|refine WR.skip ?_|refine WR.exit ?_|refine WR.aD rfl ?_|refine WR.aO rfl ?_|refine WR.m 1000 rfl ?_|refine WQ.aJ ?_|refine WR.aP aZ (DW.m 1000 rfl ?_))
  exact WR.e
def jH(s:List Nat):Nat→Nat→Nat
 |0,i=>i
 |n+1,i=>if dZ (s.drop (i+bE bF (s.drop i))) [47,47]=true then jH s n (i+bE bF (s.drop i)+bE fN (s.drop (i+bE bF (s.drop i))))else i+bE bF (s.drop i)
theorem aPd{s p:List Nat}(h:dZ s p=true):p.length≤s.length:=by
 unfold dZ at h
 simp only[Bool.and_eq_true,decide_eq_true_eq]at h
 exact h.1
theorem aCy{s:List Nat}(h:dZ s [47,47]=true):2≤bE fN s:=by
 unfold dZ at h
 simp only[Bool.and_eq_true,decide_eq_true_eq]at h
 obtain⟨h1,h2⟩:=h
 cases s with
 |nil=>simp at h1
 |cons a s=>
  cases s with
  |nil=>simp at h1
  |cons b s=>
   simp at h2
   obtain⟨rfl,rfl⟩:=h2
   show(match fN 47 with|true=>(match fN 47 with|true=>bE fN s+1|false=>0)+1|false=>0)≥2
   rw[show fN 47=true from rfl]
   show bE fN s+1+1≥2
   omega
theorem aTm{QN:S→Prop}{QX:X→S→Prop}(s:List Nat)(h8:∀c∈s,c<256)(hl:s.length<big)(e:Nat)
  (h1:∀st,oB Go.Proofs.Tryz.prog Go.Proofs.Tryz.f36 (.int .i64 e) 1000 [] st→QX .ret st):∀(n i:Nat),i≤s.length→s.length<i+n→e=jH s n i→
  WLr Go.Proofs.Tryz.prog [] ⟨Go.Proofs.Tryz.f36.ntmps,none,36⟩ aEg (SL.toS ⟨[(0,.v (.str s)),(1,.v (.int .i64 i))],[],none,1000,[],[]⟩) QN QX:=by
 intro n
 induction n with
 |zero=>intro i hi hn;omega
 |succ n ih=>
  intro i hi hn he
  have w1:=lH s 65 bF (fun c hc h=>aKr c (h8 c hc) h) hl i hi
  have c1:=gK bF (s.drop i)
  rw[List.length_drop]at c1
  rw[jH]at he
  generalize hj:i+bE bF (s.drop i)=j at w1 he
  have hjl:j≤s.length:=by omega
  have hp:=zE (s.drop j) [47,47]
  unfold aEg
  refine WLr.of ?_
  refine WR.block ?_
  refine WR.seq (WR.m 2 rfl ?_)
  refine WQ.c rfl (w1 _) .base rfl (WQ.q rfl ?_)
  refine WR.seq (WR.seq (WR.m 2 rfl ?_))
  refine WQ.bD rfl rfl rfl (xO rfl rfl hjl) rfl ?_
  refine WQ.c rfl (hp _) .base rfl ?_
  cases hb:dZ (s.drop j) [47,47]
  ·rw[if_neg (by rw[hb];decide)]at he
   subst he
   refine WQ.m 1000 rfl (WQ.aJ (WR.aD rfl ?_))
   refine WR.seq (WR.q rfl ?_)
   exact WR.ret (h1 _ ⟨rfl,rfl,⟨_,rfl,VLe.refl _⟩,fun _ _=>rfl⟩)
  ·rw[if_pos hb]at he
   have w2:=lH s 68 fN (fun c hc h=>aQf c h) hl j hjl
   have c2:=gK fN (s.drop j)
   have c3:=aCy hb
   rw[List.length_drop]at c2
   refine WQ.m 1000 rfl (WQ.aJ (WR.k rfl ?_))
   refine WR.m 2 rfl ?_
   refine WQ.c rfl (w2 _) .base rfl (WQ.q rfl ?_)
   refine WIr.again (WLr.weak ?_ (ih _ (by omega) (by omega) he))
   refine SW.aM ?_ ?_
   ·exact tQ
   ·exact lQ
theorem aBx(s:List Nat)(h8:∀c∈s,c<256)(hl:s.length<big)(i:Nat)(hi:i≤s.length)(h:H):
  SCall Go.Proofs.Tryz.prog [] 36 [.str s,.int .i64 i] none h (.ret (.int .i64 (jH s (s.length+1) i:Nat))) none h:=by
 refine SCall.fL rfl ?_ (by exact⟨trivial,trivial,trivial⟩) (by exact trivial) h
 refine SCall.listed (fn:=Go.Proofs.Tryz.f36) (by kernel_rfl) bMc (by kernel_rfl) (by kernel_rfl) (Nat.le_refl _) rfl (trivial) trivial ?_
 unfold bJv
 repeat(first|refine WR.seq ?_|refine WR.block ?_|refine WR.scope ?_|refine WR.skip ?_|refine WR.exit ?_|refine WR.aD rfl ?_|refine WR.aO rfl ?_|refine WR.m 1000 rfl ?_|refine WQ.aJ ?_|refine WR.aP aZ (DW.m 1000 rfl ?_))
 refine WR.loop (WLr.weak (s:=SL.toS ⟨[(0,.v (.str s)),(1,.v (.int .i64 i))],[],none,1000,[],[]⟩) ?_ (aTm s h8 hl _ (fun st q=>q) (s.length+1) i hi (by omega) rfl))
 refine SW.aM ?_ ?_
 ·exact tQ
 ·exact lQ
end Go.VM
end
section
/- Tokens: one. -/
set_option maxRecDepth 100000
namespace Go.VM
open Go.RowKit
structure Tk where
 kind:Nat
 a:Nat
 e:Nat
 text:List Nat
def jG(t:Tk):List V:=[.int .i64 t.kind,.int .i64 t.a,.int .i64 t.e,.str t.text]
def zTk:Tk:=⟨0,0,0,[]⟩
def nR:List (List Nat):=[[112,97,99,107,97,103,101],[105,109,112,111,114,116],[116,121,112,101],[115,116,114,117,99,116],[105,110,116,101,114,102,97,99,101],[102,117,110,99],[108,101,116],[105,102],[101,108,115,101],[102,111,114],[114,101,116,117,114,110],[110,101,119],[116,114,117,101],[102,97,108,115,101],[105,110,116],[98,111,111,108],[116,101,120,116]]
def aKn(w:List Nat):V×V:=(.str w,.bool true)
def wI:List (V×V):=nR.map aKn
def aQa(s:List Nat):List (List Nat)→Bool
 |[]=>false
 |w::r=>match decide (s=w)with
  |true=>true
  |false=>aQa s r
def aNh(s:List Nat):Bool:=aQa s nR
theorem aJn(s:List Nat):∀l:List (List Nat),lY (.str s) (l.map aKn)=some (match aQa s l with|true=>some (.bool true)|false=>none)
 |[]=>rfl
 |w::r=>by
  show(match jE (.str s) (.str w)with|some true=>some (some (V.bool true))|some false=>lY (.str s) (r.map aKn)|none=>none)=_
  rw[show jE (.str s) (.str w)=some (decide (s=w))from rfl]
  simp only[aQa]
  cases decide (s=w)
  ·exact aJn s r
  ·rfl
def vC(s:List Nat)(i:Nat):Nat:=i+1+bE gR (s.drop (i+1))
def aJc(s:List Nat)(i:Nat):Bool:=(match s[vC s i]? with|none=>true|some c=>!decide (c=34))||decide (bE gR (s.drop (i+1))>200)
def wF(s:List Nat)(i:Nat):Tk×Nat:=match aJc s i with
 |true=>(zTk,3)
 |false=>(⟨3,i,vC s i+1,[]⟩,0)
def oK(r:Tk×Nat):V:=.tup [.agg (jG r.1),.int .i64 r.2]
theorem pY{D:Nat→Prop}(r:Tk×Nat):(oK r).In D:=⟨⟨trivial,trivial,trivial,trivial,trivial⟩,trivial,trivial⟩
theorem bCn{a b:Nat}(h:b≤a)(hb:a<big):IntKind.i64.wrap ((a:Int)-(b:Int))=((a-b:Nat):Int):=by
 unfold big at hb
 rw[wrap64 (by omega) (by omega)];omega
theorem aHg(s:List Nat)(hl:s.length<big)(i:Nat)(hi:i<s.length)(h:H):
  SCall Go.Proofs.Tryz.prog [] 72 [.str s,.int .i64 i] none h (.ret (oK (wF s i))) none h:=by
 refine SCall.fL rfl ?_ (by exact⟨trivial,trivial,trivial⟩) (by exact pY _) h
 refine SCall.listed (fn:=Go.Proofs.Tryz.f72) (by kernel_rfl) bMd (by kernel_rfl) (by kernel_rfl) (Nat.le_refl _) rfl (trivial) (by exact pY _) ?_
 unfold bIh
 have w1:=lH s 86 gR (fun c hc h=>aJv c h) hl (i+1) (by omega)
 have c1:=gK gR (s.drop (i+1))
 rw[List.length_drop]at c1
 have hq:wF s i=match aJc s i with
  |true=>(zTk,3)
  |false=>(⟨3,i,vC s i+1,[]⟩,0):=rfl
 have hb:aJc s i=((match s[vC s i]? with|none=>true|some c=>!decide (c=34))||decide (bE gR (s.drop (i+1))>200)):=rfl
 unfold vC at hb hq
 generalize hn:bE gR (s.drop (i+1))=n at w1 c1 hb hq
 refine WR.seq (WR.q rfl ?_)
 refine WR.seq (WR.m 3 rfl ?_)
 rw[bI (by unfold big at hl⊢;omega)]
 refine WQ.c rfl (w1 _) .base rfl (WQ.q rfl ?_)
 refine WR.seq (WR.seq (WR.m 4 rfl ?_))
 by_cases he:i+1+n=s.length
 ·rw[show decide (((i+1+n:Nat):Int)=(s.length:Int))=true from decide_eq_true (by omega)]
  rw[he,List.getElem?_eq_none (Nat.le_refl _),Bool.true_or]at hb
  rw[hq,hb]
  refine WQ.m 1000 rfl (WQ.aJ (WR.aD rfl ?_))
  repeat(first|refine WR.seq ?_|refine WR.block ?_|refine WR.scope ?_|refine WR.skip ?_|refine WR.exit ?_|refine WR.aD rfl ?_|refine WR.aO rfl ?_|refine WR.m 1000 rfl ?_|refine WQ.aJ ?_|refine WR.aP aZ (DW.m 1000 rfl ?_))
  exact WR.e
 ·rw[show decide (((i+1+n:Nat):Int)=(s.length:Int))=false from decide_eq_false (by omega)]
  obtain⟨c,hc⟩:∃c,s[i+1+n]? =some c:=⟨_,List.getElem?_eq_getElem (by omega)⟩
  rw[hc]at hb
  dsimp only at hb
  refine WQ.m 3 rfl ?_
  refine WQ.bD rfl rfl rfl (sS rfl rfl hc) rfl (WQ.m 1 rfl ?_)
  by_cases h34:c=34
  ·rw[show(!decide ((c:Int)=34))=false from by simp;omega]
   rw[show(!decide (c=34))=false from by simp[h34],Bool.false_or]at hb
   refine WQ.m 5 rfl ?_
   rw[bCn (by omega) (by omega)]
   refine WQ.m 1 rfl ?_
   rw[show IntKind.i64.wrap (((i+1+n-i:Nat):Int)-1)=(n:Int)from by
    unfold big at hl
    rw[wrap64 (by omega) (by omega)];omega]
   refine WQ.m 1 rfl ?_
   by_cases h200:n>200
   ·rw[show decide ((n:Int)>200)=true from decide_eq_true (by omega)]
    rw[decide_eq_true h200]at hb
    rw[hq,hb]
    refine WQ.m 1000 rfl (WQ.aJ (WR.aD rfl ?_))
    repeat(first|refine WR.seq ?_|refine WR.block ?_|refine WR.scope ?_|refine WR.skip ?_|refine WR.exit ?_|refine WR.aD rfl ?_|refine WR.aO rfl ?_|refine WR.m 1000 rfl ?_|refine WQ.aJ ?_|refine WR.aP aZ (DW.m 1000 rfl ?_))
    exact WR.e
   ·rw[show decide ((n:Int)>200)=false from decide_eq_false (by omega)]
    rw[decide_eq_false h200]at hb
    rw[hq,hb]
    refine WQ.m 1000 rfl (WQ.aJ (WR.k rfl ?_))
    refine WR.seq (WR.m 3 rfl ?_)
    rw[bI (by omega)]
    refine WQ.q rfl ?_
    exact WR.e
  ·rw[show(!decide ((c:Int)=34))=true from by simp;omega]
   rw[show(!decide (c=34))=true from by simp[h34],Bool.true_or]at hb
   rw[hq,hb]
   refine WQ.m 1000 rfl (WQ.aJ (WR.aD rfl ?_))
   repeat(first|refine WR.seq ?_|refine WR.block ?_|refine WR.scope ?_|refine WR.skip ?_|refine WR.exit ?_|refine WR.aD rfl ?_|refine WR.aO rfl ?_|refine WR.m 1000 rfl ?_|refine WQ.aJ ?_|refine WR.aP aZ (DW.m 1000 rfl ?_))
   exact WR.e
end Go.VM
end
section
/- Tokens: the one at a place. -/
set_option maxRecDepth 100000
namespace Go.VM
open Go.RowKit
def aKp:List Nat:=[40,41,123,125,91,93,44,59,46,61,60,43,45,42,33]
def aKu(n c:Nat):Bool:=decide (n>15)||(decide (c=48)&&decide (n>1))
def eN(s:List Nat)(i c:Nat):Tk×Nat:=
 match eS c with
 |true=>
  let n:=bE kX (s.drop i)
  (⟨match aNh ((s.drop i).take n)with|true=>5|false=>1,i,i+n,[]⟩,match decide (n>40)with|true=>4|false=>0)
 |false=>match dL c with
  |true=>
   let n:=bE dL (s.drop i)
   (⟨2,i,i+n,[]⟩,match aKu n c with|true=>2|false=>0)
  |false=>match decide (c=34)with
   |true=>wF s i
   |false=>match dZ (s.drop i) [61,61]||dZ (s.drop i) [38,38]with
    |true=>(⟨4,i,i+2,[]⟩,0)
    |false=>match decide (ibV c aKp<0)with
     |true=>(⟨4,i,i+1,[]⟩,1)
     |false=>(⟨4,i,i+1,[]⟩,0)
def wOl:OL:=[(1000,.map wI)]
theorem sY{D:Nat→Prop}:∀l:List (List Nat),qZ D (l.map aKn)
 |[]=>trivial
 |_::l=>⟨⟨trivial,trivial⟩,sY l⟩
theorem aFj{D:Nat→Prop}:gC D wOl:=⟨sY nR,trivial⟩
def aKy(k i e:Nat):LM:=[(8,[.int .i64 k,.int .i64 i,.int .i64 e,.str []]),(6,[.int .i64 0,.int .i64 0,.int .i64 0,.str []])]
def bCj(s:List Nat)(i c:Nat):TM:=[(0,.v (.str s)),(1,.v (.int .i64 i)),(2,.v (.map 1000)),(6,.l 6 0),(8,.l 8 0),(9,.v (.int .u8 c))]
theorem bDo{gl:List Nat}{nt nx:Nat}{tm:TM}{lc:LM}{x k:RX}{s:List Nat}(hx:rv gl tm x=some (.map 1000))(hk:rv gl tm k=some (.str s)):cG Go.Proofs.Tryz.prog gl nt tm ⟨nx,og wOl,lc⟩ (some (.lk x k false (.bool false) .str)) (.v (.bool (aNh s))):=by
 refine bJ ?_
 simp only[eM,rl,hx,hk]
 show(match lY (.str s) (nR.map aKn)with|some (some v)=>some (TV.v (pL false v true))|some none=>some (TV.v (pL false (.bool false) false))|none=>none)=_
 rw[aJn]
 show _=some (TV.v (.bool (aQa s nR)))
 cases aQa s nR<;>rfl
theorem jQ{s:List Nat}{i c:Nat}(h:eS c=true):eN s i c=(⟨match aNh ((s.drop i).take (bE kX (s.drop i)))with|true=>5|false=>1,i,i+bE kX (s.drop i),[]⟩,match decide (bE kX (s.drop i)>40)with|true=>4|false=>0):=by
 unfold eN;rw[h]
theorem kR{s:List Nat}{i c:Nat}(h:eS c=false)(h2:dL c=true):eN s i c=(⟨2,i,i+bE dL (s.drop i),[]⟩,match aKu (bE dL (s.drop i)) c with|true=>2|false=>0):=by
 unfold eN;rw[h,h2]
theorem nB{s:List Nat}{i c:Nat}(h:eS c=false)(h2:dL c=false)(h3:c=34):eN s i c=wF s i:=by
 unfold eN;rw[h,h2,decide_eq_true h3]
theorem pT{s:List Nat}{i c:Nat}(h:eS c=false)(h2:dL c=false)(h3:¬c=34)(h4:(dZ (s.drop i) [61,61]||dZ (s.drop i) [38,38])=true):eN s i c=(⟨4,i,i+2,[]⟩,0):=by
 unfold eN;rw[h,h2,decide_eq_false h3,h4]
theorem mT{s:List Nat}{i c:Nat}(h:eS c=false)(h2:dL c=false)(h3:¬c=34)(h4:(dZ (s.drop i) [61,61]||dZ (s.drop i) [38,38])=false):eN s i c=(⟨4,i,i+1,[]⟩,match decide (ibV c aKp<0)with|true=>1|false=>0):=by
 unfold eN;rw[h,h2,decide_eq_false h3,h4]
 dsimp only
 cases decide (ibV c aKp<0)<;>rfl
theorem yX{QN:S→Prop}{QX:X→S→Prop}{r:Tk×Nat}{s:List Nat}{c k i e:Nat}(hr:r=(⟨k,i,e,[]⟩,0))(h1:∀st,oB Go.Proofs.Tryz.prog Go.Proofs.Tryz.f37 (oK r) 1001 wOl st→QX .ret st)(tm:TM)(ht:TellT tm (aKy k i e) (bCj s i c)):
  WR Go.Proofs.Tryz.prog [] ⟨Go.Proofs.Tryz.f37.ntmps,none,37⟩ qA (SL.toS ⟨tm,[],none,1001,wOl,aKy k i e⟩) QN QX:=by
 subst hr
 refine WR.weak (SW.aM ht (.cons rfl (.inl rfl) (.cons rfl (.inl rfl) .nil))) ?_
 unfold qA
 repeat(first|refine WR.seq ?_|refine WR.block ?_|refine WR.scope ?_|refine WR.skip ?_|refine WR.exit ?_|refine WR.aD rfl ?_|refine WR.aO rfl ?_|refine WR.m 1000 rfl ?_|refine WQ.aJ ?_|refine WR.aP aZ (DW.m 1000 rfl ?_))
 exact WR.ret (h1 _ ⟨rfl,rfl,⟨_,rfl,VLe.refl _⟩,fun _ _=>rfl⟩)
theorem aKk(s:List Nat)(h8:∀c∈s,c<256)(hl:s.length<big)(i c:Nat)(hc:s[i]? =some c):
  SCall Go.Proofs.Tryz.prog [] 37 [.str s,.int .i64 i,.map 1000] none ⟨1001,og wOl,[]⟩ (.ret (oK (eN s i c))) none ⟨1001,og wOl,[]⟩:=by
 refine SCall.listed (fn:=Go.Proofs.Tryz.f37) (by kernel_rfl) bIz (by kernel_rfl) (by kernel_rfl) (Nat.le_refl _) rfl (aFj) (by exact pY _) ?_
 unfold bLb
 have hi:i<s.length:=(List.getElem?_eq_some_iff.1 hc).1
 have hc8:=h8 c (List.mem_of_getElem? hc)
 refine WR.seq (WR.q rfl ?_)
 refine WR.seq (WR.m 3 rfl ?_)
 rw[bI (by omega)]
 refine WQ.q rfl ?_
 refine WR.seq (WR.seq (WR.m 2 rfl ?_))
 refine WQ.bD rfl rfl rfl (sS rfl rfl hc) rfl (WQ.q rfl ?_)
 refine WR.weak (s:=SL.toS ⟨bCj s i c,[],none,1001,wOl,aKy 4 i (i+1)⟩) ?_ ?_
 ·refine SW.aM ?_ ?_
  ·exact tQ
  ·exact lQ
 refine WR.block (WR.seq (WR.m 1 rfl ?_))
 refine WQ.c rfl (vW c _) .base rfl (WQ.q rfl ?_)
 cases hL:eS c with
 |true=>
  rw[jQ hL]
  have w1:=lH s 70 kX (fun c hc h=>aQr c h) hl i (by omega)
  have c1:=gK kX (s.drop i)
  rw[List.length_drop]at c1
  generalize bE kX (s.drop i)=n at w1 c1⊢
  refine WR.aD rfl ?_
  refine WR.seq (WR.m 2 rfl ?_)
  refine WQ.c rfl (w1 _) .base rfl (WQ.q rfl ?_)
  refine WR.seq (WR.seq (WR.m 5 rfl ?_))
  refine WQ.bD rfl rfl rfl (aDn rfl rfl rfl (by omega) (by omega)) rfl ?_
  rw[Nat.add_sub_cancel_left]
  refine WQ.bD rfl rfl rfl (bDo rfl rfl) rfl (WQ.aJ ?_)
  have fin:∀(k:Nat) (tm:TM),TellT tm (aKy k i (i+n)) (bCj s i c)→WR Go.Proofs.Tryz.prog [] ⟨Go.Proofs.Tryz.f37.ntmps,none,37⟩ aDl (SL.toS ⟨tm,[],none,1001,wOl,aKy k i (i+n)⟩)
    (fun s1=>WR Go.Proofs.Tryz.prog [] ⟨Go.Proofs.Tryz.f37.ntmps,none,37⟩ qA s1 (oB Go.Proofs.Tryz.prog Go.Proofs.Tryz.f37 (oK (⟨k,i,i+n,[]⟩,match decide (n>40)with|true=>4|false=>0)) 1001 wOl) (aAc (oB Go.Proofs.Tryz.prog Go.Proofs.Tryz.f37 (oK (⟨k,i,i+n,[]⟩,match decide (n>40)with|true=>4|false=>0)) 1001 wOl))) (vF 0 (fun s1=>WR Go.Proofs.Tryz.prog [] ⟨Go.Proofs.Tryz.f37.ntmps,none,37⟩ qA s1 (oB Go.Proofs.Tryz.prog Go.Proofs.Tryz.f37 (oK (⟨k,i,i+n,[]⟩,match decide (n>40)with|true=>4|false=>0)) 1001 wOl) (aAc (oB Go.Proofs.Tryz.prog Go.Proofs.Tryz.f37 (oK (⟨k,i,i+n,[]⟩,match decide (n>40)with|true=>4|false=>0)) 1001 wOl))) (aAc (oB Go.Proofs.Tryz.prog Go.Proofs.Tryz.f37 (oK (⟨k,i,i+n,[]⟩,match decide (n>40)with|true=>4|false=>0)) 1001 wOl))):=by
   intro k tm ht
   refine WR.weak (SW.aM ht (.cons rfl (.inl rfl) (.cons rfl (.inl rfl) .nil))) ?_
   unfold aDl
   refine WR.seq (WR.m 4 rfl ?_)
   rw[bCn (by omega) (by omega),Nat.add_sub_cancel_left]
   refine WQ.m 1 rfl (WQ.aJ ?_)
   by_cases h40:n>40
   ·rw[show decide ((n:Int)>40)=true from decide_eq_true (by omega),decide_eq_true h40]
    refine WR.aD rfl ?_
    repeat(first|refine WR.seq ?_|refine WR.block ?_|refine WR.scope ?_|refine WR.skip ?_|refine WR.exit ?_|refine WR.aD rfl ?_|refine WR.aO rfl ?_|refine WR.m 1000 rfl ?_|refine WQ.aJ ?_|refine WR.aP aZ (DW.m 1000 rfl ?_))
    exact WR.e
   ·rw[show decide ((n:Int)>40)=false from decide_eq_false (by omega),decide_eq_false h40]
    refine WR.k rfl ?_
    refine yX (s:=s) (c:=c) rfl (fun st q=>q) _ ?_
    exact tQ
  cases hw:aNh ((s.drop i).take n)with
  |true=>
   refine WR.aD rfl (WR.q rfl ?_)
   refine fin 5 _ ?_
   exact tQ
  |false=>
   refine WR.k rfl ?_
   refine fin 1 _ ?_
   exact tQ
 |false=>
 refine WR.aO rfl ?_
 refine WR.seq (WR.m 1 rfl ?_)
 refine WQ.c rfl (rH c _) .base rfl (WQ.q rfl ?_)
 cases hD:dL c with
 |true=>
  rw[kR hL hD]
  have w1:=lH s 71 dL (fun c hc h=>rH c h) hl i (by omega)
  have c1:=gK dL (s.drop i)
  rw[List.length_drop]at c1
  generalize bE dL (s.drop i)=n at w1 c1⊢
  refine WR.aD rfl ?_
  refine WR.seq (WR.m 2 rfl ?_)
  refine WQ.c rfl (w1 _) .base rfl (WQ.q rfl ?_)
  refine WR.seq (WR.m 4 rfl ?_)
  rw[bCn (by omega) (by omega),Nat.add_sub_cancel_left]
  refine WQ.q rfl ?_
  refine WR.seq (WR.m 2 rfl ?_)
  unfold aKu
  by_cases h15:n>15
  ·rw[show decide ((n:Int)>15)=true from decide_eq_true (by omega),decide_eq_true h15,Bool.true_or]
   refine WQ.m 1000 rfl (WQ.aJ (WR.aD rfl ?_))
   repeat(first|refine WR.seq ?_|refine WR.block ?_|refine WR.scope ?_|refine WR.skip ?_|refine WR.exit ?_|refine WR.aD rfl ?_|refine WR.aO rfl ?_|refine WR.m 1000 rfl ?_|refine WQ.aJ ?_|refine WR.aP aZ (DW.m 1000 rfl ?_))
   exact WR.e
  rw[show decide ((n:Int)>15)=false from decide_eq_false (by omega),decide_eq_false h15,Bool.false_or]
  refine WQ.m 3 rfl ?_
  by_cases h48:c=48
  ·rw[show decide ((c:Int)=48)=true from decide_eq_true (by omega),decide_eq_true h48,Bool.true_and]
   refine WQ.m 3 rfl ?_
   by_cases h1:n>1
   ·rw[show decide ((n:Int)>1)=true from decide_eq_true (by omega),decide_eq_true h1]
    refine WQ.m 1000 rfl (WQ.aJ (WR.aD rfl ?_))
    repeat(first|refine WR.seq ?_|refine WR.block ?_|refine WR.scope ?_|refine WR.skip ?_|refine WR.exit ?_|refine WR.aD rfl ?_|refine WR.aO rfl ?_|refine WR.m 1000 rfl ?_|refine WQ.aJ ?_|refine WR.aP aZ (DW.m 1000 rfl ?_))
    exact WR.e
   ·rw[show decide ((n:Int)>1)=false from decide_eq_false (by omega),decide_eq_false h1]
    refine WQ.m 1000 rfl (WQ.aJ (WR.k rfl ?_))
    refine yX (s:=s) (c:=c) (k:=2) (i:=i) (e:=i+n) rfl (fun st q=>q) _ ?_
    exact tQ
  ·rw[show decide ((c:Int)=48)=false from decide_eq_false (by omega),decide_eq_false h48,Bool.false_and]
   refine WQ.m 1000 rfl (WQ.aJ (WR.k rfl ?_))
   refine yX (s:=s) (c:=c) (k:=2) (i:=i) (e:=i+n) rfl (fun st q=>q) _ ?_
   exact tQ
 |false=>
 refine WR.aO rfl ?_
 refine WR.seq (WR.m 2 rfl ?_)
 by_cases h34:c=34
 ·rw[nB hL hD h34,show decide ((c:Int)=34)=true from decide_eq_true (by omega)]
  have qs:=aHg s hl i hi
  generalize wF s i=q at qs⊢
  refine WQ.m 1000 rfl (WQ.aJ (WR.aD rfl ?_))
  refine WR.seq (WR.m 2 rfl ?_)
  refine WQ.c rfl (qs _) .base rfl (WQ.q rfl ?_)
  exact WR.e
 rw[show decide ((c:Int)=34)=false from decide_eq_false (by omega)]
 refine WQ.m 1000 rfl (WQ.aJ (WR.aO rfl ?_))
 have p1:=zE (s.drop i) [61,61]
 have p2:=zE (s.drop i) [38,38]
 have two:(dZ (s.drop i) [61,61]||dZ (s.drop i) [38,38])=true→∀tm:TM,TellT tm (aKy 4 i (i+1)) (bCj s i c)→∀QN:S→Prop,(∀s1,WR Go.Proofs.Tryz.prog [] ⟨Go.Proofs.Tryz.f37.ntmps,none,37⟩ qA s1 (oB Go.Proofs.Tryz.prog Go.Proofs.Tryz.f37 (oK (eN s i c)) 1001 wOl) (aAc (oB Go.Proofs.Tryz.prog Go.Proofs.Tryz.f37 (oK (eN s i c)) 1001 wOl))→QN s1)→∀QX,
   WR Go.Proofs.Tryz.prog [] ⟨Go.Proofs.Tryz.f37.ntmps,none,37⟩ (.reg [.op (.fa (.t 8) 2) 82,.op (.ld (.t 82) none) 83,.op (.bin .add (.t 83) (.c (.int .i64 1))) 84,.op (.fa (.t 8) 2) 85,⟨0,0,some (.st (.t 85) (.t 84) 1),[],none,none⟩]) (SL.toS ⟨tm,[],none,1001,wOl,aKy 4 i (i+1)⟩) QN QX:=by
  intro hp tm ht QN hq QX
  rw[pT hL hD h34 hp]at hq
  refine WR.weak (SW.aM ht (.cons rfl (.inl rfl) (.cons rfl (.inl rfl) .nil))) ?_
  refine WR.m 3 rfl ?_
  rw[bI (by omega)]
  refine WQ.q rfl ?_
  refine hq _ (yX (s:=s) (c:=c) (k:=4) (i:=i) (e:=i+2) rfl (fun st q=>q) _ ?_)
  exact tQ
 refine WR.seq (WR.m 2 rfl ?_)
 refine WQ.bD rfl rfl rfl (xO rfl rfl (by omega)) rfl ?_
 refine WQ.c rfl (p1 _) .base rfl ?_
 cases hp1:dZ (s.drop i) [61,61]with
 |true=>
  refine WQ.m 1000 rfl (WQ.aJ (WR.aD rfl ?_))
  refine two (by rw[hp1,Bool.true_or]) _ ?_ _ (fun s1 q=>q) _
  exact tQ
 |false=>
 refine WQ.m 3 rfl ?_
 refine WQ.bD rfl rfl rfl (xO rfl rfl (by omega)) rfl ?_
 refine WQ.c rfl (p2 _) .base rfl ?_
 cases hp2:dZ (s.drop i) [38,38]with
 |true=>
  refine WQ.m 1000 rfl (WQ.aJ (WR.aD rfl ?_))
  refine two (by rw[hp1,hp2,Bool.false_or]) _ ?_ _ (fun s1 q=>q) _
  exact tQ
 |false=>
 rw[mT hL hD h34 (by rw[hp1,hp2,Bool.false_or])]
 refine WQ.m 1000 rfl (WQ.aJ (WR.aO rfl ?_))
 refine WR.seq (WR.m 1 rfl ?_)
 refine WQ.c rfl (aMu aKp c hc8 _) .base rfl (WQ.m 1 rfl ?_)
 cases hz:decide (ibV c aKp<0)with
 |true=>
  refine WQ.m 1000 rfl (WQ.aJ (WR.aD rfl ?_))
  repeat(first|refine WR.seq ?_|refine WR.block ?_|refine WR.scope ?_|refine WR.skip ?_|refine WR.exit ?_|refine WR.aD rfl ?_|refine WR.aO rfl ?_|refine WR.m 1000 rfl ?_|refine WQ.aJ ?_|refine WR.aP aZ (DW.m 1000 rfl ?_))
  exact WR.e
 |false=>
  refine WQ.m 1000 rfl (WQ.aJ (WR.k rfl ?_))
  refine yX (s:=s) (c:=c) (k:=4) (i:=i) (e:=i+1) rfl (fun st q=>q) _ ?_
  exact tQ
end Go.VM
end
