/- laid for this seat: VlLexA VlLexB VlLexC VlLexD -/
import Derived.Test.YtgadhdnnkdcgkaaGreatDoorVg0
import Derived.Test.YtgadhdnnkdcgkaaGreatDoorVmR
import Derived.Test.YtgadhdnnkdcgkaaGreatDoorVmT
set_option linter.unusedVariables false
set_option linter.unusedSimpArgs false
section
/- Tokens: bytes. -/
set_option maxRecDepth 100000
namespace Go.VM
open Go.RowKit
theorem aT:Go.Proofs.Tryz.prog.follows .mixedOrders=true:=by kernel_rfl
def aLn(c:Nat):Int:=IntKind.u8.wrap (BitVec.ofInt 8 c|||BitVec.ofInt 8 32).toNat
def eR(c:Nat):Bool:=(decide (aLn c≥97)&&decide (aLn c≤122))||decide ((c:Int)=95)
def dX(c:Nat):Bool:=decide ((c:Int)≥48)&&decide ((c:Int)≤57)
def mW(c:Nat):Bool:=eR c||dX c
def oA(c:Nat):Bool:=(decide ((c:Int)≥32)&&decide ((c:Int)≤126))&&!decide ((c:Int)=34)
def nA(c:Nat):Bool:=!decide ((c:Int)=10)
theorem tN(c:Nat)(h:H):SCall Go.Proofs.Tryz.prog [] 69 [.int .u8 c] none h (.ret (.bool (eR c))) none h:=by
 refine SCall.dZ rfl ?_ (by exact⟨trivial,trivial⟩) (by exact trivial) h
 refine SCall.listed (fn:=Go.Proofs.Tryz.f69) (by kernel_rfl) bCj (by kernel_rfl) (by kernel_rfl) (Nat.le_refl _) rfl (trivial) trivial ?_
 unfold bGo
 refine WR.seq (WR.q rfl ?_)
 refine WR.seq (WR.m 3 rfl ?_)
 unfold eR
 show WQ Go.Proofs.Tryz.prog [] _ _ (SL.toS ⟨(5,.v (.bool (decide (aLn c≥97))))::_,_,_,_,_,_⟩) _ _
 cases decide (aLn c≥97)
 ·refine WQ.m 8 rfl ?_
  rw[Bool.false_and,Bool.false_or]
  refine WQ.q rfl ?_
  exact WR.e
 ·refine WQ.m 4 rfl ?_
  rw[Bool.true_and]
  show WQ Go.Proofs.Tryz.prog [] _ _ (SL.toS ⟨(9,.v (.bool (decide (aLn c≤122))))::_,_,_,_,_,_⟩) _ _
  cases decide (aLn c≤122)
  ·rw[Bool.false_or]
   refine WQ.q rfl ?_
   exact WR.e
  ·rw[Bool.true_or]
   refine WQ.q rfl ?_
   exact WR.e
theorem qB(c:Nat)(h:H):SCall Go.Proofs.Tryz.prog [] 71 [.int .u8 c] none h (.ret (.bool (dX c))) none h:=by
 refine SCall.dZ rfl ?_ (by exact⟨trivial,trivial⟩) (by exact trivial) h
 refine SCall.listed (fn:=Go.Proofs.Tryz.f71) (by kernel_rfl) bDx (by kernel_rfl) (by kernel_rfl) (Nat.le_refl _) rfl (trivial) trivial ?_
 unfold bEu
 refine WR.seq (WR.q rfl ?_)
 refine WR.seq (WR.m 2 rfl ?_)
 unfold dX
 cases decide ((c:Int)≥48)
 ·rw[Bool.false_and]
  refine WQ.q rfl ?_
  exact WR.e
 ·rw[Bool.true_and]
  refine WQ.q rfl ?_
  exact WR.e
theorem aOw(c:Nat)(h:H):SCall Go.Proofs.Tryz.prog [] 70 [.int .u8 c] none h (.ret (.bool (mW c))) none h:=by
 refine SCall.dZ rfl ?_ (by exact⟨trivial,trivial⟩) (by exact trivial) h
 refine SCall.listed (fn:=Go.Proofs.Tryz.f70) (by kernel_rfl) bFj (by kernel_rfl) (by kernel_rfl) (Nat.le_refl _) rfl (trivial) trivial ?_
 unfold bDn
 refine WR.seq (WR.q rfl ?_)
 refine WR.seq (WR.m 1 rfl ?_)
 refine WQ.c rfl (tN c _) .base rfl ?_
 unfold mW
 cases eR c
 ·rw[Bool.false_or]
  refine WQ.m 2 rfl ?_
  refine WQ.c rfl (qB c _) .base rfl (WQ.q rfl ?_)
  exact WR.e
 ·rw[Bool.true_or]
  refine WQ.q rfl ?_
  exact WR.e
theorem aNz(c:Nat)(h:H):SCall Go.Proofs.Tryz.prog [] 68 [.int .u8 c] none h (.ret (.bool (nA c))) none h:=by
 refine SCall.dZ rfl ?_ (by exact⟨trivial,trivial⟩) (by exact trivial) h
 refine SCall.listed (fn:=Go.Proofs.Tryz.f68) (by kernel_rfl) bFh (by kernel_rfl) (by kernel_rfl) (Nat.le_refl _) rfl (trivial) trivial ?_
 unfold bCi
 repeat(first|refine WR.seq ?_|refine WR.block ?_|refine WR.scope ?_|refine WR.skip ?_|refine WR.exit ?_|refine WR.aC rfl ?_|refine WR.aM rfl ?_|refine WR.m 1000 rfl ?_|refine WQ.aJ ?_|refine WR.aL aT (DW.m 1000 rfl ?_))
 exact WR.e
theorem aHa(c:Nat)(h:H):SCall Go.Proofs.Tryz.prog [] 86 [.int .u8 c] none h (.ret (.bool (oA c))) none h:=by
 refine SCall.dZ rfl ?_ (by exact⟨trivial,trivial⟩) (by exact trivial) h
 refine SCall.listed (fn:=Go.Proofs.Tryz.f86) (by kernel_rfl) bEs (by kernel_rfl) (by kernel_rfl) (Nat.le_refl _) rfl (trivial) trivial ?_
 unfold bFa
 refine WR.seq (WR.q rfl ?_)
 refine WR.seq (WR.m 2 rfl ?_)
 unfold oA
 cases decide ((c:Int)≥32)
 ·rw[Bool.false_and,Bool.false_and]
  refine WQ.q rfl ?_
  exact WR.e
 ·rw[Bool.true_and]
  refine WQ.m 3 rfl ?_
  cases decide ((c:Int)≤126)
  ·rw[Bool.false_and]
   refine WQ.q rfl ?_
   exact WR.e
  ·rw[Bool.true_and]
   refine WQ.q rfl ?_
   exact WR.e
theorem bGh:∃fn,(Go.Proofs.Tryz.prog).funcs[96]? =some fn∧fn.body=none∧fn.name= "internal/bytealg.IndexByteString" ∧Extern.findNext fn=none∧Extern.find fn=some Extern.BytealgIndexByte.indexByte:=
 ⟨Go.Proofs.Tryz.f96,by kernel_rfl,by kernel_rfl,by kernel_rfl,by kernel_rfl,by kernel_rfl⟩
theorem aUi(bs:List Nat)(c:Nat)(hc:c<256)(h:H):SCall Go.Proofs.Tryz.prog [] 84 [.str bs,.int .u8 c] none h (.ret (.int .i64 (ibV c bs))) none h:=by
 refine SCall.dZ rfl ?_ (by exact⟨trivial,trivial,trivial⟩) (by exact trivial) h
 refine SCall.listed (fn:=Go.Proofs.Tryz.f84) (by kernel_rfl) bEk (by kernel_rfl) (by kernel_rfl) (Nat.le_refl _) rfl (trivial) trivial ?_
 unfold bDp
 obtain⟨fn,h1,h2,h3,h4,h5⟩:=bGh
 refine WR.seq (WR.q rfl ?_)
 refine WR.seq (WR.m 2 rfl ?_)
 refine WQ.cW rfl (aQl h1 h2 h3 h4 h5 rfl rfl hc) rfl (WQ.q rfl ?_)
 exact WR.e
theorem aJj(bs:List Nat)(c:Nat)(hc:c<256)(h:H):SCall Go.Proofs.Tryz.prog [] 66 [.str bs,.int .u8 c] none h (.ret (.int .i64 (ibV c bs))) none h:=by
 refine SCall.dZ rfl ?_ (by exact⟨trivial,trivial,trivial⟩) (by exact trivial) h
 refine SCall.listed (fn:=Go.Proofs.Tryz.f66) (by kernel_rfl) bCx (by kernel_rfl) (by kernel_rfl) (Nat.le_refl _) rfl (trivial) trivial ?_
 unfold bDl
 refine WR.seq (WR.q rfl ?_)
 refine WR.seq (WR.m 2 rfl ?_)
 refine WQ.c rfl (aUi bs c hc _) .base rfl (WQ.q rfl ?_)
 exact WR.e
def iP(c:Nat):Bool:=decide (ibV c [32,9,10,13]≥0)
theorem aHk(c:Nat)(hc:c<256)(h:H):SCall Go.Proofs.Tryz.prog [] 65 [.int .u8 c] none h (.ret (.bool (iP c))) none h:=by
 refine SCall.dZ rfl ?_ (by exact⟨trivial,trivial⟩) (by exact trivial) h
 refine SCall.listed (fn:=Go.Proofs.Tryz.f65) (by kernel_rfl) bFt (by kernel_rfl) (by kernel_rfl) (Nat.le_refl _) rfl (trivial) trivial ?_
 unfold bDv
 refine WR.seq (WR.q rfl ?_)
 refine WR.seq (WR.m 1 rfl ?_)
 refine WQ.c rfl (aJj [32,9,10,13] c hc _) .base rfl (WQ.q rfl ?_)
 exact WR.e
def iX(s p:List Nat):Bool:=decide (p.length≤s.length)&&decide (s.take p.length=p)
theorem aMm(s p:List Nat)(h:H):SCall Go.Proofs.Tryz.prog [] 85 [.str s,.str p] none h (.ret (.bool (iX s p))) none h:=by
 refine SCall.dZ rfl ?_ (by exact⟨trivial,trivial,trivial⟩) (by exact trivial) h
 refine SCall.listed (fn:=Go.Proofs.Tryz.f85) (by kernel_rfl) bDo (by kernel_rfl) (by kernel_rfl) (Nat.le_refl _) rfl (trivial) trivial ?_
 unfold bGm
 refine WR.seq (WR.q rfl ?_)
 refine WR.seq (WR.m 5 rfl ?_)
 unfold iX
 by_cases hl:p.length≤s.length
 ·rw[show decide ((s.length:Int)≥(p.length:Int))=true from decide_eq_true (by omega),decide_eq_true hl,Bool.true_and]
  refine WQ.m 4 rfl ?_
  refine WQ.bW rfl rfl rfl (aPn rfl rfl hl) rfl (WQ.q rfl ?_)
  exact WR.e
 ·rw[show decide ((s.length:Int)≥(p.length:Int))=false from decide_eq_false (by omega),decide_eq_false hl,Bool.false_and]
  refine WQ.q rfl ?_
  exact WR.e
theorem vU(s p:List Nat)(h:H):SCall Go.Proofs.Tryz.prog [] 67 [.str s,.str p] none h (.ret (.bool (iX s p))) none h:=by
 refine SCall.dZ rfl ?_ (by exact⟨trivial,trivial,trivial⟩) (by exact trivial) h
 refine SCall.listed (fn:=Go.Proofs.Tryz.f67) (by kernel_rfl) bEz (by kernel_rfl) (by kernel_rfl) (Nat.le_refl _) rfl (trivial) trivial ?_
 unfold bEe
 refine WR.seq (WR.q rfl ?_)
 refine WR.seq (WR.m 2 rfl ?_)
 refine WQ.c rfl (aMm s p _) .base rfl (WQ.q rfl ?_)
 exact WR.e
end Go.VM
end
section
/- Tokens: runs of bytes, layout. -/
set_option maxRecDepth 100000
namespace Go.VM
open Go.RowKit
def big:Nat:=4611686018427387904
theorem bK{i:Nat}(h:i<big):IntKind.i64.wrap ((i:Int)+1)=((i+1:Nat):Int):=by
 unfold big at h
 rw[wrap64 (by omega) (by omega)];rfl
theorem oQ{P:Program}{gl:List Nat}{nt:Nat}{tm:TM}{h:H}{x i:RX}{k:IntKind}{s:List Nat}{n b:Nat}(hx:rv gl tm x=some (.str s))(hi:rv gl tm i=some (.int k n))(hg:s[n]? =some b):bV P gl nt tm h (some (.idxs x i)) (.v (.int .u8 b)):=by
 refine bE ?_
 simp only[dL,rl,hx,hi,Option.bind_some,gK]
 have:¬((n:Int)<0):=by omega
 simp[this,hg]
theorem vM{P:Program}{gl:List Nat}{nt:Nat}{tm:TM}{h:H}{x lo:RX}{k:IntKind}{s:List Nat}{a:Nat}(hx:rv gl tm x=some (.str s))(hlo:rv gl tm lo=some (.int k a))(h1:a≤s.length):
  bV P gl nt tm h (some (.slc .str x (some lo) none none)) (.v (.str (s.drop a))):=by
 refine bE ?_
 have e1:rvo gl tm (some lo)=some (some (.int k a)):=by simp[rvo,hlo]
 have e3:rvo gl tm none=some none:=rfl
 simp only[dL,rl,hx,e1,e3]
 simp[pR,nat?,gK,h1,List.take_of_length_le]
def eH(p:Nat→Bool):List Nat→Nat
 |[]=>0
 |c::r=>match p c with
  |true=>eH p r+1
  |false=>0
theorem iY(p:Nat→Bool):∀l:List Nat,eH p l≤l.length
 |[]=>Nat.le_refl _
 |c::r=>by
  simp only[eH]
  split
  ·have:=iY p r;simp;omega
  ·simp
def bAg(s:List Nat)(f i:Nat):TM:=[(0,.v (.str s)),(1,.v (.int .i64 i)),(2,.v (.fn (.func f) [] []))]
theorem aIb{QN:S→Prop}{QX:X→S→Prop}(s:List Nat)(f:Nat)(p:Nat→Bool)(hf:∀c∈s,∀h:H,SCall Go.Proofs.Tryz.prog [] f [.int .u8 c] none h (.ret (.bool (p c))) none h)(hl:s.length<big)(e:Nat)
  (h0:∀tm,TellT tm [] (bAg s f e)→QX (.exit 0) (SL.toS ⟨tm,[],none,1000,[],[]⟩)):∀(m i:Nat),i+m=s.length→e=i+eH p (s.drop i)→
  WLr Go.Proofs.Tryz.prog [] ⟨Go.Proofs.Tryz.f64.ntmps,none,64⟩ uL (SL.toS ⟨bAg s f i,[],none,1000,[],[]⟩) QN QX:=by
 intro m
 induction m with
 |zero=>
  intro i hi he
  rw[List.drop_eq_nil_iff.2 (by omega)]at he
  have he:e=i:=he
  subst he
  unfold uL
  refine WLr.of ?_
  refine WR.seq (WR.seq (WR.m 4 rfl ?_))
  rw[show decide ((e:Int)<(s.length:Int))=false from decide_eq_false (by omega)]
  refine WQ.m 1000 rfl (WQ.aJ (WR.aM rfl (WR.exit (h0 _ ?_))))
  exact tQ
 |succ m ih=>
  intro i hi he
  obtain⟨c,hc,hd⟩:∃c,s[i]? =some c∧s.drop i=c::s.drop (i+1):=⟨s[i],List.getElem?_eq_getElem (by omega),List.drop_eq_getElem_cons (by omega)⟩
  have hfc:=hf c (List.mem_of_getElem? hc)
  rw[hd,eH]at he
  unfold uL
  refine WLr.of ?_
  refine WR.seq (WR.seq (WR.m 4 rfl ?_))
  rw[show decide ((i:Int)<(s.length:Int))=true from decide_eq_true (by omega)]
  refine WQ.m 4 rfl ?_
  refine WQ.bW rfl rfl rfl (oQ rfl rfl hc) rfl ?_
  refine WQ.c rfl (hfc _) .base rfl ?_
  cases hp:p c
  ·rw[hp]at he
   have he:e=i:=he
   subst he
   refine WQ.m 1000 rfl (WQ.aJ (WR.aM rfl (WR.exit (h0 _ ?_))))
   exact tQ
  ·rw[hp]at he
   have he:e=i+1+eH p (s.drop (i+1)):=by simp only at he;omega
   refine WQ.m 1000 rfl (WQ.aJ (WR.aC rfl (WR.skip ?_)))
   repeat(first|refine WR.seq ?_|refine WR.block ?_|refine WR.scope ?_|refine WR.skip ?_|refine WR.exit ?_|refine WR.aC rfl ?_|refine WR.aM rfl ?_|refine WR.m 1000 rfl ?_|refine WQ.aJ ?_|refine WR.aL aT (DW.m 1000 rfl ?_))
   rw[bK (by unfold big at hl⊢;omega)]
   refine WIr.again (WLr.weak ?_ (ih (i+1) (by omega) he))
   refine SW.aP ?_ ?_
   ·exact tQ
   ·exact lQ
theorem jN(s:List Nat)(f:Nat)(p:Nat→Bool)(hf:∀c∈s,∀h:H,SCall Go.Proofs.Tryz.prog [] f [.int .u8 c] none h (.ret (.bool (p c))) none h)(hl:s.length<big)(i:Nat)(hi:i≤s.length)(h:H):
  SCall Go.Proofs.Tryz.prog [] 64 [.str s,.int .i64 i,.fn (.func f) [] []] none h (.ret (.int .i64 (i+eH p (s.drop i):Nat))) none h:=by
 refine SCall.dZ rfl ?_ (by exact⟨trivial,trivial,⟨trivial,trivial,trivial⟩,trivial⟩) (by exact trivial) h
 refine SCall.listed (fn:=Go.Proofs.Tryz.f64) (by kernel_rfl) bDm (by kernel_rfl) (by kernel_rfl) (Nat.le_refl _) rfl (trivial) trivial ?_
 unfold bCu
 repeat(first|refine WR.seq ?_|refine WR.block ?_|refine WR.scope ?_|refine WR.skip ?_|refine WR.exit ?_|refine WR.aC rfl ?_|refine WR.aM rfl ?_|refine WR.m 1000 rfl ?_|refine WQ.aJ ?_|refine WR.aL aT (DW.m 1000 rfl ?_))
 refine WR.loop (WLr.weak (s:=SL.toS ⟨bAg s f i,[],none,1000,[],[]⟩) ?_ (aIb s f p hf hl _ (fun tm ht=>?_) (s.length-i) i (by omega) rfl))
 ·refine SW.aP ?_ ?_
  ·exact tQ
  ·exact lQ
 ·refine WR.weak (SW.aP ht .nil) ?_
  unfold aJu
  repeat(first|refine WR.seq ?_|refine WR.block ?_|refine WR.scope ?_|refine WR.skip ?_|refine WR.exit ?_|refine WR.aC rfl ?_|refine WR.aM rfl ?_|refine WR.m 1000 rfl ?_|refine WQ.aJ ?_|refine WR.aL aT (DW.m 1000 rfl ?_))
  exact WR.e
def mU(s:List Nat):Nat→Nat→Nat
 |0,i=>i
 |n+1,i=>if iX (s.drop (i+eH iP (s.drop i))) [47,47]=true then mU s n (i+eH iP (s.drop i)+eH nA (s.drop (i+eH iP (s.drop i))))else i+eH iP (s.drop i)
theorem aKy{s p:List Nat}(h:iX s p=true):p.length≤s.length:=by
 unfold iX at h
 simp only[Bool.and_eq_true,decide_eq_true_eq]at h
 exact h.1
theorem aXr{s:List Nat}(h:iX s [47,47]=true):2≤eH nA s:=by
 unfold iX at h
 simp only[Bool.and_eq_true,decide_eq_true_eq]at h
 obtain⟨h1,h2⟩:=h
 cases s with
 |nil=>simp at h1
 |cons a s=>
  cases s with
  |nil=>simp at h1
  |cons b s=>
   simp at h2
   obtain⟨rfl,rfl⟩:=h2
   show(match nA 47 with|true=>(match nA 47 with|true=>eH nA s+1|false=>0)+1|false=>0)≥2
   rw[show nA 47=true from rfl]
   show eH nA s+1+1≥2
   omega
theorem aLr{QN:S→Prop}{QX:X→S→Prop}(s:List Nat)(h8:∀c∈s,c<256)(hl:s.length<big)(e:Nat)
  (h1:∀st,mH Go.Proofs.Tryz.prog Go.Proofs.Tryz.f36 (.int .i64 e) 1000 [] st→QX .ret st):∀(n i:Nat),i≤s.length→s.length<i+n→e=mU s n i→
  WLr Go.Proofs.Tryz.prog [] ⟨Go.Proofs.Tryz.f36.ntmps,none,36⟩ aBu (SL.toS ⟨[(0,.v (.str s)),(1,.v (.int .i64 i))],[],none,1000,[],[]⟩) QN QX:=by
 intro n
 induction n with
 |zero=>intro i hi hn;omega
 |succ n ih=>
  intro i hi hn he
  have w1:=jN s 65 iP (fun c hc h=>aHk c (h8 c hc) h) hl i hi
  have c1:=iY iP (s.drop i)
  rw[List.length_drop]at c1
  rw[mU]at he
  generalize hj:i+eH iP (s.drop i)=j at w1 he
  have hjl:j≤s.length:=by omega
  have hp:=vU (s.drop j) [47,47]
  unfold aBu
  refine WLr.of ?_
  refine WR.block ?_
  refine WR.seq (WR.m 2 rfl ?_)
  refine WQ.c rfl (w1 _) .base rfl (WQ.q rfl ?_)
  refine WR.seq (WR.seq (WR.m 2 rfl ?_))
  refine WQ.bW rfl rfl rfl (vM rfl rfl hjl) rfl ?_
  refine WQ.c rfl (hp _) .base rfl ?_
  cases hb:iX (s.drop j) [47,47]
  ·rw[if_neg (by rw[hb];decide)]at he
   subst he
   refine WQ.m 1000 rfl (WQ.aJ (WR.aC rfl ?_))
   refine WR.seq (WR.q rfl ?_)
   exact WR.ret (h1 _ ⟨rfl,rfl,⟨_,rfl,VLe.refl _⟩,fun _ _=>rfl⟩)
  ·rw[if_pos hb]at he
   have w2:=jN s 68 nA (fun c hc h=>aNz c h) hl j hjl
   have c2:=iY nA (s.drop j)
   have c3:=aXr hb
   rw[List.length_drop]at c2
   refine WQ.m 1000 rfl (WQ.aJ (WR.k rfl ?_))
   refine WR.m 2 rfl ?_
   refine WQ.c rfl (w2 _) .base rfl (WQ.q rfl ?_)
   refine WIr.again (WLr.weak ?_ (ih _ (by omega) (by omega) he))
   refine SW.aP ?_ ?_
   ·exact tQ
   ·exact lQ
theorem zU(s:List Nat)(h8:∀c∈s,c<256)(hl:s.length<big)(i:Nat)(hi:i≤s.length)(h:H):
  SCall Go.Proofs.Tryz.prog [] 36 [.str s,.int .i64 i] none h (.ret (.int .i64 (mU s (s.length+1) i:Nat))) none h:=by
 refine SCall.dZ rfl ?_ (by exact⟨trivial,trivial,trivial⟩) (by exact trivial) h
 refine SCall.listed (fn:=Go.Proofs.Tryz.f36) (by kernel_rfl) bFm (by kernel_rfl) (by kernel_rfl) (Nat.le_refl _) rfl (trivial) trivial ?_
 unfold bEg
 repeat(first|refine WR.seq ?_|refine WR.block ?_|refine WR.scope ?_|refine WR.skip ?_|refine WR.exit ?_|refine WR.aC rfl ?_|refine WR.aM rfl ?_|refine WR.m 1000 rfl ?_|refine WQ.aJ ?_|refine WR.aL aT (DW.m 1000 rfl ?_))
 refine WR.loop (WLr.weak (s:=SL.toS ⟨[(0,.v (.str s)),(1,.v (.int .i64 i))],[],none,1000,[],[]⟩) ?_ (aLr s h8 hl _ (fun st q=>q) (s.length+1) i hi (by omega) rfl))
 refine SW.aP ?_ ?_
 ·exact tQ
 ·exact lQ
end Go.VM
end
section
/- Tokens: one. -/
set_option maxRecDepth 100000
namespace Go.VM
open Go.RowKit
structure Tk where
 kind:Nat
 a:Nat
 e:Nat
 text:List Nat
def hC(t:Tk):List V:=[.int .i64 t.kind,.int .i64 t.a,.int .i64 t.e,.str t.text]
def zTk:Tk:=⟨0,0,0,[]⟩
def lZ:List (List Nat):=[[112,97,99,107,97,103,101],[105,109,112,111,114,116],[116,121,112,101],[115,116,114,117,99,116],[105,110,116,101,114,102,97,99,101],[102,117,110,99],[108,101,116],[105,102],[101,108,115,101],[102,111,114],[114,101,116,117,114,110],[110,101,119],[116,114,117,101],[102,97,108,115,101],[105,110,116],[98,111,111,108],[116,101,120,116]]
def aGt(w:List Nat):V×V:=(.str w,.bool true)
def tY:List (V×V):=lZ.map aGt
def aOs(s:List Nat):List (List Nat)→Bool
 |[]=>false
 |w::r=>match decide (s=w)with
  |true=>true
  |false=>aOs s r
def aJt(s:List Nat):Bool:=aOs s lZ
theorem aGb(s:List Nat):∀l:List (List Nat),kO (.str s) (l.map aGt)=some (match aOs s l with|true=>some (.bool true)|false=>none)
 |[]=>rfl
 |w::r=>by
  show(match gW (.str s) (.str w)with|some true=>some (some (V.bool true))|some false=>kO (.str s) (r.map aGt)|none=>none)=_
  rw[show gW (.str s) (.str w)=some (decide (s=w))from rfl]
  simp only[aOs]
  cases decide (s=w)
  ·exact aGb s r
  ·rfl
def aGd(s:List Nat)(i:Nat):Nat:=i+1+eH oA (s.drop (i+1))
def aTd(s:List Nat)(i:Nat):Bool:=(match s[aGd s i]? with|none=>true|some c=>!decide (c=34))||decide (eH oA (s.drop (i+1))>200)
def vW(s:List Nat)(i:Nat):Tk×Nat:=match aTd s i with
 |true=>(zTk,3)
 |false=>(⟨3,i,aGd s i+1,[]⟩,0)
def nC(r:Tk×Nat):V:=.tup [.agg (hC r.1),.int .i64 r.2]
theorem nW{D:Nat→Prop}(r:Tk×Nat):(nC r).In D:=⟨⟨trivial,trivial,trivial,trivial,trivial⟩,trivial,trivial⟩
theorem aTz{a b:Nat}(h:b≤a)(hb:a<big):IntKind.i64.wrap ((a:Int)-(b:Int))=((a-b:Nat):Int):=by
 unfold big at hb
 rw[wrap64 (by omega) (by omega)];omega
theorem aDx(s:List Nat)(hl:s.length<big)(i:Nat)(hi:i<s.length)(h:H):
  SCall Go.Proofs.Tryz.prog [] 72 [.str s,.int .i64 i] none h (.ret (nC (vW s i))) none h:=by
 refine SCall.dZ rfl ?_ (by exact⟨trivial,trivial,trivial⟩) (by exact nW _) h
 refine SCall.listed (fn:=Go.Proofs.Tryz.f72) (by kernel_rfl) bCw (by kernel_rfl) (by kernel_rfl) (Nat.le_refl _) rfl (trivial) (by exact nW _) ?_
 unfold bDr
 have w1:=jN s 86 oA (fun c hc h=>aHa c h) hl (i+1) (by omega)
 have c1:=iY oA (s.drop (i+1))
 rw[List.length_drop]at c1
 have hq:vW s i=match aTd s i with
  |true=>(zTk,3)
  |false=>(⟨3,i,aGd s i+1,[]⟩,0):=rfl
 have hb:aTd s i=((match s[aGd s i]? with|none=>true|some c=>!decide (c=34))||decide (eH oA (s.drop (i+1))>200)):=rfl
 unfold aGd at hb hq
 generalize hn:eH oA (s.drop (i+1))=n at w1 c1 hb hq
 refine WR.seq (WR.q rfl ?_)
 refine WR.seq (WR.m 3 rfl ?_)
 rw[bK (by unfold big at hl⊢;omega)]
 refine WQ.c rfl (w1 _) .base rfl (WQ.q rfl ?_)
 refine WR.seq (WR.seq (WR.m 4 rfl ?_))
 by_cases he:i+1+n=s.length
 ·rw[show decide (((i+1+n:Nat):Int)=(s.length:Int))=true from decide_eq_true (by omega)]
  rw[he,List.getElem?_eq_none (Nat.le_refl _),Bool.true_or]at hb
  rw[hq,hb]
  refine WQ.m 1000 rfl (WQ.aJ (WR.aC rfl ?_))
  repeat(first|refine WR.seq ?_|refine WR.block ?_|refine WR.scope ?_|refine WR.skip ?_|refine WR.exit ?_|refine WR.aC rfl ?_|refine WR.aM rfl ?_|refine WR.m 1000 rfl ?_|refine WQ.aJ ?_|refine WR.aL aT (DW.m 1000 rfl ?_))
  exact WR.e
 ·rw[show decide (((i+1+n:Nat):Int)=(s.length:Int))=false from decide_eq_false (by omega)]
  obtain⟨c,hc⟩:∃c,s[i+1+n]? =some c:=⟨_,List.getElem?_eq_getElem (by omega)⟩
  rw[hc]at hb
  dsimp only at hb
  refine WQ.m 3 rfl ?_
  refine WQ.bW rfl rfl rfl (oQ rfl rfl hc) rfl (WQ.m 1 rfl ?_)
  by_cases h34:c=34
  ·rw[show(!decide ((c:Int)=34))=false from by simp;omega]
   rw[show(!decide (c=34))=false from by simp[h34],Bool.false_or]at hb
   refine WQ.m 5 rfl ?_
   rw[aTz (by omega) (by omega)]
   refine WQ.m 1 rfl ?_
   rw[show IntKind.i64.wrap (((i+1+n-i:Nat):Int)-1)=(n:Int)from by
    unfold big at hl
    rw[wrap64 (by omega) (by omega)];omega]
   refine WQ.m 1 rfl ?_
   by_cases h200:n>200
   ·rw[show decide ((n:Int)>200)=true from decide_eq_true (by omega)]
    rw[decide_eq_true h200]at hb
    rw[hq,hb]
    refine WQ.m 1000 rfl (WQ.aJ (WR.aC rfl ?_))
    repeat(first|refine WR.seq ?_|refine WR.block ?_|refine WR.scope ?_|refine WR.skip ?_|refine WR.exit ?_|refine WR.aC rfl ?_|refine WR.aM rfl ?_|refine WR.m 1000 rfl ?_|refine WQ.aJ ?_|refine WR.aL aT (DW.m 1000 rfl ?_))
    exact WR.e
   ·rw[show decide ((n:Int)>200)=false from decide_eq_false (by omega)]
    rw[decide_eq_false h200]at hb
    rw[hq,hb]
    refine WQ.m 1000 rfl (WQ.aJ (WR.k rfl ?_))
    refine WR.seq (WR.m 3 rfl ?_)
    rw[bK (by omega)]
    refine WQ.q rfl ?_
    exact WR.e
  ·rw[show(!decide ((c:Int)=34))=true from by simp;omega]
   rw[show(!decide (c=34))=true from by simp[h34],Bool.true_or]at hb
   rw[hq,hb]
   refine WQ.m 1000 rfl (WQ.aJ (WR.aC rfl ?_))
   repeat(first|refine WR.seq ?_|refine WR.block ?_|refine WR.scope ?_|refine WR.skip ?_|refine WR.exit ?_|refine WR.aC rfl ?_|refine WR.aM rfl ?_|refine WR.m 1000 rfl ?_|refine WQ.aJ ?_|refine WR.aL aT (DW.m 1000 rfl ?_))
   exact WR.e
end Go.VM
end
section
/- Tokens: the one at a place. -/
set_option maxRecDepth 100000
namespace Go.VM
open Go.RowKit
def aTu:List Nat:=[40,41,123,125,91,93,44,59,46,61,60,43,45,42,33]
def aHp(n c:Nat):Bool:=decide (n>15)||(decide (c=48)&&decide (n>1))
def fW(s:List Nat)(i c:Nat):Tk×Nat:=
 match eR c with
 |true=>
  let n:=eH mW (s.drop i)
  (⟨match aJt ((s.drop i).take n)with|true=>5|false=>1,i,i+n,[]⟩,match decide (n>40)with|true=>4|false=>0)
 |false=>match dX c with
  |true=>
   let n:=eH dX (s.drop i)
   (⟨2,i,i+n,[]⟩,match aHp n c with|true=>2|false=>0)
  |false=>match decide (c=34)with
   |true=>vW s i
   |false=>match iX (s.drop i) [61,61]||iX (s.drop i) [38,38]with
    |true=>(⟨4,i,i+2,[]⟩,0)
    |false=>match decide (ibV c aTu<0)with
     |true=>(⟨4,i,i+1,[]⟩,1)
     |false=>(⟨4,i,i+1,[]⟩,0)
def wOl:OL:=[(1000,.map tY)]
theorem rC{D:Nat→Prop}:∀l:List (List Nat),pA D (l.map aGt)
 |[]=>trivial
 |_::l=>⟨⟨trivial,trivial⟩,rC l⟩
theorem aAq{D:Nat→Prop}:eT D wOl:=⟨rC lZ,trivial⟩
def aIo(k i e:Nat):LM:=[(8,[.int .i64 k,.int .i64 i,.int .i64 e,.str []]),(6,[.int .i64 0,.int .i64 0,.int .i64 0,.str []])]
def aWh(s:List Nat)(i c:Nat):TM:=[(0,.v (.str s)),(1,.v (.int .i64 i)),(2,.v (.map 1000)),(6,.l 6 0),(8,.l 8 0),(9,.v (.int .u8 c))]
theorem aXa{gl:List Nat}{nt nx:Nat}{tm:TM}{lc:LM}{x k:RX}{s:List Nat}(hx:rv gl tm x=some (.map 1000))(hk:rv gl tm k=some (.str s)):bV Go.Proofs.Tryz.prog gl nt tm ⟨nx,og wOl,lc⟩ (some (.lk x k false (.bool false) .str)) (.v (.bool (aJt s))):=by
 refine bE ?_
 simp only[dL,rl,hx,hk]
 show(match kO (.str s) (lZ.map aGt)with|some (some v)=>some (TV.v (nN false v true))|some none=>some (TV.v (nN false (.bool false) false))|none=>none)=_
 rw[aGb]
 show _=some (TV.v (.bool (aOs s lZ)))
 cases aOs s lZ<;>rfl
theorem nM{s:List Nat}{i c:Nat}(h:eR c=true):fW s i c=(⟨match aJt ((s.drop i).take (eH mW (s.drop i)))with|true=>5|false=>1,i,i+eH mW (s.drop i),[]⟩,match decide (eH mW (s.drop i)>40)with|true=>4|false=>0):=by
 unfold fW;rw[h]
theorem pP{s:List Nat}{i c:Nat}(h:eR c=false)(h2:dX c=true):fW s i c=(⟨2,i,i+eH dX (s.drop i),[]⟩,match aHp (eH dX (s.drop i)) c with|true=>2|false=>0):=by
 unfold fW;rw[h,h2]
theorem sP{s:List Nat}{i c:Nat}(h:eR c=false)(h2:dX c=false)(h3:c=34):fW s i c=vW s i:=by
 unfold fW;rw[h,h2,decide_eq_true h3]
theorem xL{s:List Nat}{i c:Nat}(h:eR c=false)(h2:dX c=false)(h3:¬c=34)(h4:(iX (s.drop i) [61,61]||iX (s.drop i) [38,38])=true):fW s i c=(⟨4,i,i+2,[]⟩,0):=by
 unfold fW;rw[h,h2,decide_eq_false h3,h4]
theorem wD{s:List Nat}{i c:Nat}(h:eR c=false)(h2:dX c=false)(h3:¬c=34)(h4:(iX (s.drop i) [61,61]||iX (s.drop i) [38,38])=false):fW s i c=(⟨4,i,i+1,[]⟩,match decide (ibV c aTu<0)with|true=>1|false=>0):=by
 unfold fW;rw[h,h2,decide_eq_false h3,h4]
 dsimp only
 cases decide (ibV c aTu<0)<;>rfl
theorem vX{QN:S→Prop}{QX:X→S→Prop}{r:Tk×Nat}{s:List Nat}{c k i e:Nat}(hr:r=(⟨k,i,e,[]⟩,0))(h1:∀st,mH Go.Proofs.Tryz.prog Go.Proofs.Tryz.f37 (nC r) 1001 wOl st→QX .ret st)(tm:TM)(ht:TellT tm (aIo k i e) (aWh s i c)):
  WR Go.Proofs.Tryz.prog [] ⟨Go.Proofs.Tryz.f37.ntmps,none,37⟩ oR (SL.toS ⟨tm,[],none,1001,wOl,aIo k i e⟩) QN QX:=by
 subst hr
 refine WR.weak (SW.aP ht (.cons rfl (.inl rfl) (.cons rfl (.inl rfl) .nil))) ?_
 unfold oR
 repeat(first|refine WR.seq ?_|refine WR.block ?_|refine WR.scope ?_|refine WR.skip ?_|refine WR.exit ?_|refine WR.aC rfl ?_|refine WR.aM rfl ?_|refine WR.m 1000 rfl ?_|refine WQ.aJ ?_|refine WR.aL aT (DW.m 1000 rfl ?_))
 exact WR.ret (h1 _ ⟨rfl,rfl,⟨_,rfl,VLe.refl _⟩,fun _ _=>rfl⟩)
theorem aHo(s:List Nat)(h8:∀c∈s,c<256)(hl:s.length<big)(i c:Nat)(hc:s[i]? =some c):
  SCall Go.Proofs.Tryz.prog [] 37 [.str s,.int .i64 i,.map 1000] none ⟨1001,og wOl,[]⟩ (.ret (nC (fW s i c))) none ⟨1001,og wOl,[]⟩:=by
 refine SCall.listed (fn:=Go.Proofs.Tryz.f37) (by kernel_rfl) bDq (by kernel_rfl) (by kernel_rfl) (Nat.le_refl _) rfl (aAq) (by exact nW _) ?_
 unfold bEa
 have hi:i<s.length:=(List.getElem?_eq_some_iff.1 hc).1
 have hc8:=h8 c (List.mem_of_getElem? hc)
 refine WR.seq (WR.q rfl ?_)
 refine WR.seq (WR.m 3 rfl ?_)
 rw[bK (by omega)]
 refine WQ.q rfl ?_
 refine WR.seq (WR.seq (WR.m 2 rfl ?_))
 refine WQ.bW rfl rfl rfl (oQ rfl rfl hc) rfl (WQ.q rfl ?_)
 refine WR.weak (s:=SL.toS ⟨aWh s i c,[],none,1001,wOl,aIo 4 i (i+1)⟩) ?_ ?_
 ·refine SW.aP ?_ ?_
  ·exact tQ
  ·exact lQ
 refine WR.block (WR.seq (WR.m 1 rfl ?_))
 refine WQ.c rfl (tN c _) .base rfl (WQ.q rfl ?_)
 cases hL:eR c with
 |true=>
  rw[nM hL]
  have w1:=jN s 70 mW (fun c hc h=>aOw c h) hl i (by omega)
  have c1:=iY mW (s.drop i)
  rw[List.length_drop]at c1
  generalize eH mW (s.drop i)=n at w1 c1⊢
  refine WR.aC rfl ?_
  refine WR.seq (WR.m 2 rfl ?_)
  refine WQ.c rfl (w1 _) .base rfl (WQ.q rfl ?_)
  refine WR.seq (WR.seq (WR.m 5 rfl ?_))
  refine WQ.bW rfl rfl rfl (uG rfl rfl rfl (by omega) (by omega)) rfl ?_
  rw[Nat.add_sub_cancel_left]
  refine WQ.bW rfl rfl rfl (aXa rfl rfl) rfl (WQ.aJ ?_)
  have fin:∀(k:Nat) (tm:TM),TellT tm (aIo k i (i+n)) (aWh s i c)→WR Go.Proofs.Tryz.prog [] ⟨Go.Proofs.Tryz.f37.ntmps,none,37⟩ aBi (SL.toS ⟨tm,[],none,1001,wOl,aIo k i (i+n)⟩)
    (fun s1=>WR Go.Proofs.Tryz.prog [] ⟨Go.Proofs.Tryz.f37.ntmps,none,37⟩ oR s1 (mH Go.Proofs.Tryz.prog Go.Proofs.Tryz.f37 (nC (⟨k,i,i+n,[]⟩,match decide (n>40)with|true=>4|false=>0)) 1001 wOl) (wQ (mH Go.Proofs.Tryz.prog Go.Proofs.Tryz.f37 (nC (⟨k,i,i+n,[]⟩,match decide (n>40)with|true=>4|false=>0)) 1001 wOl))) (tK 0 (fun s1=>WR Go.Proofs.Tryz.prog [] ⟨Go.Proofs.Tryz.f37.ntmps,none,37⟩ oR s1 (mH Go.Proofs.Tryz.prog Go.Proofs.Tryz.f37 (nC (⟨k,i,i+n,[]⟩,match decide (n>40)with|true=>4|false=>0)) 1001 wOl) (wQ (mH Go.Proofs.Tryz.prog Go.Proofs.Tryz.f37 (nC (⟨k,i,i+n,[]⟩,match decide (n>40)with|true=>4|false=>0)) 1001 wOl))) (wQ (mH Go.Proofs.Tryz.prog Go.Proofs.Tryz.f37 (nC (⟨k,i,i+n,[]⟩,match decide (n>40)with|true=>4|false=>0)) 1001 wOl))):=by
   intro k tm ht
   refine WR.weak (SW.aP ht (.cons rfl (.inl rfl) (.cons rfl (.inl rfl) .nil))) ?_
   unfold aBi
   refine WR.seq (WR.m 4 rfl ?_)
   rw[aTz (by omega) (by omega),Nat.add_sub_cancel_left]
   refine WQ.m 1 rfl (WQ.aJ ?_)
   by_cases h40:n>40
   ·rw[show decide ((n:Int)>40)=true from decide_eq_true (by omega),decide_eq_true h40]
    refine WR.aC rfl ?_
    repeat(first|refine WR.seq ?_|refine WR.block ?_|refine WR.scope ?_|refine WR.skip ?_|refine WR.exit ?_|refine WR.aC rfl ?_|refine WR.aM rfl ?_|refine WR.m 1000 rfl ?_|refine WQ.aJ ?_|refine WR.aL aT (DW.m 1000 rfl ?_))
    exact WR.e
   ·rw[show decide ((n:Int)>40)=false from decide_eq_false (by omega),decide_eq_false h40]
    refine WR.k rfl ?_
    refine vX (s:=s) (c:=c) rfl (fun st q=>q) _ ?_
    exact tQ
  cases hw:aJt ((s.drop i).take n)with
  |true=>
   refine WR.aC rfl (WR.q rfl ?_)
   refine fin 5 _ ?_
   exact tQ
  |false=>
   refine WR.k rfl ?_
   refine fin 1 _ ?_
   exact tQ
 |false=>
 refine WR.aM rfl ?_
 refine WR.seq (WR.m 1 rfl ?_)
 refine WQ.c rfl (qB c _) .base rfl (WQ.q rfl ?_)
 cases hD:dX c with
 |true=>
  rw[pP hL hD]
  have w1:=jN s 71 dX (fun c hc h=>qB c h) hl i (by omega)
  have c1:=iY dX (s.drop i)
  rw[List.length_drop]at c1
  generalize eH dX (s.drop i)=n at w1 c1⊢
  refine WR.aC rfl ?_
  refine WR.seq (WR.m 2 rfl ?_)
  refine WQ.c rfl (w1 _) .base rfl (WQ.q rfl ?_)
  refine WR.seq (WR.m 4 rfl ?_)
  rw[aTz (by omega) (by omega),Nat.add_sub_cancel_left]
  refine WQ.q rfl ?_
  refine WR.seq (WR.m 2 rfl ?_)
  unfold aHp
  by_cases h15:n>15
  ·rw[show decide ((n:Int)>15)=true from decide_eq_true (by omega),decide_eq_true h15,Bool.true_or]
   refine WQ.m 1000 rfl (WQ.aJ (WR.aC rfl ?_))
   repeat(first|refine WR.seq ?_|refine WR.block ?_|refine WR.scope ?_|refine WR.skip ?_|refine WR.exit ?_|refine WR.aC rfl ?_|refine WR.aM rfl ?_|refine WR.m 1000 rfl ?_|refine WQ.aJ ?_|refine WR.aL aT (DW.m 1000 rfl ?_))
   exact WR.e
  rw[show decide ((n:Int)>15)=false from decide_eq_false (by omega),decide_eq_false h15,Bool.false_or]
  refine WQ.m 3 rfl ?_
  by_cases h48:c=48
  ·rw[show decide ((c:Int)=48)=true from decide_eq_true (by omega),decide_eq_true h48,Bool.true_and]
   refine WQ.m 3 rfl ?_
   by_cases h1:n>1
   ·rw[show decide ((n:Int)>1)=true from decide_eq_true (by omega),decide_eq_true h1]
    refine WQ.m 1000 rfl (WQ.aJ (WR.aC rfl ?_))
    repeat(first|refine WR.seq ?_|refine WR.block ?_|refine WR.scope ?_|refine WR.skip ?_|refine WR.exit ?_|refine WR.aC rfl ?_|refine WR.aM rfl ?_|refine WR.m 1000 rfl ?_|refine WQ.aJ ?_|refine WR.aL aT (DW.m 1000 rfl ?_))
    exact WR.e
   ·rw[show decide ((n:Int)>1)=false from decide_eq_false (by omega),decide_eq_false h1]
    refine WQ.m 1000 rfl (WQ.aJ (WR.k rfl ?_))
    refine vX (s:=s) (c:=c) (k:=2) (i:=i) (e:=i+n) rfl (fun st q=>q) _ ?_
    exact tQ
  ·rw[show decide ((c:Int)=48)=false from decide_eq_false (by omega),decide_eq_false h48,Bool.false_and]
   refine WQ.m 1000 rfl (WQ.aJ (WR.k rfl ?_))
   refine vX (s:=s) (c:=c) (k:=2) (i:=i) (e:=i+n) rfl (fun st q=>q) _ ?_
   exact tQ
 |false=>
 refine WR.aM rfl ?_
 refine WR.seq (WR.m 2 rfl ?_)
 by_cases h34:c=34
 ·rw[sP hL hD h34,show decide ((c:Int)=34)=true from decide_eq_true (by omega)]
  have qs:=aDx s hl i hi
  generalize vW s i=q at qs⊢
  refine WQ.m 1000 rfl (WQ.aJ (WR.aC rfl ?_))
  refine WR.seq (WR.m 2 rfl ?_)
  refine WQ.c rfl (qs _) .base rfl (WQ.q rfl ?_)
  exact WR.e
 rw[show decide ((c:Int)=34)=false from decide_eq_false (by omega)]
 refine WQ.m 1000 rfl (WQ.aJ (WR.aM rfl ?_))
 have p1:=vU (s.drop i) [61,61]
 have p2:=vU (s.drop i) [38,38]
 have two:(iX (s.drop i) [61,61]||iX (s.drop i) [38,38])=true→∀tm:TM,TellT tm (aIo 4 i (i+1)) (aWh s i c)→∀QN:S→Prop,(∀s1,WR Go.Proofs.Tryz.prog [] ⟨Go.Proofs.Tryz.f37.ntmps,none,37⟩ oR s1 (mH Go.Proofs.Tryz.prog Go.Proofs.Tryz.f37 (nC (fW s i c)) 1001 wOl) (wQ (mH Go.Proofs.Tryz.prog Go.Proofs.Tryz.f37 (nC (fW s i c)) 1001 wOl))→QN s1)→∀QX,
   WR Go.Proofs.Tryz.prog [] ⟨Go.Proofs.Tryz.f37.ntmps,none,37⟩ (.reg [.op (.fa (.t 8) 2) 82,.op (.ld (.t 82) none) 83,.op (.bin .add (.t 83) (.c (.int .i64 1))) 84,.op (.fa (.t 8) 2) 85,⟨0,0,some (.st (.t 85) (.t 84) 1),[],none,none⟩]) (SL.toS ⟨tm,[],none,1001,wOl,aIo 4 i (i+1)⟩) QN QX:=by
  intro hp tm ht QN hq QX
  rw[xL hL hD h34 hp]at hq
  refine WR.weak (SW.aP ht (.cons rfl (.inl rfl) (.cons rfl (.inl rfl) .nil))) ?_
  refine WR.m 3 rfl ?_
  rw[bK (by omega)]
  refine WQ.q rfl ?_
  refine hq _ (vX (s:=s) (c:=c) (k:=4) (i:=i) (e:=i+2) rfl (fun st q=>q) _ ?_)
  exact tQ
 refine WR.seq (WR.m 2 rfl ?_)
 refine WQ.bW rfl rfl rfl (vM rfl rfl (by omega)) rfl ?_
 refine WQ.c rfl (p1 _) .base rfl ?_
 cases hp1:iX (s.drop i) [61,61]with
 |true=>
  refine WQ.m 1000 rfl (WQ.aJ (WR.aC rfl ?_))
  refine two (by rw[hp1,Bool.true_or]) _ ?_ _ (fun s1 q=>q) _
  exact tQ
 |false=>
 refine WQ.m 3 rfl ?_
 refine WQ.bW rfl rfl rfl (vM rfl rfl (by omega)) rfl ?_
 refine WQ.c rfl (p2 _) .base rfl ?_
 cases hp2:iX (s.drop i) [38,38]with
 |true=>
  refine WQ.m 1000 rfl (WQ.aJ (WR.aC rfl ?_))
  refine two (by rw[hp1,hp2,Bool.false_or]) _ ?_ _ (fun s1 q=>q) _
  exact tQ
 |false=>
 rw[wD hL hD h34 (by rw[hp1,hp2,Bool.false_or])]
 refine WQ.m 1000 rfl (WQ.aJ (WR.aM rfl ?_))
 refine WR.seq (WR.m 1 rfl ?_)
 refine WQ.c rfl (aJj aTu c hc8 _) .base rfl (WQ.m 1 rfl ?_)
 cases hz:decide (ibV c aTu<0)with
 |true=>
  refine WQ.m 1000 rfl (WQ.aJ (WR.aC rfl ?_))
  repeat(first|refine WR.seq ?_|refine WR.block ?_|refine WR.scope ?_|refine WR.skip ?_|refine WR.exit ?_|refine WR.aC rfl ?_|refine WR.aM rfl ?_|refine WR.m 1000 rfl ?_|refine WQ.aJ ?_|refine WR.aL aT (DW.m 1000 rfl ?_))
  exact WR.e
 |false=>
  refine WQ.m 1000 rfl (WQ.aJ (WR.k rfl ?_))
  refine vX (s:=s) (c:=c) (k:=4) (i:=i) (e:=i+1) rfl (fun st q=>q) _ ?_
  exact tQ
end Go.VM
end
