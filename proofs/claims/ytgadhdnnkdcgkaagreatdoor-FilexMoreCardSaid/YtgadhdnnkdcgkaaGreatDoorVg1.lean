/- laid for this seat: VlLexA VlLexB VlLexC VlLexD -/
import Derived.Test.YtgadhdnnkdcgkaaGreatDoorVg0
import Derived.Test.YtgadhdnnkdcgkaaGreatDoorVmR
import Derived.Test.YtgadhdnnkdcgkaaGreatDoorVmT
set_option linter.unusedVariables false
set_option linter.unusedSimpArgs false
section
/- Tokens: bytes. -/
set_option maxRecDepth 100000
namespace Go.VM
open Go.RowKit
theorem aZ:Go.Proofs.Tryz.prog.follows .mixedOrders=true:=by kernel_rfl
def aPo(c:Nat):Int:=IntKind.u8.wrap (BitVec.ofInt 8 c|||BitVec.ofInt 8 32).toNat
def fA(c:Nat):Bool:=(decide (aPo c≥97)&&decide (aPo c≤122))||decide ((c:Int)=95)
def eE(c:Nat):Bool:=decide ((c:Int)≥48)&&decide ((c:Int)≤57)
def lT(c:Nat):Bool:=fA c||eE c
def dG(c:Nat):Bool:=(decide ((c:Int)≥32)&&decide ((c:Int)≤126))&&!decide ((c:Int)=34)
def cO(c:Nat):Bool:=!decide ((c:Int)=10)
theorem wC(c:Nat)(h:H):SCall Go.Proofs.Tryz.prog [] 69 [.int .u8 c] none h (.ret (.bool (fA c))) none h:=by
 refine SCall.eG rfl ?_ (by exact⟨trivial,trivial⟩) (by exact trivial) h
 refine SCall.listed (fn:=Go.Proofs.Tryz.f69) (by kernel_rfl) bKf (by kernel_rfl) (by kernel_rfl) (Nat.le_refl _) rfl (trivial) trivial ?_
 unfold bKw
 refine WR.seq (WR.q rfl ?_)
 refine WR.seq (WR.m 3 rfl ?_)
 unfold fA
 show WQ Go.Proofs.Tryz.prog [] _ _ (SL.toS ⟨(5,.v (.bool (decide (aPo c≥97))))::_,_,_,_,_,_⟩) _ _
 cases decide (aPo c≥97)
 ·refine WQ.m 8 rfl ?_
  rw[Bool.false_and,Bool.false_or]
  refine WQ.q rfl ?_
  exact WR.e
 ·refine WQ.m 4 rfl ?_
  rw[Bool.true_and]
  show WQ Go.Proofs.Tryz.prog [] _ _ (SL.toS ⟨(9,.v (.bool (decide (aPo c≤122))))::_,_,_,_,_,_⟩) _ _
  cases decide (aPo c≤122)
  ·rw[Bool.false_or]
   refine WQ.q rfl ?_
   exact WR.e
  ·rw[Bool.true_or]
   refine WQ.q rfl ?_
   exact WR.e
theorem rP(c:Nat)(h:H):SCall Go.Proofs.Tryz.prog [] 71 [.int .u8 c] none h (.ret (.bool (eE c))) none h:=by
 refine SCall.eG rfl ?_ (by exact⟨trivial,trivial⟩) (by exact trivial) h
 refine SCall.listed (fn:=Go.Proofs.Tryz.f71) (by kernel_rfl) bIz (by kernel_rfl) (by kernel_rfl) (Nat.le_refl _) rfl (trivial) trivial ?_
 unfold bKy
 refine WR.seq (WR.q rfl ?_)
 refine WR.seq (WR.m 2 rfl ?_)
 unfold eE
 cases decide ((c:Int)≥48)
 ·rw[Bool.false_and]
  refine WQ.q rfl ?_
  exact WR.e
 ·rw[Bool.true_and]
  refine WQ.q rfl ?_
  exact WR.e
theorem aRu(c:Nat)(h:H):SCall Go.Proofs.Tryz.prog [] 70 [.int .u8 c] none h (.ret (.bool (lT c))) none h:=by
 refine SCall.eG rfl ?_ (by exact⟨trivial,trivial⟩) (by exact trivial) h
 refine SCall.listed (fn:=Go.Proofs.Tryz.f70) (by kernel_rfl) bJn (by kernel_rfl) (by kernel_rfl) (Nat.le_refl _) rfl (trivial) trivial ?_
 unfold bMd
 refine WR.seq (WR.q rfl ?_)
 refine WR.seq (WR.m 1 rfl ?_)
 refine WQ.c rfl (wC c _) .base rfl ?_
 unfold lT
 cases fA c
 ·rw[Bool.false_or]
  refine WQ.m 2 rfl ?_
  refine WQ.c rfl (rP c _) .base rfl (WQ.q rfl ?_)
  exact WR.e
 ·rw[Bool.true_or]
  refine WQ.q rfl ?_
  exact WR.e
theorem aTh(c:Nat)(h:H):SCall Go.Proofs.Tryz.prog [] 68 [.int .u8 c] none h (.ret (.bool (cO c))) none h:=by
 refine SCall.eG rfl ?_ (by exact⟨trivial,trivial⟩) (by exact trivial) h
 refine SCall.listed (fn:=Go.Proofs.Tryz.f68) (by kernel_rfl) bIs (by kernel_rfl) (by kernel_rfl) (Nat.le_refl _) rfl (trivial) trivial ?_
 unfold bLg
 repeat(first|refine WR.seq ?_|refine WR.block ?_|refine WR.scope ?_|refine WR.skip ?_|refine WR.exit ?_|refine WR.aD rfl ?_|refine WR.aO rfl ?_|refine WR.m 1000 rfl ?_|refine WQ.aK ?_|refine WR.aN aZ (DW.m 1000 rfl ?_))
 exact WR.e
theorem aLx(c:Nat)(h:H):SCall Go.Proofs.Tryz.prog [] 86 [.int .u8 c] none h (.ret (.bool (dG c))) none h:=by
 refine SCall.eG rfl ?_ (by exact⟨trivial,trivial⟩) (by exact trivial) h
 refine SCall.listed (fn:=Go.Proofs.Tryz.f86) (by kernel_rfl) bLo (by kernel_rfl) (by kernel_rfl) (Nat.le_refl _) rfl (trivial) trivial ?_
 unfold bLc
 refine WR.seq (WR.q rfl ?_)
 refine WR.seq (WR.m 2 rfl ?_)
 unfold dG
 cases decide ((c:Int)≥32)
 ·rw[Bool.false_and,Bool.false_and]
  refine WQ.q rfl ?_
  exact WR.e
 ·rw[Bool.true_and]
  refine WQ.m 3 rfl ?_
  cases decide ((c:Int)≤126)
  ·rw[Bool.false_and]
   refine WQ.q rfl ?_
   exact WR.e
  ·rw[Bool.true_and]
   refine WQ.q rfl ?_
   exact WR.e
theorem bLs:∃fn,(Go.Proofs.Tryz.prog).funcs[96]? =some fn∧fn.body=none∧fn.name= "internal/bytealg.IndexByteString" ∧Extern.findNext fn=none∧Extern.find fn=some Extern.BytealgIndexByte.indexByte:=
 ⟨Go.Proofs.Tryz.f96,by kernel_rfl,by kernel_rfl,by kernel_rfl,by kernel_rfl,by kernel_rfl⟩
theorem aZh(bs:List Nat)(c:Nat)(hc:c<256)(h:H):SCall Go.Proofs.Tryz.prog [] 84 [.str bs,.int .u8 c] none h (.ret (.int .i64 (ibV c bs))) none h:=by
 refine SCall.eG rfl ?_ (by exact⟨trivial,trivial,trivial⟩) (by exact trivial) h
 refine SCall.listed (fn:=Go.Proofs.Tryz.f84) (by kernel_rfl) bIm (by kernel_rfl) (by kernel_rfl) (Nat.le_refl _) rfl (trivial) trivial ?_
 unfold bMj
 obtain⟨fn,h1,h2,h3,h4,h5⟩:=bLs
 refine WR.seq (WR.q rfl ?_)
 refine WR.seq (WR.m 2 rfl ?_)
 refine WQ.eC rfl (aYy h1 h2 h3 h4 h5 rfl rfl hc) rfl (WQ.q rfl ?_)
 exact WR.e
theorem aOe(bs:List Nat)(c:Nat)(hc:c<256)(h:H):SCall Go.Proofs.Tryz.prog [] 66 [.str bs,.int .u8 c] none h (.ret (.int .i64 (ibV c bs))) none h:=by
 refine SCall.eG rfl ?_ (by exact⟨trivial,trivial,trivial⟩) (by exact trivial) h
 refine SCall.listed (fn:=Go.Proofs.Tryz.f66) (by kernel_rfl) bLd (by kernel_rfl) (by kernel_rfl) (Nat.le_refl _) rfl (trivial) trivial ?_
 unfold bKo
 refine WR.seq (WR.q rfl ?_)
 refine WR.seq (WR.m 2 rfl ?_)
 refine WQ.c rfl (aZh bs c hc _) .base rfl (WQ.q rfl ?_)
 exact WR.e
def aI(c:Nat):Bool:=decide (ibV c [32,9,10,13]≥0)
theorem aLf(c:Nat)(hc:c<256)(h:H):SCall Go.Proofs.Tryz.prog [] 65 [.int .u8 c] none h (.ret (.bool (aI c))) none h:=by
 refine SCall.eG rfl ?_ (by exact⟨trivial,trivial⟩) (by exact trivial) h
 refine SCall.listed (fn:=Go.Proofs.Tryz.f65) (by kernel_rfl) bLq (by kernel_rfl) (by kernel_rfl) (Nat.le_refl _) rfl (trivial) trivial ?_
 unfold bIf
 refine WR.seq (WR.q rfl ?_)
 refine WR.seq (WR.m 1 rfl ?_)
 refine WQ.c rfl (aOe [32,9,10,13] c hc _) .base rfl (WQ.q rfl ?_)
 exact WR.e
def eZ(s p:List Nat):Bool:=decide (p.length≤s.length)&&decide (s.take p.length=p)
theorem aRn(s p:List Nat)(h:H):SCall Go.Proofs.Tryz.prog [] 85 [.str s,.str p] none h (.ret (.bool (eZ s p))) none h:=by
 refine SCall.eG rfl ?_ (by exact⟨trivial,trivial,trivial⟩) (by exact trivial) h
 refine SCall.listed (fn:=Go.Proofs.Tryz.f85) (by kernel_rfl) bJm (by kernel_rfl) (by kernel_rfl) (Nat.le_refl _) rfl (trivial) trivial ?_
 unfold bMq
 refine WR.seq (WR.q rfl ?_)
 refine WR.seq (WR.m 5 rfl ?_)
 unfold eZ
 by_cases hl:p.length≤s.length
 ·rw[show decide ((s.length:Int)≥(p.length:Int))=true from decide_eq_true (by omega),decide_eq_true hl,Bool.true_and]
  refine WQ.m 4 rfl ?_
  refine WQ.cE rfl rfl rfl (aZb rfl rfl hl) rfl (WQ.q rfl ?_)
  exact WR.e
 ·rw[show decide ((s.length:Int)≥(p.length:Int))=false from decide_eq_false (by omega),decide_eq_false hl,Bool.false_and]
  refine WQ.q rfl ?_
  exact WR.e
theorem yP(s p:List Nat)(h:H):SCall Go.Proofs.Tryz.prog [] 67 [.str s,.str p] none h (.ret (.bool (eZ s p))) none h:=by
 refine SCall.eG rfl ?_ (by exact⟨trivial,trivial,trivial⟩) (by exact trivial) h
 refine SCall.listed (fn:=Go.Proofs.Tryz.f67) (by kernel_rfl) bIr (by kernel_rfl) (by kernel_rfl) (Nat.le_refl _) rfl (trivial) trivial ?_
 unfold bKb
 refine WR.seq (WR.q rfl ?_)
 refine WR.seq (WR.m 2 rfl ?_)
 refine WQ.c rfl (aRn s p _) .base rfl (WQ.q rfl ?_)
 exact WR.e
end Go.VM
end
section
/- Tokens: runs of bytes, layout. -/
set_option maxRecDepth 100000
namespace Go.VM
open Go.RowKit
def big:Nat:=4611686018427387904
theorem bJ{i:Nat}(h:i<big):IntKind.i64.wrap ((i:Int)+1)=((i+1:Nat):Int):=by
 unfold big at h
 rw[wrap64 (by omega) (by omega)];rfl
theorem uA{P:Program}{gl:List Nat}{nt:Nat}{tm:TM}{h:H}{x i:RX}{k:IntKind}{s:List Nat}{n b:Nat}(hx:rv gl tm x=some (.str s))(hi:rv gl tm i=some (.int k n))(hg:s[n]? =some b):cB P gl nt tm h (some (.idxs x i)) (.v (.int .u8 b)):=by
 refine bE ?_
 simp only[eK,rl,hx,hi,Option.bind_some,hH]
 have:¬((n:Int)<0):=by omega
 simp[this,hg]
theorem aAi{P:Program}{gl:List Nat}{nt:Nat}{tm:TM}{h:H}{x lo:RX}{k:IntKind}{s:List Nat}{a:Nat}(hx:rv gl tm x=some (.str s))(hlo:rv gl tm lo=some (.int k a))(h1:a≤s.length):
  cB P gl nt tm h (some (.slc .str x (some lo) none none)) (.v (.str (s.drop a))):=by
 refine bE ?_
 have e1:rvo gl tm (some lo)=some (some (.int k a)):=by simp[rvo,hlo]
 have e3:rvo gl tm none=some none:=rfl
 simp only[eK,rl,hx,e1,e3]
 simp[pC,nat?,hH,h1,List.take_of_length_le]
def aP(p:Nat→Bool):List Nat→Nat
 |[]=>0
 |c::r=>match p c with
  |true=>aP p r+1
  |false=>0
theorem cT(p:Nat→Bool):∀l:List Nat,aP p l≤l.length
 |[]=>Nat.le_refl _
 |c::r=>by
  simp only[aP]
  split
  ·have:=cT p r;simp;omega
  ·simp
def bFu(s:List Nat)(f i:Nat):TM:=[(0,.v (.str s)),(1,.v (.int .i64 i)),(2,.v (.fn (.func f) [] []))]
theorem aJv{QN:S→Prop}{QX:X→S→Prop}(s:List Nat)(f:Nat)(p:Nat→Bool)(hf:∀c∈s,∀h:H,SCall Go.Proofs.Tryz.prog [] f [.int .u8 c] none h (.ret (.bool (p c))) none h)(hl:s.length<big)(e:Nat)
  (h0:∀tm,TellT tm [] (bFu s f e)→QX (.exit 0) (SL.toS ⟨tm,[],none,1000,[],[]⟩)):∀(m i:Nat),i+m=s.length→e=i+aP p (s.drop i)→
  WLr Go.Proofs.Tryz.prog [] ⟨Go.Proofs.Tryz.f64.ntmps,none,64⟩ xG (SL.toS ⟨bFu s f i,[],none,1000,[],[]⟩) QN QX:=by
 intro m
 induction m with
 |zero=>
  intro i hi he
  rw[List.drop_eq_nil_iff.2 (by omega)]at he
  have he:e=i:=he
  subst he
  unfold xG
  refine WLr.of ?_
  refine WR.seq (WR.seq (WR.m 4 rfl ?_))
  rw[show decide ((e:Int)<(s.length:Int))=false from decide_eq_false (by omega)]
  refine WQ.m 1000 rfl (WQ.aK (WR.aO rfl (WR.exit (h0 _ ?_))))
  exact tQ
 |succ m ih=>
  intro i hi he
  obtain⟨c,hc,hd⟩:∃c,s[i]? =some c∧s.drop i=c::s.drop (i+1):=⟨s[i],List.getElem?_eq_getElem (by omega),List.drop_eq_getElem_cons (by omega)⟩
  have hfc:=hf c (List.mem_of_getElem? hc)
  rw[hd,aP]at he
  unfold xG
  refine WLr.of ?_
  refine WR.seq (WR.seq (WR.m 4 rfl ?_))
  rw[show decide ((i:Int)<(s.length:Int))=true from decide_eq_true (by omega)]
  refine WQ.m 4 rfl ?_
  refine WQ.cE rfl rfl rfl (uA rfl rfl hc) rfl ?_
  refine WQ.c rfl (hfc _) .base rfl ?_
  cases hp:p c
  ·rw[hp]at he
   have he:e=i:=he
   subst he
   refine WQ.m 1000 rfl (WQ.aK (WR.aO rfl (WR.exit (h0 _ ?_))))
   exact tQ
  ·rw[hp]at he
   have he:e=i+1+aP p (s.drop (i+1)):=by simp only at he;omega
   refine WQ.m 1000 rfl (WQ.aK (WR.aD rfl (WR.skip ?_)))
   repeat(first|refine WR.seq ?_|refine WR.block ?_|refine WR.scope ?_|refine WR.skip ?_|refine WR.exit ?_|refine WR.aD rfl ?_|refine WR.aO rfl ?_|refine WR.m 1000 rfl ?_|refine WQ.aK ?_|refine WR.aN aZ (DW.m 1000 rfl ?_))
   rw[bJ (by unfold big at hl⊢;omega)]
   refine WIr.again (WLr.weak ?_ (ih (i+1) (by omega) he))
   refine SW.aQ ?_ ?_
   ·exact tQ
   ·exact lQ
theorem kR(s:List Nat)(f:Nat)(p:Nat→Bool)(hf:∀c∈s,∀h:H,SCall Go.Proofs.Tryz.prog [] f [.int .u8 c] none h (.ret (.bool (p c))) none h)(hl:s.length<big)(i:Nat)(hi:i≤s.length)(h:H):
  SCall Go.Proofs.Tryz.prog [] 64 [.str s,.int .i64 i,.fn (.func f) [] []] none h (.ret (.int .i64 (i+aP p (s.drop i):Nat))) none h:=by
 refine SCall.eG rfl ?_ (by exact⟨trivial,trivial,⟨trivial,trivial,trivial⟩,trivial⟩) (by exact trivial) h
 refine SCall.listed (fn:=Go.Proofs.Tryz.f64) (by kernel_rfl) bLj (by kernel_rfl) (by kernel_rfl) (Nat.le_refl _) rfl (trivial) trivial ?_
 unfold bLb
 repeat(first|refine WR.seq ?_|refine WR.block ?_|refine WR.scope ?_|refine WR.skip ?_|refine WR.exit ?_|refine WR.aD rfl ?_|refine WR.aO rfl ?_|refine WR.m 1000 rfl ?_|refine WQ.aK ?_|refine WR.aN aZ (DW.m 1000 rfl ?_))
 refine WR.loop (WLr.weak (s:=SL.toS ⟨bFu s f i,[],none,1000,[],[]⟩) ?_ (aJv s f p hf hl _ (fun tm ht=>?_) (s.length-i) i (by omega) rfl))
 ·refine SW.aQ ?_ ?_
  ·exact tQ
  ·exact lQ
 ·refine WR.weak (SW.aQ ht .nil) ?_
  unfold aOy
  repeat(first|refine WR.seq ?_|refine WR.block ?_|refine WR.scope ?_|refine WR.skip ?_|refine WR.exit ?_|refine WR.aD rfl ?_|refine WR.aO rfl ?_|refine WR.m 1000 rfl ?_|refine WQ.aK ?_|refine WR.aN aZ (DW.m 1000 rfl ?_))
  exact WR.e
def dP(s:List Nat):Nat→Nat→Nat
 |0,i=>i
 |n+1,i=>if eZ (s.drop (i+aP aI (s.drop i))) [47,47]=true then dP s n (i+aP aI (s.drop i)+aP cO (s.drop (i+aP aI (s.drop i))))else i+aP aI (s.drop i)
theorem aNz{s p:List Nat}(h:eZ s p=true):p.length≤s.length:=by
 unfold eZ at h
 simp only[Bool.and_eq_true,decide_eq_true_eq]at h
 exact h.1
theorem uG{s:List Nat}(h:eZ s [47,47]=true):2≤aP cO s:=by
 unfold eZ at h
 simp only[Bool.and_eq_true,decide_eq_true_eq]at h
 obtain⟨h1,h2⟩:=h
 cases s with
 |nil=>simp at h1
 |cons a s=>
  cases s with
  |nil=>simp at h1
  |cons b s=>
   simp at h2
   obtain⟨rfl,rfl⟩:=h2
   show(match cO 47 with|true=>(match cO 47 with|true=>aP cO s+1|false=>0)+1|false=>0)≥2
   rw[show cO 47=true from rfl]
   show aP cO s+1+1≥2
   omega
theorem aRv{QN:S→Prop}{QX:X→S→Prop}(s:List Nat)(h8:∀c∈s,c<256)(hl:s.length<big)(e:Nat)
  (h1:∀st,mH Go.Proofs.Tryz.prog Go.Proofs.Tryz.f36 (.int .i64 e) 1000 [] st→QX .ret st):∀(n i:Nat),i≤s.length→s.length<i+n→e=dP s n i→
  WLr Go.Proofs.Tryz.prog [] ⟨Go.Proofs.Tryz.f36.ntmps,none,36⟩ aFk (SL.toS ⟨[(0,.v (.str s)),(1,.v (.int .i64 i))],[],none,1000,[],[]⟩) QN QX:=by
 intro n
 induction n with
 |zero=>intro i hi hn;omega
 |succ n ih=>
  intro i hi hn he
  have w1:=kR s 65 aI (fun c hc h=>aLf c (h8 c hc) h) hl i hi
  have c1:=cT aI (s.drop i)
  rw[List.length_drop]at c1
  rw[dP]at he
  generalize hj:i+aP aI (s.drop i)=j at w1 he
  have hjl:j≤s.length:=by omega
  have hp:=yP (s.drop j) [47,47]
  unfold aFk
  refine WLr.of ?_
  refine WR.block ?_
  refine WR.seq (WR.m 2 rfl ?_)
  refine WQ.c rfl (w1 _) .base rfl (WQ.q rfl ?_)
  refine WR.seq (WR.seq (WR.m 2 rfl ?_))
  refine WQ.cE rfl rfl rfl (aAi rfl rfl hjl) rfl ?_
  refine WQ.c rfl (hp _) .base rfl ?_
  cases hb:eZ (s.drop j) [47,47]
  ·rw[if_neg (by rw[hb];decide)]at he
   subst he
   refine WQ.m 1000 rfl (WQ.aK (WR.aD rfl ?_))
   refine WR.seq (WR.q rfl ?_)
   exact WR.ret (h1 _ ⟨rfl,rfl,⟨_,rfl,VLe.refl _⟩,fun _ _=>rfl⟩)
  ·rw[if_pos hb]at he
   have w2:=kR s 68 cO (fun c hc h=>aTh c h) hl j hjl
   have c2:=cT cO (s.drop j)
   have c3:=uG hb
   rw[List.length_drop]at c2
   refine WQ.m 1000 rfl (WQ.aK (WR.k rfl ?_))
   refine WR.m 2 rfl ?_
   refine WQ.c rfl (w2 _) .base rfl (WQ.q rfl ?_)
   refine WIr.again (WLr.weak ?_ (ih _ (by omega) (by omega) he))
   refine SW.aQ ?_ ?_
   ·exact tQ
   ·exact lQ
theorem aCe(s:List Nat)(h8:∀c∈s,c<256)(hl:s.length<big)(i:Nat)(hi:i≤s.length)(h:H):
  SCall Go.Proofs.Tryz.prog [] 36 [.str s,.int .i64 i] none h (.ret (.int .i64 (dP s (s.length+1) i:Nat))) none h:=by
 refine SCall.eG rfl ?_ (by exact⟨trivial,trivial,trivial⟩) (by exact trivial) h
 refine SCall.listed (fn:=Go.Proofs.Tryz.f36) (by kernel_rfl) bKt (by kernel_rfl) (by kernel_rfl) (Nat.le_refl _) rfl (trivial) trivial ?_
 unfold bMf
 repeat(first|refine WR.seq ?_|refine WR.block ?_|refine WR.scope ?_|refine WR.skip ?_|refine WR.exit ?_|refine WR.aD rfl ?_|refine WR.aO rfl ?_|refine WR.m 1000 rfl ?_|refine WQ.aK ?_|refine WR.aN aZ (DW.m 1000 rfl ?_))
 refine WR.loop (WLr.weak (s:=SL.toS ⟨[(0,.v (.str s)),(1,.v (.int .i64 i))],[],none,1000,[],[]⟩) ?_ (aRv s h8 hl _ (fun st q=>q) (s.length+1) i hi (by omega) rfl))
 refine SW.aQ ?_ ?_
 ·exact tQ
 ·exact lQ
end Go.VM
end
section
/- Tokens: one. -/
set_option maxRecDepth 100000
namespace Go.VM
open Go.RowKit
structure Tk where
 kind:Nat
 a:Nat
 e:Nat
 text:List Nat
def jG(t:Tk):List V:=[.int .i64 t.kind,.int .i64 t.a,.int .i64 t.e,.str t.text]
def zTk:Tk:=⟨0,0,0,[]⟩
def nJ:List (List Nat):=[[112,97,99,107,97,103,101],[105,109,112,111,114,116],[116,121,112,101],[115,116,114,117,99,116],[105,110,116,101,114,102,97,99,101],[102,117,110,99],[108,101,116],[105,102],[101,108,115,101],[102,111,114],[114,101,116,117,114,110],[110,101,119],[116,114,117,101],[102,97,108,115,101],[105,110,116],[98,111,111,108],[116,101,120,116]]
def aKh(w:List Nat):V×V:=(.str w,.bool true)
def wM:List (V×V):=nJ.map aKh
def aQz(s:List Nat):List (List Nat)→Bool
 |[]=>false
 |w::r=>match decide (s=w)with
  |true=>true
  |false=>aQz s r
def aNf(s:List Nat):Bool:=aQz s nJ
theorem aGz(s:List Nat):∀l:List (List Nat),mB (.str s) (l.map aKh)=some (match aQz s l with|true=>some (.bool true)|false=>none)
 |[]=>rfl
 |w::r=>by
  show(match jC (.str s) (.str w)with|some true=>some (some (V.bool true))|some false=>mB (.str s) (r.map aKh)|none=>none)=_
  rw[show jC (.str s) (.str w)=some (decide (s=w))from rfl]
  simp only[aQz]
  cases decide (s=w)
  ·exact aGz s r
  ·rfl
def qV(s:List Nat)(i:Nat):Nat:=i+1+aP dG (s.drop (i+1))
def wO(s:List Nat)(i:Nat):Bool:=(match s[qV s i]? with|none=>true|some c=>!decide (c=34))||decide (aP dG (s.drop (i+1))>200)
def rC(s:List Nat)(i:Nat):Tk×Nat:=match wO s i with
 |true=>(zTk,3)
 |false=>(⟨3,i,qV s i+1,[]⟩,0)
def oG(r:Tk×Nat):V:=.tup [.agg (jG r.1),.int .i64 r.2]
theorem pH{D:Nat→Prop}(r:Tk×Nat):(oG r).In D:=⟨⟨trivial,trivial,trivial,trivial,trivial⟩,trivial,trivial⟩
theorem bCh{a b:Nat}(h:b≤a)(hb:a<big):IntKind.i64.wrap ((a:Int)-(b:Int))=((a-b:Nat):Int):=by
 unfold big at hb
 rw[wrap64 (by omega) (by omega)];omega
theorem aHk(s:List Nat)(hl:s.length<big)(i:Nat)(hi:i<s.length)(h:H):
  SCall Go.Proofs.Tryz.prog [] 72 [.str s,.int .i64 i] none h (.ret (oG (rC s i))) none h:=by
 refine SCall.eG rfl ?_ (by exact⟨trivial,trivial,trivial⟩) (by exact pH _) h
 refine SCall.listed (fn:=Go.Proofs.Tryz.f72) (by kernel_rfl) bLl (by kernel_rfl) (by kernel_rfl) (Nat.le_refl _) rfl (trivial) (by exact pH _) ?_
 unfold bMa
 have w1:=kR s 86 dG (fun c hc h=>aLx c h) hl (i+1) (by omega)
 have c1:=cT dG (s.drop (i+1))
 rw[List.length_drop]at c1
 have hq:rC s i=match wO s i with
  |true=>(zTk,3)
  |false=>(⟨3,i,qV s i+1,[]⟩,0):=rfl
 have hb:wO s i=((match s[qV s i]? with|none=>true|some c=>!decide (c=34))||decide (aP dG (s.drop (i+1))>200)):=rfl
 unfold qV at hb hq
 generalize hn:aP dG (s.drop (i+1))=n at w1 c1 hb hq
 refine WR.seq (WR.q rfl ?_)
 refine WR.seq (WR.m 3 rfl ?_)
 rw[bJ (by unfold big at hl⊢;omega)]
 refine WQ.c rfl (w1 _) .base rfl (WQ.q rfl ?_)
 refine WR.seq (WR.seq (WR.m 4 rfl ?_))
 by_cases he:i+1+n=s.length
 ·rw[show decide (((i+1+n:Nat):Int)=(s.length:Int))=true from decide_eq_true (by omega)]
  rw[he,List.getElem?_eq_none (Nat.le_refl _),Bool.true_or]at hb
  rw[hq,hb]
  refine WQ.m 1000 rfl (WQ.aK (WR.aD rfl ?_))
  repeat(first|refine WR.seq ?_|refine WR.block ?_|refine WR.scope ?_|refine WR.skip ?_|refine WR.exit ?_|refine WR.aD rfl ?_|refine WR.aO rfl ?_|refine WR.m 1000 rfl ?_|refine WQ.aK ?_|refine WR.aN aZ (DW.m 1000 rfl ?_))
  exact WR.e
 ·rw[show decide (((i+1+n:Nat):Int)=(s.length:Int))=false from decide_eq_false (by omega)]
  obtain⟨c,hc⟩:∃c,s[i+1+n]? =some c:=⟨_,List.getElem?_eq_getElem (by omega)⟩
  rw[hc]at hb
  dsimp only at hb
  refine WQ.m 3 rfl ?_
  refine WQ.cE rfl rfl rfl (uA rfl rfl hc) rfl (WQ.m 1 rfl ?_)
  by_cases h34:c=34
  ·rw[show(!decide ((c:Int)=34))=false from by simp;omega]
   rw[show(!decide (c=34))=false from by simp[h34],Bool.false_or]at hb
   refine WQ.m 5 rfl ?_
   rw[bCh (by omega) (by omega)]
   refine WQ.m 1 rfl ?_
   rw[show IntKind.i64.wrap (((i+1+n-i:Nat):Int)-1)=(n:Int)from by
    unfold big at hl
    rw[wrap64 (by omega) (by omega)];omega]
   refine WQ.m 1 rfl ?_
   by_cases h200:n>200
   ·rw[show decide ((n:Int)>200)=true from decide_eq_true (by omega)]
    rw[decide_eq_true h200]at hb
    rw[hq,hb]
    refine WQ.m 1000 rfl (WQ.aK (WR.aD rfl ?_))
    repeat(first|refine WR.seq ?_|refine WR.block ?_|refine WR.scope ?_|refine WR.skip ?_|refine WR.exit ?_|refine WR.aD rfl ?_|refine WR.aO rfl ?_|refine WR.m 1000 rfl ?_|refine WQ.aK ?_|refine WR.aN aZ (DW.m 1000 rfl ?_))
    exact WR.e
   ·rw[show decide ((n:Int)>200)=false from decide_eq_false (by omega)]
    rw[decide_eq_false h200]at hb
    rw[hq,hb]
    refine WQ.m 1000 rfl (WQ.aK (WR.k rfl ?_))
    refine WR.seq (WR.m 3 rfl ?_)
    rw[bJ (by omega)]
    refine WQ.q rfl ?_
    exact WR.e
  ·rw[show(!decide ((c:Int)=34))=true from by simp;omega]
   rw[show(!decide (c=34))=true from by simp[h34],Bool.true_or]at hb
   rw[hq,hb]
   refine WQ.m 1000 rfl (WQ.aK (WR.aD rfl ?_))
   repeat(first|refine WR.seq ?_|refine WR.block ?_|refine WR.scope ?_|refine WR.skip ?_|refine WR.exit ?_|refine WR.aD rfl ?_|refine WR.aO rfl ?_|refine WR.m 1000 rfl ?_|refine WQ.aK ?_|refine WR.aN aZ (DW.m 1000 rfl ?_))
   exact WR.e
end Go.VM
end
section
/- Tokens: the one at a place. -/
set_option maxRecDepth 100000
namespace Go.VM
open Go.RowKit
def aXt:List Nat:=[40,41,123,125,91,93,44,59,46,61,60,43,45,42,33]
def aJs(n c:Nat):Bool:=decide (n>15)||(decide (c=48)&&decide (n>1))
def eX(s:List Nat)(i c:Nat):Tk×Nat:=
 match fA c with
 |true=>
  let n:=aP lT (s.drop i)
  (⟨match aNf ((s.drop i).take n)with|true=>5|false=>1,i,i+n,[]⟩,match decide (n>40)with|true=>4|false=>0)
 |false=>match eE c with
  |true=>
   let n:=aP eE (s.drop i)
   (⟨2,i,i+n,[]⟩,match aJs n c with|true=>2|false=>0)
  |false=>match decide (c=34)with
   |true=>rC s i
   |false=>match eZ (s.drop i) [61,61]||eZ (s.drop i) [38,38]with
    |true=>(⟨4,i,i+2,[]⟩,0)
    |false=>match decide (ibV c aXt<0)with
     |true=>(⟨4,i,i+1,[]⟩,1)
     |false=>(⟨4,i,i+1,[]⟩,0)
def wOl:OL:=[(1000,.map wM)]
theorem sO{D:Nat→Prop}:∀l:List (List Nat),qW D (l.map aKh)
 |[]=>trivial
 |_::l=>⟨⟨trivial,trivial⟩,sO l⟩
theorem aDo{D:Nat→Prop}:gP D wOl:=⟨sO nJ,trivial⟩
def aLp(k i e:Nat):LM:=[(8,[.int .i64 k,.int .i64 i,.int .i64 e,.str []]),(6,[.int .i64 0,.int .i64 0,.int .i64 0,.str []])]
def bBf(s:List Nat)(i c:Nat):TM:=[(0,.v (.str s)),(1,.v (.int .i64 i)),(2,.v (.map 1000)),(6,.l 6 0),(8,.l 8 0),(9,.v (.int .u8 c))]
theorem bDd{gl:List Nat}{nt nx:Nat}{tm:TM}{lc:LM}{x k:RX}{s:List Nat}(hx:rv gl tm x=some (.map 1000))(hk:rv gl tm k=some (.str s)):cB Go.Proofs.Tryz.prog gl nt tm ⟨nx,og wOl,lc⟩ (some (.lk x k false (.bool false) .str)) (.v (.bool (aNf s))):=by
 refine bE ?_
 simp only[eK,rl,hx,hk]
 show(match mB (.str s) (nJ.map aKh)with|some (some v)=>some (TV.v (pP false v true))|some none=>some (TV.v (pP false (.bool false) false))|none=>none)=_
 rw[aGz]
 show _=some (TV.v (.bool (aQz s nJ)))
 cases aQz s nJ<;>rfl
theorem fK{s:List Nat}{i c:Nat}(h:fA c=true):eX s i c=(⟨match aNf ((s.drop i).take (aP lT (s.drop i)))with|true=>5|false=>1,i,i+aP lT (s.drop i),[]⟩,match decide (aP lT (s.drop i)>40)with|true=>4|false=>0):=by
 unfold eX;rw[h]
theorem gH{s:List Nat}{i c:Nat}(h:fA c=false)(h2:eE c=true):eX s i c=(⟨2,i,i+aP eE (s.drop i),[]⟩,match aJs (aP eE (s.drop i)) c with|true=>2|false=>0):=by
 unfold eX;rw[h,h2]
theorem iM{s:List Nat}{i c:Nat}(h:fA c=false)(h2:eE c=false)(h3:c=34):eX s i c=rC s i:=by
 unfold eX;rw[h,h2,decide_eq_true h3]
theorem jV{s:List Nat}{i c:Nat}(h:fA c=false)(h2:eE c=false)(h3:¬c=34)(h4:(eZ (s.drop i) [61,61]||eZ (s.drop i) [38,38])=true):eX s i c=(⟨4,i,i+2,[]⟩,0):=by
 unfold eX;rw[h,h2,decide_eq_false h3,h4]
theorem jT{s:List Nat}{i c:Nat}(h:fA c=false)(h2:eE c=false)(h3:¬c=34)(h4:(eZ (s.drop i) [61,61]||eZ (s.drop i) [38,38])=false):eX s i c=(⟨4,i,i+1,[]⟩,match decide (ibV c aXt<0)with|true=>1|false=>0):=by
 unfold eX;rw[h,h2,decide_eq_false h3,h4]
 dsimp only
 cases decide (ibV c aXt<0)<;>rfl
theorem yL{QN:S→Prop}{QX:X→S→Prop}{r:Tk×Nat}{s:List Nat}{c k i e:Nat}(hr:r=(⟨k,i,e,[]⟩,0))(h1:∀st,mH Go.Proofs.Tryz.prog Go.Proofs.Tryz.f37 (oG r) 1001 wOl st→QX .ret st)(tm:TM)(ht:TellT tm (aLp k i e) (bBf s i c)):
  WR Go.Proofs.Tryz.prog [] ⟨Go.Proofs.Tryz.f37.ntmps,none,37⟩ qB (SL.toS ⟨tm,[],none,1001,wOl,aLp k i e⟩) QN QX:=by
 subst hr
 refine WR.weak (SW.aQ ht (.cons rfl (.inl rfl) (.cons rfl (.inl rfl) .nil))) ?_
 unfold qB
 repeat(first|refine WR.seq ?_|refine WR.block ?_|refine WR.scope ?_|refine WR.skip ?_|refine WR.exit ?_|refine WR.aD rfl ?_|refine WR.aO rfl ?_|refine WR.m 1000 rfl ?_|refine WQ.aK ?_|refine WR.aN aZ (DW.m 1000 rfl ?_))
 exact WR.ret (h1 _ ⟨rfl,rfl,⟨_,rfl,VLe.refl _⟩,fun _ _=>rfl⟩)
theorem aJo(s:List Nat)(h8:∀c∈s,c<256)(hl:s.length<big)(i c:Nat)(hc:s[i]? =some c):
  SCall Go.Proofs.Tryz.prog [] 37 [.str s,.int .i64 i,.map 1000] none ⟨1001,og wOl,[]⟩ (.ret (oG (eX s i c))) none ⟨1001,og wOl,[]⟩:=by
 refine SCall.listed (fn:=Go.Proofs.Tryz.f37) (by kernel_rfl) bIy (by kernel_rfl) (by kernel_rfl) (Nat.le_refl _) rfl (aDo) (by exact pH _) ?_
 unfold bKz
 have hi:i<s.length:=(List.getElem?_eq_some_iff.1 hc).1
 have hc8:=h8 c (List.mem_of_getElem? hc)
 refine WR.seq (WR.q rfl ?_)
 refine WR.seq (WR.m 3 rfl ?_)
 rw[bJ (by omega)]
 refine WQ.q rfl ?_
 refine WR.seq (WR.seq (WR.m 2 rfl ?_))
 refine WQ.cE rfl rfl rfl (uA rfl rfl hc) rfl (WQ.q rfl ?_)
 refine WR.weak (s:=SL.toS ⟨bBf s i c,[],none,1001,wOl,aLp 4 i (i+1)⟩) ?_ ?_
 ·refine SW.aQ ?_ ?_
  ·exact tQ
  ·exact lQ
 refine WR.block (WR.seq (WR.m 1 rfl ?_))
 refine WQ.c rfl (wC c _) .base rfl (WQ.q rfl ?_)
 cases hL:fA c with
 |true=>
  rw[fK hL]
  have w1:=kR s 70 lT (fun c hc h=>aRu c h) hl i (by omega)
  have c1:=cT lT (s.drop i)
  rw[List.length_drop]at c1
  generalize aP lT (s.drop i)=n at w1 c1⊢
  refine WR.aD rfl ?_
  refine WR.seq (WR.m 2 rfl ?_)
  refine WQ.c rfl (w1 _) .base rfl (WQ.q rfl ?_)
  refine WR.seq (WR.seq (WR.m 5 rfl ?_))
  refine WQ.cE rfl rfl rfl (aEp rfl rfl rfl (by omega) (by omega)) rfl ?_
  rw[Nat.add_sub_cancel_left]
  refine WQ.cE rfl rfl rfl (bDd rfl rfl) rfl (WQ.aK ?_)
  have fin:∀(k:Nat) (tm:TM),TellT tm (aLp k i (i+n)) (bBf s i c)→WR Go.Proofs.Tryz.prog [] ⟨Go.Proofs.Tryz.f37.ntmps,none,37⟩ aCz (SL.toS ⟨tm,[],none,1001,wOl,aLp k i (i+n)⟩)
    (fun s1=>WR Go.Proofs.Tryz.prog [] ⟨Go.Proofs.Tryz.f37.ntmps,none,37⟩ qB s1 (mH Go.Proofs.Tryz.prog Go.Proofs.Tryz.f37 (oG (⟨k,i,i+n,[]⟩,match decide (n>40)with|true=>4|false=>0)) 1001 wOl) (wQ (mH Go.Proofs.Tryz.prog Go.Proofs.Tryz.f37 (oG (⟨k,i,i+n,[]⟩,match decide (n>40)with|true=>4|false=>0)) 1001 wOl))) (vR 0 (fun s1=>WR Go.Proofs.Tryz.prog [] ⟨Go.Proofs.Tryz.f37.ntmps,none,37⟩ qB s1 (mH Go.Proofs.Tryz.prog Go.Proofs.Tryz.f37 (oG (⟨k,i,i+n,[]⟩,match decide (n>40)with|true=>4|false=>0)) 1001 wOl) (wQ (mH Go.Proofs.Tryz.prog Go.Proofs.Tryz.f37 (oG (⟨k,i,i+n,[]⟩,match decide (n>40)with|true=>4|false=>0)) 1001 wOl))) (wQ (mH Go.Proofs.Tryz.prog Go.Proofs.Tryz.f37 (oG (⟨k,i,i+n,[]⟩,match decide (n>40)with|true=>4|false=>0)) 1001 wOl))):=by
   intro k tm ht
   refine WR.weak (SW.aQ ht (.cons rfl (.inl rfl) (.cons rfl (.inl rfl) .nil))) ?_
   unfold aCz
   refine WR.seq (WR.m 4 rfl ?_)
   rw[bCh (by omega) (by omega),Nat.add_sub_cancel_left]
   refine WQ.m 1 rfl (WQ.aK ?_)
   by_cases h40:n>40
   ·rw[show decide ((n:Int)>40)=true from decide_eq_true (by omega),decide_eq_true h40]
    refine WR.aD rfl ?_
    repeat(first|refine WR.seq ?_|refine WR.block ?_|refine WR.scope ?_|refine WR.skip ?_|refine WR.exit ?_|refine WR.aD rfl ?_|refine WR.aO rfl ?_|refine WR.m 1000 rfl ?_|refine WQ.aK ?_|refine WR.aN aZ (DW.m 1000 rfl ?_))
    exact WR.e
   ·rw[show decide ((n:Int)>40)=false from decide_eq_false (by omega),decide_eq_false h40]
    refine WR.k rfl ?_
    refine yL (s:=s) (c:=c) rfl (fun st q=>q) _ ?_
    exact tQ
  cases hw:aNf ((s.drop i).take n)with
  |true=>
   refine WR.aD rfl (WR.q rfl ?_)
   refine fin 5 _ ?_
   exact tQ
  |false=>
   refine WR.k rfl ?_
   refine fin 1 _ ?_
   exact tQ
 |false=>
 refine WR.aO rfl ?_
 refine WR.seq (WR.m 1 rfl ?_)
 refine WQ.c rfl (rP c _) .base rfl (WQ.q rfl ?_)
 cases hD:eE c with
 |true=>
  rw[gH hL hD]
  have w1:=kR s 71 eE (fun c hc h=>rP c h) hl i (by omega)
  have c1:=cT eE (s.drop i)
  rw[List.length_drop]at c1
  generalize aP eE (s.drop i)=n at w1 c1⊢
  refine WR.aD rfl ?_
  refine WR.seq (WR.m 2 rfl ?_)
  refine WQ.c rfl (w1 _) .base rfl (WQ.q rfl ?_)
  refine WR.seq (WR.m 4 rfl ?_)
  rw[bCh (by omega) (by omega),Nat.add_sub_cancel_left]
  refine WQ.q rfl ?_
  refine WR.seq (WR.m 2 rfl ?_)
  unfold aJs
  by_cases h15:n>15
  ·rw[show decide ((n:Int)>15)=true from decide_eq_true (by omega),decide_eq_true h15,Bool.true_or]
   refine WQ.m 1000 rfl (WQ.aK (WR.aD rfl ?_))
   repeat(first|refine WR.seq ?_|refine WR.block ?_|refine WR.scope ?_|refine WR.skip ?_|refine WR.exit ?_|refine WR.aD rfl ?_|refine WR.aO rfl ?_|refine WR.m 1000 rfl ?_|refine WQ.aK ?_|refine WR.aN aZ (DW.m 1000 rfl ?_))
   exact WR.e
  rw[show decide ((n:Int)>15)=false from decide_eq_false (by omega),decide_eq_false h15,Bool.false_or]
  refine WQ.m 3 rfl ?_
  by_cases h48:c=48
  ·rw[show decide ((c:Int)=48)=true from decide_eq_true (by omega),decide_eq_true h48,Bool.true_and]
   refine WQ.m 3 rfl ?_
   by_cases h1:n>1
   ·rw[show decide ((n:Int)>1)=true from decide_eq_true (by omega),decide_eq_true h1]
    refine WQ.m 1000 rfl (WQ.aK (WR.aD rfl ?_))
    repeat(first|refine WR.seq ?_|refine WR.block ?_|refine WR.scope ?_|refine WR.skip ?_|refine WR.exit ?_|refine WR.aD rfl ?_|refine WR.aO rfl ?_|refine WR.m 1000 rfl ?_|refine WQ.aK ?_|refine WR.aN aZ (DW.m 1000 rfl ?_))
    exact WR.e
   ·rw[show decide ((n:Int)>1)=false from decide_eq_false (by omega),decide_eq_false h1]
    refine WQ.m 1000 rfl (WQ.aK (WR.k rfl ?_))
    refine yL (s:=s) (c:=c) (k:=2) (i:=i) (e:=i+n) rfl (fun st q=>q) _ ?_
    exact tQ
  ·rw[show decide ((c:Int)=48)=false from decide_eq_false (by omega),decide_eq_false h48,Bool.false_and]
   refine WQ.m 1000 rfl (WQ.aK (WR.k rfl ?_))
   refine yL (s:=s) (c:=c) (k:=2) (i:=i) (e:=i+n) rfl (fun st q=>q) _ ?_
   exact tQ
 |false=>
 refine WR.aO rfl ?_
 refine WR.seq (WR.m 2 rfl ?_)
 by_cases h34:c=34
 ·rw[iM hL hD h34,show decide ((c:Int)=34)=true from decide_eq_true (by omega)]
  have qs:=aHk s hl i hi
  generalize rC s i=q at qs⊢
  refine WQ.m 1000 rfl (WQ.aK (WR.aD rfl ?_))
  refine WR.seq (WR.m 2 rfl ?_)
  refine WQ.c rfl (qs _) .base rfl (WQ.q rfl ?_)
  exact WR.e
 rw[show decide ((c:Int)=34)=false from decide_eq_false (by omega)]
 refine WQ.m 1000 rfl (WQ.aK (WR.aO rfl ?_))
 have p1:=yP (s.drop i) [61,61]
 have p2:=yP (s.drop i) [38,38]
 have two:(eZ (s.drop i) [61,61]||eZ (s.drop i) [38,38])=true→∀tm:TM,TellT tm (aLp 4 i (i+1)) (bBf s i c)→∀QN:S→Prop,(∀s1,WR Go.Proofs.Tryz.prog [] ⟨Go.Proofs.Tryz.f37.ntmps,none,37⟩ qB s1 (mH Go.Proofs.Tryz.prog Go.Proofs.Tryz.f37 (oG (eX s i c)) 1001 wOl) (wQ (mH Go.Proofs.Tryz.prog Go.Proofs.Tryz.f37 (oG (eX s i c)) 1001 wOl))→QN s1)→∀QX,
   WR Go.Proofs.Tryz.prog [] ⟨Go.Proofs.Tryz.f37.ntmps,none,37⟩ (.reg [.op (.fa (.t 8) 2) 82,.op (.ld (.t 82) none) 83,.op (.bin .add (.t 83) (.c (.int .i64 1))) 84,.op (.fa (.t 8) 2) 85,⟨0,0,some (.st (.t 85) (.t 84) 1),[],none,none⟩]) (SL.toS ⟨tm,[],none,1001,wOl,aLp 4 i (i+1)⟩) QN QX:=by
  intro hp tm ht QN hq QX
  rw[jV hL hD h34 hp]at hq
  refine WR.weak (SW.aQ ht (.cons rfl (.inl rfl) (.cons rfl (.inl rfl) .nil))) ?_
  refine WR.m 3 rfl ?_
  rw[bJ (by omega)]
  refine WQ.q rfl ?_
  refine hq _ (yL (s:=s) (c:=c) (k:=4) (i:=i) (e:=i+2) rfl (fun st q=>q) _ ?_)
  exact tQ
 refine WR.seq (WR.m 2 rfl ?_)
 refine WQ.cE rfl rfl rfl (aAi rfl rfl (by omega)) rfl ?_
 refine WQ.c rfl (p1 _) .base rfl ?_
 cases hp1:eZ (s.drop i) [61,61]with
 |true=>
  refine WQ.m 1000 rfl (WQ.aK (WR.aD rfl ?_))
  refine two (by rw[hp1,Bool.true_or]) _ ?_ _ (fun s1 q=>q) _
  exact tQ
 |false=>
 refine WQ.m 3 rfl ?_
 refine WQ.cE rfl rfl rfl (aAi rfl rfl (by omega)) rfl ?_
 refine WQ.c rfl (p2 _) .base rfl ?_
 cases hp2:eZ (s.drop i) [38,38]with
 |true=>
  refine WQ.m 1000 rfl (WQ.aK (WR.aD rfl ?_))
  refine two (by rw[hp1,hp2,Bool.false_or]) _ ?_ _ (fun s1 q=>q) _
  exact tQ
 |false=>
 rw[jT hL hD h34 (by rw[hp1,hp2,Bool.false_or])]
 refine WQ.m 1000 rfl (WQ.aK (WR.aO rfl ?_))
 refine WR.seq (WR.m 1 rfl ?_)
 refine WQ.c rfl (aOe aXt c hc8 _) .base rfl (WQ.m 1 rfl ?_)
 cases hz:decide (ibV c aXt<0)with
 |true=>
  refine WQ.m 1000 rfl (WQ.aK (WR.aD rfl ?_))
  repeat(first|refine WR.seq ?_|refine WR.block ?_|refine WR.scope ?_|refine WR.skip ?_|refine WR.exit ?_|refine WR.aD rfl ?_|refine WR.aO rfl ?_|refine WR.m 1000 rfl ?_|refine WQ.aK ?_|refine WR.aN aZ (DW.m 1000 rfl ?_))
  exact WR.e
 |false=>
  refine WQ.m 1000 rfl (WQ.aK (WR.k rfl ?_))
  refine yL (s:=s) (c:=c) (k:=4) (i:=i) (e:=i+1) rfl (fun st q=>q) _ ?_
  exact tQ
end Go.VM
end
