/- laid for this seat: VlLexA VlLexB VlLexC VlLexD -/
import Derived.Test.YtipiffhjilidlaaGreatDoorVg0
import Derived.Test.YtipiffhjilidlaaGreatDoorVmR
import Derived.Test.YtipiffhjilidlaaGreatDoorVmT
set_option linter.unusedVariables false
set_option linter.unusedSimpArgs false
section
/- Tokens: bytes. -/
set_option maxRecDepth 100000
namespace Go.VM
open Go.RowKit
theorem aV:Go.Proofs.Tryz.prog.follows .mixedOrders=true:=by kernel_rfl
def aMf(c:Nat):Int:=IntKind.u8.wrap (BitVec.ofInt 8 c|||BitVec.ofInt 8 32).toNat
def fD(c:Nat):Bool:=(decide (aMf c≥97)&&decide (aMf c≤122))||decide ((c:Int)=95)
def eE(c:Nat):Bool:=decide ((c:Int)≥48)&&decide ((c:Int)≤57)
def mK(c:Nat):Bool:=fD c||eE c
def mO(c:Nat):Bool:=(decide ((c:Int)≥32)&&decide ((c:Int)≤126))&&!decide ((c:Int)=34)
def mG(c:Nat):Bool:=!decide ((c:Int)=10)
theorem tH(c:Nat)(h:H):SCall Go.Proofs.Tryz.prog [] 43 [.int .u8 c] none h (.ret (.bool (fD c))) none h:=by
 refine SCall.cK rfl ?_ (by exact⟨trivial,trivial⟩) (by exact trivial) h
 refine SCall.listed (fn:=Go.Proofs.Tryz.f43) (by kernel_rfl) bCr (by kernel_rfl) (by kernel_rfl) (Nat.le_refl _) rfl (trivial) trivial ?_
 unfold bDw
 refine WR.seq (WR.q rfl ?_)
 refine WR.seq (WR.m 3 rfl ?_)
 unfold fD
 show WQ Go.Proofs.Tryz.prog [] _ _ (SL.toS ⟨(5,.v (.bool (decide (aMf c≥97))))::_,_,_,_,_,_⟩) _ _
 cases decide (aMf c≥97)
 ·refine WQ.m 8 rfl ?_
  rw[Bool.false_and,Bool.false_or]
  refine WQ.q rfl ?_
  exact WR.e
 ·refine WQ.m 4 rfl ?_
  rw[Bool.true_and]
  show WQ Go.Proofs.Tryz.prog [] _ _ (SL.toS ⟨(9,.v (.bool (decide (aMf c≤122))))::_,_,_,_,_,_⟩) _ _
  cases decide (aMf c≤122)
  ·rw[Bool.false_or]
   refine WQ.q rfl ?_
   exact WR.e
  ·rw[Bool.true_or]
   refine WQ.q rfl ?_
   exact WR.e
theorem pZ(c:Nat)(h:H):SCall Go.Proofs.Tryz.prog [] 45 [.int .u8 c] none h (.ret (.bool (eE c))) none h:=by
 refine SCall.cK rfl ?_ (by exact⟨trivial,trivial⟩) (by exact trivial) h
 refine SCall.listed (fn:=Go.Proofs.Tryz.f45) (by kernel_rfl) bBp (by kernel_rfl) (by kernel_rfl) (Nat.le_refl _) rfl (trivial) trivial ?_
 unfold bBa
 refine WR.seq (WR.q rfl ?_)
 refine WR.seq (WR.m 2 rfl ?_)
 unfold eE
 cases decide ((c:Int)≥48)
 ·rw[Bool.false_and]
  refine WQ.q rfl ?_
  exact WR.e
 ·rw[Bool.true_and]
  refine WQ.q rfl ?_
  exact WR.e
theorem aMo(c:Nat)(h:H):SCall Go.Proofs.Tryz.prog [] 44 [.int .u8 c] none h (.ret (.bool (mK c))) none h:=by
 refine SCall.cK rfl ?_ (by exact⟨trivial,trivial⟩) (by exact trivial) h
 refine SCall.listed (fn:=Go.Proofs.Tryz.f44) (by kernel_rfl) bDn (by kernel_rfl) (by kernel_rfl) (Nat.le_refl _) rfl (trivial) trivial ?_
 unfold bBt
 refine WR.seq (WR.q rfl ?_)
 refine WR.seq (WR.m 1 rfl ?_)
 refine WQ.c rfl (tH c _) .base rfl ?_
 unfold mK
 cases fD c
 ·rw[Bool.false_or]
  refine WQ.m 2 rfl ?_
  refine WQ.c rfl (pZ c _) .base rfl (WQ.q rfl ?_)
  exact WR.e
 ·rw[Bool.true_or]
  refine WQ.q rfl ?_
  exact WR.e
theorem aMa(c:Nat)(h:H):SCall Go.Proofs.Tryz.prog [] 42 [.int .u8 c] none h (.ret (.bool (mG c))) none h:=by
 refine SCall.cK rfl ?_ (by exact⟨trivial,trivial⟩) (by exact trivial) h
 refine SCall.listed (fn:=Go.Proofs.Tryz.f42) (by kernel_rfl) aZy (by kernel_rfl) (by kernel_rfl) (Nat.le_refl _) rfl (trivial) trivial ?_
 unfold bAd
 repeat(first|refine WR.seq ?_|refine WR.block ?_|refine WR.scope ?_|refine WR.skip ?_|refine WR.exit ?_|refine WR.aB rfl ?_|refine WR.aF rfl ?_|refine WR.m 1000 rfl ?_|refine WQ.aL ?_|refine WR.aO aV (DW.m 1000 rfl ?_))
 exact WR.e
theorem aGj(c:Nat)(h:H):SCall Go.Proofs.Tryz.prog [] 53 [.int .u8 c] none h (.ret (.bool (mO c))) none h:=by
 refine SCall.cK rfl ?_ (by exact⟨trivial,trivial⟩) (by exact trivial) h
 refine SCall.listed (fn:=Go.Proofs.Tryz.f53) (by kernel_rfl) aZw (by kernel_rfl) (by kernel_rfl) (Nat.le_refl _) rfl (trivial) trivial ?_
 unfold bAg
 refine WR.seq (WR.q rfl ?_)
 refine WR.seq (WR.m 2 rfl ?_)
 unfold mO
 cases decide ((c:Int)≥32)
 ·rw[Bool.false_and,Bool.false_and]
  refine WQ.q rfl ?_
  exact WR.e
 ·rw[Bool.true_and]
  refine WQ.m 3 rfl ?_
  cases decide ((c:Int)≤126)
  ·rw[Bool.false_and]
   refine WQ.q rfl ?_
   exact WR.e
  ·rw[Bool.true_and]
   refine WQ.q rfl ?_
   exact WR.e
theorem aYs:∃fn,(Go.Proofs.Tryz.prog).funcs[57]? =some fn∧fn.body=none∧fn.name= "internal/bytealg.IndexByteString" ∧Extern.findNext fn=none∧Extern.find fn=some Extern.BytealgIndexByte.indexByte:=
 ⟨Go.Proofs.Tryz.f57,by kernel_rfl,by kernel_rfl,by kernel_rfl,by kernel_rfl,by kernel_rfl⟩
theorem aOy(bs:List Nat)(c:Nat)(hc:c<256)(h:H):SCall Go.Proofs.Tryz.prog [] 51 [.str bs,.int .u8 c] none h (.ret (.int .i64 (ibV c bs))) none h:=by
 refine SCall.cK rfl ?_ (by exact⟨trivial,trivial,trivial⟩) (by exact trivial) h
 refine SCall.listed (fn:=Go.Proofs.Tryz.f51) (by kernel_rfl) bDi (by kernel_rfl) (by kernel_rfl) (Nat.le_refl _) rfl (trivial) trivial ?_
 unfold bDy
 obtain⟨fn,h1,h2,h3,h4,h5⟩:=aYs
 refine WR.seq (WR.q rfl ?_)
 refine WR.seq (WR.m 2 rfl ?_)
 refine WQ.eJ rfl (aRs h1 h2 h3 h4 h5 rfl rfl hc) rfl (WQ.q rfl ?_)
 exact WR.e
theorem aJu(bs:List Nat)(c:Nat)(hc:c<256)(h:H):SCall Go.Proofs.Tryz.prog [] 40 [.str bs,.int .u8 c] none h (.ret (.int .i64 (ibV c bs))) none h:=by
 refine SCall.cK rfl ?_ (by exact⟨trivial,trivial,trivial⟩) (by exact trivial) h
 refine SCall.listed (fn:=Go.Proofs.Tryz.f40) (by kernel_rfl) aZr (by kernel_rfl) (by kernel_rfl) (Nat.le_refl _) rfl (trivial) trivial ?_
 unfold bDq
 refine WR.seq (WR.q rfl ?_)
 refine WR.seq (WR.m 2 rfl ?_)
 refine WQ.c rfl (aOy bs c hc _) .base rfl (WQ.q rfl ?_)
 exact WR.e
def iT(c:Nat):Bool:=decide (ibV c [32,9,10,13]≥0)
theorem aHu(c:Nat)(hc:c<256)(h:H):SCall Go.Proofs.Tryz.prog [] 39 [.int .u8 c] none h (.ret (.bool (iT c))) none h:=by
 refine SCall.cK rfl ?_ (by exact⟨trivial,trivial⟩) (by exact trivial) h
 refine SCall.listed (fn:=Go.Proofs.Tryz.f39) (by kernel_rfl) bEb (by kernel_rfl) (by kernel_rfl) (Nat.le_refl _) rfl (trivial) trivial ?_
 unfold aZk
 refine WR.seq (WR.q rfl ?_)
 refine WR.seq (WR.m 1 rfl ?_)
 refine WQ.c rfl (aJu [32,9,10,13] c hc _) .base rfl (WQ.q rfl ?_)
 exact WR.e
def jD(s p:List Nat):Bool:=decide (p.length≤s.length)&&decide (s.take p.length=p)
theorem aMt(s p:List Nat)(h:H):SCall Go.Proofs.Tryz.prog [] 52 [.str s,.str p] none h (.ret (.bool (jD s p))) none h:=by
 refine SCall.cK rfl ?_ (by exact⟨trivial,trivial,trivial⟩) (by exact trivial) h
 refine SCall.listed (fn:=Go.Proofs.Tryz.f52) (by kernel_rfl) bAu (by kernel_rfl) (by kernel_rfl) (Nat.le_refl _) rfl (trivial) trivial ?_
 unfold bDm
 refine WR.seq (WR.q rfl ?_)
 refine WR.seq (WR.m 5 rfl ?_)
 unfold jD
 by_cases hl:p.length≤s.length
 ·rw[show decide ((s.length:Int)≥(p.length:Int))=true from decide_eq_true (by omega),decide_eq_true hl,Bool.true_and]
  refine WQ.m 4 rfl ?_
  refine WQ.bP rfl rfl rfl (aRd rfl rfl hl) rfl (WQ.q rfl ?_)
  exact WR.e
 ·rw[show decide ((s.length:Int)≥(p.length:Int))=false from decide_eq_false (by omega),decide_eq_false hl,Bool.false_and]
  refine WQ.q rfl ?_
  exact WR.e
theorem vW(s p:List Nat)(h:H):SCall Go.Proofs.Tryz.prog [] 41 [.str s,.str p] none h (.ret (.bool (jD s p))) none h:=by
 refine SCall.cK rfl ?_ (by exact⟨trivial,trivial,trivial⟩) (by exact trivial) h
 refine SCall.listed (fn:=Go.Proofs.Tryz.f41) (by kernel_rfl) aZc (by kernel_rfl) (by kernel_rfl) (Nat.le_refl _) rfl (trivial) trivial ?_
 unfold bBl
 refine WR.seq (WR.q rfl ?_)
 refine WR.seq (WR.m 2 rfl ?_)
 refine WQ.c rfl (aMt s p _) .base rfl (WQ.q rfl ?_)
 exact WR.e
end Go.VM
end
section
/- Tokens: runs of bytes, layout. -/
set_option maxRecDepth 100000
namespace Go.VM
open Go.RowKit
def big:Nat:=4611686018427387904
theorem aN{i:Nat}(h:i<big):IntKind.i64.wrap ((i:Int)+1)=((i+1:Nat):Int):=by
 unfold big at h
 rw[wrap64 (by omega) (by omega)];rfl
theorem fW{P:Program}{gl:List Nat}{nt:Nat}{tm:TM}{h:H}{x i:RX}{k:IntKind}{s:List Nat}{n b:Nat}(hx:rv gl tm x=some (.str s))(hi:rv gl tm i=some (.int k n))(hg:s[n]? =some b):cG P gl nt tm h (some (.idxs x i)) (.v (.int .u8 b)):=by
 refine bF ?_
 simp only[dO,rl,hx,hi,Option.bind_some,gK]
 have:¬((n:Int)<0):=by omega
 simp[this,hg]
theorem vE{P:Program}{gl:List Nat}{nt:Nat}{tm:TM}{h:H}{x lo:RX}{k:IntKind}{s:List Nat}{a:Nat}(hx:rv gl tm x=some (.str s))(hlo:rv gl tm lo=some (.int k a))(h1:a≤s.length):
  cG P gl nt tm h (some (.slc .str x (some lo) none none)) (.v (.str (s.drop a))):=by
 refine bF ?_
 have e1:rvo gl tm (some lo)=some (some (.int k a)):=by simp[rvo,hlo]
 have e3:rvo gl tm none=some none:=rfl
 simp only[dO,rl,hx,e1,e3]
 simp[pT,nat?,gK,h1,List.take_of_length_le]
def eS(p:Nat→Bool):List Nat→Nat
 |[]=>0
 |c::r=>match p c with
  |true=>eS p r+1
  |false=>0
theorem jA(p:Nat→Bool):∀l:List Nat,eS p l≤l.length
 |[]=>Nat.le_refl _
 |c::r=>by
  simp only[eS]
  split
  ·have:=jA p r;simp;omega
  ·simp
def aWv(s:List Nat)(f i:Nat):TM:=[(0,.v (.str s)),(1,.v (.int .i64 i)),(2,.v (.fn (.func f) [] []))]
theorem aFl{QN:S→Prop}{QX:X→S→Prop}(s:List Nat)(f:Nat)(p:Nat→Bool)(hf:∀c∈s,∀h:H,SCall Go.Proofs.Tryz.prog [] f [.int .u8 c] none h (.ret (.bool (p c))) none h)(hl:s.length<big)(e:Nat)
  (h0:∀tm,TellT tm [] (aWv s f e)→QX (.exit 0) (SL.toS ⟨tm,[],none,1000,[],[]⟩)):∀(m i:Nat),i+m=s.length→e=i+eS p (s.drop i)→
  WLr Go.Proofs.Tryz.prog [] ⟨Go.Proofs.Tryz.f38.ntmps,none,38⟩ uM (SL.toS ⟨aWv s f i,[],none,1000,[],[]⟩) QN QX:=by
 intro m
 induction m with
 |zero=>
  intro i hi he
  rw[List.drop_eq_nil_iff.2 (by omega)]at he
  have he:e=i:=he
  subst he
  unfold uM
  refine WLr.of ?_
  refine WR.seq (WR.seq (WR.m 4 rfl ?_))
  rw[show decide ((e:Int)<(s.length:Int))=false from decide_eq_false (by omega)]
  refine WQ.m 1000 rfl (WQ.aL (WR.aF rfl (WR.exit (h0 _ ?_))))
  exact tQ
 |succ m ih=>
  intro i hi he
  obtain⟨c,hc,hd⟩:∃c,s[i]? =some c∧s.drop i=c::s.drop (i+1):=⟨s[i],List.getElem?_eq_getElem (by omega),List.drop_eq_getElem_cons (by omega)⟩
  have hfc:=hf c (List.mem_of_getElem? hc)
  rw[hd,eS]at he
  unfold uM
  refine WLr.of ?_
  refine WR.seq (WR.seq (WR.m 4 rfl ?_))
  rw[show decide ((i:Int)<(s.length:Int))=true from decide_eq_true (by omega)]
  refine WQ.m 4 rfl ?_
  refine WQ.bP rfl rfl rfl (fW rfl rfl hc) rfl ?_
  refine WQ.c rfl (hfc _) .base rfl ?_
  cases hp:p c
  ·rw[hp]at he
   have he:e=i:=he
   subst he
   refine WQ.m 1000 rfl (WQ.aL (WR.aF rfl (WR.exit (h0 _ ?_))))
   exact tQ
  ·rw[hp]at he
   have he:e=i+1+eS p (s.drop (i+1)):=by simp only at he;omega
   refine WQ.m 1000 rfl (WQ.aL (WR.aB rfl (WR.skip ?_)))
   repeat(first|refine WR.seq ?_|refine WR.block ?_|refine WR.scope ?_|refine WR.skip ?_|refine WR.exit ?_|refine WR.aB rfl ?_|refine WR.aF rfl ?_|refine WR.m 1000 rfl ?_|refine WQ.aL ?_|refine WR.aO aV (DW.m 1000 rfl ?_))
   rw[aN (by unfold big at hl⊢;omega)]
   refine WIr.again (WLr.weak ?_ (ih (i+1) (by omega) he))
   refine SW.aP ?_ ?_
   ·exact tQ
   ·exact lQ
theorem jP(s:List Nat)(f:Nat)(p:Nat→Bool)(hf:∀c∈s,∀h:H,SCall Go.Proofs.Tryz.prog [] f [.int .u8 c] none h (.ret (.bool (p c))) none h)(hl:s.length<big)(i:Nat)(hi:i≤s.length)(h:H):
  SCall Go.Proofs.Tryz.prog [] 38 [.str s,.int .i64 i,.fn (.func f) [] []] none h (.ret (.int .i64 (i+eS p (s.drop i):Nat))) none h:=by
 refine SCall.cK rfl ?_ (by exact⟨trivial,trivial,⟨trivial,trivial,trivial⟩,trivial⟩) (by exact trivial) h
 refine SCall.listed (fn:=Go.Proofs.Tryz.f38) (by kernel_rfl) aZd (by kernel_rfl) (by kernel_rfl) (Nat.le_refl _) rfl (trivial) trivial ?_
 unfold bDd
 repeat(first|refine WR.seq ?_|refine WR.block ?_|refine WR.scope ?_|refine WR.skip ?_|refine WR.exit ?_|refine WR.aB rfl ?_|refine WR.aF rfl ?_|refine WR.m 1000 rfl ?_|refine WQ.aL ?_|refine WR.aO aV (DW.m 1000 rfl ?_))
 refine WR.loop (WLr.weak (s:=SL.toS ⟨aWv s f i,[],none,1000,[],[]⟩) ?_ (aFl s f p hf hl _ (fun tm ht=>?_) (s.length-i) i (by omega) rfl))
 ·refine SW.aP ?_ ?_
  ·exact tQ
  ·exact lQ
 ·refine WR.weak (SW.aP ht .nil) ?_
  unfold aKx
  repeat(first|refine WR.seq ?_|refine WR.block ?_|refine WR.scope ?_|refine WR.skip ?_|refine WR.exit ?_|refine WR.aB rfl ?_|refine WR.aF rfl ?_|refine WR.m 1000 rfl ?_|refine WQ.aL ?_|refine WR.aO aV (DW.m 1000 rfl ?_))
  exact WR.e
def mM(s:List Nat):Nat→Nat→Nat
 |0,i=>i
 |n+1,i=>if jD (s.drop (i+eS iT (s.drop i))) [47,47]=true then mM s n (i+eS iT (s.drop i)+eS mG (s.drop (i+eS iT (s.drop i))))else i+eS iT (s.drop i)
theorem aJw{s p:List Nat}(h:jD s p=true):p.length≤s.length:=by
 unfold jD at h
 simp only[Bool.and_eq_true,decide_eq_true_eq]at h
 exact h.1
theorem aSq{s:List Nat}(h:jD s [47,47]=true):2≤eS mG s:=by
 unfold jD at h
 simp only[Bool.and_eq_true,decide_eq_true_eq]at h
 obtain⟨h1,h2⟩:=h
 cases s with
 |nil=>simp at h1
 |cons a s=>
  cases s with
  |nil=>simp at h1
  |cons b s=>
   simp at h2
   obtain⟨rfl,rfl⟩:=h2
   show(match mG 47 with|true=>(match mG 47 with|true=>eS mG s+1|false=>0)+1|false=>0)≥2
   rw[show mG 47=true from rfl]
   show eS mG s+1+1≥2
   omega
theorem aLk{QN:S→Prop}{QX:X→S→Prop}(s:List Nat)(h8:∀c∈s,c<256)(hl:s.length<big)(e:Nat)
  (h1:∀st,iO Go.Proofs.Tryz.prog Go.Proofs.Tryz.f27 (.int .i64 e) 1000 [] st→QX .ret st):∀(n i:Nat),i≤s.length→s.length<i+n→e=mM s n i→
  WLr Go.Proofs.Tryz.prog [] ⟨Go.Proofs.Tryz.f27.ntmps,none,27⟩ zL (SL.toS ⟨[(0,.v (.str s)),(1,.v (.int .i64 i))],[],none,1000,[],[]⟩) QN QX:=by
 intro n
 induction n with
 |zero=>intro i hi hn;omega
 |succ n ih=>
  intro i hi hn he
  have w1:=jP s 39 iT (fun c hc h=>aHu c (h8 c hc) h) hl i hi
  have c1:=jA iT (s.drop i)
  rw[List.length_drop]at c1
  rw[mM]at he
  generalize hj:i+eS iT (s.drop i)=j at w1 he
  have hjl:j≤s.length:=by omega
  have hp:=vW (s.drop j) [47,47]
  unfold zL
  refine WLr.of ?_
  refine WR.block ?_
  refine WR.seq (WR.m 2 rfl ?_)
  refine WQ.c rfl (w1 _) .base rfl (WQ.q rfl ?_)
  refine WR.seq (WR.seq (WR.m 2 rfl ?_))
  refine WQ.bP rfl rfl rfl (vE rfl rfl hjl) rfl ?_
  refine WQ.c rfl (hp _) .base rfl ?_
  cases hb:jD (s.drop j) [47,47]
  ·rw[if_neg (by rw[hb];decide)]at he
   subst he
   refine WQ.m 1000 rfl (WQ.aL (WR.aB rfl ?_))
   refine WR.seq (WR.q rfl ?_)
   exact WR.ret (h1 _ ⟨rfl,rfl,⟨_,rfl,VLe.refl _⟩,fun _ _=>rfl⟩)
  ·rw[if_pos hb]at he
   have w2:=jP s 42 mG (fun c hc h=>aMa c h) hl j hjl
   have c2:=jA mG (s.drop j)
   have c3:=aSq hb
   rw[List.length_drop]at c2
   refine WQ.m 1000 rfl (WQ.aL (WR.k rfl ?_))
   refine WR.m 2 rfl ?_
   refine WQ.c rfl (w2 _) .base rfl (WQ.q rfl ?_)
   refine WIr.again (WLr.weak ?_ (ih _ (by omega) (by omega) he))
   refine SW.aP ?_ ?_
   ·exact tQ
   ·exact lQ
theorem xP(s:List Nat)(h8:∀c∈s,c<256)(hl:s.length<big)(i:Nat)(hi:i≤s.length)(h:H):
  SCall Go.Proofs.Tryz.prog [] 27 [.str s,.int .i64 i] none h (.ret (.int .i64 (mM s (s.length+1) i:Nat))) none h:=by
 refine SCall.cK rfl ?_ (by exact⟨trivial,trivial,trivial⟩) (by exact trivial) h
 refine SCall.listed (fn:=Go.Proofs.Tryz.f27) (by kernel_rfl) bAb (by kernel_rfl) (by kernel_rfl) (Nat.le_refl _) rfl (trivial) trivial ?_
 unfold aZo
 repeat(first|refine WR.seq ?_|refine WR.block ?_|refine WR.scope ?_|refine WR.skip ?_|refine WR.exit ?_|refine WR.aB rfl ?_|refine WR.aF rfl ?_|refine WR.m 1000 rfl ?_|refine WQ.aL ?_|refine WR.aO aV (DW.m 1000 rfl ?_))
 refine WR.loop (WLr.weak (s:=SL.toS ⟨[(0,.v (.str s)),(1,.v (.int .i64 i))],[],none,1000,[],[]⟩) ?_ (aLk s h8 hl _ (fun st q=>q) (s.length+1) i hi (by omega) rfl))
 refine SW.aP ?_ ?_
 ·exact tQ
 ·exact lQ
end Go.VM
end
section
/- Tokens: one. -/
set_option maxRecDepth 100000
namespace Go.VM
open Go.RowKit
structure Tk where
 kind:Nat
 a:Nat
 e:Nat
 text:List Nat
def hC(t:Tk):List V:=[.int .i64 t.kind,.int .i64 t.a,.int .i64 t.e,.str t.text]
def zTk:Tk:=⟨0,0,0,[]⟩
def mB:List (List Nat):=[[112,97,99,107,97,103,101],[105,109,112,111,114,116],[116,121,112,101],[115,116,114,117,99,116],[105,110,116,101,114,102,97,99,101],[102,117,110,99],[108,101,116],[105,102],[101,108,115,101],[102,111,114],[114,101,116,117,114,110],[110,101,119],[116,114,117,101],[102,97,108,115,101],[105,110,116],[98,111,111,108],[116,101,120,116]]
def aFo(w:List Nat):V×V:=(.str w,.bool true)
def tJ:List (V×V):=mB.map aFo
def aLf(s:List Nat):List (List Nat)→Bool
 |[]=>false
 |w::r=>match decide (s=w)with
  |true=>true
  |false=>aLf s r
def aJy(s:List Nat):Bool:=aLf s mB
theorem aEp(s:List Nat):∀l:List (List Nat),kI (.str s) (l.map aFo)=some (match aLf s l with|true=>some (.bool true)|false=>none)
 |[]=>rfl
 |w::r=>by
  show(match gU (.str s) (.str w)with|some true=>some (some (V.bool true))|some false=>kI (.str s) (r.map aFo)|none=>none)=_
  rw[show gU (.str s) (.str w)=some (decide (s=w))from rfl]
  simp only[aLf]
  cases decide (s=w)
  ·exact aEp s r
  ·rfl
def aEj(s:List Nat)(i:Nat):Nat:=i+1+eS mO (s.drop (i+1))
def aRt(s:List Nat)(i:Nat):Bool:=(match s[aEj s i]? with|none=>true|some c=>!decide (c=34))||decide (eS mO (s.drop (i+1))>200)
def uS(s:List Nat)(i:Nat):Tk×Nat:=match aRt s i with
 |true=>(zTk,3)
 |false=>(⟨3,i,aEj s i+1,[]⟩,0)
def mI(r:Tk×Nat):V:=.tup [.agg (hC r.1),.int .i64 r.2]
theorem oB{D:Nat→Prop}(r:Tk×Nat):(mI r).In D:=⟨⟨trivial,trivial,trivial,trivial,trivial⟩,trivial,trivial⟩
theorem aSn{a b:Nat}(h:b≤a)(hb:a<big):IntKind.i64.wrap ((a:Int)-(b:Int))=((a-b:Nat):Int):=by
 unfold big at hb
 rw[wrap64 (by omega) (by omega)];omega
theorem aBy(s:List Nat)(hl:s.length<big)(i:Nat)(hi:i<s.length)(h:H):
  SCall Go.Proofs.Tryz.prog [] 46 [.str s,.int .i64 i] none h (.ret (mI (uS s i))) none h:=by
 refine SCall.cK rfl ?_ (by exact⟨trivial,trivial,trivial⟩) (by exact oB _) h
 refine SCall.listed (fn:=Go.Proofs.Tryz.f46) (by kernel_rfl) bCf (by kernel_rfl) (by kernel_rfl) (Nat.le_refl _) rfl (trivial) (by exact oB _) ?_
 unfold bCg
 have w1:=jP s 53 mO (fun c hc h=>aGj c h) hl (i+1) (by omega)
 have c1:=jA mO (s.drop (i+1))
 rw[List.length_drop]at c1
 have hq:uS s i=match aRt s i with
  |true=>(zTk,3)
  |false=>(⟨3,i,aEj s i+1,[]⟩,0):=rfl
 have hb:aRt s i=((match s[aEj s i]? with|none=>true|some c=>!decide (c=34))||decide (eS mO (s.drop (i+1))>200)):=rfl
 unfold aEj at hb hq
 generalize hn:eS mO (s.drop (i+1))=n at w1 c1 hb hq
 refine WR.seq (WR.q rfl ?_)
 refine WR.seq (WR.m 3 rfl ?_)
 rw[aN (by unfold big at hl⊢;omega)]
 refine WQ.c rfl (w1 _) .base rfl (WQ.q rfl ?_)
 refine WR.seq (WR.seq (WR.m 4 rfl ?_))
 by_cases he:i+1+n=s.length
 ·rw[show decide (((i+1+n:Nat):Int)=(s.length:Int))=true from decide_eq_true (by omega)]
  rw[he,List.getElem?_eq_none (Nat.le_refl _),Bool.true_or]at hb
  rw[hq,hb]
  refine WQ.m 1000 rfl (WQ.aL (WR.aB rfl ?_))
  repeat(first|refine WR.seq ?_|refine WR.block ?_|refine WR.scope ?_|refine WR.skip ?_|refine WR.exit ?_|refine WR.aB rfl ?_|refine WR.aF rfl ?_|refine WR.m 1000 rfl ?_|refine WQ.aL ?_|refine WR.aO aV (DW.m 1000 rfl ?_))
  exact WR.e
 ·rw[show decide (((i+1+n:Nat):Int)=(s.length:Int))=false from decide_eq_false (by omega)]
  obtain⟨c,hc⟩:∃c,s[i+1+n]? =some c:=⟨_,List.getElem?_eq_getElem (by omega)⟩
  rw[hc]at hb
  dsimp only at hb
  refine WQ.m 3 rfl ?_
  refine WQ.bP rfl rfl rfl (fW rfl rfl hc) rfl (WQ.m 1 rfl ?_)
  by_cases h34:c=34
  ·rw[show(!decide ((c:Int)=34))=false from by simp;omega]
   rw[show(!decide (c=34))=false from by simp[h34],Bool.false_or]at hb
   refine WQ.m 5 rfl ?_
   rw[aSn (by omega) (by omega)]
   refine WQ.m 1 rfl ?_
   rw[show IntKind.i64.wrap (((i+1+n-i:Nat):Int)-1)=(n:Int)from by
    unfold big at hl
    rw[wrap64 (by omega) (by omega)];omega]
   refine WQ.m 1 rfl ?_
   by_cases h200:n>200
   ·rw[show decide ((n:Int)>200)=true from decide_eq_true (by omega)]
    rw[decide_eq_true h200]at hb
    rw[hq,hb]
    refine WQ.m 1000 rfl (WQ.aL (WR.aB rfl ?_))
    repeat(first|refine WR.seq ?_|refine WR.block ?_|refine WR.scope ?_|refine WR.skip ?_|refine WR.exit ?_|refine WR.aB rfl ?_|refine WR.aF rfl ?_|refine WR.m 1000 rfl ?_|refine WQ.aL ?_|refine WR.aO aV (DW.m 1000 rfl ?_))
    exact WR.e
   ·rw[show decide ((n:Int)>200)=false from decide_eq_false (by omega)]
    rw[decide_eq_false h200]at hb
    rw[hq,hb]
    refine WQ.m 1000 rfl (WQ.aL (WR.k rfl ?_))
    refine WR.seq (WR.m 3 rfl ?_)
    rw[aN (by omega)]
    refine WQ.q rfl ?_
    exact WR.e
  ·rw[show(!decide ((c:Int)=34))=true from by simp;omega]
   rw[show(!decide (c=34))=true from by simp[h34],Bool.true_or]at hb
   rw[hq,hb]
   refine WQ.m 1000 rfl (WQ.aL (WR.aB rfl ?_))
   repeat(first|refine WR.seq ?_|refine WR.block ?_|refine WR.scope ?_|refine WR.skip ?_|refine WR.exit ?_|refine WR.aB rfl ?_|refine WR.aF rfl ?_|refine WR.m 1000 rfl ?_|refine WQ.aL ?_|refine WR.aO aV (DW.m 1000 rfl ?_))
   exact WR.e
end Go.VM
end
section
/- Tokens: the one at a place. -/
set_option maxRecDepth 100000
namespace Go.VM
open Go.RowKit
def aOo:List Nat:=[40,41,123,125,91,93,44,59,46,61,60,43,45,42,33]
def aHi(n c:Nat):Bool:=decide (n>15)||(decide (c=48)&&decide (n>1))
def hJ(s:List Nat)(i c:Nat):Tk×Nat:=
 match fD c with
 |true=>
  let n:=eS mK (s.drop i)
  (⟨match aJy ((s.drop i).take n)with|true=>5|false=>1,i,i+n,[]⟩,match decide (n>40)with|true=>4|false=>0)
 |false=>match eE c with
  |true=>
   let n:=eS eE (s.drop i)
   (⟨2,i,i+n,[]⟩,match aHi n c with|true=>2|false=>0)
  |false=>match decide (c=34)with
   |true=>uS s i
   |false=>match jD (s.drop i) [61,61]||jD (s.drop i) [38,38]with
    |true=>(⟨4,i,i+2,[]⟩,0)
    |false=>match decide (ibV c aOo<0)with
     |true=>(⟨4,i,i+1,[]⟩,1)
     |false=>(⟨4,i,i+1,[]⟩,0)
def wOl:OL:=[(1000,.map tJ)]
theorem rJ{D:Nat→Prop}:∀l:List (List Nat),pA D (l.map aFo)
 |[]=>trivial
 |_::l=>⟨⟨trivial,trivial⟩,rJ l⟩
theorem aBo{D:Nat→Prop}:fG D wOl:=⟨rJ mB,trivial⟩
def aId(k i e:Nat):LM:=[(8,[.int .i64 k,.int .i64 i,.int .i64 e,.str []]),(6,[.int .i64 0,.int .i64 0,.int .i64 0,.str []])]
def aUb(s:List Nat)(i c:Nat):TM:=[(0,.v (.str s)),(1,.v (.int .i64 i)),(2,.v (.map 1000)),(6,.l 6 0),(8,.l 8 0),(9,.v (.int .u8 c))]
theorem aSu{gl:List Nat}{nt nx:Nat}{tm:TM}{lc:LM}{x k:RX}{s:List Nat}(hx:rv gl tm x=some (.map 1000))(hk:rv gl tm k=some (.str s)):cG Go.Proofs.Tryz.prog gl nt tm ⟨nx,og wOl,lc⟩ (some (.lk x k false (.bool false) .str)) (.v (.bool (aJy s))):=by
 refine bF ?_
 simp only[dO,rl,hx,hk]
 show(match kI (.str s) (mB.map aFo)with|some (some v)=>some (TV.v (nY false v true))|some none=>some (TV.v (nY false (.bool false) false))|none=>none)=_
 rw[aEp]
 show _=some (TV.v (.bool (aLf s mB)))
 cases aLf s mB<;>rfl
theorem nG{s:List Nat}{i c:Nat}(h:fD c=true):hJ s i c=(⟨match aJy ((s.drop i).take (eS mK (s.drop i)))with|true=>5|false=>1,i,i+eS mK (s.drop i),[]⟩,match decide (eS mK (s.drop i)>40)with|true=>4|false=>0):=by
 unfold hJ;rw[h]
theorem pI{s:List Nat}{i c:Nat}(h:fD c=false)(h2:eE c=true):hJ s i c=(⟨2,i,i+eS eE (s.drop i),[]⟩,match aHi (eS eE (s.drop i)) c with|true=>2|false=>0):=by
 unfold hJ;rw[h,h2]
theorem rN{s:List Nat}{i c:Nat}(h:fD c=false)(h2:eE c=false)(h3:c=34):hJ s i c=uS s i:=by
 unfold hJ;rw[h,h2,decide_eq_true h3]
theorem vF{s:List Nat}{i c:Nat}(h:fD c=false)(h2:eE c=false)(h3:¬c=34)(h4:(jD (s.drop i) [61,61]||jD (s.drop i) [38,38])=true):hJ s i c=(⟨4,i,i+2,[]⟩,0):=by
 unfold hJ;rw[h,h2,decide_eq_false h3,h4]
theorem vX{s:List Nat}{i c:Nat}(h:fD c=false)(h2:eE c=false)(h3:¬c=34)(h4:(jD (s.drop i) [61,61]||jD (s.drop i) [38,38])=false):hJ s i c=(⟨4,i,i+1,[]⟩,match decide (ibV c aOo<0)with|true=>1|false=>0):=by
 unfold hJ;rw[h,h2,decide_eq_false h3,h4]
 dsimp only
 cases decide (ibV c aOo<0)<;>rfl
theorem uW{QN:S→Prop}{QX:X→S→Prop}{r:Tk×Nat}{s:List Nat}{c k i e:Nat}(hr:r=(⟨k,i,e,[]⟩,0))(h1:∀st,iO Go.Proofs.Tryz.prog Go.Proofs.Tryz.f28 (mI r) 1001 wOl st→QX .ret st)(tm:TM)(ht:TellT tm (aId k i e) (aUb s i c)):
  WR Go.Proofs.Tryz.prog [] ⟨Go.Proofs.Tryz.f28.ntmps,none,28⟩ oT (SL.toS ⟨tm,[],none,1001,wOl,aId k i e⟩) QN QX:=by
 subst hr
 refine WR.weak (SW.aP ht (.cons rfl (.inl rfl) (.cons rfl (.inl rfl) .nil))) ?_
 unfold oT
 repeat(first|refine WR.seq ?_|refine WR.block ?_|refine WR.scope ?_|refine WR.skip ?_|refine WR.exit ?_|refine WR.aB rfl ?_|refine WR.aF rfl ?_|refine WR.m 1000 rfl ?_|refine WQ.aL ?_|refine WR.aO aV (DW.m 1000 rfl ?_))
 exact WR.ret (h1 _ ⟨rfl,rfl,⟨_,rfl,VLe.refl _⟩,fun _ _=>rfl⟩)
theorem aGm(s:List Nat)(h8:∀c∈s,c<256)(hl:s.length<big)(i c:Nat)(hc:s[i]? =some c):
  SCall Go.Proofs.Tryz.prog [] 28 [.str s,.int .i64 i,.map 1000] none ⟨1001,og wOl,[]⟩ (.ret (mI (hJ s i c))) none ⟨1001,og wOl,[]⟩:=by
 refine SCall.listed (fn:=Go.Proofs.Tryz.f28) (by kernel_rfl) bCe (by kernel_rfl) (by kernel_rfl) (Nat.le_refl _) rfl (aBo) (by exact oB _) ?_
 unfold aZv
 have hi:i<s.length:=(List.getElem?_eq_some_iff.1 hc).1
 have hc8:=h8 c (List.mem_of_getElem? hc)
 refine WR.seq (WR.q rfl ?_)
 refine WR.seq (WR.m 3 rfl ?_)
 rw[aN (by omega)]
 refine WQ.q rfl ?_
 refine WR.seq (WR.seq (WR.m 2 rfl ?_))
 refine WQ.bP rfl rfl rfl (fW rfl rfl hc) rfl (WQ.q rfl ?_)
 refine WR.weak (s:=SL.toS ⟨aUb s i c,[],none,1001,wOl,aId 4 i (i+1)⟩) ?_ ?_
 ·refine SW.aP ?_ ?_
  ·exact tQ
  ·exact lQ
 refine WR.block (WR.seq (WR.m 1 rfl ?_))
 refine WQ.c rfl (tH c _) .base rfl (WQ.q rfl ?_)
 cases hL:fD c with
 |true=>
  rw[nG hL]
  have w1:=jP s 44 mK (fun c hc h=>aMo c h) hl i (by omega)
  have c1:=jA mK (s.drop i)
  rw[List.length_drop]at c1
  generalize eS mK (s.drop i)=n at w1 c1⊢
  refine WR.aB rfl ?_
  refine WR.seq (WR.m 2 rfl ?_)
  refine WQ.c rfl (w1 _) .base rfl (WQ.q rfl ?_)
  refine WR.seq (WR.seq (WR.m 5 rfl ?_))
  refine WQ.bP rfl rfl rfl (uC rfl rfl rfl (by omega) (by omega)) rfl ?_
  rw[Nat.add_sub_cancel_left]
  refine WQ.bP rfl rfl rfl (aSu rfl rfl) rfl (WQ.aL ?_)
  have fin:∀(k:Nat) (tm:TM),TellT tm (aId k i (i+n)) (aUb s i c)→WR Go.Proofs.Tryz.prog [] ⟨Go.Proofs.Tryz.f28.ntmps,none,28⟩ aAm (SL.toS ⟨tm,[],none,1001,wOl,aId k i (i+n)⟩)
    (fun s1=>WR Go.Proofs.Tryz.prog [] ⟨Go.Proofs.Tryz.f28.ntmps,none,28⟩ oT s1 (iO Go.Proofs.Tryz.prog Go.Proofs.Tryz.f28 (mI (⟨k,i,i+n,[]⟩,match decide (n>40)with|true=>4|false=>0)) 1001 wOl) (tK (iO Go.Proofs.Tryz.prog Go.Proofs.Tryz.f28 (mI (⟨k,i,i+n,[]⟩,match decide (n>40)with|true=>4|false=>0)) 1001 wOl))) (rQ 0 (fun s1=>WR Go.Proofs.Tryz.prog [] ⟨Go.Proofs.Tryz.f28.ntmps,none,28⟩ oT s1 (iO Go.Proofs.Tryz.prog Go.Proofs.Tryz.f28 (mI (⟨k,i,i+n,[]⟩,match decide (n>40)with|true=>4|false=>0)) 1001 wOl) (tK (iO Go.Proofs.Tryz.prog Go.Proofs.Tryz.f28 (mI (⟨k,i,i+n,[]⟩,match decide (n>40)with|true=>4|false=>0)) 1001 wOl))) (tK (iO Go.Proofs.Tryz.prog Go.Proofs.Tryz.f28 (mI (⟨k,i,i+n,[]⟩,match decide (n>40)with|true=>4|false=>0)) 1001 wOl))):=by
   intro k tm ht
   refine WR.weak (SW.aP ht (.cons rfl (.inl rfl) (.cons rfl (.inl rfl) .nil))) ?_
   unfold aAm
   refine WR.seq (WR.m 4 rfl ?_)
   rw[aSn (by omega) (by omega),Nat.add_sub_cancel_left]
   refine WQ.m 1 rfl (WQ.aL ?_)
   by_cases h40:n>40
   ·rw[show decide ((n:Int)>40)=true from decide_eq_true (by omega),decide_eq_true h40]
    refine WR.aB rfl ?_
    repeat(first|refine WR.seq ?_|refine WR.block ?_|refine WR.scope ?_|refine WR.skip ?_|refine WR.exit ?_|refine WR.aB rfl ?_|refine WR.aF rfl ?_|refine WR.m 1000 rfl ?_|refine WQ.aL ?_|refine WR.aO aV (DW.m 1000 rfl ?_))
    exact WR.e
   ·rw[show decide ((n:Int)>40)=false from decide_eq_false (by omega),decide_eq_false h40]
    refine WR.k rfl ?_
    refine uW (s:=s) (c:=c) rfl (fun st q=>q) _ ?_
    exact tQ
  cases hw:aJy ((s.drop i).take n)with
  |true=>
   refine WR.aB rfl (WR.q rfl ?_)
   refine fin 5 _ ?_
   exact tQ
  |false=>
   refine WR.k rfl ?_
   refine fin 1 _ ?_
   exact tQ
 |false=>
 refine WR.aF rfl ?_
 refine WR.seq (WR.m 1 rfl ?_)
 refine WQ.c rfl (pZ c _) .base rfl (WQ.q rfl ?_)
 cases hD:eE c with
 |true=>
  rw[pI hL hD]
  have w1:=jP s 45 eE (fun c hc h=>pZ c h) hl i (by omega)
  have c1:=jA eE (s.drop i)
  rw[List.length_drop]at c1
  generalize eS eE (s.drop i)=n at w1 c1⊢
  refine WR.aB rfl ?_
  refine WR.seq (WR.m 2 rfl ?_)
  refine WQ.c rfl (w1 _) .base rfl (WQ.q rfl ?_)
  refine WR.seq (WR.m 4 rfl ?_)
  rw[aSn (by omega) (by omega),Nat.add_sub_cancel_left]
  refine WQ.q rfl ?_
  refine WR.seq (WR.m 2 rfl ?_)
  unfold aHi
  by_cases h15:n>15
  ·rw[show decide ((n:Int)>15)=true from decide_eq_true (by omega),decide_eq_true h15,Bool.true_or]
   refine WQ.m 1000 rfl (WQ.aL (WR.aB rfl ?_))
   repeat(first|refine WR.seq ?_|refine WR.block ?_|refine WR.scope ?_|refine WR.skip ?_|refine WR.exit ?_|refine WR.aB rfl ?_|refine WR.aF rfl ?_|refine WR.m 1000 rfl ?_|refine WQ.aL ?_|refine WR.aO aV (DW.m 1000 rfl ?_))
   exact WR.e
  rw[show decide ((n:Int)>15)=false from decide_eq_false (by omega),decide_eq_false h15,Bool.false_or]
  refine WQ.m 3 rfl ?_
  by_cases h48:c=48
  ·rw[show decide ((c:Int)=48)=true from decide_eq_true (by omega),decide_eq_true h48,Bool.true_and]
   refine WQ.m 3 rfl ?_
   by_cases h1:n>1
   ·rw[show decide ((n:Int)>1)=true from decide_eq_true (by omega),decide_eq_true h1]
    refine WQ.m 1000 rfl (WQ.aL (WR.aB rfl ?_))
    repeat(first|refine WR.seq ?_|refine WR.block ?_|refine WR.scope ?_|refine WR.skip ?_|refine WR.exit ?_|refine WR.aB rfl ?_|refine WR.aF rfl ?_|refine WR.m 1000 rfl ?_|refine WQ.aL ?_|refine WR.aO aV (DW.m 1000 rfl ?_))
    exact WR.e
   ·rw[show decide ((n:Int)>1)=false from decide_eq_false (by omega),decide_eq_false h1]
    refine WQ.m 1000 rfl (WQ.aL (WR.k rfl ?_))
    refine uW (s:=s) (c:=c) (k:=2) (i:=i) (e:=i+n) rfl (fun st q=>q) _ ?_
    exact tQ
  ·rw[show decide ((c:Int)=48)=false from decide_eq_false (by omega),decide_eq_false h48,Bool.false_and]
   refine WQ.m 1000 rfl (WQ.aL (WR.k rfl ?_))
   refine uW (s:=s) (c:=c) (k:=2) (i:=i) (e:=i+n) rfl (fun st q=>q) _ ?_
   exact tQ
 |false=>
 refine WR.aF rfl ?_
 refine WR.seq (WR.m 2 rfl ?_)
 by_cases h34:c=34
 ·rw[rN hL hD h34,show decide ((c:Int)=34)=true from decide_eq_true (by omega)]
  have qs:=aBy s hl i hi
  generalize uS s i=q at qs⊢
  refine WQ.m 1000 rfl (WQ.aL (WR.aB rfl ?_))
  refine WR.seq (WR.m 2 rfl ?_)
  refine WQ.c rfl (qs _) .base rfl (WQ.q rfl ?_)
  exact WR.e
 rw[show decide ((c:Int)=34)=false from decide_eq_false (by omega)]
 refine WQ.m 1000 rfl (WQ.aL (WR.aF rfl ?_))
 have p1:=vW (s.drop i) [61,61]
 have p2:=vW (s.drop i) [38,38]
 have two:(jD (s.drop i) [61,61]||jD (s.drop i) [38,38])=true→∀tm:TM,TellT tm (aId 4 i (i+1)) (aUb s i c)→∀QN:S→Prop,(∀s1,WR Go.Proofs.Tryz.prog [] ⟨Go.Proofs.Tryz.f28.ntmps,none,28⟩ oT s1 (iO Go.Proofs.Tryz.prog Go.Proofs.Tryz.f28 (mI (hJ s i c)) 1001 wOl) (tK (iO Go.Proofs.Tryz.prog Go.Proofs.Tryz.f28 (mI (hJ s i c)) 1001 wOl))→QN s1)→∀QX,
   WR Go.Proofs.Tryz.prog [] ⟨Go.Proofs.Tryz.f28.ntmps,none,28⟩ (.reg [.op (.fa (.t 8) 2) 82,.op (.ld (.t 82) none) 83,.op (.bin .add (.t 83) (.c (.int .i64 1))) 84,.op (.fa (.t 8) 2) 85,⟨0,0,some (.st (.t 85) (.t 84) 1),[],none,none⟩]) (SL.toS ⟨tm,[],none,1001,wOl,aId 4 i (i+1)⟩) QN QX:=by
  intro hp tm ht QN hq QX
  rw[vF hL hD h34 hp]at hq
  refine WR.weak (SW.aP ht (.cons rfl (.inl rfl) (.cons rfl (.inl rfl) .nil))) ?_
  refine WR.m 3 rfl ?_
  rw[aN (by omega)]
  refine WQ.q rfl ?_
  refine hq _ (uW (s:=s) (c:=c) (k:=4) (i:=i) (e:=i+2) rfl (fun st q=>q) _ ?_)
  exact tQ
 refine WR.seq (WR.m 2 rfl ?_)
 refine WQ.bP rfl rfl rfl (vE rfl rfl (by omega)) rfl ?_
 refine WQ.c rfl (p1 _) .base rfl ?_
 cases hp1:jD (s.drop i) [61,61]with
 |true=>
  refine WQ.m 1000 rfl (WQ.aL (WR.aB rfl ?_))
  refine two (by rw[hp1,Bool.true_or]) _ ?_ _ (fun s1 q=>q) _
  exact tQ
 |false=>
 refine WQ.m 3 rfl ?_
 refine WQ.bP rfl rfl rfl (vE rfl rfl (by omega)) rfl ?_
 refine WQ.c rfl (p2 _) .base rfl ?_
 cases hp2:jD (s.drop i) [38,38]with
 |true=>
  refine WQ.m 1000 rfl (WQ.aL (WR.aB rfl ?_))
  refine two (by rw[hp1,hp2,Bool.false_or]) _ ?_ _ (fun s1 q=>q) _
  exact tQ
 |false=>
 rw[vX hL hD h34 (by rw[hp1,hp2,Bool.false_or])]
 refine WQ.m 1000 rfl (WQ.aL (WR.aF rfl ?_))
 refine WR.seq (WR.m 1 rfl ?_)
 refine WQ.c rfl (aJu aOo c hc8 _) .base rfl (WQ.m 1 rfl ?_)
 cases hz:decide (ibV c aOo<0)with
 |true=>
  refine WQ.m 1000 rfl (WQ.aL (WR.aB rfl ?_))
  repeat(first|refine WR.seq ?_|refine WR.block ?_|refine WR.scope ?_|refine WR.skip ?_|refine WR.exit ?_|refine WR.aB rfl ?_|refine WR.aF rfl ?_|refine WR.m 1000 rfl ?_|refine WQ.aL ?_|refine WR.aO aV (DW.m 1000 rfl ?_))
  exact WR.e
 |false=>
  refine WQ.m 1000 rfl (WQ.aL (WR.k rfl ?_))
  refine uW (s:=s) (c:=c) (k:=4) (i:=i) (e:=i+1) rfl (fun st q=>q) _ ?_
  exact tQ
end Go.VM
end
