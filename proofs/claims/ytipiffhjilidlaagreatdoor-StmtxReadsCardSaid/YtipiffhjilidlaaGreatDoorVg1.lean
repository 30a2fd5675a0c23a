/- laid for this seat: VlLexA VlLexB VlLexC VlLexD -/
import Derived.Test.YtipiffhjilidlaaGreatDoorVg0
import Derived.Test.YtipiffhjilidlaaGreatDoorVmR
import Derived.Test.YtipiffhjilidlaaGreatDoorVmT
set_option linter.unusedVariables false
set_option linter.unusedSimpArgs false
section
/- Tokens: bytes. -/
set_option maxRecDepth 100000
namespace Go.VM
open Go.RowKit
theorem aV:Go.Proofs.Tryz.prog.follows .mixedOrders=true:=by kernel_rfl
def aNj(c:Nat):Int:=IntKind.u8.wrap (BitVec.ofInt 8 c|||BitVec.ofInt 8 32).toNat
def fU(c:Nat):Bool:=(decide (aNj c≥97)&&decide (aNj c≤122))||decide ((c:Int)=95)
def eL(c:Nat):Bool:=decide ((c:Int)≥48)&&decide ((c:Int)≤57)
def mH(c:Nat):Bool:=fU c||eL c
def nZ(c:Nat):Bool:=(decide ((c:Int)≥32)&&decide ((c:Int)≤126))&&!decide ((c:Int)=34)
def mF(c:Nat):Bool:=!decide ((c:Int)=10)
theorem sV(c:Nat)(h:H):SCall Go.Proofs.Tryz.prog [] 43 [.int .u8 c] none h (.ret (.bool (fU c))) none h:=by
 refine SCall.cK rfl ?_ (by exact⟨trivial,trivial⟩) (by exact trivial) h
 refine SCall.listed (fn:=Go.Proofs.Tryz.f43) (by kernel_rfl) aZj (by kernel_rfl) (by kernel_rfl) (Nat.le_refl _) rfl (trivial) trivial ?_
 unfold bAs
 refine WR.seq (WR.q rfl ?_)
 refine WR.seq (WR.m 3 rfl ?_)
 unfold fU
 show WQ Go.Proofs.Tryz.prog [] _ _ (SL.toS ⟨(5,.v (.bool (decide (aNj c≥97))))::_,_,_,_,_,_⟩) _ _
 cases decide (aNj c≥97)
 ·refine WQ.m 8 rfl ?_
  rw[Bool.false_and,Bool.false_or]
  refine WQ.q rfl ?_
  exact WR.e
 ·refine WQ.m 4 rfl ?_
  rw[Bool.true_and]
  show WQ Go.Proofs.Tryz.prog [] _ _ (SL.toS ⟨(9,.v (.bool (decide (aNj c≤122))))::_,_,_,_,_,_⟩) _ _
  cases decide (aNj c≤122)
  ·rw[Bool.false_or]
   refine WQ.q rfl ?_
   exact WR.e
  ·rw[Bool.true_or]
   refine WQ.q rfl ?_
   exact WR.e
theorem pC(c:Nat)(h:H):SCall Go.Proofs.Tryz.prog [] 45 [.int .u8 c] none h (.ret (.bool (eL c))) none h:=by
 refine SCall.cK rfl ?_ (by exact⟨trivial,trivial⟩) (by exact trivial) h
 refine SCall.listed (fn:=Go.Proofs.Tryz.f45) (by kernel_rfl) bBv (by kernel_rfl) (by kernel_rfl) (Nat.le_refl _) rfl (trivial) trivial ?_
 unfold bAz
 refine WR.seq (WR.q rfl ?_)
 refine WR.seq (WR.m 2 rfl ?_)
 unfold eL
 cases decide ((c:Int)≥48)
 ·rw[Bool.false_and]
  refine WQ.q rfl ?_
  exact WR.e
 ·rw[Bool.true_and]
  refine WQ.q rfl ?_
  exact WR.e
theorem aLh(c:Nat)(h:H):SCall Go.Proofs.Tryz.prog [] 44 [.int .u8 c] none h (.ret (.bool (mH c))) none h:=by
 refine SCall.cK rfl ?_ (by exact⟨trivial,trivial⟩) (by exact trivial) h
 refine SCall.listed (fn:=Go.Proofs.Tryz.f44) (by kernel_rfl) bAn (by kernel_rfl) (by kernel_rfl) (Nat.le_refl _) rfl (trivial) trivial ?_
 unfold aYy
 refine WR.seq (WR.q rfl ?_)
 refine WR.seq (WR.m 1 rfl ?_)
 refine WQ.c rfl (sV c _) .base rfl ?_
 unfold mH
 cases fU c
 ·rw[Bool.false_or]
  refine WQ.m 2 rfl ?_
  refine WQ.c rfl (pC c _) .base rfl (WQ.q rfl ?_)
  exact WR.e
 ·rw[Bool.true_or]
  refine WQ.q rfl ?_
  exact WR.e
theorem aMj(c:Nat)(h:H):SCall Go.Proofs.Tryz.prog [] 42 [.int .u8 c] none h (.ret (.bool (mF c))) none h:=by
 refine SCall.cK rfl ?_ (by exact⟨trivial,trivial⟩) (by exact trivial) h
 refine SCall.listed (fn:=Go.Proofs.Tryz.f42) (by kernel_rfl) bCx (by kernel_rfl) (by kernel_rfl) (Nat.le_refl _) rfl (trivial) trivial ?_
 unfold bCl
 repeat(first|refine WR.seq ?_|refine WR.block ?_|refine WR.scope ?_|refine WR.skip ?_|refine WR.exit ?_|refine WR.aB rfl ?_|refine WR.aE rfl ?_|refine WR.m 1000 rfl ?_|refine WQ.aL ?_|refine WR.aO aV (DW.m 1000 rfl ?_))
 exact WR.e
theorem aGo(c:Nat)(h:H):SCall Go.Proofs.Tryz.prog [] 53 [.int .u8 c] none h (.ret (.bool (nZ c))) none h:=by
 refine SCall.cK rfl ?_ (by exact⟨trivial,trivial⟩) (by exact trivial) h
 refine SCall.listed (fn:=Go.Proofs.Tryz.f53) (by kernel_rfl) aZf (by kernel_rfl) (by kernel_rfl) (Nat.le_refl _) rfl (trivial) trivial ?_
 unfold aZc
 refine WR.seq (WR.q rfl ?_)
 refine WR.seq (WR.m 2 rfl ?_)
 unfold nZ
 cases decide ((c:Int)≥32)
 ·rw[Bool.false_and,Bool.false_and]
  refine WQ.q rfl ?_
  exact WR.e
 ·rw[Bool.true_and]
  refine WQ.m 3 rfl ?_
  cases decide ((c:Int)≤126)
  ·rw[Bool.false_and]
   refine WQ.q rfl ?_
   exact WR.e
  ·rw[Bool.true_and]
   refine WQ.q rfl ?_
   exact WR.e
theorem bAk:∃fn,(Go.Proofs.Tryz.prog).funcs[57]? =some fn∧fn.body=none∧fn.name= "internal/bytealg.IndexByteString" ∧Extern.findNext fn=none∧Extern.find fn=some Extern.BytealgIndexByte.indexByte:=
 ⟨Go.Proofs.Tryz.f57,by kernel_rfl,by kernel_rfl,by kernel_rfl,by kernel_rfl,by kernel_rfl⟩
theorem aRp(bs:List Nat)(c:Nat)(hc:c<256)(h:H):SCall Go.Proofs.Tryz.prog [] 51 [.str bs,.int .u8 c] none h (.ret (.int .i64 (ibV c bs))) none h:=by
 refine SCall.cK rfl ?_ (by exact⟨trivial,trivial,trivial⟩) (by exact trivial) h
 refine SCall.listed (fn:=Go.Proofs.Tryz.f51) (by kernel_rfl) aZy (by kernel_rfl) (by kernel_rfl) (Nat.le_refl _) rfl (trivial) trivial ?_
 unfold bBu
 obtain⟨fn,h1,h2,h3,h4,h5⟩:=bAk
 refine WR.seq (WR.q rfl ?_)
 refine WR.seq (WR.m 2 rfl ?_)
 refine WQ.dZ rfl (aQj h1 h2 h3 h4 h5 rfl rfl hc) rfl (WQ.q rfl ?_)
 exact WR.e
theorem aIq(bs:List Nat)(c:Nat)(hc:c<256)(h:H):SCall Go.Proofs.Tryz.prog [] 40 [.str bs,.int .u8 c] none h (.ret (.int .i64 (ibV c bs))) none h:=by
 refine SCall.cK rfl ?_ (by exact⟨trivial,trivial,trivial⟩) (by exact trivial) h
 refine SCall.listed (fn:=Go.Proofs.Tryz.f40) (by kernel_rfl) bDv (by kernel_rfl) (by kernel_rfl) (Nat.le_refl _) rfl (trivial) trivial ?_
 unfold bAh
 refine WR.seq (WR.q rfl ?_)
 refine WR.seq (WR.m 2 rfl ?_)
 refine WQ.c rfl (aRp bs c hc _) .base rfl (WQ.q rfl ?_)
 exact WR.e
def iQ(c:Nat):Bool:=decide (ibV c [32,9,10,13]≥0)
theorem aIf(c:Nat)(hc:c<256)(h:H):SCall Go.Proofs.Tryz.prog [] 39 [.int .u8 c] none h (.ret (.bool (iQ c))) none h:=by
 refine SCall.cK rfl ?_ (by exact⟨trivial,trivial⟩) (by exact trivial) h
 refine SCall.listed (fn:=Go.Proofs.Tryz.f39) (by kernel_rfl) bDh (by kernel_rfl) (by kernel_rfl) (Nat.le_refl _) rfl (trivial) trivial ?_
 unfold bBe
 refine WR.seq (WR.q rfl ?_)
 refine WR.seq (WR.m 1 rfl ?_)
 refine WQ.c rfl (aIq [32,9,10,13] c hc _) .base rfl (WQ.q rfl ?_)
 exact WR.e
def jX(s p:List Nat):Bool:=decide (p.length≤s.length)&&decide (s.take p.length=p)
theorem aNm(s p:List Nat)(h:H):SCall Go.Proofs.Tryz.prog [] 52 [.str s,.str p] none h (.ret (.bool (jX s p))) none h:=by
 refine SCall.cK rfl ?_ (by exact⟨trivial,trivial,trivial⟩) (by exact trivial) h
 refine SCall.listed (fn:=Go.Proofs.Tryz.f52) (by kernel_rfl) bBg (by kernel_rfl) (by kernel_rfl) (Nat.le_refl _) rfl (trivial) trivial ?_
 unfold bBq
 refine WR.seq (WR.q rfl ?_)
 refine WR.seq (WR.m 5 rfl ?_)
 unfold jX
 by_cases hl:p.length≤s.length
 ·rw[show decide ((s.length:Int)≥(p.length:Int))=true from decide_eq_true (by omega),decide_eq_true hl,Bool.true_and]
  refine WQ.m 4 rfl ?_
  refine WQ.bK rfl rfl rfl (aOx rfl rfl hl) rfl (WQ.q rfl ?_)
  exact WR.e
 ·rw[show decide ((s.length:Int)≥(p.length:Int))=false from decide_eq_false (by omega),decide_eq_false hl,Bool.false_and]
  refine WQ.q rfl ?_
  exact WR.e
theorem vP(s p:List Nat)(h:H):SCall Go.Proofs.Tryz.prog [] 41 [.str s,.str p] none h (.ret (.bool (jX s p))) none h:=by
 refine SCall.cK rfl ?_ (by exact⟨trivial,trivial,trivial⟩) (by exact trivial) h
 refine SCall.listed (fn:=Go.Proofs.Tryz.f41) (by kernel_rfl) bAw (by kernel_rfl) (by kernel_rfl) (Nat.le_refl _) rfl (trivial) trivial ?_
 unfold bAu
 refine WR.seq (WR.q rfl ?_)
 refine WR.seq (WR.m 2 rfl ?_)
 refine WQ.c rfl (aNm s p _) .base rfl (WQ.q rfl ?_)
 exact WR.e
end Go.VM
end
section
/- Tokens: runs of bytes, layout. -/
set_option maxRecDepth 100000
namespace Go.VM
open Go.RowKit
def big:Nat:=4611686018427387904
theorem aN{i:Nat}(h:i<big):IntKind.i64.wrap ((i:Int)+1)=((i+1:Nat):Int):=by
 unfold big at h
 rw[wrap64 (by omega) (by omega)];rfl
theorem fV{P:Program}{gl:List Nat}{nt:Nat}{tm:TM}{h:H}{x i:RX}{k:IntKind}{s:List Nat}{n b:Nat}(hx:rv gl tm x=some (.str s))(hi:rv gl tm i=some (.int k n))(hg:s[n]? =some b):cE P gl nt tm h (some (.idxs x i)) (.v (.int .u8 b)):=by
 refine bF ?_
 simp only[dM,rl,hx,hi,Option.bind_some,gI]
 have:¬((n:Int)<0):=by omega
 simp[this,hg]
theorem vM{P:Program}{gl:List Nat}{nt:Nat}{tm:TM}{h:H}{x lo:RX}{k:IntKind}{s:List Nat}{a:Nat}(hx:rv gl tm x=some (.str s))(hlo:rv gl tm lo=some (.int k a))(h1:a≤s.length):
  cE P gl nt tm h (some (.slc .str x (some lo) none none)) (.v (.str (s.drop a))):=by
 refine bF ?_
 have e1:rvo gl tm (some lo)=some (some (.int k a)):=by simp[rvo,hlo]
 have e3:rvo gl tm none=some none:=rfl
 simp only[dM,rl,hx,e1,e3]
 simp[pV,nat?,gI,h1,List.take_of_length_le]
def eR(p:Nat→Bool):List Nat→Nat
 |[]=>0
 |c::r=>match p c with
  |true=>eR p r+1
  |false=>0
theorem iZ(p:Nat→Bool):∀l:List Nat,eR p l≤l.length
 |[]=>Nat.le_refl _
 |c::r=>by
  simp only[eR]
  split
  ·have:=iZ p r;simp;omega
  ·simp
def aXa(s:List Nat)(f i:Nat):TM:=[(0,.v (.str s)),(1,.v (.int .i64 i)),(2,.v (.fn (.func f) [] []))]
theorem aIc{QN:S→Prop}{QX:X→S→Prop}(s:List Nat)(f:Nat)(p:Nat→Bool)(hf:∀c∈s,∀h:H,SCall Go.Proofs.Tryz.prog [] f [.int .u8 c] none h (.ret (.bool (p c))) none h)(hl:s.length<big)(e:Nat)
  (h0:∀tm,TellT tm [] (aXa s f e)→QX (.exit 0) (SL.toS ⟨tm,[],none,1000,[],[]⟩)):∀(m i:Nat),i+m=s.length→e=i+eR p (s.drop i)→
  WLr Go.Proofs.Tryz.prog [] ⟨Go.Proofs.Tryz.f38.ntmps,none,38⟩ tT (SL.toS ⟨aXa s f i,[],none,1000,[],[]⟩) QN QX:=by
 intro m
 induction m with
 |zero=>
  intro i hi he
  rw[List.drop_eq_nil_iff.2 (by omega)]at he
  have he:e=i:=he
  subst he
  unfold tT
  refine WLr.of ?_
  refine WR.seq (WR.seq (WR.m 4 rfl ?_))
  rw[show decide ((e:Int)<(s.length:Int))=false from decide_eq_false (by omega)]
  refine WQ.m 1000 rfl (WQ.aL (WR.aE rfl (WR.exit (h0 _ ?_))))
  exact tQ
 |succ m ih=>
  intro i hi he
  obtain⟨c,hc,hd⟩:∃c,s[i]? =some c∧s.drop i=c::s.drop (i+1):=⟨s[i],List.getElem?_eq_getElem (by omega),List.drop_eq_getElem_cons (by omega)⟩
  have hfc:=hf c (List.mem_of_getElem? hc)
  rw[hd,eR]at he
  unfold tT
  refine WLr.of ?_
  refine WR.seq (WR.seq (WR.m 4 rfl ?_))
  rw[show decide ((i:Int)<(s.length:Int))=true from decide_eq_true (by omega)]
  refine WQ.m 4 rfl ?_
  refine WQ.bK rfl rfl rfl (fV rfl rfl hc) rfl ?_
  refine WQ.c rfl (hfc _) .base rfl ?_
  cases hp:p c
  ·rw[hp]at he
   have he:e=i:=he
   subst he
   refine WQ.m 1000 rfl (WQ.aL (WR.aE rfl (WR.exit (h0 _ ?_))))
   exact tQ
  ·rw[hp]at he
   have he:e=i+1+eR p (s.drop (i+1)):=by simp only at he;omega
   refine WQ.m 1000 rfl (WQ.aL (WR.aB rfl (WR.skip ?_)))
   repeat(first|refine WR.seq ?_|refine WR.block ?_|refine WR.scope ?_|refine WR.skip ?_|refine WR.exit ?_|refine WR.aB rfl ?_|refine WR.aE rfl ?_|refine WR.m 1000 rfl ?_|refine WQ.aL ?_|refine WR.aO aV (DW.m 1000 rfl ?_))
   rw[aN (by unfold big at hl⊢;omega)]
   refine WIr.again (WLr.weak ?_ (ih (i+1) (by omega) he))
   refine SW.aP ?_ ?_
   ·exact tQ
   ·exact lQ
theorem jS(s:List Nat)(f:Nat)(p:Nat→Bool)(hf:∀c∈s,∀h:H,SCall Go.Proofs.Tryz.prog [] f [.int .u8 c] none h (.ret (.bool (p c))) none h)(hl:s.length<big)(i:Nat)(hi:i≤s.length)(h:H):
  SCall Go.Proofs.Tryz.prog [] 38 [.str s,.int .i64 i,.fn (.func f) [] []] none h (.ret (.int .i64 (i+eR p (s.drop i):Nat))) none h:=by
 refine SCall.cK rfl ?_ (by exact⟨trivial,trivial,⟨trivial,trivial,trivial⟩,trivial⟩) (by exact trivial) h
 refine SCall.listed (fn:=Go.Proofs.Tryz.f38) (by kernel_rfl) bDt (by kernel_rfl) (by kernel_rfl) (Nat.le_refl _) rfl (trivial) trivial ?_
 unfold bAc
 repeat(first|refine WR.seq ?_|refine WR.block ?_|refine WR.scope ?_|refine WR.skip ?_|refine WR.exit ?_|refine WR.aB rfl ?_|refine WR.aE rfl ?_|refine WR.m 1000 rfl ?_|refine WQ.aL ?_|refine WR.aO aV (DW.m 1000 rfl ?_))
 refine WR.loop (WLr.weak (s:=SL.toS ⟨aXa s f i,[],none,1000,[],[]⟩) ?_ (aIc s f p hf hl _ (fun tm ht=>?_) (s.length-i) i (by omega) rfl))
 ·refine SW.aP ?_ ?_
  ·exact tQ
  ·exact lQ
 ·refine WR.weak (SW.aP ht .nil) ?_
  unfold aJl
  repeat(first|refine WR.seq ?_|refine WR.block ?_|refine WR.scope ?_|refine WR.skip ?_|refine WR.exit ?_|refine WR.aB rfl ?_|refine WR.aE rfl ?_|refine WR.m 1000 rfl ?_|refine WQ.aL ?_|refine WR.aO aV (DW.m 1000 rfl ?_))
  exact WR.e
def mK(s:List Nat):Nat→Nat→Nat
 |0,i=>i
 |n+1,i=>if jX (s.drop (i+eR iQ (s.drop i))) [47,47]=true then mK s n (i+eR iQ (s.drop i)+eR mF (s.drop (i+eR iQ (s.drop i))))else i+eR iQ (s.drop i)
theorem aJy{s p:List Nat}(h:jX s p=true):p.length≤s.length:=by
 unfold jX at h
 simp only[Bool.and_eq_true,decide_eq_true_eq]at h
 exact h.1
theorem aUd{s:List Nat}(h:jX s [47,47]=true):2≤eR mF s:=by
 unfold jX at h
 simp only[Bool.and_eq_true,decide_eq_true_eq]at h
 obtain⟨h1,h2⟩:=h
 cases s with
 |nil=>simp at h1
 |cons a s=>
  cases s with
  |nil=>simp at h1
  |cons b s=>
   simp at h2
   obtain⟨rfl,rfl⟩:=h2
   show(match mF 47 with|true=>(match mF 47 with|true=>eR mF s+1|false=>0)+1|false=>0)≥2
   rw[show mF 47=true from rfl]
   show eR mF s+1+1≥2
   omega
theorem aLw{QN:S→Prop}{QX:X→S→Prop}(s:List Nat)(h8:∀c∈s,c<256)(hl:s.length<big)(e:Nat)
  (h1:∀st,iH Go.Proofs.Tryz.prog Go.Proofs.Tryz.f27 (.int .i64 e) 1000 [] st→QX .ret st):∀(n i:Nat),i≤s.length→s.length<i+n→e=mK s n i→
  WLr Go.Proofs.Tryz.prog [] ⟨Go.Proofs.Tryz.f27.ntmps,none,27⟩ zD (SL.toS ⟨[(0,.v (.str s)),(1,.v (.int .i64 i))],[],none,1000,[],[]⟩) QN QX:=by
 intro n
 induction n with
 |zero=>intro i hi hn;omega
 |succ n ih=>
  intro i hi hn he
  have w1:=jS s 39 iQ (fun c hc h=>aIf c (h8 c hc) h) hl i hi
  have c1:=iZ iQ (s.drop i)
  rw[List.length_drop]at c1
  rw[mK]at he
  generalize hj:i+eR iQ (s.drop i)=j at w1 he
  have hjl:j≤s.length:=by omega
  have hp:=vP (s.drop j) [47,47]
  unfold zD
  refine WLr.of ?_
  refine WR.block ?_
  refine WR.seq (WR.m 2 rfl ?_)
  refine WQ.c rfl (w1 _) .base rfl (WQ.q rfl ?_)
  refine WR.seq (WR.seq (WR.m 2 rfl ?_))
  refine WQ.bK rfl rfl rfl (vM rfl rfl hjl) rfl ?_
  refine WQ.c rfl (hp _) .base rfl ?_
  cases hb:jX (s.drop j) [47,47]
  ·rw[if_neg (by rw[hb];decide)]at he
   subst he
   refine WQ.m 1000 rfl (WQ.aL (WR.aB rfl ?_))
   refine WR.seq (WR.q rfl ?_)
   exact WR.ret (h1 _ ⟨rfl,rfl,⟨_,rfl,VLe.refl _⟩,fun _ _=>rfl⟩)
  ·rw[if_pos hb]at he
   have w2:=jS s 42 mF (fun c hc h=>aMj c h) hl j hjl
   have c2:=iZ mF (s.drop j)
   have c3:=aUd hb
   rw[List.length_drop]at c2
   refine WQ.m 1000 rfl (WQ.aL (WR.k rfl ?_))
   refine WR.m 2 rfl ?_
   refine WQ.c rfl (w2 _) .base rfl (WQ.q rfl ?_)
   refine WIr.again (WLr.weak ?_ (ih _ (by omega) (by omega) he))
   refine SW.aP ?_ ?_
   ·exact tQ
   ·exact lQ
theorem yV(s:List Nat)(h8:∀c∈s,c<256)(hl:s.length<big)(i:Nat)(hi:i≤s.length)(h:H):
  SCall Go.Proofs.Tryz.prog [] 27 [.str s,.int .i64 i] none h (.ret (.int .i64 (mK s (s.length+1) i:Nat))) none h:=by
 refine SCall.cK rfl ?_ (by exact⟨trivial,trivial,trivial⟩) (by exact trivial) h
 refine SCall.listed (fn:=Go.Proofs.Tryz.f27) (by kernel_rfl) bDe (by kernel_rfl) (by kernel_rfl) (Nat.le_refl _) rfl (trivial) trivial ?_
 unfold aZp
 repeat(first|refine WR.seq ?_|refine WR.block ?_|refine WR.scope ?_|refine WR.skip ?_|refine WR.exit ?_|refine WR.aB rfl ?_|refine WR.aE rfl ?_|refine WR.m 1000 rfl ?_|refine WQ.aL ?_|refine WR.aO aV (DW.m 1000 rfl ?_))
 refine WR.loop (WLr.weak (s:=SL.toS ⟨[(0,.v (.str s)),(1,.v (.int .i64 i))],[],none,1000,[],[]⟩) ?_ (aLw s h8 hl _ (fun st q=>q) (s.length+1) i hi (by omega) rfl))
 refine SW.aP ?_ ?_
 ·exact tQ
 ·exact lQ
end Go.VM
end
section
/- Tokens: one. -/
set_option maxRecDepth 100000
namespace Go.VM
open Go.RowKit
structure Tk where
 kind:Nat
 a:Nat
 e:Nat
 text:List Nat
def gR(t:Tk):List V:=[.int .i64 t.kind,.int .i64 t.a,.int .i64 t.e,.str t.text]
def zTk:Tk:=⟨0,0,0,[]⟩
def lU:List (List Nat):=[[112,97,99,107,97,103,101],[105,109,112,111,114,116],[116,121,112,101],[115,116,114,117,99,116],[105,110,116,101,114,102,97,99,101],[102,117,110,99],[108,101,116],[105,102],[101,108,115,101],[102,111,114],[114,101,116,117,114,110],[110,101,119],[116,114,117,101],[102,97,108,115,101],[105,110,116],[98,111,111,108],[116,101,120,116]]
def aGg(w:List Nat):V×V:=(.str w,.bool true)
def tG:List (V×V):=lU.map aGg
def aMw(s:List Nat):List (List Nat)→Bool
 |[]=>false
 |w::r=>match decide (s=w)with
  |true=>true
  |false=>aMw s r
def aLb(s:List Nat):Bool:=aMw s lU
theorem aEq(s:List Nat):∀l:List (List Nat),kI (.str s) (l.map aGg)=some (match aMw s l with|true=>some (.bool true)|false=>none)
 |[]=>rfl
 |w::r=>by
  show(match gY (.str s) (.str w)with|some true=>some (some (V.bool true))|some false=>kI (.str s) (r.map aGg)|none=>none)=_
  rw[show gY (.str s) (.str w)=some (decide (s=w))from rfl]
  simp only[aMw]
  cases decide (s=w)
  ·exact aEq s r
  ·rfl
def aCm(s:List Nat)(i:Nat):Nat:=i+1+eR nZ (s.drop (i+1))
def aQe(s:List Nat)(i:Nat):Bool:=(match s[aCm s i]? with|none=>true|some c=>!decide (c=34))||decide (eR nZ (s.drop (i+1))>200)
def yW(s:List Nat)(i:Nat):Tk×Nat:=match aQe s i with
 |true=>(zTk,3)
 |false=>(⟨3,i,aCm s i+1,[]⟩,0)
def mI(r:Tk×Nat):V:=.tup [.agg (gR r.1),.int .i64 r.2]
theorem nR{D:Nat→Prop}(r:Tk×Nat):(mI r).In D:=⟨⟨trivial,trivial,trivial,trivial,trivial⟩,trivial,trivial⟩
theorem aSn{a b:Nat}(h:b≤a)(hb:a<big):IntKind.i64.wrap ((a:Int)-(b:Int))=((a-b:Nat):Int):=by
 unfold big at hb
 rw[wrap64 (by omega) (by omega)];omega
theorem aDs(s:List Nat)(hl:s.length<big)(i:Nat)(hi:i<s.length)(h:H):
  SCall Go.Proofs.Tryz.prog [] 46 [.str s,.int .i64 i] none h (.ret (mI (yW s i))) none h:=by
 refine SCall.cK rfl ?_ (by exact⟨trivial,trivial,trivial⟩) (by exact nR _) h
 refine SCall.listed (fn:=Go.Proofs.Tryz.f46) (by kernel_rfl) aZq (by kernel_rfl) (by kernel_rfl) (Nat.le_refl _) rfl (trivial) (by exact nR _) ?_
 unfold bBh
 have w1:=jS s 53 nZ (fun c hc h=>aGo c h) hl (i+1) (by omega)
 have c1:=iZ nZ (s.drop (i+1))
 rw[List.length_drop]at c1
 have hq:yW s i=match aQe s i with
  |true=>(zTk,3)
  |false=>(⟨3,i,aCm s i+1,[]⟩,0):=rfl
 have hb:aQe s i=((match s[aCm s i]? with|none=>true|some c=>!decide (c=34))||decide (eR nZ (s.drop (i+1))>200)):=rfl
 unfold aCm at hb hq
 generalize hn:eR nZ (s.drop (i+1))=n at w1 c1 hb hq
 refine WR.seq (WR.q rfl ?_)
 refine WR.seq (WR.m 3 rfl ?_)
 rw[aN (by unfold big at hl⊢;omega)]
 refine WQ.c rfl (w1 _) .base rfl (WQ.q rfl ?_)
 refine WR.seq (WR.seq (WR.m 4 rfl ?_))
 by_cases he:i+1+n=s.length
 ·rw[show decide (((i+1+n:Nat):Int)=(s.length:Int))=true from decide_eq_true (by omega)]
  rw[he,List.getElem?_eq_none (Nat.le_refl _),Bool.true_or]at hb
  rw[hq,hb]
  refine WQ.m 1000 rfl (WQ.aL (WR.aB rfl ?_))
  repeat(first|refine WR.seq ?_|refine WR.block ?_|refine WR.scope ?_|refine WR.skip ?_|refine WR.exit ?_|refine WR.aB rfl ?_|refine WR.aE rfl ?_|refine WR.m 1000 rfl ?_|refine WQ.aL ?_|refine WR.aO aV (DW.m 1000 rfl ?_))
  exact WR.e
 ·rw[show decide (((i+1+n:Nat):Int)=(s.length:Int))=false from decide_eq_false (by omega)]
  obtain⟨c,hc⟩:∃c,s[i+1+n]? =some c:=⟨_,List.getElem?_eq_getElem (by omega)⟩
  rw[hc]at hb
  dsimp only at hb
  refine WQ.m 3 rfl ?_
  refine WQ.bK rfl rfl rfl (fV rfl rfl hc) rfl (WQ.m 1 rfl ?_)
  by_cases h34:c=34
  ·rw[show(!decide ((c:Int)=34))=false from by simp;omega]
   rw[show(!decide (c=34))=false from by simp[h34],Bool.false_or]at hb
   refine WQ.m 5 rfl ?_
   rw[aSn (by omega) (by omega)]
   refine WQ.m 1 rfl ?_
   rw[show IntKind.i64.wrap (((i+1+n-i:Nat):Int)-1)=(n:Int)from by
    unfold big at hl
    rw[wrap64 (by omega) (by omega)];omega]
   refine WQ.m 1 rfl ?_
   by_cases h200:n>200
   ·rw[show decide ((n:Int)>200)=true from decide_eq_true (by omega)]
    rw[decide_eq_true h200]at hb
    rw[hq,hb]
    refine WQ.m 1000 rfl (WQ.aL (WR.aB rfl ?_))
    repeat(first|refine WR.seq ?_|refine WR.block ?_|refine WR.scope ?_|refine WR.skip ?_|refine WR.exit ?_|refine WR.aB rfl ?_|refine WR.aE rfl ?_|refine WR.m 1000 rfl ?_|refine WQ.aL ?_|refine WR.aO aV (DW.m 1000 rfl ?_))
    exact WR.e
   ·rw[show decide ((n:Int)>200)=false from decide_eq_false (by omega)]
    rw[decide_eq_false h200]at hb
    rw[hq,hb]
    refine WQ.m 1000 rfl (WQ.aL (WR.k rfl ?_))
    refine WR.seq (WR.m 3 rfl ?_)
    rw[aN (by omega)]
    refine WQ.q rfl ?_
    exact WR.e
  ·rw[show(!decide ((c:Int)=34))=true from by simp;omega]
   rw[show(!decide (c=34))=true from by simp[h34],Bool.true_or]at hb
   rw[hq,hb]
   refine WQ.m 1000 rfl (WQ.aL (WR.aB rfl ?_))
   repeat(first|refine WR.seq ?_|refine WR.block ?_|refine WR.scope ?_|refine WR.skip ?_|refine WR.exit ?_|refine WR.aB rfl ?_|refine WR.aE rfl ?_|refine WR.m 1000 rfl ?_|refine WQ.aL ?_|refine WR.aO aV (DW.m 1000 rfl ?_))
   exact WR.e
end Go.VM
end
section
/- Tokens: the one at a place. -/
set_option maxRecDepth 100000
namespace Go.VM
open Go.RowKit
def aQc:List Nat:=[40,41,123,125,91,93,44,59,46,61,60,43,45,42,33]
def aGd(n c:Nat):Bool:=decide (n>15)||(decide (c=48)&&decide (n>1))
def jT(s:List Nat)(i c:Nat):Tk×Nat:=
 match fU c with
 |true=>
  let n:=eR mH (s.drop i)
  (⟨match aLb ((s.drop i).take n)with|true=>5|false=>1,i,i+n,[]⟩,match decide (n>40)with|true=>4|false=>0)
 |false=>match eL c with
  |true=>
   let n:=eR eL (s.drop i)
   (⟨2,i,i+n,[]⟩,match aGd n c with|true=>2|false=>0)
  |false=>match decide (c=34)with
   |true=>yW s i
   |false=>match jX (s.drop i) [61,61]||jX (s.drop i) [38,38]with
    |true=>(⟨4,i,i+2,[]⟩,0)
    |false=>match decide (ibV c aQc<0)with
     |true=>(⟨4,i,i+1,[]⟩,1)
     |false=>(⟨4,i,i+1,[]⟩,0)
def wOl:OL:=[(1000,.map tG)]
theorem rB{D:Nat→Prop}:∀l:List (List Nat),oX D (l.map aGg)
 |[]=>trivial
 |_::l=>⟨⟨trivial,trivial⟩,rB l⟩
theorem zH{D:Nat→Prop}:fF D wOl:=⟨rB lU,trivial⟩
def aGw(k i e:Nat):LM:=[(8,[.int .i64 k,.int .i64 i,.int .i64 e,.str []]),(6,[.int .i64 0,.int .i64 0,.int .i64 0,.str []])]
def aUq(s:List Nat)(i c:Nat):TM:=[(0,.v (.str s)),(1,.v (.int .i64 i)),(2,.v (.map 1000)),(6,.l 6 0),(8,.l 8 0),(9,.v (.int .u8 c))]
theorem aUb{gl:List Nat}{nt nx:Nat}{tm:TM}{lc:LM}{x k:RX}{s:List Nat}(hx:rv gl tm x=some (.map 1000))(hk:rv gl tm k=some (.str s)):cE Go.Proofs.Tryz.prog gl nt tm ⟨nx,og wOl,lc⟩ (some (.lk x k false (.bool false) .str)) (.v (.bool (aLb s))):=by
 refine bF ?_
 simp only[dM,rl,hx,hk]
 show(match kI (.str s) (lU.map aGg)with|some (some v)=>some (TV.v (oA false v true))|some none=>some (TV.v (oA false (.bool false) false))|none=>none)=_
 rw[aEq]
 show _=some (TV.v (.bool (aMw s lU)))
 cases aMw s lU<;>rfl
theorem sS{s:List Nat}{i c:Nat}(h:fU c=true):jT s i c=(⟨match aLb ((s.drop i).take (eR mH (s.drop i)))with|true=>5|false=>1,i,i+eR mH (s.drop i),[]⟩,match decide (eR mH (s.drop i)>40)with|true=>4|false=>0):=by
 unfold jT;rw[h]
theorem uU{s:List Nat}{i c:Nat}(h:fU c=false)(h2:eL c=true):jT s i c=(⟨2,i,i+eR eL (s.drop i),[]⟩,match aGd (eR eL (s.drop i)) c with|true=>2|false=>0):=by
 unfold jT;rw[h,h2]
theorem xY{s:List Nat}{i c:Nat}(h:fU c=false)(h2:eL c=false)(h3:c=34):jT s i c=yW s i:=by
 unfold jT;rw[h,h2,decide_eq_true h3]
theorem aDl{s:List Nat}{i c:Nat}(h:fU c=false)(h2:eL c=false)(h3:¬c=34)(h4:(jX (s.drop i) [61,61]||jX (s.drop i) [38,38])=true):jT s i c=(⟨4,i,i+2,[]⟩,0):=by
 unfold jT;rw[h,h2,decide_eq_false h3,h4]
theorem aDf{s:List Nat}{i c:Nat}(h:fU c=false)(h2:eL c=false)(h3:¬c=34)(h4:(jX (s.drop i) [61,61]||jX (s.drop i) [38,38])=false):jT s i c=(⟨4,i,i+1,[]⟩,match decide (ibV c aQc<0)with|true=>1|false=>0):=by
 unfold jT;rw[h,h2,decide_eq_false h3,h4]
 dsimp only
 cases decide (ibV c aQc<0)<;>rfl
theorem wI{QN:S→Prop}{QX:X→S→Prop}{r:Tk×Nat}{s:List Nat}{c k i e:Nat}(hr:r=(⟨k,i,e,[]⟩,0))(h1:∀st,iH Go.Proofs.Tryz.prog Go.Proofs.Tryz.f28 (mI r) 1001 wOl st→QX .ret st)(tm:TM)(ht:TellT tm (aGw k i e) (aUq s i c)):
  WR Go.Proofs.Tryz.prog [] ⟨Go.Proofs.Tryz.f28.ntmps,none,28⟩ oN (SL.toS ⟨tm,[],none,1001,wOl,aGw k i e⟩) QN QX:=by
 subst hr
 refine WR.weak (SW.aP ht (.cons rfl (.inl rfl) (.cons rfl (.inl rfl) .nil))) ?_
 unfold oN
 repeat(first|refine WR.seq ?_|refine WR.block ?_|refine WR.scope ?_|refine WR.skip ?_|refine WR.exit ?_|refine WR.aB rfl ?_|refine WR.aE rfl ?_|refine WR.m 1000 rfl ?_|refine WQ.aL ?_|refine WR.aO aV (DW.m 1000 rfl ?_))
 exact WR.ret (h1 _ ⟨rfl,rfl,⟨_,rfl,VLe.refl _⟩,fun _ _=>rfl⟩)
theorem aHc(s:List Nat)(h8:∀c∈s,c<256)(hl:s.length<big)(i c:Nat)(hc:s[i]? =some c):
  SCall Go.Proofs.Tryz.prog [] 28 [.str s,.int .i64 i,.map 1000] none ⟨1001,og wOl,[]⟩ (.ret (mI (jT s i c))) none ⟨1001,og wOl,[]⟩:=by
 refine SCall.listed (fn:=Go.Proofs.Tryz.f28) (by kernel_rfl) aZt (by kernel_rfl) (by kernel_rfl) (Nat.le_refl _) rfl (zH) (by exact nR _) ?_
 unfold bDm
 have hi:i<s.length:=(List.getElem?_eq_some_iff.1 hc).1
 have hc8:=h8 c (List.mem_of_getElem? hc)
 refine WR.seq (WR.q rfl ?_)
 refine WR.seq (WR.m 3 rfl ?_)
 rw[aN (by omega)]
 refine WQ.q rfl ?_
 refine WR.seq (WR.seq (WR.m 2 rfl ?_))
 refine WQ.bK rfl rfl rfl (fV rfl rfl hc) rfl (WQ.q rfl ?_)
 refine WR.weak (s:=SL.toS ⟨aUq s i c,[],none,1001,wOl,aGw 4 i (i+1)⟩) ?_ ?_
 ·refine SW.aP ?_ ?_
  ·exact tQ
  ·exact lQ
 refine WR.block (WR.seq (WR.m 1 rfl ?_))
 refine WQ.c rfl (sV c _) .base rfl (WQ.q rfl ?_)
 cases hL:fU c with
 |true=>
  rw[sS hL]
  have w1:=jS s 44 mH (fun c hc h=>aLh c h) hl i (by omega)
  have c1:=iZ mH (s.drop i)
  rw[List.length_drop]at c1
  generalize eR mH (s.drop i)=n at w1 c1⊢
  refine WR.aB rfl ?_
  refine WR.seq (WR.m 2 rfl ?_)
  refine WQ.c rfl (w1 _) .base rfl (WQ.q rfl ?_)
  refine WR.seq (WR.seq (WR.m 5 rfl ?_))
  refine WQ.bK rfl rfl rfl (uD rfl rfl rfl (by omega) (by omega)) rfl ?_
  rw[Nat.add_sub_cancel_left]
  refine WQ.bK rfl rfl rfl (aUb rfl rfl) rfl (WQ.aL ?_)
  have fin:∀(k:Nat) (tm:TM),TellT tm (aGw k i (i+n)) (aUq s i c)→WR Go.Proofs.Tryz.prog [] ⟨Go.Proofs.Tryz.f28.ntmps,none,28⟩ aAf (SL.toS ⟨tm,[],none,1001,wOl,aGw k i (i+n)⟩)
    (fun s1=>WR Go.Proofs.Tryz.prog [] ⟨Go.Proofs.Tryz.f28.ntmps,none,28⟩ oN s1 (iH Go.Proofs.Tryz.prog Go.Proofs.Tryz.f28 (mI (⟨k,i,i+n,[]⟩,match decide (n>40)with|true=>4|false=>0)) 1001 wOl) (tF (iH Go.Proofs.Tryz.prog Go.Proofs.Tryz.f28 (mI (⟨k,i,i+n,[]⟩,match decide (n>40)with|true=>4|false=>0)) 1001 wOl))) (sH 0 (fun s1=>WR Go.Proofs.Tryz.prog [] ⟨Go.Proofs.Tryz.f28.ntmps,none,28⟩ oN s1 (iH Go.Proofs.Tryz.prog Go.Proofs.Tryz.f28 (mI (⟨k,i,i+n,[]⟩,match decide (n>40)with|true=>4|false=>0)) 1001 wOl) (tF (iH Go.Proofs.Tryz.prog Go.Proofs.Tryz.f28 (mI (⟨k,i,i+n,[]⟩,match decide (n>40)with|true=>4|false=>0)) 1001 wOl))) (tF (iH Go.Proofs.Tryz.prog Go.Proofs.Tryz.f28 (mI (⟨k,i,i+n,[]⟩,match decide (n>40)with|true=>4|false=>0)) 1001 wOl))):=by
   intro k tm ht
   refine WR.weak (SW.aP ht (.cons rfl (.inl rfl) (.cons rfl (.inl rfl) .nil))) ?_
   unfold aAf
   refine WR.seq (WR.m 4 rfl ?_)
   rw[aSn (by omega) (by omega),Nat.add_sub_cancel_left]
   refine WQ.m 1 rfl (WQ.aL ?_)
   by_cases h40:n>40
   ·rw[show decide ((n:Int)>40)=true from decide_eq_true (by omega),decide_eq_true h40]
    refine WR.aB rfl ?_
    repeat(first|refine WR.seq ?_|refine WR.block ?_|refine WR.scope ?_|refine WR.skip ?_|refine WR.exit ?_|refine WR.aB rfl ?_|refine WR.aE rfl ?_|refine WR.m 1000 rfl ?_|refine WQ.aL ?_|refine WR.aO aV (DW.m 1000 rfl ?_))
    exact WR.e
   ·rw[show decide ((n:Int)>40)=false from decide_eq_false (by omega),decide_eq_false h40]
    refine WR.k rfl ?_
    refine wI (s:=s) (c:=c) rfl (fun st q=>q) _ ?_
    exact tQ
  cases hw:aLb ((s.drop i).take n)with
  |true=>
   refine WR.aB rfl (WR.q rfl ?_)
   refine fin 5 _ ?_
   exact tQ
  |false=>
   refine WR.k rfl ?_
   refine fin 1 _ ?_
   exact tQ
 |false=>
 refine WR.aE rfl ?_
 refine WR.seq (WR.m 1 rfl ?_)
 refine WQ.c rfl (pC c _) .base rfl (WQ.q rfl ?_)
 cases hD:eL c with
 |true=>
  rw[uU hL hD]
  have w1:=jS s 45 eL (fun c hc h=>pC c h) hl i (by omega)
  have c1:=iZ eL (s.drop i)
  rw[List.length_drop]at c1
  generalize eR eL (s.drop i)=n at w1 c1⊢
  refine WR.aB rfl ?_
  refine WR.seq (WR.m 2 rfl ?_)
  refine WQ.c rfl (w1 _) .base rfl (WQ.q rfl ?_)
  refine WR.seq (WR.m 4 rfl ?_)
  rw[aSn (by omega) (by omega),Nat.add_sub_cancel_left]
  refine WQ.q rfl ?_
  refine WR.seq (WR.m 2 rfl ?_)
  unfold aGd
  by_cases h15:n>15
  ·rw[show decide ((n:Int)>15)=true from decide_eq_true (by omega),decide_eq_true h15,Bool.true_or]
   refine WQ.m 1000 rfl (WQ.aL (WR.aB rfl ?_))
   repeat(first|refine WR.seq ?_|refine WR.block ?_|refine WR.scope ?_|refine WR.skip ?_|refine WR.exit ?_|refine WR.aB rfl ?_|refine WR.aE rfl ?_|refine WR.m 1000 rfl ?_|refine WQ.aL ?_|refine WR.aO aV (DW.m 1000 rfl ?_))
   exact WR.e
  rw[show decide ((n:Int)>15)=false from decide_eq_false (by omega),decide_eq_false h15,Bool.false_or]
  refine WQ.m 3 rfl ?_
  by_cases h48:c=48
  ·rw[show decide ((c:Int)=48)=true from decide_eq_true (by omega),decide_eq_true h48,Bool.true_and]
   refine WQ.m 3 rfl ?_
   by_cases h1:n>1
   ·rw[show decide ((n:Int)>1)=true from decide_eq_true (by omega),decide_eq_true h1]
    refine WQ.m 1000 rfl (WQ.aL (WR.aB rfl ?_))
    repeat(first|refine WR.seq ?_|refine WR.block ?_|refine WR.scope ?_|refine WR.skip ?_|refine WR.exit ?_|refine WR.aB rfl ?_|refine WR.aE rfl ?_|refine WR.m 1000 rfl ?_|refine WQ.aL ?_|refine WR.aO aV (DW.m 1000 rfl ?_))
    exact WR.e
   ·rw[show decide ((n:Int)>1)=false from decide_eq_false (by omega),decide_eq_false h1]
    refine WQ.m 1000 rfl (WQ.aL (WR.k rfl ?_))
    refine wI (s:=s) (c:=c) (k:=2) (i:=i) (e:=i+n) rfl (fun st q=>q) _ ?_
    exact tQ
  ·rw[show decide ((c:Int)=48)=false from decide_eq_false (by omega),decide_eq_false h48,Bool.false_and]
   refine WQ.m 1000 rfl (WQ.aL (WR.k rfl ?_))
   refine wI (s:=s) (c:=c) (k:=2) (i:=i) (e:=i+n) rfl (fun st q=>q) _ ?_
   exact tQ
 |false=>
 refine WR.aE rfl ?_
 refine WR.seq (WR.m 2 rfl ?_)
 by_cases h34:c=34
 ·rw[xY hL hD h34,show decide ((c:Int)=34)=true from decide_eq_true (by omega)]
  have qs:=aDs s hl i hi
  generalize yW s i=q at qs⊢
  refine WQ.m 1000 rfl (WQ.aL (WR.aB rfl ?_))
  refine WR.seq (WR.m 2 rfl ?_)
  refine WQ.c rfl (qs _) .base rfl (WQ.q rfl ?_)
  exact WR.e
 rw[show decide ((c:Int)=34)=false from decide_eq_false (by omega)]
 refine WQ.m 1000 rfl (WQ.aL (WR.aE rfl ?_))
 have p1:=vP (s.drop i) [61,61]
 have p2:=vP (s.drop i) [38,38]
 have two:(jX (s.drop i) [61,61]||jX (s.drop i) [38,38])=true→∀tm:TM,TellT tm (aGw 4 i (i+1)) (aUq s i c)→∀QN:S→Prop,(∀s1,WR Go.Proofs.Tryz.prog [] ⟨Go.Proofs.Tryz.f28.ntmps,none,28⟩ oN s1 (iH Go.Proofs.Tryz.prog Go.Proofs.Tryz.f28 (mI (jT s i c)) 1001 wOl) (tF (iH Go.Proofs.Tryz.prog Go.Proofs.Tryz.f28 (mI (jT s i c)) 1001 wOl))→QN s1)→∀QX,
   WR Go.Proofs.Tryz.prog [] ⟨Go.Proofs.Tryz.f28.ntmps,none,28⟩ (.reg [.op (.fa (.t 8) 2) 82,.op (.ld (.t 82) none) 83,.op (.bin .add (.t 83) (.c (.int .i64 1))) 84,.op (.fa (.t 8) 2) 85,⟨0,0,some (.st (.t 85) (.t 84) 1),[],none,none⟩]) (SL.toS ⟨tm,[],none,1001,wOl,aGw 4 i (i+1)⟩) QN QX:=by
  intro hp tm ht QN hq QX
  rw[aDl hL hD h34 hp]at hq
  refine WR.weak (SW.aP ht (.cons rfl (.inl rfl) (.cons rfl (.inl rfl) .nil))) ?_
  refine WR.m 3 rfl ?_
  rw[aN (by omega)]
  refine WQ.q rfl ?_
  refine hq _ (wI (s:=s) (c:=c) (k:=4) (i:=i) (e:=i+2) rfl (fun st q=>q) _ ?_)
  exact tQ
 refine WR.seq (WR.m 2 rfl ?_)
 refine WQ.bK rfl rfl rfl (vM rfl rfl (by omega)) rfl ?_
 refine WQ.c rfl (p1 _) .base rfl ?_
 cases hp1:jX (s.drop i) [61,61]with
 |true=>
  refine WQ.m 1000 rfl (WQ.aL (WR.aB rfl ?_))
  refine two (by rw[hp1,Bool.true_or]) _ ?_ _ (fun s1 q=>q) _
  exact tQ
 |false=>
 refine WQ.m 3 rfl ?_
 refine WQ.bK rfl rfl rfl (vM rfl rfl (by omega)) rfl ?_
 refine WQ.c rfl (p2 _) .base rfl ?_
 cases hp2:jX (s.drop i) [38,38]with
 |true=>
  refine WQ.m 1000 rfl (WQ.aL (WR.aB rfl ?_))
  refine two (by rw[hp1,hp2,Bool.false_or]) _ ?_ _ (fun s1 q=>q) _
  exact tQ
 |false=>
 rw[aDf hL hD h34 (by rw[hp1,hp2,Bool.false_or])]
 refine WQ.m 1000 rfl (WQ.aL (WR.aE rfl ?_))
 refine WR.seq (WR.m 1 rfl ?_)
 refine WQ.c rfl (aIq aQc c hc8 _) .base rfl (WQ.m 1 rfl ?_)
 cases hz:decide (ibV c aQc<0)with
 |true=>
  refine WQ.m 1000 rfl (WQ.aL (WR.aB rfl ?_))
  repeat(first|refine WR.seq ?_|refine WR.block ?_|refine WR.scope ?_|refine WR.skip ?_|refine WR.exit ?_|refine WR.aB rfl ?_|refine WR.aE rfl ?_|refine WR.m 1000 rfl ?_|refine WQ.aL ?_|refine WR.aO aV (DW.m 1000 rfl ?_))
  exact WR.e
 |false=>
  refine WQ.m 1000 rfl (WQ.aL (WR.k rfl ?_))
  refine wI (s:=s) (c:=c) (k:=4) (i:=i) (e:=i+1) rfl (fun st q=>q) _ ?_
  exact tQ
end Go.VM
end
