/- laid for this seat: VzT VzU VzV VzW VzI VzX VfL -/
import Derived.Test.YtgadhdnnkdcgkaaGreatDoorVg9
import Derived.Test.YtgadhdnnkdcgkaaGreatDoorVg7
import Derived.Test.YtgadhdnnkdcgkaaGreatDoorVh2
set_option linter.unusedVariables false
set_option linter.unusedSimpArgs false
section
/- Statements: the same tokens elsewhere give the same statements, moved. -/
set_option maxRecDepth 100000
namespace Go.VM
open Go.RowKit
mutual
def aLr(b:Int):Sx→Sx
 |.mk k a nm has x body els=>.mk k (a+b) nm has (match Nat.beq k 3&&!has with|true=>x|false=>shX b x) (iV b body) (iV b els)
def iV(b:Int):List Sx→List Sx
 |[]=>[]
 |x::l=>aLr b x::iV b l
end
theorem aCn(b:Int):∀l m:List Sx,iV b (l++m)=iV b l++iV b m
 |[],m=>rfl
 |x::l,m=>by simp only[iV,List.cons_append,aCn b l m]
def shS(k:Nat)(s:Sr):Sr:=⟨s.a+k,s.p,s.c⟩
def RlS{α:Type}(n k:Nat)(sh:α→α)(r r':Option (α×Sr)):Prop:=∀v s',r=some (v,s')→s'.c=0→s'.a≤n→r'=some (sh v,shS k s')
structure TokS(lo n k:Nat)(b:Int)(l l':List Tz)(P P':Nat→R Ex):Prop where
 tok:∀i,lo≤i→i<n→aA l' (i+k)=shZ b (aA l i)
 els:isF l' (n+k) 5 wA=false
 expr:∀a x a',lo≤a→P a=.ok x a'→a'<n→mD (aA l a')=true→P' (a+k)=.ok (shX b x) (a'+k)
section
variable{lo n k:Nat}{b:Int}{l l':List Tz}{P P':Nat→R Ex}
theorem TokS.is(t:TokS lo n k b l l' P P'){s:Sr}(h0:lo≤s.a)(h:s.a<n)(kk:Int)(x:List Nat):isS l' (shS k s) kk x=isS l s kk x:=by
 unfold isS isF
 show(bW s&&(decide ((aA l' (s.a+k)).k=kk)&&decide ((aA l' (s.a+k)).t=x)))=_
 rw[t.tok _ h0 h]
 rfl
theorem pA(s:Sr):aK (shS k s)=shS k (aK s):=by
 unfold aK shS
 simp only
 rw[show s.a+k+1=s.a+1+k by omega]
theorem nA{s:Sr}{x:List Nat}(h:(bN l s x).c=0):isS l s 4 x=true∧bN l s x=aK s∧isF l s.a 4 x=true:=by
 unfold bN at h⊢
 cases hi:isS l s 4 x with
 |true=>exact⟨rfl,rfl,(aNa hi).2⟩
 |false=>
  rw[hi]at h
  exfalso
  unfold eO at h
  cases hf:bW s with
  |true=>
   rw[hf]at h
   have h:(5:Int)=0:=h
   exact absurd h (by decide)
  |false=>
   rw[hf]at h
   exact(of_decide_eq_false hf) h
theorem qD{s:Sr}{c:Int}(hc:c≠0)(h:(eO l s c).c=0):False:=by
 unfold eO at h
 cases hf:bW s with
 |true=>rw[hf]at h;exact hc h
 |false=>rw[hf]at h;exact(of_decide_eq_false hf) h
theorem TokS.dK(t:TokS lo n k b l l' P P'){s:Sr}(h0:lo≤s.a){x:List Nat}(h:(bN l s x).c=0)(hn:(bN l s x).a≤n):bN l' (shS k s) x=shS k (bN l s x):=by
 obtain⟨h1,h2,h3⟩:=nA h
 rw[h2]at hn⊢
 have hn:s.a+1≤n:=hn
 unfold bN
 rw[t.is h0 (by omega),h1]
 exact pA s
theorem aQq(hP:ParseOk l P){s:Sr}(hs:s.a≤l.length)(h:(aT P s).2.c=0):s.c=0∧∃x a',P s.a=.ok x a'∧aT P s=(x,⟨a',0,0⟩):=by
 unfold aT at h⊢
 cases hf:bW s with
 |false=>rw[hf]at h;exact absurd h (of_decide_eq_false hf)
 |true=>
  rw[hf]at h
  refine⟨eT.1 hf,?_⟩
  cases hr:P s.a with
  |ok x a'=>exact⟨x,a',rfl,rfl⟩
  |er a d p c=>rw[hr]at h;exact absurd h (hP.er _ _ _ _ _ hr)
  |out=>have:=hP.known _ hs;rw[hr]at this;cases this
theorem TokS.exp(t:TokS lo n k b l l' P P')(hP:ParseOk l P){s:Sr}(h0:lo≤s.a)(hs:s.a≤l.length)(h:(aT P s).2.c=0)(hn:(aT P s).2.a<n)(hst:mD (aA l (aT P s).2.a)=true):aT P' (shS k s)=(shX b (aT P s).1,shS k (aT P s).2):=by
 obtain⟨h1,x,a',h2,h3⟩:=aQq hP hs h
 rw[h3]at hn hst⊢
 have e:=t.expr _ _ _ h0 h2 hn hst
 unfold aT
 rw[show bW (shS k s)=true from decide_eq_true h1]
 show(match P' (s.a+k)with|.ok x n=>(x,(⟨n,0,0⟩:Sr))|.er _ _ p c=>(zX,⟨s.a+k,p,c⟩)|.out=>(zX,shS k s))=_
 rw[e]
 rfl
theorem wY{a:Nat}{x:List Nat}(h:isF l a 4 x=true)(hx:x=[59]∨x=[123]):mD (aA l a)=true:=by
 unfold isF at h
 simp only[Bool.and_eq_true,decide_eq_true_eq]at h
 unfold mD
 rw[h.1,h.2]
 rcases hx with rfl|rfl<;>rfl
theorem TokS.val(t:TokS lo n k b l l' P P')(hP:ParseOk l P){s:Sr}(h0:lo≤s.a)(hs:s.a≤l.length){kk:Nat}(hk:Nat.beq kk 3=false){p:Int}{nm:List Nat}(h:(mI l P kk p nm s).2.c=0)(hn:(mI l P kk p nm s).2.a≤n):
  mI l' P' kk (p+b) nm (shS k s)=(aLr b (mI l P kk p nm s).1,shS k (mI l P kk p nm s).2):=by
 have m1:=dD hs (x:=[61])
 have m2:=bZ hP m1.len
 have m3:=dD m2.len (x:=[59])
 unfold mI at h hn⊢
 have h:(bN l (aT P (bN l s [61])).2 [59]).c=0:=h
 have hn:(bN l (aT P (bN l s [61])).2 [59]).a≤n:=hn
 have c2:=m3.jU h
 have c1:=m2.jU c2
 obtain⟨q1,q2,q3⟩:=nA h
 have a1:(bN l s [61]).a≤n:=by have:=m2.le;have:=m3.le;omega
 have a2:(aT P (bN l s [61])).2.a<n:=by have:=m3.lt h;omega
 rw[t.dK h0 c1 a1,t.exp hP (by have:=m1.le;omega) m1.len c2 a2 (wY q3 (.inl rfl)),t.dK (by have:=m1.le;have:=m2.le;omega) h hn]
 simp only[aLr,iV,hk,Bool.false_and]
structure SimS(lo n k:Nat)(b:Int)(l:List Tz)(f f':Sf):Prop where
 block:∀d s,lo≤s.a→s.a≤l.length→RlS n k (iV b) (f.block d s) (f'.block d (shS k s))
 loop:∀d acc s,lo≤s.a→s.a≤l.length→RlS n k (iV b) (f.loop d acc s) (f'.loop d (iV b acc) (shS k s))
 stmt:∀d s,lo≤s.a→s.a≤l.length→RlS n k (aLr b) (f.stmt d s) (f'.stmt d (shS k s))
theorem aYs(t:TokS lo n k b l l' P P')(hP:ParseOk l P)(hn:n≤l.length){f f':Sf}(iv:InvS l f)(blk:∀d s v s',s.a≤l.length→f.block d s=some (v,s')→s'.c=0→mD (aA l s.a)=true)(h:SimS lo n k b l f f')(d:Nat)(s:Sr)(h0:lo≤s.a)(hs:s.a≤l.length):RlS n k (aLr b) (eP l P f d s) (eP l' P' f' d (shS k s)):=by
 intro v s' e hc ha
 have ivn:=tG hP iv
 have stp:=ivn.stmt d s v s' hs e
 have hlt:=stp.lt hc
 have e1:=fun(kk:Int) (x:List Nat)=>t.is (s:=s) h0 (by omega) kk x
 have hnow:aA l' (s.a+k)=shZ b (aA l s.a):=t.tok _ h0 (by omega)
 unfold eP at e⊢
 rw[e1,e1,e1,e1]
 rw[show(shS k s).a=s.a+k from rfl,hnow,pA,pA]
 rw[show(shZ b (aA l s.a)).a=(aA l s.a).a+b from rfl,show(shZ b (aA l s.a)).t=(aA l s.a).t from rfl]
 cases h1:isS l s 5 bAd with
 |true=>
  have n1:=aU (dO h1 (by decide))
  rw[h1]at e
  cases hk:decide ((aA l (s.a+1)).k=1)with
  |true=>
   rw[hk]at e
   have n2:=cP (l:=l) (a:=s.a+1) (by rw[of_decide_eq_true hk];decide)
   have e:=Option.some.inj e
   have hv:=qQ hP (s:=aK (aK s)) n2 (k:=1) (p:=(aA l s.a).a) (nm:=(aA l (s.a+1)).t)
   rw[e]at hv
   have hv1:=hv.lt hc
   have hv1:s.a+1+1<s'.a:=hv1
   have hk1:=t.tok (s.a+1) (by omega) (by omega)
   rw[show s.a+k+1=s.a+1+k by omega,hk1,show(shZ b (aA l (s.a+1))).k=(aA l (s.a+1)).k from rfl,show(shZ b (aA l (s.a+1))).t=(aA l (s.a+1)).t from rfl,hk]
   have tv:=t.val hP (s:=aK (aK s)) (by show lo≤s.a+1+1;omega) n2 (kk:=1) rfl (p:=(aA l s.a).a) (nm:=(aA l (s.a+1)).t) (by rw[e];exact hc) (by rw[e];exact ha)
   simp only
   rw[tv,e]
  |false=>
   rw[hk]at e
   have e:=Option.some.inj e
   exfalso
   have hf:=pM n1.len (c:=5) (by decide)
   have hv:=qQ hP hf.len (k:=1) (p:=(aA l s.a).a) (nm:=[])
   rw[e]at hv
   exact qD (by decide) (hv.jU hc)
 |false=>
 rw[h1]at e
 simp only at e⊢
 cases h2:isS l s 5 bAj with
 |true=>
  have n1:=aU (dO h2 (by decide))
  rw[h2]at e
  simp only at e⊢
  have q0:=t.is (s:=aK s) (kk:=4) (x:=[59]) (by show lo≤s.a+1;omega)
  cases h3:isS l (aK s) 4 [59]with
  |true=>
   rw[h3]at e
   cases e
   have ha:s.a+1+1≤n:=ha
   rw[q0 (by show s.a+1<n;omega),h3]
   rfl
  |false=>
   rw[h3]at e
   cases e
   have m2:=bZ hP n1.len
   have m3:=dD m2.len (x:=[59])
   have c2:=m3.jU hc
   obtain⟨q1,q2,q3⟩:=nA hc
   have hle:s.a+1≤(aT P (aK s)).2.a:=m2.le
   have a2:(aT P (aK s)).2.a<n:=by have:=m3.lt hc;omega
   rw[q0 (by show s.a+1<n;omega),h3]
   simp only
   rw[t.exp hP (by show lo≤s.a+1;omega) n1.len c2 a2 (wY q3 (.inl rfl))]
   simp only
   rw[t.dK (by omega) hc ha]
   rfl
 |false=>
 rw[h2]at e
 simp only at e⊢
 cases h3:isS l s 5 sIf with
 |true=>
  have n1:=aU (dO h3 (by decide))
  have m2:=bZ hP n1.len
  have hle:s.a+1≤(aT P (aK s)).2.a:=m2.le
  rw[h3]at e
  simp only at e⊢
  cases hb:f.block d (aT P (aK s)).2 with
  |none=>simp only[hb]at e;cases e
  |some q=>
   obtain⟨bb,s1⟩:=q
   have m3:=iv.block _ _ _ _ m2.len hb
   simp only[hb]at e
   have main:s1.c=0→s1.a≤n→aT P' (shS k (aK s))=(shX b (aT P (aK s)).1,shS k (aT P (aK s)).2)∧f'.block d (shS k (aT P (aK s)).2)=some (iV b bb,shS k s1):=by
    intro c1 a1
    have c2:=m3.jU c1
    have a2:(aT P (aK s)).2.a<n:=by have:=m3.lt c1;omega
    exact⟨t.exp hP (by show lo≤s.a+1;omega) n1.len c2 a2 (blk _ _ _ _ m2.len hb c1),h.block d _ (by omega) m2.len _ _ hb c1 a1⟩
   cases h4:isS l s1 5 wA with
   |false=>
    rw[h4]at e
    cases e
    obtain⟨m4,m5⟩:=main hc ha
    rw[m4]
    simp only
    rw[m5]
    simp only
    have:isS l' (shS k s') 5 wA=false:=by
     rcases Nat.eq_or_lt_of_le ha with q|q
     ·unfold isS
      rw[show(shS k s').a=n+k by show s'.a+k=_;rw[q],t.els]
      cases bW (shS k s')<;>rfl
     ·rw[t.is (by have:=m3.le;omega) q,h4]
    rw[this]
    rfl
   |true=>
    rw[h4]at e
    have n4:=aU (dO h4 (by decide))
    cases hb2:f.block d (aK s1)with
    |none=>simp only[hb2]at e;cases e
    |some q=>
     obtain⟨b2,s2⟩:=q
     have m6:=iv.block _ _ _ _ n4.len hb2
     simp only[hb2]at e
     cases e
     have c1:=n4.jU (m6.jU hc)
     have a1:s1.a+1<s'.a:=m6.lt hc
     obtain⟨m4,m5⟩:=main c1 (by omega)
     rw[m4]
     simp only
     rw[m5]
     simp only
     rw[t.is (by have:=m3.le;omega) (by omega),h4]
     simp only
     rw[pA,h.block d _ (by have:=m3.le;show lo≤s1.a+1;omega) n4.len _ _ hb2 hc ha]
     rfl
 |false=>
 rw[h3]at e
 simp only at e⊢
 cases h4:isS l s 5 aVo with
 |true=>
  have n1:=aU (dO h4 (by decide))
  have m2:=bZ hP n1.len
  have hle:s.a+1≤(aT P (aK s)).2.a:=m2.le
  rw[h4]at e
  simp only at e⊢
  cases hb:f.block d (aT P (aK s)).2 with
  |none=>simp only[hb]at e;cases e
  |some q=>
   obtain⟨bb,s1⟩:=q
   have m3:=iv.block _ _ _ _ m2.len hb
   simp only[hb]at e
   cases e
   have c2:=m3.jU hc
   have a2:(aT P (aK s)).2.a<n:=by have:=m3.lt hc;omega
   rw[t.exp hP (by show lo≤s.a+1;omega) n1.len c2 a2 (blk _ _ _ _ m2.len hb hc)]
   simp only
   rw[h.block d _ (by omega) m2.len _ _ hb hc ha]
   rfl
 |false=>
 rw[h4]at e
 simp only at e⊢
 have two:s.a+1<n:=by
  cases h5:rI l s.a with
  |true=>
   rw[h5]at e
   have h5':=h5
   unfold rI at h5'
   rw[Bool.and_eq_true]at h5'
   have n2:=cP (l:=l) (a:=s.a) (by rw[of_decide_eq_true h5'.1];decide)
   have e:=Option.some.inj e
   have hv:=qQ hP (s:=aK s) n2 (k:=2) (p:=(aA l s.a).a) (nm:=(aA l s.a).t)
   rw[e]at hv
   have hv1:s.a+1<s'.a:=hv.lt hc
   omega
  |false=>
   rw[h5]at e
   cases e
   have m2:=bZ hP hs
   have m3:=dD m2.len (x:=[59])
   have:=m3.lt hc
   have:=m2.lt (m3.jU hc)
   omega
 have hset:rI l' (s.a+k)=rI l s.a:=by
  unfold rI
  rw[hnow,show s.a+k+1=s.a+1+k by omega,t.tok (s.a+1) (by omega) two]
  rfl
 rw[hset]
 cases h5:rI l s.a with
 |true=>
  rw[h5]at e
  have h5':=h5
  unfold rI at h5'
  rw[Bool.and_eq_true]at h5'
  have n2:=cP (l:=l) (a:=s.a) (by rw[of_decide_eq_true h5'.1];decide)
  have e:=Option.some.inj e
  have tv:=t.val hP (s:=aK s) (by show lo≤s.a+1;omega) n2 (kk:=2) rfl (p:=(aA l s.a).a) (nm:=(aA l s.a).t) (by rw[e];exact hc) (by rw[e];exact ha)
  simp only
  rw[tv,e]
 |false=>
  rw[h5]at e
  cases e
  have m2:=bZ hP hs
  have m3:=dD m2.len (x:=[59])
  have c2:=m3.jU hc
  obtain⟨q1,q2,q3⟩:=nA hc
  have a2:(aT P s).2.a<n:=by have:=m3.lt hc;omega
  simp only
  rw[t.exp hP h0 hs c2 a2 (wY q3 (.inl rfl))]
  simp only
  rw[t.dK (by have:=m2.le;omega) hc ha]
  rfl
theorem bHc{d:Nat}{acc:List Sx}{f:Sf}(iv:InvS l f){s:Sr}(hs:s.a≤l.length){v:List Sx}{s':Sr}(e:dX l f d acc s=some (v,s'))(hc:s'.c=0):s.c=0:=by
 unfold dX at e
 cases hf:bW s with
 |true=>exact eT.1 hf
 |false=>rw[hf]at e;cases e;exact hc
theorem aZq(l:List Tz)(hP:ParseOk l P)(m:Nat):∀d s v s',s.a≤l.length→(cF l P m).block d s=some (v,s')→s'.c=0→mD (aA l s.a)=true:=by
 intro d s v s' hs e hc
 cases m with
 |zero=>cases e
 |succ m=>
  have e:cA l (cF l P m) d s=some (v,s'):=e
  unfold cA at e
  split at e
  ·cases e;exact(qD (by decide) hc).elim
  ·have h1:=((gW hP m).loop _ _ _ _ _ (dD hs).len e).jU hc
   exact wY (nA h1).2.2 (.inr rfl)
theorem aPy(t:TokS lo n k b l l' P P')(hP:ParseOk l P)(hn:n≤l.length){f f':Sf}(iv:InvS l f)(blk:∀d s v s',s.a≤l.length→f.block d s=some (v,s')→s'.c=0→mD (aA l s.a)=true)(h:SimS lo n k b l f f'):SimS lo n k b l ⟨cA l f,dX l f,eP l P f⟩ ⟨cA l' f',dX l' f',eP l' P' f'⟩:=by
 refine⟨fun d s h0 hs=>?_,fun d acc s h0 hs=>?_,fun d s h0 hs=>aYs t hP hn iv blk h d s h0 hs⟩
 ·intro v s' e hc ha
  have stp:=(tG hP iv).block d s v s' hs e
  have hlt:=stp.lt hc
  have hnow:aA l' (s.a+k)=shZ b (aA l s.a):=t.tok _ h0 (by omega)
  have e:cA l f d s=some (v,s'):=e
  show cA l' f' d (shS k s)=_
  have hdp:mF l' d (shS k s)=mF l d s:=by
   unfold mF
   rw[show(shS k s).a=s.a+k from rfl,hnow]
   rfl
  unfold cA at e⊢
  rw[hdp]
  cases hd:mF l d s with
  |true=>rw[hd]at e;cases e;exact(qD (by decide) hc).elim
  |false=>
   rw[hd]at e
   simp only at e⊢
   have ms:=dD hs (x:=[123])
   have lp:=iv.loop _ _ _ _ _ ms.len e
   rw[t.dK h0 (lp.jU hc) (by have:=lp.le;omega)]
   exact h.loop (d+1) [] _ (by have:=ms.le;omega) ms.len v s' e hc ha
 ·intro v s' e hc ha
  have stp:=(tG hP iv).loop d acc s v s' hs e
  have hlt:=stp.lt hc
  have e:dX l f d acc s=some (v,s'):=e
  show dX l' f' d (iV b acc) (shS k s)=_
  have c0:=bHc iv hs e hc
  unfold dX at e⊢
  rw[show bW (shS k s)=bW s from rfl,t.is h0 (by omega)]
  rw[eT.2 c0]at e⊢
  simp only at e⊢
  cases h1:isS l s 4 [125]with
  |true=>rw[h1]at e;cases e;simp only;rw[pA]
  |false=>
   rw[h1]at e
   simp only at e⊢
   cases h2:f.stmt d s with
   |none=>simp only[h2]at e;cases e
   |some q=>
    obtain⟨x,s1⟩:=q
    simp only[h2]at e
    have m1:=iv.stmt _ _ _ _ hs h2
    have m2:=iv.loop _ _ _ _ _ m1.len e
    rw[h.stmt d s h0 hs x s1 h2 (m2.jU hc) (by have:=m2.le;omega)]
    simp only
    have:=h.loop d (acc++[x]) s1 (by have:=m1.le;omega) m1.len v s' e hc ha
    rw[aCn]at this
    exact this
theorem aHf(t:TokS lo n k b l l' P P')(hP:ParseOk l P)(hn:n≤l.length):∀m,SimS lo n k b l (cF l P m) (cF l' P' m)
 |0=>⟨fun _ _ _ _ _ _ e=>(by cases e),fun _ _ _ _ _ _ _ e=>(by cases e),fun _ _ _ _ _ _ e=>(by cases e)⟩
 |m+1=>aPy t hP hn (gW hP m) (aZq l hP m) (aHf t hP hn m)
end
end Go.VM
end
section
/- Statements: how much there is of what was read. -/
set_option maxRecDepth 100000
namespace Go.VM
open Go.RowKit
mutual
def okT(K:Nat):Tx→Prop
 |.mk _ _ _ _ l=>l.length≤K∧bKz K l
def bKz(K:Nat):List Tx→Prop
 |[]=>True
 |x::l=>okT K x∧bKz K l
end
mutual
def okX(K:Nat):Ex→Prop
 |.mk _ _ _ _ _ t args=>okT K t∧args.length≤K∧aKe K args
def aKe(K:Nat):List Ex→Prop
 |[]=>True
 |x::l=>okX K x∧aKe K l
end
mutual
def okS(K:Nat):Sx→Prop
 |.mk _ _ _ _ x body els=>okX K x∧(body.length≤K∧aFl K body)∧(els.length≤K∧aFl K els)
def aFl(K:Nat):List Sx→Prop
 |[]=>True
 |x::l=>okS K x∧aFl K l
end
theorem aIk{K:Nat}:∀{l:List Ex} {x:Ex},aKe K l→okX K x→aKe K (l++[x])
 |[],x,_,h=>⟨h,trivial⟩
 |y::l,x,h,k=>⟨h.1,aIk h.2 k⟩
theorem aHb{K:Nat}:∀{l:List Sx} {x:Sx},aFl K l→okS K x→aFl K (l++[x])
 |[],x,_,h=>⟨h,trivial⟩
 |y::l,x,h,k=>⟨h.1,aHb h.2 k⟩
theorem yH{K:Nat}:okT K zT:=⟨Nat.zero_le _,trivial⟩
theorem aOb{K:Nat}:okX K zX:=⟨yH,Nat.zero_le _,trivial⟩
theorem pO{K k:Nat}{a e n:Int}{nm:List Nat}:okX K (.mk k a e nm n zT []):=⟨yH,Nat.zero_le _,trivial⟩
theorem aFr{K:Nat}(hK:1≤K):∀(ls:List Int) {x:Tx},okT K x→okT K (hU ls x)
 |[],x,h=>h
 |p::ls,x,h=>⟨hK,aFr hK ls h,trivial⟩
theorem bIb{K:Nat}(hK:1≤K){l:List Tz}{a:Nat}{x:Tx}{a2:Nat}(h:tyF l a=.ok x a2):okT K x:=by
 unfold tyF at h
 split at h
 ·cases h
 ·split at h
  ·rename_i y a3 hb
   cases h
   refine aFr hK _ ?_
   unfold cY at hb
   split at hb
   ·cases hb;exact⟨Nat.zero_le _,trivial⟩
   ·split at hb
    ·split at hb
     ·split at hb
      ·cases hb;exact⟨Nat.zero_le _,trivial⟩
      ·cases hb
     ·cases hb;exact⟨Nat.zero_le _,trivial⟩
    ·cases hb
  ·cases h
  ·cases h
structure BdF(l:List Tz)(f:Fns):Prop where
 expr:∀lv a d x a',f.expr lv a d=.ok x a'→okX (l.length+2) x
 oper:∀a d x a',f.oper a d=.ok x a'→okX (l.length+2) x
 prim:∀a d x a',f.prim a d=.ok x a'→okX (l.length+2) x
 list:∀to a d r a',f.list to a d=.ok r a'→aKe (l.length+2) r.1∧r.1.length≤l.length
 bin:∀lv x a d y a',okX (l.length+2) x→f.bin lv x a d=.ok y a'→okX (l.length+2) y
 post:∀x a d y a',okX (l.length+2) x→f.post x a d=.ok y a'→okX (l.length+2) y
 elts:∀acc a d es a',aKe (l.length+2) acc→acc.length≤a→f.elts acc a d=.ok es a'→aKe (l.length+2) es∧es.length≤a'
theorem bAw{l:List Tz}{f:Fns}(pf:ProgF f)(h:BdF l f):BdF l ⟨cX f,dH l f,dG l f,cR l f,gG l f,dI l f,cZ l f⟩:=by
 refine⟨fun lv a d x a' e=>?_,fun a d x a' e=>?_,fun a d x a' e=>?_,fun to a d r a' e=>?_,fun lv x a d y a' hx e=>?_,fun x a d y a' hx e=>?_,fun acc a d es a' hacc hlen e=>?_⟩
 ·have e:cX f lv a d=.ok x a':=e
  unfold cX at e
  split at e
  ·exact h.oper _ _ _ _ e
  ·obtain⟨y,a1,e1,e2⟩:=aS e
   exact h.bin _ _ _ _ _ _ (h.expr _ _ _ _ _ e1) e2
 ·have e:dH l f a d=.ok x a':=e
  unfold dH at e
  split at e
  ·obtain⟨y,a1,e1,e2⟩:=aS e
   cases e2
   exact⟨yH,by simp,h.oper _ _ _ _ (bP e1),trivial⟩
  ·obtain⟨y,a1,e1,e2⟩:=aS e
   exact h.post _ _ _ _ _ (h.prim _ _ _ _ e1) e2
 ·have e:dG l f a d=.ok x a':=e
  unfold dG at e
  split at e
  ·obtain⟨n,a1,e1,e2⟩:=aS e
   cases e2
   exact pO
  ·split at e
   ·split at e
    ·cases e;exact pO
    ·cases e
   ·split at e
    ·cases e;exact pO
    ·split at e
     ·cases e;exact pO
     ·split at e
      ·cases e;exact pO
      ·split at e
       ·obtain⟨y,a1,e1,e2⟩:=aS e
        obtain⟨z,a2,e3,e4⟩:=aS e2
        cases e4
        exact h.expr _ _ _ _ _ (bP e1)
       ·split at e
        ·obtain⟨ty,a1,r,ht,hi,e1,rfl⟩:=uC e
         have:=h.list _ _ _ _ _ e1
         exact⟨bIb (by omega) ht,by omega,this.1⟩
        ·cases e
 ·have e:cR l f to a d=.ok r a':=e
  unfold cR at e
  obtain⟨es,a1,e1,e2⟩:=aS e
  obtain⟨z,a3,e3,e4⟩:=aS e2
  cases e4
  have hk:=cP (l:=l) (a:=a1) (by rw[(gX e3).2.2];decide)
  have e1:=bP e1
  unfold eR at e1
  split at e1
  ·cases e1;exact⟨trivial,Nat.zero_le _⟩
  ·have:=h.elts [] _ _ _ _ trivial (Nat.zero_le _) e1
   exact⟨this.1,by show es.length≤_;omega⟩
 ·have e:gG l f lv x a d=.ok y a':=e
  unfold gG at e
  split at e
  ·obtain⟨z,a2,e1,e2⟩:=aS e
   refine h.bin _ _ _ _ _ _ ?_ e2
   exact⟨yH,by simp,hx,h.expr _ _ _ _ _ e1,trivial⟩
  ·cases e;exact hx
 ·have e:dI l f x a d=.ok y a':=e
  unfold dI at e
  split at e
  ·split at e
   ·refine h.post _ _ _ _ _ ?_ e
    exact⟨yH,by simp,hx,trivial⟩
   ·cases e
  ·split at e
   ·obtain⟨r,a1,e1,e2⟩:=aS e
    have:=h.list _ _ _ _ _ e1
    refine h.post _ _ _ _ _ ?_ e2
    exact⟨yH,by simp;omega,hx,this.1⟩
   ·split at e
    ·obtain⟨z,a1,e1,e2⟩:=aS e
     obtain⟨w,a2,e3,e4⟩:=aS e2
     refine h.post _ _ _ _ _ ?_ e4
     exact⟨yH,by simp,hx,h.expr _ _ _ _ _ (bP e1),trivial⟩
    ·cases e;exact hx
 ·have e:cZ l f acc a d=.ok es a':=e
  unfold cZ at e
  obtain⟨x,a1,e1,e2⟩:=aS e
  have p:=pf.expr _ _ _ _ _ e1
  have q:=aIk hacc (h.expr _ _ _ _ _ e1)
  split at e2
  ·exact h.elts _ _ _ _ _ q (by simp;omega) e2
  ·cases e2
   exact⟨q,by simp;omega⟩
theorem aXy(l:List Tz):∀n,BdF l (fns l n)
 |0=>⟨fun _ _ _ _ _ e=>(by cases e),fun _ _ _ _ e=>(by cases e),fun _ _ _ _ e=>(by cases e),fun _ _ _ _ _ e=>(by cases e),fun _ _ _ _ _ _ _ e=>(by cases e),fun _ _ _ _ _ _ e=>(by cases e),fun _ _ _ _ _ _ _ e=>(by cases e)⟩
 |n+1=>bAw (pS l n) (aXy l n)
section
variable{l:List Tz}{P:Nat→R Ex}
structure BdS(l:List Tz)(f:Sf):Prop where
 block:∀d s v s',s.a≤l.length→f.block d s=some (v,s')→s'.c=0→aFl (l.length+2) v∧v.length≤l.length
 loop:∀d acc s v s',s.a≤l.length→aFl (l.length+2) acc→acc.length≤s.a→f.loop d acc s=some (v,s')→s'.c=0→aFl (l.length+2) v∧v.length≤l.length
 stmt:∀d s v s',s.a≤l.length→f.stmt d s=some (v,s')→s'.c=0→okS (l.length+2) v
theorem mV(hx:∀a x n,P a=.ok x n→okX (l.length+2) x)(s:Sr):okX (l.length+2) (aT P s).1:=by
 unfold aT
 split
 ·split
  ·rename_i h;exact hx _ _ _ h
  ·exact aOb
  ·exact aOb
 ·exact aOb
theorem aUw(hP:ParseOk l P)(hx:∀a x n,P a=.ok x n→okX (l.length+2) x){f:Sf}(iv:InvS l f)(h:BdS l f):BdS l ⟨cA l f,dX l f,eP l P f⟩:=by
 refine⟨fun d s v s' hs e hc=>?_,fun d acc s v s' hs ha hl e hc=>?_,fun d s v s' hs e hc=>?_⟩
 ·have e:cA l f d s=some (v,s'):=e
  unfold cA at e
  split at e
  ·cases e;exact(qD (by decide) hc).elim
  ·exact h.loop _ [] _ _ _ (dD hs).len trivial (Nat.zero_le _) e hc
 ·have e:dX l f d acc s=some (v,s'):=e
  unfold dX at e
  split at e
  ·cases e;exact⟨ha,by omega⟩
  ·split at e
   ·cases e;exact⟨ha,by omega⟩
   ·split at e
    ·rename_i x s1 hx
     have m1:=iv.stmt _ _ _ _ hs hx
     have m2:=iv.loop _ _ _ _ _ m1.len e
     have c1:=m2.jU hc
     have:=m1.lt c1
     exact h.loop _ _ _ _ _ m1.len (aHb ha (h.stmt _ _ _ _ hs hx c1)) (by simp;omega) e hc
    ·cases e
 ·have e:eP l P f d s=some (v,s'):=e
  have val:∀k p nm s2,okS (l.length+2) (mI l P k p nm s2).1:=fun k p nm s2=>⟨mV hx _,⟨Nat.zero_le _,trivial⟩,⟨Nat.zero_le _,trivial⟩⟩
  unfold eP at e
  split at e
  ·split at e
   ·have v0:=val 1 (aA l s.a).a (aA l (s.a+1)).t (aK (aK s))
    rw[Option.some.inj e]at v0;exact v0
   ·have v0:=val 1 (aA l s.a).a [] (eO l (aK s) 5)
    rw[Option.some.inj e]at v0;exact v0
  ·split at e
   ·split at e
    ·cases e;exact⟨aOb,⟨Nat.zero_le _,trivial⟩,⟨Nat.zero_le _,trivial⟩⟩
    ·cases e;exact⟨mV hx _,⟨Nat.zero_le _,trivial⟩,⟨Nat.zero_le _,trivial⟩⟩
   ·split at e
    ·rename_i hi
     have n1:=aU (dO hi (by decide))
     have m2:=bZ hP n1.len
     split at e
     ·cases e
     ·rename_i b s1 hb
      have m3:=iv.block _ _ _ _ m2.len hb
      split at e
      ·rename_i h4
       have n4:=aU (dO h4 (by decide))
       split at e
       ·cases e
       ·rename_i b2 s2 hb2
        have m6:=iv.block _ _ _ _ n4.len hb2
        cases e
        have k1:=h.block _ _ _ _ m2.len hb (n4.jU (m6.jU hc))
        have k2:=h.block _ _ _ _ n4.len hb2 hc
        exact⟨mV hx _,⟨by omega,k1.1⟩,⟨by omega,k2.1⟩⟩
      ·cases e
       have k1:=h.block _ _ _ _ m2.len hb hc
       exact⟨mV hx _,⟨by omega,k1.1⟩,⟨Nat.zero_le _,trivial⟩⟩
    ·split at e
     ·rename_i hi
      have n1:=aU (dO hi (by decide))
      have m2:=bZ hP n1.len
      split at e
      ·cases e
      ·rename_i b s1 hb
       cases e
       have k1:=h.block _ _ _ _ m2.len hb hc
       exact⟨mV hx _,⟨by omega,k1.1⟩,⟨Nat.zero_le _,trivial⟩⟩
     ·split at e
      ·have v0:=val 2 (aA l s.a).a (aA l s.a).t (aK s)
       rw[Option.some.inj e]at v0;exact v0
      ·cases e;exact⟨mV hx _,⟨Nat.zero_le _,trivial⟩,⟨Nat.zero_le _,trivial⟩⟩
theorem aOy(hP:ParseOk l P)(hx:∀a x n,P a=.ok x n→okX (l.length+2) x):∀n,BdS l (cF l P n)
 |0=>⟨fun _ _ _ _ _ e=>(by cases e),fun _ _ _ _ _ _ _ _ e=>(by cases e),fun _ _ _ _ _ e=>(by cases e)⟩
 |n+1=>aUw hP hx (gW hP n) (aOy hP hx n)
end
end Go.VM
end
section
/- Statements: the document's comparing, of what is the same. -/
set_option maxRecDepth 100000
namespace Go.VM
open Go.RowKit
end Go.VM
end
section
/- Statements: the document's comparing, of expressions and statements that are the same. -/
set_option maxRecDepth 100000
namespace Go.VM
open Go.RowKit
end Go.VM
end
section
/- Statements: the calls at the head of the laws. -/
set_option maxRecDepth 100000
namespace Go.VM
open Go.RowKit
def aZr(l:List Tz)(F:Nat):Bool:=(List.range (l.length+1)).all fun a=>!((fns l F).expr 1 a 0).aY
theorem aZg{l:List Tz}{F:Nat}(h:aZr l F=true):∀a,a≤l.length→((fns l F).expr 1 a 0).aY=false:=by
 intro a ha
 have:=List.all_eq_true.1 h a (List.mem_range.2 (by omega))
 simpa using this
end Go.VM
end
section
/- Statements: what stands behind a block. -/
set_option maxRecDepth 100000
namespace Go.VM
open Go.RowKit
mutual
theorem aIz:∀x:Tx,shT 0 x=x
 |.mk k a p n l=>by simp only[shT,Int.add_zero,aTv l]
theorem aTv:∀l:List Tx,aQb 0 l=l
 |[]=>rfl
 |x::l=>by simp only[aQb,aIz x,aTv l]
end
mutual
theorem bFd:∀x:Ex,shX 0 x=x
 |.mk k a e nm n t args=>by
  simp only[shX,Int.add_zero,aZh args]
  cases Nat.beq k 8<;>simp only[aIz]
theorem aZh:∀l:List Ex,oO 0 l=l
 |[]=>rfl
 |x::l=>by simp only[oO,bFd x,aZh l]
end
mutual
theorem bIc:∀x:Sx,aLr 0 x=x
 |.mk k a nm h x b e=>by
  simp only[aLr,Int.add_zero,wP b,wP e]
  cases Nat.beq k 3&&!h<;>simp only[bFd]
theorem wP:∀l:List Sx,iV 0 l=l
 |[]=>rfl
 |x::l=>by simp only[iV,bIc x,wP l]
end
noncomputable def PL(l:List Tz)(a:Nat):R Ex:=open Classical in if h:a≤l.length then Classical.choose (Classical.choose_spec (aCf l a 1 0 h))else .out
theorem iW(l:List Tz){a:Nat}(h:a≤l.length):(PL l a).aY=false∧∃N,∀n,N≤n→(fns l n).expr 1 a 0=PL l a:=by
 have h2:=Classical.choose_spec (Classical.choose_spec (aCf l a 1 0 h))
 unfold PL
 rw[dif_pos h]
 exact⟨h2.1,_,h2.2⟩
theorem aBm(l:List Tz)(hl:l.length<19999)(hT:∀t∈l,t.t.length<big):ParseOk l (PL l):=by
 refine⟨fun a ha h=>?_,fun a ha=>(iW l ha).1,fun a x n ha e=>?_,fun a a1 d p c e=>?_⟩
 ·obtain⟨h1,N,h2⟩:=iW l ha
  have h2:=h2 N (Nat.le_refl _)
  have:=SCall.fL rfl (yG l hl hT a N ha (by rw[h2];exact h1)) (by exact⟨rR l,trivial,trivial⟩) (by exact aJq _) h
  rw[h2]at this
  exact this
 ·obtain⟨h1,N,h2⟩:=iW l ha
  have h2:=h2 N (Nat.le_refl _)
  rw[e]at h2
  exact⟨(pS l N).expr 1 a 0 x n h2,((dN l N).expr 1 a 0 x n h2).2 ha⟩
 ·by_cases ha:a≤l.length
  ·obtain⟨h1,N,h2⟩:=iW l ha
   have h2:=h2 N (Nat.le_refl _)
   rw[e]at h2
   exact(xT N).expr 1 a 0 a1 d p c h2
  ·unfold PL at e
   rw[dif_neg ha]at e
   cases e
theorem bMf(l:List Tz):∀a x n,PL l a=.ok x n→okX (l.length+2) x:=by
 intro a x n e
 by_cases ha:a≤l.length
 ·obtain⟨h1,N,h2⟩:=iW l ha
  have h2:=h2 N (Nat.le_refl _)
  rw[e]at h2
  exact(aXy l N).expr 1 a 0 x n h2
 ·unfold PL at e
  rw[dif_neg ha]at e
  cases e
section
variable{lo n k:Nat}{b:Int}{l l':List Tz}{P P':Nat→R Ex}
end
end Go.VM
end
section
/- Files: what a text is. -/
set_option maxRecDepth 100000
namespace Go.VM
open Go.RowKit
def oV(r:List Sx×Sr):R (List Sx):=match bW r.2 with
 |true=>.ok r.1 r.2.a
 |false=>.er 0 0 r.2.p r.2.c
theorem bMe(r:List Sx×Sr):stV r=stR (oV r):=by
 unfold stV oV
 cases bW r.2<;>rfl
theorem aXd{l:List Tz}{P:Nat→R Ex}(hP:ParseOk l P)(hl:l.length<20000){St:Nat→R (List Sx)}(h:∀a,a≤l.length→∃n r,(cF l P n).block 0 ⟨a,0,0⟩=some r∧St a=oV r)(h2:∀a,¬a≤l.length→St a=.out):StmOk l St:=by
 refine⟨fun a ha m=>?_,fun a ha=>?_,fun a x n ha e=>?_,fun a a1 d p c e=>?_⟩
 ·obtain⟨n,r,h1,h2⟩:=h a ha
  rw[h2,←bMe]
  exact SCall.fL rfl (aHl hP hl n a ha h1) (by exact⟨rR l,trivial,trivial⟩) (by exact aYc _) m
 ·obtain⟨n,r,h1,h2⟩:=h a ha
  rw[h2]
  unfold oV
  cases bW r.2<;>rfl
 ·obtain⟨m,r,h1,h2⟩:=h a ha
  rw[h2]at e
  unfold oV at e
  have:=(gW hP m).block 0 ⟨a,0,0⟩ r.1 r.2 ha h1
  cases hf:bW r.2 with
  |false=>rw[hf]at e;cases e
  |true=>
   rw[hf]at e
   cases e
   exact⟨this.lt (eT.1 hf),this.len⟩
 ·by_cases ha:a≤l.length
  ·obtain⟨m,r,h1,h2⟩:=h a ha
   rw[h2]at e
   unfold oV at e
   cases hf:bW r.2 with
   |true=>rw[hf]at e;cases e
   |false=>
    rw[hf]at e
    cases e
    exact fun hc=>by rw[eT.2 hc]at hf;cases hf
  ·rw[h2 a ha]at e;cases e
theorem vG{l:List Tz}{St:Nat→R (List Sx)}(hS:StmOk l St)(hl:l.length<20000)(m:Nat)(ho:(iT l St m).aY=false)(h:H):SCall Go.Proofs.Tryz.prog [0] 14 [lsV l] none h (.ret (flV (iT l St m))) none h:=
 SCall.more (SCall.fL rfl (aFp hS hl m ho) (by exact⟨rR l,trivial⟩) (by exact aZk _) h)
def txV(w c:Nat)(F:R FileX):V:=match c with
 |0=>flV F
 |_+1=>.tup [qY rE,.agg (dgX w c)]
theorem oA(s:List Nat)(h8:∀c∈s,c<256)(hl:s.length<big)(F:R FileX)(ho:(bK s).2.2=0→F.aY=false)(hF:(bK s).2.2=0→∀h,SCall Go.Proofs.Tryz.prog [0] 14 [lsV ((bK s).1.map toZ)] none h (.ret (flV F)) none h):
  SCall Go.Proofs.Tryz.prog [0] 8 [.str s] none ⟨1000,og tOl,[]⟩ (.ret (txV (bK s).2.1 (bK s).2.2 F)) none ⟨1000,og tOl,[]⟩:=by
 have al:=aWl s h8 hl
 unfold aGp at al
 rw[aHk]at al
 have al:SCall Go.Proofs.Tryz.prog [0] 12 [.str s] none ⟨1000,og tOl,[]⟩ (.ret (.tup [lsV ((match(bK s).2.2 with|0=>(bK s).1|_+1=>[]).map toZ),.agg (dg (bK s).2.1 (bK s).2.2)])) none ⟨1000,og tOl,[]⟩:=al
 generalize(bK s).2.2=c at al hF ho⊢
 generalize(bK s).2.1=w at al⊢
 generalize(bK s).1=T at al hF⊢
 cases c with
 |succ c=>
  show SCall Go.Proofs.Tryz.prog [0] 8 [.str s] none ⟨1000,og tOl,[]⟩ (.ret (.tup [qY rE,.agg (dgX w ((c+1:Nat):Int))])) none ⟨1000,og tOl,[]⟩
  refine SCall.listed (fn:=Go.Proofs.Tryz.f8) (by kernel_rfl) bGe (by kernel_rfl) (by kernel_rfl) (Nat.le_refl _) rfl ((by exact⟨jN,trivial⟩)) (by exact⟨jO _,⟨trivial,trivial,trivial⟩,trivial⟩) ?_
  unfold rc8
  repeat apply sQ
  refine WR.q rfl ?_
  repeat apply sQ
  refine WR.m 2 rfl ?_
  refine WQ.c rfl (SCall.fI al _) .base rfl ?_
  refine WQ.q rfl ?_
  repeat apply sQ
  refine WR.m 3 rfl ?_
  rw[show decide (((c+1:Nat):Int)=0)=false from decide_eq_false (by omega)]
  refine WQ.q rfl ?_
  repeat apply sQ
  refine WR.aD rfl ?_
  repeat apply sQ
  refine WR.aP aZ (DW.m 1000 rfl ?_)
  refine DW.stS pQ rfl rfl rfl rfl (DW.m 1000 rfl ?_)
  refine DW.stS pQ rfl rfl rfl rfl (DW.m 1000 rfl (DW.cC pQ ?_))
  exact WR.ret ⟨rfl,rfl,⟨_,rfl,by repeat(first|exact VLe.refl _|exact VLe.unk _ _|exact kP _ _|refine VLe.tup ?_|refine VLe.agg ?_|exact VLL.nil|refine VLL.cons ?_ ?_)⟩,fun _ _=>rfl⟩
 |zero=>
  have hF:=hF rfl
  have ho:=ho rfl
  show SCall Go.Proofs.Tryz.prog [0] 8 [.str s] none ⟨1000,og tOl,[]⟩ (.ret (flV F)) none ⟨1000,og tOl,[]⟩
  cases F with
  |out=>cases ho
  |er a d p c=>
   have hF:∀h,SCall Go.Proofs.Tryz.prog [0] 14 [lsV (T.map toZ)] none h (.ret (.tup [qY rE,.agg (dgX p c)])) none h:=hF
   show SCall Go.Proofs.Tryz.prog [0] 8 [.str s] none ⟨1000,og tOl,[]⟩ (.ret (.tup [qY rE,.agg (dgX p c)])) none ⟨1000,og tOl,[]⟩
   refine SCall.listed (fn:=Go.Proofs.Tryz.f8) (by kernel_rfl) bGe (by kernel_rfl) (by kernel_rfl) (Nat.le_refl _) rfl ((by exact⟨jN,trivial⟩)) (by exact⟨jO _,⟨trivial,trivial,trivial⟩,trivial⟩) ?_
   unfold rc8
   repeat apply sQ
   refine WR.q rfl ?_
   repeat apply sQ
   refine WR.m 2 rfl ?_
   refine WQ.c rfl (SCall.fI al _) .base rfl ?_
   refine WQ.q rfl ?_
   repeat apply sQ
   refine WR.q rfl ?_
   repeat apply sQ
   refine WR.k rfl ?_
   repeat apply sQ
   refine WR.m 2 rfl ?_
   refine WQ.c rfl (hF _) .base rfl ?_
   refine WQ.q rfl ?_
   exact WR.ret ⟨rfl,rfl,⟨_,rfl,by repeat(first|exact VLe.refl _|exact VLe.unk _ _|exact kP _ _|refine VLe.tup ?_|refine VLe.agg ?_|exact VLL.nil|refine VLL.cons ?_ ?_)⟩,fun _ _=>rfl⟩
  |ok f a=>
   obtain⟨fn,fa,fi,fd⟩:=f
   have hF:∀h,SCall Go.Proofs.Tryz.prog [0] 14 [lsV (T.map toZ)] none h (.ret (.tup [qY ⟨fn,fa,fi,fd⟩,.agg (dgX 0 0)])) none h:=hF
   show SCall Go.Proofs.Tryz.prog [0] 8 [.str s] none ⟨1000,og tOl,[]⟩ (.ret (.tup [qY ⟨fn,fa,fi,fd⟩,.agg (dgX 0 0)])) none ⟨1000,og tOl,[]⟩
   refine SCall.listed (fn:=Go.Proofs.Tryz.f8) (by kernel_rfl) bGe (by kernel_rfl) (by kernel_rfl) (Nat.le_refl _) rfl ((by exact⟨jN,trivial⟩)) (by exact⟨jO _,⟨trivial,trivial,trivial⟩,trivial⟩) ?_
   unfold rc8
   repeat apply sQ
   refine WR.q rfl ?_
   repeat apply sQ
   refine WR.m 2 rfl ?_
   refine WQ.c rfl (SCall.fI al _) .base rfl ?_
   refine WQ.q rfl ?_
   repeat apply sQ
   refine WR.q rfl ?_
   repeat apply sQ
   refine WR.k rfl ?_
   repeat apply sQ
   refine WR.m 2 rfl ?_
   refine WQ.c rfl (hF _) .base rfl ?_
   refine WQ.q rfl ?_
   exact WR.ret ⟨rfl,rfl,⟨_,rfl,by repeat(first|exact VLe.refl _|exact VLe.unk _ _|exact kP _ _|refine VLe.tup ?_|refine VLe.agg ?_|exact VLL.nil|refine VLL.cons ?_ ?_)⟩,fun _ _=>rfl⟩
def EvR{α:Type}(r:Nat→Option α)(v:α):Prop:=∃N,∀n,N≤n→r n=some v
theorem EvR.uniq{α:Type}{r:Nat→Option α}{v w:α}(h:EvR r v)(k:EvR r w):v=w:=by
 obtain⟨N,h⟩:=h
 obtain⟨M,k⟩:=k
 have a:=h (max N M) (by omega)
 rw[k (max N M) (by omega)]at a
 exact(Option.some.inj a).symm
noncomputable def ST(l:List Tz)(a:Nat):R (List Sx):=open Classical in if h:a≤l.length∧∃r,EvR (fun n=>(cF l (PL l) n).block 0 ⟨a,0,0⟩) r then oV (Classical.choose h.2)else .out
theorem aGz{l:List Tz}{a:Nat}(ha:a≤l.length){r:List Sx×Sr}(h:EvR (fun n=>(cF l (PL l) n).block 0 ⟨a,0,0⟩) r):ST l a=oV r:=by
 have e:a≤l.length∧∃r,EvR (fun n=>(cF l (PL l) n).block 0 ⟨a,0,0⟩) r:=⟨ha,r,h⟩
 unfold ST
 rw[dif_pos e,(Classical.choose_spec e.2).uniq h]
theorem kN(l:List Tz)(a:Nat):ST l a=.out∨(a≤l.length∧∃r,EvR (fun n=>(cF l (PL l) n).block 0 ⟨a,0,0⟩) r∧ST l a=oV r):=by
 by_cases e:a≤l.length∧∃r,EvR (fun n=>(cF l (PL l) n).block 0 ⟨a,0,0⟩) r
 ·obtain⟨ha,r,h⟩:=e
  exact .inr ⟨ha,r,h,aGz ha h⟩
 ·unfold ST
  rw[dif_neg e]
  exact .inl rfl
theorem aJa{l:List Tz}(hl:l.length<19999)(hT:∀t∈l,t.t.length<big):StmOk l (ST l):=by
 refine aXd (aBm l hl hT) (by omega) (fun a ha=>?_) (fun a ha=>?_)
 ·obtain⟨N,r,h⟩:=rS (aBm l hl hT) a ha
  exact⟨N,r,h N (Nat.le_refl _),aGz ha ⟨N,h⟩⟩
 ·unfold ST
  rw[dif_neg (fun e=>ha e.1)]
noncomputable def FL(l:List Tz):R FileX:=iT l (ST l) (l.length+1)
theorem sK{l:List Tz}(hl:l.length<19999)(hT:∀t∈l,t.t.length<big):(FL l).aY=false:=aGg (aJa hl hT) (Nat.lt_succ_self _)
theorem bJz{l:List Tz}(hl:l.length<19999)(hT:∀t∈l,t.t.length<big)(h:H):SCall Go.Proofs.Tryz.prog [0] 14 [lsV l] none h (.ret (flV (FL l))) none h:=vG (aJa hl hT) (by omega) _ (sK hl hT) h
noncomputable def aBd(s:List Nat):V:=txV ((bK s).2.1) ((bK s).2.2) (FL ((bK s).1.map toZ))
theorem uS{s:List Nat}(hl:s.length<big)(hc:(bK s).2.2=0):GoodT s.length ((bK s).1.map toZ)∧((bK s).1.map toZ).length<19999∧∀t∈(bK s).1.map toZ,t.t.length<big:=by
 have e:bK s=((bK s).1,(bK s).2.1,0):=by rw[←hc]
 have g:=aSb e
 have h4:=aGu s _ _ _ _ _ (Nat.zero_le _) e
 exact⟨g,by rw[List.length_map];omega,aZt g hl⟩
theorem aYr(s:List Nat)(h8:∀c∈s,c<256)(hl:s.length<big):SCall Go.Proofs.Tryz.prog [0] 8 [.str s] none ⟨1000,og tOl,[]⟩ (.ret (aBd s)) none ⟨1000,og tOl,[]⟩:=by
 by_cases hc:(bK s).2.2=0
 ·obtain⟨_,h2,h3⟩:=uS hl hc
  exact oA s h8 hl _ (fun _=>sK h2 h3) (fun _ h=>bJz h2 h3 h)
 ·exact oA s h8 hl _ (fun e=>absurd e hc) (fun e=>absurd e hc)
end Go.VM
end
