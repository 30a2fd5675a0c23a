/- laid for this seat: VzT VzU VzV VzW VzI VzX VfL -/
import Derived.Test.YtgadhdnnkdcgkaaGreatDoorVg9
import Derived.Test.YtgadhdnnkdcgkaaGreatDoorVg7
import Derived.Test.YtgadhdnnkdcgkaaGreatDoorVh2
set_option linter.unusedVariables false
set_option linter.unusedSimpArgs false
section
/- Statements: the same tokens elsewhere give the same statements, moved. -/
set_option maxRecDepth 100000
namespace Go.VM
open Go.RowKit
mutual
def aJe(b:Int):Sx→Sx
 |.mk k a nm has x body els=>.mk k (a+b) nm has (match Nat.beq k 3&&!has with|true=>x|false=>shX b x) (hJ b body) (hJ b els)
def hJ(b:Int):List Sx→List Sx
 |[]=>[]
 |x::l=>aJe b x::hJ b l
end
theorem aCm(b:Int):∀l m:List Sx,hJ b (l++m)=hJ b l++hJ b m
 |[],m=>rfl
 |x::l,m=>by simp only[hJ,List.cons_append,aCm b l m]
def shS(k:Nat)(s:Sr):Sr:=⟨s.a+k,s.p,s.c⟩
def RlS{α:Type}(n k:Nat)(sh:α→α)(r r':Option (α×Sr)):Prop:=∀v s',r=some (v,s')→s'.c=0→s'.a≤n→r'=some (sh v,shS k s')
structure TokS(lo n k:Nat)(b:Int)(l l':List Tz)(P P':Nat→R Ex):Prop where
 tok:∀i,lo≤i→i<n→aB l' (i+k)=shZ b (aB l i)
 els:isF l' (n+k) 5 wA=false
 expr:∀a x a',lo≤a→P a=.ok x a'→a'<n→kO (aB l a')=true→P' (a+k)=.ok (shX b x) (a'+k)
section
variable{lo n k:Nat}{b:Int}{l l':List Tz}{P P':Nat→R Ex}
theorem TokS.is(t:TokS lo n k b l l' P P'){s:Sr}(h0:lo≤s.a)(h:s.a<n)(kk:Int)(x:List Nat):isS l' (shS k s) kk x=isS l s kk x:=by
 unfold isS isF
 show(bZ s&&(decide ((aB l' (s.a+k)).k=kk)&&decide ((aB l' (s.a+k)).t=x)))=_
 rw[t.tok _ h0 h]
 rfl
theorem pO(s:Sr):aR (shS k s)=shS k (aR s):=by
 unfold aR shS
 simp only
 rw[show s.a+k+1=s.a+1+k by omega]
theorem mK{s:Sr}{x:List Nat}(h:(bX l s x).c=0):isS l s 4 x=true∧bX l s x=aR s∧isF l s.a 4 x=true:=by
 unfold bX at h⊢
 cases hi:isS l s 4 x with
 |true=>exact⟨rfl,rfl,(aMd hi).2⟩
 |false=>
  rw[hi]at h
  exfalso
  unfold gA at h
  cases hf:bZ s with
  |true=>
   rw[hf]at h
   have h:(5:Int)=0:=h
   exact absurd h (by decide)
  |false=>
   rw[hf]at h
   exact(of_decide_eq_false hf) h
theorem qO{s:Sr}{c:Int}(hc:c≠0)(h:(gA l s c).c=0):False:=by
 unfold gA at h
 cases hf:bZ s with
 |true=>rw[hf]at h;exact hc h
 |false=>rw[hf]at h;exact(of_decide_eq_false hf) h
theorem TokS.eW(t:TokS lo n k b l l' P P'){s:Sr}(h0:lo≤s.a){x:List Nat}(h:(bX l s x).c=0)(hn:(bX l s x).a≤n):bX l' (shS k s) x=shS k (bX l s x):=by
 obtain⟨h1,h2,h3⟩:=mK h
 rw[h2]at hn⊢
 have hn:s.a+1≤n:=hn
 unfold bX
 rw[t.is h0 (by omega),h1]
 exact pO s
theorem aQa(hP:ParseOk l P){s:Sr}(hs:s.a≤l.length)(h:(aV P s).2.c=0):s.c=0∧∃x a',P s.a=.ok x a'∧aV P s=(x,⟨a',0,0⟩):=by
 unfold aV at h⊢
 cases hf:bZ s with
 |false=>rw[hf]at h;exact absurd h (of_decide_eq_false hf)
 |true=>
  rw[hf]at h
  refine⟨fM.1 hf,?_⟩
  cases hr:P s.a with
  |ok x a'=>exact⟨x,a',rfl,rfl⟩
  |er a d p c=>rw[hr]at h;exact absurd h (hP.er _ _ _ _ _ hr)
  |out=>have:=hP.known _ hs;rw[hr]at this;cases this
theorem TokS.exp(t:TokS lo n k b l l' P P')(hP:ParseOk l P){s:Sr}(h0:lo≤s.a)(hs:s.a≤l.length)(h:(aV P s).2.c=0)(hn:(aV P s).2.a<n)(hst:kO (aB l (aV P s).2.a)=true):aV P' (shS k s)=(shX b (aV P s).1,shS k (aV P s).2):=by
 obtain⟨h1,x,a',h2,h3⟩:=aQa hP hs h
 rw[h3]at hn hst⊢
 have e:=t.expr _ _ _ h0 h2 hn hst
 unfold aV
 rw[show bZ (shS k s)=true from decide_eq_true h1]
 show(match P' (s.a+k)with|.ok x n=>(x,(⟨n,0,0⟩:Sr))|.er _ _ p c=>(zX,⟨s.a+k,p,c⟩)|.out=>(zX,shS k s))=_
 rw[e]
 rfl
theorem wV{a:Nat}{x:List Nat}(h:isF l a 4 x=true)(hx:x=[59]∨x=[123]):kO (aB l a)=true:=by
 unfold isF at h
 simp only[Bool.and_eq_true,decide_eq_true_eq]at h
 unfold kO
 rw[h.1,h.2]
 rcases hx with rfl|rfl<;>rfl
theorem TokS.val(t:TokS lo n k b l l' P P')(hP:ParseOk l P){s:Sr}(h0:lo≤s.a)(hs:s.a≤l.length){kk:Nat}(hk:Nat.beq kk 3=false){p:Int}{nm:List Nat}(h:(mQ l P kk p nm s).2.c=0)(hn:(mQ l P kk p nm s).2.a≤n):
  mQ l' P' kk (p+b) nm (shS k s)=(aJe b (mQ l P kk p nm s).1,shS k (mQ l P kk p nm s).2):=by
 have m1:=dH hs (x:=[61])
 have m2:=bY hP m1.len
 have m3:=dH m2.len (x:=[59])
 unfold mQ at h hn⊢
 have h:(bX l (aV P (bX l s [61])).2 [59]).c=0:=h
 have hn:(bX l (aV P (bX l s [61])).2 [59]).a≤n:=hn
 have c2:=m3.fine h
 have c1:=m2.fine c2
 obtain⟨q1,q2,q3⟩:=mK h
 have a1:(bX l s [61]).a≤n:=by have:=m2.le;have:=m3.le;omega
 have a2:(aV P (bX l s [61])).2.a<n:=by have:=m3.lt h;omega
 rw[t.eW h0 c1 a1,t.exp hP (by have:=m1.le;omega) m1.len c2 a2 (wV q3 (.inl rfl)),t.eW (by have:=m1.le;have:=m2.le;omega) h hn]
 simp only[aJe,hJ,hk,Bool.false_and]
structure SimS(lo n k:Nat)(b:Int)(l:List Tz)(f f':Sf):Prop where
 block:∀d s,lo≤s.a→s.a≤l.length→RlS n k (hJ b) (f.block d s) (f'.block d (shS k s))
 loop:∀d acc s,lo≤s.a→s.a≤l.length→RlS n k (hJ b) (f.loop d acc s) (f'.loop d (hJ b acc) (shS k s))
 stmt:∀d s,lo≤s.a→s.a≤l.length→RlS n k (aJe b) (f.stmt d s) (f'.stmt d (shS k s))
theorem aVd(t:TokS lo n k b l l' P P')(hP:ParseOk l P)(hn:n≤l.length){f f':Sf}(iv:InvS l f)(blk:∀d s v s',s.a≤l.length→f.block d s=some (v,s')→s'.c=0→kO (aB l s.a)=true)(h:SimS lo n k b l f f')(d:Nat)(s:Sr)(h0:lo≤s.a)(hs:s.a≤l.length):RlS n k (aJe b) (gZ l P f d s) (gZ l' P' f' d (shS k s)):=by
 intro v s' e hc ha
 have ivn:=sV hP iv
 have stp:=ivn.stmt d s v s' hs e
 have hlt:=stp.lt hc
 have e1:=fun(kk:Int) (x:List Nat)=>t.is (s:=s) h0 (by omega) kk x
 have hnow:aB l' (s.a+k)=shZ b (aB l s.a):=t.tok _ h0 (by omega)
 unfold gZ at e⊢
 rw[e1,e1,e1,e1]
 rw[show(shS k s).a=s.a+k from rfl,hnow,pO,pO]
 rw[show(shZ b (aB l s.a)).a=(aB l s.a).a+b from rfl,show(shZ b (aB l s.a)).t=(aB l s.a).t from rfl]
 cases h1:isS l s 5 aVr with
 |true=>
  have n1:=aW (dN h1 (by decide))
  rw[h1]at e
  cases hk:decide ((aB l (s.a+1)).k=1)with
  |true=>
   rw[hk]at e
   have n2:=cS (l:=l) (a:=s.a+1) (by rw[of_decide_eq_true hk];decide)
   have e:=Option.some.inj e
   have hv:=qD hP (s:=aR (aR s)) n2 (k:=1) (p:=(aB l s.a).a) (nm:=(aB l (s.a+1)).t)
   rw[e]at hv
   have hv1:=hv.lt hc
   have hv1:s.a+1+1<s'.a:=hv1
   have hk1:=t.tok (s.a+1) (by omega) (by omega)
   rw[show s.a+k+1=s.a+1+k by omega,hk1,show(shZ b (aB l (s.a+1))).k=(aB l (s.a+1)).k from rfl,show(shZ b (aB l (s.a+1))).t=(aB l (s.a+1)).t from rfl,hk]
   have tv:=t.val hP (s:=aR (aR s)) (by show lo≤s.a+1+1;omega) n2 (kk:=1) rfl (p:=(aB l s.a).a) (nm:=(aB l (s.a+1)).t) (by rw[e];exact hc) (by rw[e];exact ha)
   simp only
   rw[tv,e]
  |false=>
   rw[hk]at e
   have e:=Option.some.inj e
   exfalso
   have hf:=pF n1.len (c:=5) (by decide)
   have hv:=qD hP hf.len (k:=1) (p:=(aB l s.a).a) (nm:=[])
   rw[e]at hv
   exact qO (by decide) (hv.fine hc)
 |false=>
 rw[h1]at e
 simp only at e⊢
 cases h2:isS l s 5 aXd with
 |true=>
  have n1:=aW (dN h2 (by decide))
  rw[h2]at e
  simp only at e⊢
  have q0:=t.is (s:=aR s) (kk:=4) (x:=[59]) (by show lo≤s.a+1;omega)
  cases h3:isS l (aR s) 4 [59]with
  |true=>
   rw[h3]at e
   cases e
   have ha:s.a+1+1≤n:=ha
   rw[q0 (by show s.a+1<n;omega),h3]
   rfl
  |false=>
   rw[h3]at e
   cases e
   have m2:=bY hP n1.len
   have m3:=dH m2.len (x:=[59])
   have c2:=m3.fine hc
   obtain⟨q1,q2,q3⟩:=mK hc
   have hle:s.a+1≤(aV P (aR s)).2.a:=m2.le
   have a2:(aV P (aR s)).2.a<n:=by have:=m3.lt hc;omega
   rw[q0 (by show s.a+1<n;omega),h3]
   simp only
   rw[t.exp hP (by show lo≤s.a+1;omega) n1.len c2 a2 (wV q3 (.inl rfl))]
   simp only
   rw[t.eW (by omega) hc ha]
   rfl
 |false=>
 rw[h2]at e
 simp only at e⊢
 cases h3:isS l s 5 sIf with
 |true=>
  have n1:=aW (dN h3 (by decide))
  have m2:=bY hP n1.len
  have hle:s.a+1≤(aV P (aR s)).2.a:=m2.le
  rw[h3]at e
  simp only at e⊢
  cases hb:f.block d (aV P (aR s)).2 with
  |none=>simp only[hb]at e;cases e
  |some q=>
   obtain⟨bb,s1⟩:=q
   have m3:=iv.block _ _ _ _ m2.len hb
   simp only[hb]at e
   have main:s1.c=0→s1.a≤n→aV P' (shS k (aR s))=(shX b (aV P (aR s)).1,shS k (aV P (aR s)).2)∧f'.block d (shS k (aV P (aR s)).2)=some (hJ b bb,shS k s1):=by
    intro c1 a1
    have c2:=m3.fine c1
    have a2:(aV P (aR s)).2.a<n:=by have:=m3.lt c1;omega
    exact⟨t.exp hP (by show lo≤s.a+1;omega) n1.len c2 a2 (blk _ _ _ _ m2.len hb c1),h.block d _ (by omega) m2.len _ _ hb c1 a1⟩
   cases h4:isS l s1 5 wA with
   |false=>
    rw[h4]at e
    cases e
    obtain⟨m4,m5⟩:=main hc ha
    rw[m4]
    simp only
    rw[m5]
    simp only
    have:isS l' (shS k s') 5 wA=false:=by
     rcases Nat.eq_or_lt_of_le ha with q|q
     ·unfold isS
      rw[show(shS k s').a=n+k by show s'.a+k=_;rw[q],t.els]
      cases bZ (shS k s')<;>rfl
     ·rw[t.is (by have:=m3.le;omega) q,h4]
    rw[this]
    rfl
   |true=>
    rw[h4]at e
    have n4:=aW (dN h4 (by decide))
    cases hb2:f.block d (aR s1)with
    |none=>simp only[hb2]at e;cases e
    |some q=>
     obtain⟨b2,s2⟩:=q
     have m6:=iv.block _ _ _ _ n4.len hb2
     simp only[hb2]at e
     cases e
     have c1:=n4.fine (m6.fine hc)
     have a1:s1.a+1<s'.a:=m6.lt hc
     obtain⟨m4,m5⟩:=main c1 (by omega)
     rw[m4]
     simp only
     rw[m5]
     simp only
     rw[t.is (by have:=m3.le;omega) (by omega),h4]
     simp only
     rw[pO,h.block d _ (by have:=m3.le;show lo≤s1.a+1;omega) n4.len _ _ hb2 hc ha]
     rfl
 |false=>
 rw[h3]at e
 simp only at e⊢
 cases h4:isS l s 5 aZf with
 |true=>
  have n1:=aW (dN h4 (by decide))
  have m2:=bY hP n1.len
  have hle:s.a+1≤(aV P (aR s)).2.a:=m2.le
  rw[h4]at e
  simp only at e⊢
  cases hb:f.block d (aV P (aR s)).2 with
  |none=>simp only[hb]at e;cases e
  |some q=>
   obtain⟨bb,s1⟩:=q
   have m3:=iv.block _ _ _ _ m2.len hb
   simp only[hb]at e
   cases e
   have c2:=m3.fine hc
   have a2:(aV P (aR s)).2.a<n:=by have:=m3.lt hc;omega
   rw[t.exp hP (by show lo≤s.a+1;omega) n1.len c2 a2 (blk _ _ _ _ m2.len hb hc)]
   simp only
   rw[h.block d _ (by omega) m2.len _ _ hb hc ha]
   rfl
 |false=>
 rw[h4]at e
 simp only at e⊢
 have two:s.a+1<n:=by
  cases h5:wP l s.a with
  |true=>
   rw[h5]at e
   have h5':=h5
   unfold wP at h5'
   rw[Bool.and_eq_true]at h5'
   have n2:=cS (l:=l) (a:=s.a) (by rw[of_decide_eq_true h5'.1];decide)
   have e:=Option.some.inj e
   have hv:=qD hP (s:=aR s) n2 (k:=2) (p:=(aB l s.a).a) (nm:=(aB l s.a).t)
   rw[e]at hv
   have hv1:s.a+1<s'.a:=hv.lt hc
   omega
  |false=>
   rw[h5]at e
   cases e
   have m2:=bY hP hs
   have m3:=dH m2.len (x:=[59])
   have:=m3.lt hc
   have:=m2.lt (m3.fine hc)
   omega
 have hset:wP l' (s.a+k)=wP l s.a:=by
  unfold wP
  rw[hnow,show s.a+k+1=s.a+1+k by omega,t.tok (s.a+1) (by omega) two]
  rfl
 rw[hset]
 cases h5:wP l s.a with
 |true=>
  rw[h5]at e
  have h5':=h5
  unfold wP at h5'
  rw[Bool.and_eq_true]at h5'
  have n2:=cS (l:=l) (a:=s.a) (by rw[of_decide_eq_true h5'.1];decide)
  have e:=Option.some.inj e
  have tv:=t.val hP (s:=aR s) (by show lo≤s.a+1;omega) n2 (kk:=2) rfl (p:=(aB l s.a).a) (nm:=(aB l s.a).t) (by rw[e];exact hc) (by rw[e];exact ha)
  simp only
  rw[tv,e]
 |false=>
  rw[h5]at e
  cases e
  have m2:=bY hP hs
  have m3:=dH m2.len (x:=[59])
  have c2:=m3.fine hc
  obtain⟨q1,q2,q3⟩:=mK hc
  have a2:(aV P s).2.a<n:=by have:=m3.lt hc;omega
  simp only
  rw[t.exp hP h0 hs c2 a2 (wV q3 (.inl rfl))]
  simp only
  rw[t.eW (by have:=m2.le;omega) hc ha]
  rfl
theorem bFc{d:Nat}{acc:List Sx}{f:Sf}(iv:InvS l f){s:Sr}(hs:s.a≤l.length){v:List Sx}{s':Sr}(e:gB l f d acc s=some (v,s'))(hc:s'.c=0):s.c=0:=by
 unfold gB at e
 cases hf:bZ s with
 |true=>exact fM.1 hf
 |false=>rw[hf]at e;cases e;exact hc
theorem aUj(l:List Tz)(hP:ParseOk l P)(m:Nat):∀d s v s',s.a≤l.length→(cG l P m).block d s=some (v,s')→s'.c=0→kO (aB l s.a)=true:=by
 intro d s v s' hs e hc
 cases m with
 |zero=>cases e
 |succ m=>
  have e:dF l (cG l P m) d s=some (v,s'):=e
  unfold dF at e
  split at e
  ·cases e;exact(qO (by decide) hc).elim
  ·have h1:=((gX hP m).loop _ _ _ _ _ (dH hs).len e).fine hc
   exact wV (mK h1).2.2 (.inr rfl)
theorem aSv(t:TokS lo n k b l l' P P')(hP:ParseOk l P)(hn:n≤l.length){f f':Sf}(iv:InvS l f)(blk:∀d s v s',s.a≤l.length→f.block d s=some (v,s')→s'.c=0→kO (aB l s.a)=true)(h:SimS lo n k b l f f'):SimS lo n k b l ⟨dF l f,gB l f,gZ l P f⟩ ⟨dF l' f',gB l' f',gZ l' P' f'⟩:=by
 refine⟨fun d s h0 hs=>?_,fun d acc s h0 hs=>?_,fun d s h0 hs=>aVd t hP hn iv blk h d s h0 hs⟩
 ·intro v s' e hc ha
  have stp:=(sV hP iv).block d s v s' hs e
  have hlt:=stp.lt hc
  have hnow:aB l' (s.a+k)=shZ b (aB l s.a):=t.tok _ h0 (by omega)
  have e:dF l f d s=some (v,s'):=e
  show dF l' f' d (shS k s)=_
  have hdp:pG l' d (shS k s)=pG l d s:=by
   unfold pG
   rw[show(shS k s).a=s.a+k from rfl,hnow]
   rfl
  unfold dF at e⊢
  rw[hdp]
  cases hd:pG l d s with
  |true=>rw[hd]at e;cases e;exact(qO (by decide) hc).elim
  |false=>
   rw[hd]at e
   simp only at e⊢
   have ms:=dH hs (x:=[123])
   have lp:=iv.loop _ _ _ _ _ ms.len e
   rw[t.eW h0 (lp.fine hc) (by have:=lp.le;omega)]
   exact h.loop (d+1) [] _ (by have:=ms.le;omega) ms.len v s' e hc ha
 ·intro v s' e hc ha
  have stp:=(sV hP iv).loop d acc s v s' hs e
  have hlt:=stp.lt hc
  have e:gB l f d acc s=some (v,s'):=e
  show gB l' f' d (hJ b acc) (shS k s)=_
  have c0:=bFc iv hs e hc
  unfold gB at e⊢
  rw[show bZ (shS k s)=bZ s from rfl,t.is h0 (by omega)]
  rw[fM.2 c0]at e⊢
  simp only at e⊢
  cases h1:isS l s 4 [125]with
  |true=>rw[h1]at e;cases e;simp only;rw[pO]
  |false=>
   rw[h1]at e
   simp only at e⊢
   cases h2:f.stmt d s with
   |none=>simp only[h2]at e;cases e
   |some q=>
    obtain⟨x,s1⟩:=q
    simp only[h2]at e
    have m1:=iv.stmt _ _ _ _ hs h2
    have m2:=iv.loop _ _ _ _ _ m1.len e
    rw[h.stmt d s h0 hs x s1 h2 (m2.fine hc) (by have:=m2.le;omega)]
    simp only
    have:=h.loop d (acc++[x]) s1 (by have:=m1.le;omega) m1.len v s' e hc ha
    rw[aCm]at this
    exact this
theorem aHr(t:TokS lo n k b l l' P P')(hP:ParseOk l P)(hn:n≤l.length):∀m,SimS lo n k b l (cG l P m) (cG l' P' m)
 |0=>⟨fun _ _ _ _ _ _ e=>(by cases e),fun _ _ _ _ _ _ _ e=>(by cases e),fun _ _ _ _ _ _ e=>(by cases e)⟩
 |m+1=>aSv t hP hn (gX hP m) (aUj l hP m) (aHr t hP hn m)
end
end Go.VM
end
section
/- Statements: how much there is of what was read. -/
set_option maxRecDepth 100000
namespace Go.VM
open Go.RowKit
mutual
def okT(K:Nat):Tx→Prop
 |.mk _ _ _ _ l=>l.length≤K∧bHh K l
def bHh(K:Nat):List Tx→Prop
 |[]=>True
 |x::l=>okT K x∧bHh K l
end
mutual
def okX(K:Nat):Ex→Prop
 |.mk _ _ _ _ _ t args=>okT K t∧args.length≤K∧aIe K args
def aIe(K:Nat):List Ex→Prop
 |[]=>True
 |x::l=>okX K x∧aIe K l
end
mutual
def okS(K:Nat):Sx→Prop
 |.mk _ _ _ _ x body els=>okX K x∧(body.length≤K∧vM K body)∧(els.length≤K∧vM K els)
def vM(K:Nat):List Sx→Prop
 |[]=>True
 |x::l=>okS K x∧vM K l
end
theorem aHm{K:Nat}:∀{l:List Ex} {x:Ex},aIe K l→okX K x→aIe K (l++[x])
 |[],x,_,h=>⟨h,trivial⟩
 |y::l,x,h,k=>⟨h.1,aHm h.2 k⟩
theorem aIw{K:Nat}:∀{l:List Sx} {x:Sx},vM K l→okS K x→vM K (l++[x])
 |[],x,_,h=>⟨h,trivial⟩
 |y::l,x,h,k=>⟨h.1,aIw h.2 k⟩
theorem aIj{K:Nat}:∀{l:List Tx} {x:Tx},bHh K l→x∈l→okT K x
 |y::l,x,h,hm=>by
  cases hm with
  |head=>exact h.1
  |tail _ hm=>exact aIj h.2 hm
theorem aHa{K:Nat}:∀{l:List Ex} {x:Ex},aIe K l→x∈l→okX K x
 |y::l,x,h,hm=>by
  cases hm with
  |head=>exact h.1
  |tail _ hm=>exact aHa h.2 hm
theorem aHp{K:Nat}:∀{l:List Sx} {x:Sx},vM K l→x∈l→okS K x
 |y::l,x,h,hm=>by
  cases hm with
  |head=>exact h.1
  |tail _ hm=>exact aHp h.2 hm
theorem mO{K:Nat}:okT K zT:=⟨Nat.zero_le _,trivial⟩
theorem aMe{K:Nat}:okX K zX:=⟨mO,Nat.zero_le _,trivial⟩
theorem oV{K k:Nat}{a e n:Int}{nm:List Nat}:okX K (.mk k a e nm n zT []):=⟨mO,Nat.zero_le _,trivial⟩
theorem aGl{K:Nat}(hK:1≤K):∀(ls:List Int) {x:Tx},okT K x→okT K (iE ls x)
 |[],x,h=>h
 |p::ls,x,h=>⟨hK,aGl hK ls h,trivial⟩
theorem aXh{K:Nat}(hK:1≤K){l:List Tz}{a:Nat}{x:Tx}{a2:Nat}(h:tyF l a=.ok x a2):okT K x:=by
 unfold tyF at h
 split at h
 ·cases h
 ·split at h
  ·rename_i y a3 hb
   cases h
   refine aGl hK _ ?_
   unfold eY at hb
   split at hb
   ·cases hb;exact⟨Nat.zero_le _,trivial⟩
   ·split at hb
    ·split at hb
     ·split at hb
      ·cases hb;exact⟨Nat.zero_le _,trivial⟩
      ·cases hb
     ·cases hb;exact⟨Nat.zero_le _,trivial⟩
    ·cases hb
  ·cases h
  ·cases h
structure BdF(l:List Tz)(f:Fns):Prop where
 expr:∀lv a d x a',f.expr lv a d=.ok x a'→okX (l.length+2) x
 oper:∀a d x a',f.oper a d=.ok x a'→okX (l.length+2) x
 prim:∀a d x a',f.prim a d=.ok x a'→okX (l.length+2) x
 list:∀to a d r a',f.list to a d=.ok r a'→aIe (l.length+2) r.1∧r.1.length≤l.length
 bin:∀lv x a d y a',okX (l.length+2) x→f.bin lv x a d=.ok y a'→okX (l.length+2) y
 post:∀x a d y a',okX (l.length+2) x→f.post x a d=.ok y a'→okX (l.length+2) y
 elts:∀acc a d es a',aIe (l.length+2) acc→acc.length≤a→f.elts acc a d=.ok es a'→aIe (l.length+2) es∧es.length≤a'
theorem bBt{l:List Tz}{f:Fns}(pf:ProgF f)(h:BdF l f):BdF l ⟨eH f,eU l f,eR l f,dQ l f,jA l f,eO l f,eF l f⟩:=by
 refine⟨fun lv a d x a' e=>?_,fun a d x a' e=>?_,fun a d x a' e=>?_,fun to a d r a' e=>?_,fun lv x a d y a' hx e=>?_,fun x a d y a' hx e=>?_,fun acc a d es a' hacc hlen e=>?_⟩
 ·have e:eH f lv a d=.ok x a':=e
  unfold eH at e
  split at e
  ·exact h.oper _ _ _ _ e
  ·obtain⟨y,a1,e1,e2⟩:=aU e
   exact h.bin _ _ _ _ _ _ (h.expr _ _ _ _ _ e1) e2
 ·have e:eU l f a d=.ok x a':=e
  unfold eU at e
  split at e
  ·obtain⟨y,a1,e1,e2⟩:=aU e
   cases e2
   exact⟨mO,by simp,h.oper _ _ _ _ (bO e1),trivial⟩
  ·obtain⟨y,a1,e1,e2⟩:=aU e
   exact h.post _ _ _ _ _ (h.prim _ _ _ _ e1) e2
 ·have e:eR l f a d=.ok x a':=e
  unfold eR at e
  split at e
  ·obtain⟨n,a1,e1,e2⟩:=aU e
   cases e2
   exact oV
  ·split at e
   ·split at e
    ·cases e;exact oV
    ·cases e
   ·split at e
    ·cases e;exact oV
    ·split at e
     ·cases e;exact oV
     ·split at e
      ·cases e;exact oV
      ·split at e
       ·obtain⟨y,a1,e1,e2⟩:=aU e
        obtain⟨z,a2,e3,e4⟩:=aU e2
        cases e4
        exact h.expr _ _ _ _ _ (bO e1)
       ·split at e
        ·obtain⟨ty,a1,r,ht,hi,e1,rfl⟩:=uF e
         have:=h.list _ _ _ _ _ e1
         exact⟨aXh (by omega) ht,by omega,this.1⟩
        ·cases e
 ·have e:dQ l f to a d=.ok r a':=e
  unfold dQ at e
  obtain⟨es,a1,e1,e2⟩:=aU e
  obtain⟨z,a3,e3,e4⟩:=aU e2
  cases e4
  have hk:=cS (l:=l) (a:=a1) (by rw[(gV e3).2.2];decide)
  have e1:=bO e1
  unfold fG at e1
  split at e1
  ·cases e1;exact⟨trivial,Nat.zero_le _⟩
  ·have:=h.elts [] _ _ _ _ trivial (Nat.zero_le _) e1
   exact⟨this.1,by show es.length≤_;omega⟩
 ·have e:jA l f lv x a d=.ok y a':=e
  unfold jA at e
  split at e
  ·obtain⟨z,a2,e1,e2⟩:=aU e
   refine h.bin _ _ _ _ _ _ ?_ e2
   exact⟨mO,by simp,hx,h.expr _ _ _ _ _ e1,trivial⟩
  ·cases e;exact hx
 ·have e:eO l f x a d=.ok y a':=e
  unfold eO at e
  split at e
  ·split at e
   ·refine h.post _ _ _ _ _ ?_ e
    exact⟨mO,by simp,hx,trivial⟩
   ·cases e
  ·split at e
   ·obtain⟨r,a1,e1,e2⟩:=aU e
    have:=h.list _ _ _ _ _ e1
    refine h.post _ _ _ _ _ ?_ e2
    exact⟨mO,by simp;omega,hx,this.1⟩
   ·split at e
    ·obtain⟨z,a1,e1,e2⟩:=aU e
     obtain⟨w,a2,e3,e4⟩:=aU e2
     refine h.post _ _ _ _ _ ?_ e4
     exact⟨mO,by simp,hx,h.expr _ _ _ _ _ (bO e1),trivial⟩
    ·cases e;exact hx
 ·have e:eF l f acc a d=.ok es a':=e
  unfold eF at e
  obtain⟨x,a1,e1,e2⟩:=aU e
  have p:=pf.expr _ _ _ _ _ e1
  have q:=aHm hacc (h.expr _ _ _ _ _ e1)
  split at e2
  ·exact h.elts _ _ _ _ _ q (by simp;omega) e2
  ·cases e2
   exact⟨q,by simp;omega⟩
theorem aTx(l:List Tz):∀n,BdF l (fns l n)
 |0=>⟨fun _ _ _ _ _ e=>(by cases e),fun _ _ _ _ e=>(by cases e),fun _ _ _ _ e=>(by cases e),fun _ _ _ _ _ e=>(by cases e),fun _ _ _ _ _ _ _ e=>(by cases e),fun _ _ _ _ _ _ e=>(by cases e),fun _ _ _ _ _ _ _ e=>(by cases e)⟩
 |n+1=>bBt (pN l n) (aTx l n)
section
variable{l:List Tz}{P:Nat→R Ex}
structure BdS(l:List Tz)(f:Sf):Prop where
 block:∀d s v s',s.a≤l.length→f.block d s=some (v,s')→s'.c=0→vM (l.length+2) v∧v.length≤l.length
 loop:∀d acc s v s',s.a≤l.length→vM (l.length+2) acc→acc.length≤s.a→f.loop d acc s=some (v,s')→s'.c=0→vM (l.length+2) v∧v.length≤l.length
 stmt:∀d s v s',s.a≤l.length→f.stmt d s=some (v,s')→s'.c=0→okS (l.length+2) v
theorem mP(hx:∀a x n,P a=.ok x n→okX (l.length+2) x)(s:Sr):okX (l.length+2) (aV P s).1:=by
 unfold aV
 split
 ·split
  ·rename_i h;exact hx _ _ _ h
  ·exact aMe
  ·exact aMe
 ·exact aMe
theorem aUm(hP:ParseOk l P)(hx:∀a x n,P a=.ok x n→okX (l.length+2) x){f:Sf}(iv:InvS l f)(h:BdS l f):BdS l ⟨dF l f,gB l f,gZ l P f⟩:=by
 refine⟨fun d s v s' hs e hc=>?_,fun d acc s v s' hs ha hl e hc=>?_,fun d s v s' hs e hc=>?_⟩
 ·have e:dF l f d s=some (v,s'):=e
  unfold dF at e
  split at e
  ·cases e;exact(qO (by decide) hc).elim
  ·exact h.loop _ [] _ _ _ (dH hs).len trivial (Nat.zero_le _) e hc
 ·have e:gB l f d acc s=some (v,s'):=e
  unfold gB at e
  split at e
  ·cases e;exact⟨ha,by omega⟩
  ·split at e
   ·cases e;exact⟨ha,by omega⟩
   ·split at e
    ·rename_i x s1 hx
     have m1:=iv.stmt _ _ _ _ hs hx
     have m2:=iv.loop _ _ _ _ _ m1.len e
     have c1:=m2.fine hc
     have:=m1.lt c1
     exact h.loop _ _ _ _ _ m1.len (aIw ha (h.stmt _ _ _ _ hs hx c1)) (by simp;omega) e hc
    ·cases e
 ·have e:gZ l P f d s=some (v,s'):=e
  have val:∀k p nm s2,okS (l.length+2) (mQ l P k p nm s2).1:=fun k p nm s2=>⟨mP hx _,⟨Nat.zero_le _,trivial⟩,⟨Nat.zero_le _,trivial⟩⟩
  unfold gZ at e
  split at e
  ·split at e
   ·have v0:=val 1 (aB l s.a).a (aB l (s.a+1)).t (aR (aR s))
    rw[Option.some.inj e]at v0;exact v0
   ·have v0:=val 1 (aB l s.a).a [] (gA l (aR s) 5)
    rw[Option.some.inj e]at v0;exact v0
  ·split at e
   ·split at e
    ·cases e;exact⟨aMe,⟨Nat.zero_le _,trivial⟩,⟨Nat.zero_le _,trivial⟩⟩
    ·cases e;exact⟨mP hx _,⟨Nat.zero_le _,trivial⟩,⟨Nat.zero_le _,trivial⟩⟩
   ·split at e
    ·rename_i hi
     have n1:=aW (dN hi (by decide))
     have m2:=bY hP n1.len
     split at e
     ·cases e
     ·rename_i b s1 hb
      have m3:=iv.block _ _ _ _ m2.len hb
      split at e
      ·rename_i h4
       have n4:=aW (dN h4 (by decide))
       split at e
       ·cases e
       ·rename_i b2 s2 hb2
        have m6:=iv.block _ _ _ _ n4.len hb2
        cases e
        have k1:=h.block _ _ _ _ m2.len hb (n4.fine (m6.fine hc))
        have k2:=h.block _ _ _ _ n4.len hb2 hc
        exact⟨mP hx _,⟨by omega,k1.1⟩,⟨by omega,k2.1⟩⟩
      ·cases e
       have k1:=h.block _ _ _ _ m2.len hb hc
       exact⟨mP hx _,⟨by omega,k1.1⟩,⟨Nat.zero_le _,trivial⟩⟩
    ·split at e
     ·rename_i hi
      have n1:=aW (dN hi (by decide))
      have m2:=bY hP n1.len
      split at e
      ·cases e
      ·rename_i b s1 hb
       cases e
       have k1:=h.block _ _ _ _ m2.len hb hc
       exact⟨mP hx _,⟨by omega,k1.1⟩,⟨Nat.zero_le _,trivial⟩⟩
     ·split at e
      ·have v0:=val 2 (aB l s.a).a (aB l s.a).t (aR s)
       rw[Option.some.inj e]at v0;exact v0
      ·cases e;exact⟨mP hx _,⟨Nat.zero_le _,trivial⟩,⟨Nat.zero_le _,trivial⟩⟩
theorem aNv(hP:ParseOk l P)(hx:∀a x n,P a=.ok x n→okX (l.length+2) x):∀n,BdS l (cG l P n)
 |0=>⟨fun _ _ _ _ _ e=>(by cases e),fun _ _ _ _ _ _ _ _ e=>(by cases e),fun _ _ _ _ _ e=>(by cases e)⟩
 |n+1=>aUm hP hx (gX hP n) (aNv hP hx n)
end
end Go.VM
end
section
/- Statements: the document's comparing, of what is the same. -/
set_option maxRecDepth 100000
namespace Go.VM
open Go.RowKit
theorem gG:∀l:List Tx,oQ l=l.map cD
 |[]=>rfl
 |x::l=>by simp only[oQ,List.map_cons,gG l]
def bNf(i:Nat):TM:=[(2,.l 2 0),(3,.l 3 0),(4,.v (.bool false)),(5,.v (.int .i64 i))]
theorem bDf{QN:S→Prop}{QX:X→S→Prop}(k:Nat)(a:Int)(p n:List Nat)(args:List Tx)(hb:args.length<big)
  (ih:∀y∈args,SCall Go.Proofs.Tryz.prog [] 32 [.agg (cD y),.agg (cD y)] none ⟨1000,og [],[]⟩ (.ret (.bool true)) none ⟨1000,og [],[]⟩)
  (h0:∀tm,QX (.exit 0) (SL.toS ⟨tm,[],none,1000,[],[(3,cD (.mk k a p n args)),(2,cD (.mk k a p n args))]⟩)):∀(m i:Nat),i+m=args.length→∀lc,TellL lc [(3,cD (.mk k a p n args)),(2,cD (.mk k a p n args))]→∀tm,TellT tm [(3,cD (.mk k a p n args)),(2,cD (.mk k a p n args))] (bNf i)→
  WLr Go.Proofs.Tryz.prog [] ⟨Go.Proofs.Tryz.f32.ntmps,none,32⟩ wX (SL.toS ⟨tm,[],none,1000,[],lc⟩) QN QX:=by
 intro m
 induction m with
 |zero=>
  intro i hi lc hlc tm htm
  refine WLr.weak (SW.aQ htm hlc) ?_
  unfold wX
  refine WLr.of ?_
  repeat apply sQ
  refine WR.m 5 rfl ?_
  rw[gG,List.length_map,show decide ((i:Int)<(args.length:Int))=false from decide_eq_false (by omega)]
  refine WQ.q rfl ?_
  repeat apply sQ
  rw[←gG]
  exact WR.aO rfl (WR.exit (h0 _))
 |succ m ihm=>
  intro i hi lc hlc tm htm
  obtain⟨y,hy⟩:∃y,args[i]? =some y:=⟨args[i],List.getElem?_eq_getElem (by omega)⟩
  have sc:=ih y (List.mem_of_getElem? hy)
  obtain⟨yk,ya,yp,yn,yl⟩:=y
  refine WLr.weak (SW.aQ htm hlc) ?_
  unfold wX
  refine WLr.of ?_
  repeat apply sQ
  refine WR.m 5 rfl ?_
  rw[gG,List.length_map,show decide ((i:Int)<(args.length:Int))=true from decide_eq_true (by omega)]
  refine WQ.q rfl ?_
  rw[←gG]
  repeat apply sQ
  refine WR.aD rfl (WR.skip ?_)
  repeat apply sQ
  refine WR.block ?_
  repeat apply sQ
  refine WR.aN aZ (DW.m 3 rfl ?_)
  refine DW.cX rfl (fun h=>bT (cs:=cD (.mk yk ya yp yn yl)) rfl rfl (by rw[gG,List.getElem?_map,hy];rfl) rfl) rfl ?_
  refine DW.m 4 rfl ?_
  refine DW.cX rfl (fun h=>bT (cs:=cD (.mk yk ya yp yn yl)) rfl rfl (by rw[gG,List.getElem?_map,hy];rfl) rfl) rfl ?_
  refine DW.m 2 rfl ?_
  refine DW.dX pQ rfl rfl rfl rfl rfl (SCall.eJ sc _) .base rfl ?_
  refine DW.m 1000 rfl (DW.bS pQ ?_)
  repeat apply sQ
  refine WR.q rfl ?_
  repeat apply sQ
  refine WR.k rfl ?_
  unfold aOt
  repeat apply sQ
  refine WR.m 2 rfl ?_
  rw[bJ (by omega)]
  refine WQ.q rfl ?_
  refine WIr.again (ihm (i+1) (by omega) _ ?_ _ ?_)
  ·exact lQ
  ·exact tQ
theorem yX(K:Nat)(hK:K<big):∀(N:Nat) (x:Tx),SizeOf.sizeOf x<N→okT K x→SCall Go.Proofs.Tryz.prog [] 32 [.agg (cD x),.agg (cD x)] none ⟨1000,og [],[]⟩ (.ret (.bool true)) none ⟨1000,og [],[]⟩
 |0,x,h,_=>by omega
 |N+1,.mk k a p n args,h,ho=>by
  obtain⟨hlen,hsub⟩:=ho
  have ih:∀y∈args,SCall Go.Proofs.Tryz.prog [] 32 [.agg (cD y),.agg (cD y)] none ⟨1000,og [],[]⟩ (.ret (.bool true)) none ⟨1000,og [],[]⟩:=by
   intro y hy
   refine yX K hK N y ?_ (aIj hsub hy)
   have:=List.sizeOf_lt_of_mem hy
   simp only[Tx.mk.sizeOf_spec]at h
   omega
  refine SCall.listed (fn:=Go.Proofs.Tryz.f32) (by kernel_rfl) bMp (by kernel_rfl) (by kernel_rfl) (Nat.le_refl _) rfl (trivial) trivial ?_
  unfold bJp
  repeat apply sQ
  refine WR.q rfl ?_
  repeat apply sQ
  refine WR.m 5 rfl ?_
  rw[show decide ((k:Int)=(k:Int))=true from decide_eq_true rfl]
  refine WQ.m 7 rfl ?_
  rw[show decide (a=a)=true from decide_eq_true rfl]
  refine WQ.m 7 rfl ?_
  rw[show decide (p=p)=true from decide_eq_true rfl]
  refine WQ.m 7 rfl ?_
  rw[show decide (n=n)=true from decide_eq_true rfl]
  refine WQ.m 9 rfl ?_
  rw[show decide (((oQ args).length:Int)=((oQ args).length:Int))=true from decide_eq_true rfl]
  refine WQ.q rfl ?_
  repeat apply sQ
  refine WR.k rfl ?_
  repeat apply sQ
  refine WR.q rfl ?_
  repeat apply sQ
  refine WR.block (WR.loop (bDf k a p n args (by omega) ih (fun tm=>?_) args.length 0 (by omega) _ ?_ _ ?_))
  ·unfold aNu
   repeat apply sQ
   refine WR.q rfl ?_
   exact WR.e
  ·exact lQ
  ·exact tQ
end Go.VM
end
section
/- Statements: the document's comparing, of expressions and statements that are the same. -/
set_option maxRecDepth 100000
namespace Go.VM
open Go.RowKit
def bNg(i:Nat):TM:=[(2,.l 2 0),(3,.l 3 0),(4,.v (.bool false)),(6,.v (.int .i64 i))]
theorem bAe{QN:S→Prop}{QX:X→S→Prop}(k:Nat)(a e:Int)(nm:List Nat)(nn:Int)(tk:Nat)(ta:Int)(tp tn:List Nat)(tl:List Tx)(args:List Ex)(hb:args.length<big)
  (ih:∀y∈args,SCall Go.Proofs.Tryz.prog [] 62 [.agg (cA y),.agg (cA y)] none ⟨1000,og [],[]⟩ (.ret (.bool true)) none ⟨1000,og [],[]⟩)
  (h0:∀tm,QX (.exit 0) (SL.toS ⟨tm,[],none,1000,[],[(3,cA (.mk k a e nm nn (.mk tk ta tp tn tl) args)),(2,cA (.mk k a e nm nn (.mk tk ta tp tn tl) args))]⟩)):∀(m i:Nat),i+m=args.length→∀lc,TellL lc [(3,cA (.mk k a e nm nn (.mk tk ta tp tn tl) args)),(2,cA (.mk k a e nm nn (.mk tk ta tp tn tl) args))]→∀tm,TellT tm [(3,cA (.mk k a e nm nn (.mk tk ta tp tn tl) args)),(2,cA (.mk k a e nm nn (.mk tk ta tp tn tl) args))] (bNg i)→
  WLr Go.Proofs.Tryz.prog [] ⟨Go.Proofs.Tryz.f62.ntmps,none,62⟩ xA (SL.toS ⟨tm,[],none,1000,[],lc⟩) QN QX:=by
 intro m
 induction m with
 |zero=>
  intro i hi lc hlc tm htm
  refine WLr.weak (SW.aQ htm hlc) ?_
  unfold xA
  refine WLr.of ?_
  repeat apply sQ
  refine WR.m 5 rfl ?_
  rw[cJ,List.length_map,show decide ((i:Int)<(args.length:Int))=false from decide_eq_false (by omega)]
  refine WQ.q rfl ?_
  repeat apply sQ
  rw[←cJ]
  exact WR.aO rfl (WR.exit (h0 _))
 |succ m ihm=>
  intro i hi lc hlc tm htm
  obtain⟨y,hy⟩:∃y,args[i]? =some y:=⟨args[i],List.getElem?_eq_getElem (by omega)⟩
  have sc:=ih y (List.mem_of_getElem? hy)
  obtain⟨yk,ya,ye,yn,yv,⟨ytk,yta,ytp,ytn,ytl⟩,ys⟩:=y
  refine WLr.weak (SW.aQ htm hlc) ?_
  unfold xA
  refine WLr.of ?_
  repeat apply sQ
  refine WR.m 5 rfl ?_
  rw[cJ,List.length_map,show decide ((i:Int)<(args.length:Int))=true from decide_eq_true (by omega)]
  refine WQ.q rfl ?_
  rw[←cJ]
  repeat apply sQ
  refine WR.aD rfl (WR.skip ?_)
  repeat apply sQ
  refine WR.block ?_
  repeat apply sQ
  refine WR.aN aZ (DW.m 3 rfl ?_)
  refine DW.cX rfl (fun h=>bT (cs:=cA (.mk yk ya ye yn yv (.mk ytk yta ytp ytn ytl) ys)) rfl rfl (by rw[cJ,List.getElem?_map,hy];rfl) rfl) rfl ?_
  refine DW.m 4 rfl ?_
  refine DW.cX rfl (fun h=>bT (cs:=cA (.mk yk ya ye yn yv (.mk ytk yta ytp ytn ytl) ys)) rfl rfl (by rw[cJ,List.getElem?_map,hy];rfl) rfl) rfl ?_
  refine DW.m 2 rfl ?_
  refine DW.dX pQ rfl rfl rfl rfl rfl (SCall.eJ sc _) .base rfl ?_
  refine DW.m 1000 rfl (DW.bS pQ ?_)
  repeat apply sQ
  refine WR.q rfl ?_
  repeat apply sQ
  refine WR.k rfl ?_
  unfold aOu
  repeat apply sQ
  refine WR.m 2 rfl ?_
  rw[bJ (by omega)]
  refine WQ.q rfl ?_
  refine WIr.again (ihm (i+1) (by omega) _ ?_ _ ?_)
  ·exact lQ
  ·exact tQ
theorem aHn(K:Nat)(hK:K<big):∀(N:Nat) (x:Ex),SizeOf.sizeOf x<N→okX K x→SCall Go.Proofs.Tryz.prog [] 62 [.agg (cA x),.agg (cA x)] none ⟨1000,og [],[]⟩ (.ret (.bool true)) none ⟨1000,og [],[]⟩
 |0,x,h,_=>by omega
 |N+1,.mk k a e nm nn (.mk tk ta tp tn tl) args,h,ho=>by
  obtain⟨hT,hlen,hsub⟩:=ho
  have ih:∀y∈args,SCall Go.Proofs.Tryz.prog [] 62 [.agg (cA y),.agg (cA y)] none ⟨1000,og [],[]⟩ (.ret (.bool true)) none ⟨1000,og [],[]⟩:=by
   intro y hy
   refine aHn K hK N y ?_ (aHa hsub hy)
   have:=List.sizeOf_lt_of_mem hy
   simp only[Ex.mk.sizeOf_spec]at h
   omega
  have st:=yX K hK _ _ (Nat.lt_succ_self _) hT
  refine SCall.listed (fn:=Go.Proofs.Tryz.f62) (by kernel_rfl) bJc (by kernel_rfl) (by kernel_rfl) (Nat.le_refl _) rfl (trivial) trivial ?_
  unfold bKc
  repeat apply sQ
  refine WR.q rfl ?_
  repeat apply sQ
  refine WR.m 4 rfl ?_
  refine WQ.c rfl (SCall.eJ st _) .base rfl ?_
  refine WQ.q rfl ?_
  repeat apply sQ
  refine WR.m 7 rfl ?_
  refine WQ.m 1 rfl ?_
  rw[show decide ((k:Int)=(k:Int))=true from decide_eq_true rfl]
  refine WQ.m 7 rfl ?_
  rw[show decide (a=a)=true from decide_eq_true rfl]
  refine WQ.m 7 rfl ?_
  rw[show decide (e=e)=true from decide_eq_true rfl]
  refine WQ.m 7 rfl ?_
  rw[show decide (nm=nm)=true from decide_eq_true rfl]
  refine WQ.m 7 rfl ?_
  rw[show decide (nn=nn)=true from decide_eq_true rfl]
  refine WQ.m 9 rfl ?_
  rw[show decide (((iI args).length:Int)=((iI args).length:Int))=true from decide_eq_true rfl]
  refine WQ.q rfl ?_
  repeat apply sQ
  refine WR.k rfl ?_
  repeat apply sQ
  refine WR.q rfl ?_
  repeat apply sQ
  refine WR.block (WR.loop (bAe k a e nm nn tk ta tp tn tl args (by omega) ih (fun tm=>?_) args.length 0 (by omega) _ ?_ _ ?_))
  ·unfold aPg
   repeat apply sQ
   refine WR.q rfl ?_
   exact WR.e
  ·exact lQ
  ·exact tQ
def slC(l:List Sx):V:=.lst (fW l) .unk
def bFq(l:List Sx)(i:Nat):TM:=[(0,.v (slC l)),(1,.v (slC l)),(4,.v (.bool false)),(5,.v (.int .i64 i))]
theorem bAh{QN:S→Prop}{QX:X→S→Prop}(K:Nat)(hK:K<big)(l:List Sx)(hb:l.length<big)
  (ih:∀y∈l,∀k a nm h x b e,y=.mk k a nm h x b e→okX K x∧SCall Go.Proofs.Tryz.prog [] 33 [slC b,slC b] none ⟨1000,og [],[]⟩ (.ret (.bool true)) none ⟨1000,og [],[]⟩∧SCall Go.Proofs.Tryz.prog [] 33 [slC e,slC e] none ⟨1000,og [],[]⟩ (.ret (.bool true)) none ⟨1000,og [],[]⟩)
  (h0:∀tm lc,QX (.exit 0) (SL.toS ⟨tm,[],none,1000,[],lc⟩)):∀(m i:Nat),i+m=l.length→∀lc tm,TellT tm [] (bFq l i)→
  WLr Go.Proofs.Tryz.prog [] ⟨Go.Proofs.Tryz.f33.ntmps,none,33⟩ xH (SL.toS ⟨tm,[],none,1000,[],lc⟩) QN QX:=by
 intro m
 induction m with
 |zero=>
  intro i hi lc tm htm
  refine WLr.weak (s:=SL.toS ⟨bFq l i,[],none,1000,[],[]⟩) (SW.aQ htm .nil) ?_
  unfold xH
  refine WLr.of ?_
  repeat apply sQ
  refine WR.m 3 rfl ?_
  rw[jJ,List.length_map]
  refine WQ.m 1 rfl ?_
  rw[show decide ((i:Int)<(l.length:Int))=false from decide_eq_false (by omega)]
  refine WQ.q rfl ?_
  repeat apply sQ
  exact WR.aO rfl (WR.exit (h0 _ _))
 |succ m ihm=>
  intro i hi lc tm htm
  obtain⟨y,hy⟩:∃y,l[i]? =some y:=⟨l[i],List.getElem?_eq_getElem (by omega)⟩
  have sc:=ih y (List.mem_of_getElem? hy)
  obtain⟨yk,ya,yn,yh,⟨xk,xa,xe,xn,xv,⟨xtk,xta,xtp,xtn,xtl⟩,xs⟩,yb,ye⟩:=y
  obtain⟨sx,sb,se⟩:=sc _ _ _ _ _ _ _ rfl
  have s4:=aHn K hK _ _ (Nat.lt_succ_self _) sx
  refine WLr.weak (s:=SL.toS ⟨bFq l i,[],none,1000,[],[]⟩) (SW.aQ htm .nil) ?_
  unfold xH
  refine WLr.of ?_
  repeat apply sQ
  refine WR.m 3 rfl ?_
  rw[jJ,List.length_map]
  refine WQ.m 1 rfl ?_
  rw[show decide ((i:Int)<(l.length:Int))=true from decide_eq_true (by omega)]
  refine WQ.q rfl ?_
  repeat apply sQ
  refine WR.aD rfl (WR.skip ?_)
  repeat apply sQ
  refine WR.block ?_
  repeat apply sQ
  refine WR.m 2 rfl ?_
  refine WQ.cE rfl rfl rfl (bT (cs:=kT (.mk yk ya yn yh (.mk xk xa xe xn xv (.mk xtk xta xtp xtn xtl) xs) yb ye)) rfl rfl (by rw[jJ,List.getElem?_map,hy];rfl) rfl) rfl ?_
  refine WQ.q rfl ?_
  repeat apply sQ
  refine WR.m 2 rfl ?_
  refine WQ.cE rfl rfl rfl (bT (cs:=kT (.mk yk ya yn yh (.mk xk xa xe xn xv (.mk xtk xta xtp xtn xtl) xs) yb ye)) rfl rfl (by rw[jJ,List.getElem?_map,hy];rfl) rfl) rfl ?_
  refine WQ.q rfl ?_
  repeat apply sQ
  refine WR.m 5 rfl ?_
  rw[show decide ((yk:Int)=(yk:Int))=true from decide_eq_true rfl]
  refine WQ.m 7 rfl ?_
  rw[show decide (ya=ya)=true from decide_eq_true rfl]
  refine WQ.m 7 rfl ?_
  rw[show decide (yn=yn)=true from decide_eq_true rfl]
  refine WQ.m 6 rfl ?_
  refine WQ.m 1 rfl ?_
  rw[show(yh==yh)=true from by cases yh<;>rfl]
  refine WQ.q rfl ?_
  repeat apply sQ
  refine WR.k rfl ?_
  repeat apply sQ
  refine WR.m 4 rfl ?_
  refine WQ.c rfl (SCall.eJ s4 _) .base rfl ?_
  refine WQ.q rfl ?_
  repeat apply sQ
  refine WR.m 4 rfl ?_
  refine WQ.c rfl (SCall.eJ sb _) .base rfl ?_
  refine WQ.q rfl ?_
  repeat apply sQ
  refine WR.m 4 rfl ?_
  refine WQ.c rfl (SCall.eJ se _) .base rfl ?_
  refine WQ.q rfl ?_
  repeat apply sQ
  refine WR.q rfl ?_
  repeat apply sQ
  refine WR.k rfl ?_
  unfold aMu
  repeat apply sQ
  refine WR.m 2 rfl ?_
  rw[bJ (by omega)]
  refine WQ.q rfl ?_
  refine WIr.again (ihm (i+1) (by omega) _ _ ?_)
  exact tQ
theorem yG(K:Nat)(hK:K<big):∀(N:Nat) (l:List Sx),SizeOf.sizeOf l<N→vM K l→l.length≤K→SCall Go.Proofs.Tryz.prog [] 33 [slC l,slC l] none ⟨1000,og [],[]⟩ (.ret (.bool true)) none ⟨1000,og [],[]⟩
 |0,x,h,_,_=>by omega
 |N+1,l,h,ho,hlen=>by
  have ih:∀y∈l,∀k a nm h x b e,y=.mk k a nm h x b e→okX K x∧SCall Go.Proofs.Tryz.prog [] 33 [slC b,slC b] none ⟨1000,og [],[]⟩ (.ret (.bool true)) none ⟨1000,og [],[]⟩∧SCall Go.Proofs.Tryz.prog [] 33 [slC e,slC e] none ⟨1000,og [],[]⟩ (.ret (.bool true)) none ⟨1000,og [],[]⟩:=by
   intro y hy k a nm hh x b e he
   have hm:=aHp ho hy
   have hsz:=List.sizeOf_lt_of_mem hy
   subst he
   obtain⟨q1,q2,q3⟩:=hm
   simp only[Sx.mk.sizeOf_spec]at hsz
   exact⟨q1,yG K hK N b (by omega) q2.2 q2.1,yG K hK N e (by omega) q3.2 q3.1⟩
  refine SCall.listed (fn:=Go.Proofs.Tryz.f33) (by kernel_rfl) bMg (by kernel_rfl) (by kernel_rfl) (Nat.le_refl _) rfl (trivial) trivial ?_
  unfold bKu
  unfold slC
  repeat apply sQ
  refine WR.q rfl ?_
  repeat apply sQ
  refine WR.m 4 rfl ?_
  refine WQ.m 1 rfl ?_
  rw[show decide (((fW l).length:Int)=((fW l).length:Int))=true from decide_eq_true rfl]
  refine WQ.q rfl ?_
  repeat apply sQ
  refine WR.k rfl ?_
  repeat apply sQ
  refine WR.q rfl ?_
  repeat apply sQ
  refine WR.block (WR.loop (bAh K hK l (by omega) ih (fun tm lc=>?_) l.length 0 (by omega) _ _ ?_))
  ·unfold aMi
   repeat apply sQ
   refine WR.q rfl ?_
   exact WR.e
  ·exact tQ
end Go.VM
end
section
/- Statements: the calls at the head of the laws. -/
set_option maxRecDepth 100000
namespace Go.VM
open Go.RowKit
def aXf(l:List Tz)(F:Nat):Bool:=(List.range (l.length+1)).all fun a=>!((fns l F).expr 1 a 0).bA
theorem aZx{l:List Tz}{F:Nat}(h:aXf l F=true):∀a,a≤l.length→((fns l F).expr 1 a 0).bA=false:=by
 intro a ha
 have:=List.all_eq_true.1 h a (List.mem_range.2 (by omega))
 simpa using this
end Go.VM
end
section
/- Statements: what stands behind a block. -/
set_option maxRecDepth 100000
namespace Go.VM
open Go.RowKit
mutual
theorem aIg:∀x:Tx,shT 0 x=x
 |.mk k a p n l=>by simp only[shT,Int.add_zero,aXe l]
theorem aXe:∀l:List Tx,aRt 0 l=l
 |[]=>rfl
 |x::l=>by simp only[aRt,aIg x,aXe l]
end
mutual
theorem bEy:∀x:Ex,shX 0 x=x
 |.mk k a e nm n t args=>by
  simp only[shX,Int.add_zero,aZl args]
  cases Nat.beq k 8<;>simp only[aIg]
theorem aZl:∀l:List Ex,oK 0 l=l
 |[]=>rfl
 |x::l=>by simp only[oK,bEy x,aZl l]
end
mutual
theorem bGp:∀x:Sx,aJe 0 x=x
 |.mk k a nm h x b e=>by
  simp only[aJe,Int.add_zero,xJ b,xJ e]
  cases Nat.beq k 3&&!h<;>simp only[bEy]
theorem xJ:∀l:List Sx,hJ 0 l=l
 |[]=>rfl
 |x::l=>by simp only[hJ,bGp x,xJ l]
end
noncomputable def PL(l:List Tz)(a:Nat):R Ex:=open Classical in if h:a≤l.length then Classical.choose (Classical.choose_spec (aBy l a 1 0 h))else .out
theorem jP(l:List Tz){a:Nat}(h:a≤l.length):(PL l a).bA=false∧∃N,∀n,N≤n→(fns l n).expr 1 a 0=PL l a:=by
 have h2:=Classical.choose_spec (Classical.choose_spec (aBy l a 1 0 h))
 unfold PL
 rw[dif_pos h]
 exact⟨h2.1,_,h2.2⟩
theorem aOc(l:List Tz)(hl:l.length<19999)(hT:∀t∈l,t.t.length<big):ParseOk l (PL l):=by
 refine⟨fun a ha h=>?_,fun a ha=>(jP l ha).1,fun a x n ha e=>?_,fun a a1 d p c e=>?_⟩
 ·obtain⟨h1,N,h2⟩:=jP l ha
  have h2:=h2 N (Nat.le_refl _)
  have:=SCall.eG rfl (zF l hl hT a N ha (by rw[h2];exact h1)) (by exact⟨rX l,trivial,trivial⟩) (by exact aLm _) h
  rw[h2]at this
  exact this
 ·obtain⟨h1,N,h2⟩:=jP l ha
  have h2:=h2 N (Nat.le_refl _)
  rw[e]at h2
  exact⟨(pN l N).expr 1 a 0 x n h2,((dM l N).expr 1 a 0 x n h2).2 ha⟩
 ·by_cases ha:a≤l.length
  ·obtain⟨h1,N,h2⟩:=jP l ha
   have h2:=h2 N (Nat.le_refl _)
   rw[e]at h2
   exact(zE N).expr 1 a 0 a1 d p c h2
  ·unfold PL at e
   rw[dif_neg ha]at e
   cases e
theorem bLf(l:List Tz):∀a x n,PL l a=.ok x n→okX (l.length+2) x:=by
 intro a x n e
 by_cases ha:a≤l.length
 ·obtain⟨h1,N,h2⟩:=jP l ha
  have h2:=h2 N (Nat.le_refl _)
  rw[e]at h2
  exact(aTx l N).expr 1 a 0 x n h2
 ·unfold PL at e
  rw[dif_neg ha]at e
  cases e
section
variable{lo n k:Nat}{b:Int}{l l':List Tz}{P P':Nat→R Ex}
end
end Go.VM
end
section
/- Files: what a text is. -/
set_option maxRecDepth 100000
namespace Go.VM
open Go.RowKit
def rO(r:List Sx×Sr):R (List Sx):=match bZ r.2 with
 |true=>.ok r.1 r.2.a
 |false=>.er 0 0 r.2.p r.2.c
theorem bJq(r:List Sx×Sr):stV r=stR (rO r):=by
 unfold stV rO
 cases bZ r.2<;>rfl
theorem aUg{l:List Tz}{P:Nat→R Ex}(hP:ParseOk l P)(hl:l.length<20000){St:Nat→R (List Sx)}(h:∀a,a≤l.length→∃n r,(cG l P n).block 0 ⟨a,0,0⟩=some r∧St a=rO r)(h2:∀a,¬a≤l.length→St a=.out):StmOk l St:=by
 refine⟨fun a ha m=>?_,fun a ha=>?_,fun a x n ha e=>?_,fun a a1 d p c e=>?_⟩
 ·obtain⟨n,r,h1,h2⟩:=h a ha
  rw[h2,←bJq]
  exact SCall.eG rfl (aHf hP hl n a ha h1) (by exact⟨rX l,trivial,trivial⟩) (by exact aXz _) m
 ·obtain⟨n,r,h1,h2⟩:=h a ha
  rw[h2]
  unfold rO
  cases bZ r.2<;>rfl
 ·obtain⟨m,r,h1,h2⟩:=h a ha
  rw[h2]at e
  unfold rO at e
  have:=(gX hP m).block 0 ⟨a,0,0⟩ r.1 r.2 ha h1
  cases hf:bZ r.2 with
  |false=>rw[hf]at e;cases e
  |true=>
   rw[hf]at e
   cases e
   exact⟨this.lt (fM.1 hf),this.len⟩
 ·by_cases ha:a≤l.length
  ·obtain⟨m,r,h1,h2⟩:=h a ha
   rw[h2]at e
   unfold rO at e
   cases hf:bZ r.2 with
   |true=>rw[hf]at e;cases e
   |false=>
    rw[hf]at e
    cases e
    exact fun hc=>by rw[fM.2 hc]at hf;cases hf
  ·rw[h2 a ha]at e;cases e
theorem uP{l:List Tz}{St:Nat→R (List Sx)}(hS:StmOk l St)(hl:l.length<20000)(m:Nat)(ho:(iN l St m).bA=false)(h:H):SCall Go.Proofs.Tryz.prog [0] 14 [lsV l] none h (.ret (flV (iN l St m))) none h:=
 SCall.more (SCall.eG rfl (aGs hS hl m ho) (by exact⟨rX l,trivial⟩) (by exact aTy _) h)
def txV(w c:Nat)(F:R FileX):V:=match c with
 |0=>flV F
 |_+1=>.tup [mF tI,.agg (dgX w c)]
theorem nN(s:List Nat)(h8:∀c∈s,c<256)(hl:s.length<big)(F:R FileX)(ho:(bF s).2.2=0→F.bA=false)(hF:(bF s).2.2=0→∀h,SCall Go.Proofs.Tryz.prog [0] 14 [lsV ((bF s).1.map toZ)] none h (.ret (flV F)) none h):
  SCall Go.Proofs.Tryz.prog [0] 8 [.str s] none ⟨1000,og tOl,[]⟩ (.ret (txV (bF s).2.1 (bF s).2.2 F)) none ⟨1000,og tOl,[]⟩:=by
 have al:=bGq s h8 hl
 unfold aLo at al
 rw[aVm]at al
 have al:SCall Go.Proofs.Tryz.prog [0] 12 [.str s] none ⟨1000,og tOl,[]⟩ (.ret (.tup [lsV ((match(bF s).2.2 with|0=>(bF s).1|_+1=>[]).map toZ),.agg (dg (bF s).2.1 (bF s).2.2)])) none ⟨1000,og tOl,[]⟩:=al
 generalize(bF s).2.2=c at al hF ho⊢
 generalize(bF s).2.1=w at al⊢
 generalize(bF s).1=T at al hF⊢
 cases c with
 |succ c=>
  show SCall Go.Proofs.Tryz.prog [0] 8 [.str s] none ⟨1000,og tOl,[]⟩ (.ret (.tup [mF tI,.agg (dgX w ((c+1:Nat):Int))])) none ⟨1000,og tOl,[]⟩
  refine SCall.listed (fn:=Go.Proofs.Tryz.f8) (by kernel_rfl) bHs (by kernel_rfl) (by kernel_rfl) (Nat.le_refl _) rfl ((by exact⟨lS,trivial⟩)) (by exact⟨kF _,⟨trivial,trivial,trivial⟩,trivial⟩) ?_
  unfold rc8
  repeat apply sQ
  refine WR.q rfl ?_
  repeat apply sQ
  refine WR.m 2 rfl ?_
  refine WQ.c rfl (SCall.eJ al _) .base rfl ?_
  refine WQ.q rfl ?_
  repeat apply sQ
  refine WR.m 3 rfl ?_
  rw[show decide (((c+1:Nat):Int)=0)=false from decide_eq_false (by omega)]
  refine WQ.q rfl ?_
  repeat apply sQ
  refine WR.aD rfl ?_
  repeat apply sQ
  refine WR.aN aZ (DW.m 1000 rfl ?_)
  refine DW.stS pQ rfl rfl rfl rfl (DW.m 1000 rfl ?_)
  refine DW.stS pQ rfl rfl rfl rfl (DW.m 1000 rfl (DW.bS pQ ?_))
  exact WR.ret ⟨rfl,rfl,⟨_,rfl,by repeat(first|exact VLe.refl _|exact VLe.unk _ _|exact lG _ _|refine VLe.tup ?_|refine VLe.agg ?_|exact VLL.nil|refine VLL.cons ?_ ?_)⟩,fun _ _=>rfl⟩
 |zero=>
  have hF:=hF rfl
  have ho:=ho rfl
  show SCall Go.Proofs.Tryz.prog [0] 8 [.str s] none ⟨1000,og tOl,[]⟩ (.ret (flV F)) none ⟨1000,og tOl,[]⟩
  cases F with
  |out=>cases ho
  |er a d p c=>
   have hF:∀h,SCall Go.Proofs.Tryz.prog [0] 14 [lsV (T.map toZ)] none h (.ret (.tup [mF tI,.agg (dgX p c)])) none h:=hF
   show SCall Go.Proofs.Tryz.prog [0] 8 [.str s] none ⟨1000,og tOl,[]⟩ (.ret (.tup [mF tI,.agg (dgX p c)])) none ⟨1000,og tOl,[]⟩
   refine SCall.listed (fn:=Go.Proofs.Tryz.f8) (by kernel_rfl) bHs (by kernel_rfl) (by kernel_rfl) (Nat.le_refl _) rfl ((by exact⟨lS,trivial⟩)) (by exact⟨kF _,⟨trivial,trivial,trivial⟩,trivial⟩) ?_
   unfold rc8
   repeat apply sQ
   refine WR.q rfl ?_
   repeat apply sQ
   refine WR.m 2 rfl ?_
   refine WQ.c rfl (SCall.eJ al _) .base rfl ?_
   refine WQ.q rfl ?_
   repeat apply sQ
   refine WR.q rfl ?_
   repeat apply sQ
   refine WR.k rfl ?_
   repeat apply sQ
   refine WR.m 2 rfl ?_
   refine WQ.c rfl (hF _) .base rfl ?_
   refine WQ.q rfl ?_
   exact WR.ret ⟨rfl,rfl,⟨_,rfl,by repeat(first|exact VLe.refl _|exact VLe.unk _ _|exact lG _ _|refine VLe.tup ?_|refine VLe.agg ?_|exact VLL.nil|refine VLL.cons ?_ ?_)⟩,fun _ _=>rfl⟩
  |ok f a=>
   obtain⟨fn,fa,fi,fd⟩:=f
   have hF:∀h,SCall Go.Proofs.Tryz.prog [0] 14 [lsV (T.map toZ)] none h (.ret (.tup [mF ⟨fn,fa,fi,fd⟩,.agg (dgX 0 0)])) none h:=hF
   show SCall Go.Proofs.Tryz.prog [0] 8 [.str s] none ⟨1000,og tOl,[]⟩ (.ret (.tup [mF ⟨fn,fa,fi,fd⟩,.agg (dgX 0 0)])) none ⟨1000,og tOl,[]⟩
   refine SCall.listed (fn:=Go.Proofs.Tryz.f8) (by kernel_rfl) bHs (by kernel_rfl) (by kernel_rfl) (Nat.le_refl _) rfl ((by exact⟨lS,trivial⟩)) (by exact⟨kF _,⟨trivial,trivial,trivial⟩,trivial⟩) ?_
   unfold rc8
   repeat apply sQ
   refine WR.q rfl ?_
   repeat apply sQ
   refine WR.m 2 rfl ?_
   refine WQ.c rfl (SCall.eJ al _) .base rfl ?_
   refine WQ.q rfl ?_
   repeat apply sQ
   refine WR.q rfl ?_
   repeat apply sQ
   refine WR.k rfl ?_
   repeat apply sQ
   refine WR.m 2 rfl ?_
   refine WQ.c rfl (hF _) .base rfl ?_
   refine WQ.q rfl ?_
   exact WR.ret ⟨rfl,rfl,⟨_,rfl,by repeat(first|exact VLe.refl _|exact VLe.unk _ _|exact lG _ _|refine VLe.tup ?_|refine VLe.agg ?_|exact VLL.nil|refine VLL.cons ?_ ?_)⟩,fun _ _=>rfl⟩
def EvR{α:Type}(r:Nat→Option α)(v:α):Prop:=∃N,∀n,N≤n→r n=some v
theorem EvR.uniq{α:Type}{r:Nat→Option α}{v w:α}(h:EvR r v)(k:EvR r w):v=w:=by
 obtain⟨N,h⟩:=h
 obtain⟨M,k⟩:=k
 have a:=h (max N M) (by omega)
 rw[k (max N M) (by omega)]at a
 exact(Option.some.inj a).symm
noncomputable def ST(l:List Tz)(a:Nat):R (List Sx):=open Classical in if h:a≤l.length∧∃r,EvR (fun n=>(cG l (PL l) n).block 0 ⟨a,0,0⟩) r then rO (Classical.choose h.2)else .out
theorem aOp{l:List Tz}{a:Nat}(ha:a≤l.length){r:List Sx×Sr}(h:EvR (fun n=>(cG l (PL l) n).block 0 ⟨a,0,0⟩) r):ST l a=rO r:=by
 have e:a≤l.length∧∃r,EvR (fun n=>(cG l (PL l) n).block 0 ⟨a,0,0⟩) r:=⟨ha,r,h⟩
 unfold ST
 rw[dif_pos e,(Classical.choose_spec e.2).uniq h]
theorem uH(l:List Tz)(a:Nat):ST l a=.out∨(a≤l.length∧∃r,EvR (fun n=>(cG l (PL l) n).block 0 ⟨a,0,0⟩) r∧ST l a=rO r):=by
 by_cases e:a≤l.length∧∃r,EvR (fun n=>(cG l (PL l) n).block 0 ⟨a,0,0⟩) r
 ·obtain⟨ha,r,h⟩:=e
  exact .inr ⟨ha,r,h,aOp ha h⟩
 ·unfold ST
  rw[dif_neg e]
  exact .inl rfl
theorem aBi{l:List Tz}(hl:l.length<19999)(hT:∀t∈l,t.t.length<big):StmOk l (ST l):=by
 refine aUg (aOc l hl hT) (by omega) (fun a ha=>?_) (fun a ha=>?_)
 ·obtain⟨N,r,h⟩:=aJq (aOc l hl hT) a ha
  exact⟨N,r,h N (Nat.le_refl _),aOp ha ⟨N,h⟩⟩
 ·unfold ST
  rw[dif_neg (fun e=>ha e.1)]
noncomputable def FL(l:List Tz):R FileX:=iN l (ST l) (l.length+1)
theorem tF{l:List Tz}(hl:l.length<19999)(hT:∀t∈l,t.t.length<big):(FL l).bA=false:=aId (aBi hl hT) (Nat.lt_succ_self _)
theorem bLp{l:List Tz}(hl:l.length<19999)(hT:∀t∈l,t.t.length<big)(h:H):SCall Go.Proofs.Tryz.prog [0] 14 [lsV l] none h (.ret (flV (FL l))) none h:=uP (aBi hl hT) (by omega) _ (tF hl hT) h
noncomputable def qZ(s:List Nat):V:=txV ((bF s).2.1) ((bF s).2.2) (FL ((bF s).1.map toZ))
theorem qM{s:List Nat}(hl:s.length<big)(hc:(bF s).2.2=0):GoodT s.length ((bF s).1.map toZ)∧((bF s).1.map toZ).length<19999∧∀t∈(bF s).1.map toZ,t.t.length<big:=by
 have e:bF s=((bF s).1,(bF s).2.1,0):=by rw[←hc]
 have g:=aQv e
 have h4:=aXb s _ _ _ _ _ (Nat.zero_le _) e
 exact⟨g,by rw[List.length_map];omega,aWu g hl⟩
theorem aGn(s:List Nat)(h8:∀c∈s,c<256)(hl:s.length<big):SCall Go.Proofs.Tryz.prog [0] 8 [.str s] none ⟨1000,og tOl,[]⟩ (.ret (qZ s)) none ⟨1000,og tOl,[]⟩:=by
 by_cases hc:(bF s).2.2=0
 ·obtain⟨_,h2,h3⟩:=qM hl hc
  exact nN s h8 hl _ (fun _=>tF h2 h3) (fun _ h=>bLp h2 h3 h)
 ·exact nN s h8 hl _ (fun e=>absurd e hc) (fun e=>absurd e hc)
end Go.VM
end
