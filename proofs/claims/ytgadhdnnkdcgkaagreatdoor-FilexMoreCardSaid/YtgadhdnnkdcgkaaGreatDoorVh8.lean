/- laid for this seat: VfQ VfR VfS -/
import Derived.Test.YtgadhdnnkdcgkaaGreatDoorVh6
import Derived.Test.YtgadhdnnkdcgkaaGreatDoorVh4
import Derived.Test.YtgadhdnnkdcgkaaGreatDoorVh7
set_option linter.unusedVariables false
set_option linter.unusedSimpArgs false
section
/- Files: the tokens of a text and those of it with more lines behind. -/
set_option maxRecDepth 100000
namespace Go.VM
open Go.RowKit
theorem aUh(N:Nat):∀u:List Nat,u.length≤N→sk u=if sk (u++[10])<u.length then sk (u++[10])else u.length:=by
 induction N with
 |zero=>
  intro u hu
  have:u=[]:=List.eq_nil_of_length_eq_zero (by omega)
  subst this
  rfl
 |succ N ih=>
  intro u hu
  have cl:=cT aI u
  by_cases hb:aP aI u=u.length
  ·have h1:sk u=u.length:=by
    rw[sM,hb,List.drop_length]
    rfl
   have h2:u.length≤sk (u++[10]):=by
    rw[sM,lB,if_pos hb]
    split<;>omega
   rw[h1,if_neg (by omega)]
  ·have h1:=sM u
   have h2:sk (u++[10])=if eZ (u.drop (aP aI u)) [47,47]=true then aP aI u+aP cO (u.drop (aP aI u))+sk (u.drop (aP aI u+aP cO (u.drop (aP aI u)))++[10])else aP aI u:=by
    rw[sM,lB,if_neg hb,List.drop_append_of_le_length cl,aEo (by decide),qQ (p:=cO) (by decide)]
    split
    ·have c4:=cT cO (u.drop (aP aI u))
     rw[List.length_drop]at c4
     rw[List.drop_append_of_le_length (by omega)]
    ·rfl
   cases hp:eZ (u.drop (aP aI u)) [47,47]with
   |false=>
    rw[hp]at h1 h2
    simp only[Bool.false_eq_true,if_false]at h1 h2
    rw[h1,h2,if_pos (by omega)]
   |true=>
    rw[hp]at h1 h2
    simp only[if_true]at h1 h2
    have c2:=uG hp
    have c4:=cT cO (u.drop (aP aI u))
    rw[List.length_drop]at c4
    have i1:=ih (u.drop (aP aI u+aP cO (u.drop (aP aI u)))) (by rw[List.length_drop];omega)
    rw[h1,h2,i1]
    rw[List.length_drop]
    split
    ·rw[if_pos (by omega)]
    ·rw[if_neg (by omega)];omega
theorem aVv{s s' u r:List Nat}{i c:Nat}(h:s.drop i=c::u)(h':s'.drop i=(c::u)++10::r):(eX s i c).2=(eX s' i c).2∧((eX s i c).2=0→(eX s i c).1=(eX s' i c).1):=by
 have n1:∀{p:Nat→Bool},p 10=false→aP p (s'.drop i)=aP p (s.drop i):=fun hp=>by rw[h,h',qQ hp]
 have t1:∀n,n≤(c::u).length→(s'.drop i).take n=(s.drop i).take n:=fun n hn=>by rw[h,h',List.take_append_of_le_length hn]
 have p1:∀x,x≠10→eZ (s'.drop i) [x,x]=eZ (s.drop i) [x,x]:=fun x hx=>by rw[h,h',aEo hx]
 cases hL:fA c with
 |true=>
  have hn:=cT lT (s.drop i)
  rw[h]at hn
  rw[fK hL,fK hL,n1 (p:=lT) (by decide),t1 _ (by rw[h];exact hn)]
  exact⟨rfl,fun _=>rfl⟩
 |false=>
 cases hD:eE c with
 |true=>
  rw[gH hL hD,gH hL hD,n1 (p:=eE) (by decide)]
  exact⟨rfl,fun _=>rfl⟩
 |false=>
 by_cases h34:c=34
 ·subst h34
  rw[iM hL hD rfl,iM hL hD rfl]
  have d0:s.drop (i+1)=u:=by
   have:s.drop (i+1)=(s.drop i).drop 1:=by rw[List.drop_drop]
   rw[this,h];rfl
  have d1:s'.drop (i+1)=u++10::r:=by
   have:s'.drop (i+1)=(s'.drop i).drop 1:=by rw[List.drop_drop]
   rw[this,h'];rfl
  have q0:qV s i=i+1+aP dG u:=by unfold qV;rw[d0]
  have q1:qV s' i=i+1+aP dG u:=by unfold qV;rw[d1,qQ (p:=dG) (by decide)]
  have hle:=cT dG u
  have g0:s[i+1+aP dG u]? =u[aP dG u]?:=by rw[←List.getElem?_drop,d0]
  have g1:s'[i+1+aP dG u]? =(u++10::r)[aP dG u]?:=by rw[←List.getElem?_drop,d1]
  have hb:wO s i=wO s' i:=by
   unfold wO
   rw[q0,q1,d0,d1,g0,g1,qQ (p:=dG) (by decide)]
   rcases Nat.lt_or_ge (aP dG u) u.length with hlt|hge
   ·rw[List.getElem?_append_left hlt]
   ·rw[List.getElem?_append_right hge,show aP dG u-u.length=0 by omega,List.getElem?_eq_none hge]
    rfl
  unfold rC
  rw[hb,q0,q1]
  exact⟨rfl,fun _=>rfl⟩
 cases hp:(eZ (s.drop i) [61,61]||eZ (s.drop i) [38,38])with
 |true=>
  rw[jV hL hD h34 hp,jV hL hD h34 (by rw[p1 61 (by decide),p1 38 (by decide)];exact hp)]
  exact⟨rfl,fun _=>rfl⟩
 |false=>
  rw[jT hL hD h34 hp,jT hL hD h34 (by rw[p1 61 (by decide),p1 38 (by decide)];exact hp)]
  exact⟨rfl,fun _=>rfl⟩
theorem aTd{s:List Nat}{i c:Nat}(h:(eX s i c).2=0):(eX s i c).1.kind≠0:=by
 cases hL:fA c with
 |true=>rw[fK hL];dsimp only;split<;>decide
 |false=>
 cases hD:eE c with
 |true=>rw[gH hL hD];exact Nat.succ_ne_zero _
 |false=>
 by_cases h34:c=34
 ·rw[iM hL hD h34]at h⊢
  unfold rC at h⊢
  split at h
  ·cases h
  ·exact Nat.succ_ne_zero _
 cases hp:(eZ (s.drop i) [61,61]||eZ (s.drop i) [38,38])with
 |true=>rw[jV hL hD h34 hp];exact Nat.succ_ne_zero _
 |false=>rw[jT hL hD h34 hp];exact Nat.succ_ne_zero _
theorem aUn(s r:List Nat):∀(k i:Nat) (m m':Nat) (l:List Tk),s.length≤i+k→i≤s.length→s.length+1≤m+i→(s++10::r).length+1≤m'+i→
  (∃p c T T',jI s m (dP s (s.length+1) i) l=(T,p,c+1)∧jI (s++10::r) m' (dP (s++10::r) ((s++10::r).length+1) i) l=(T',p,c+1))∨
  ∃q m2,jI s m (dP s (s.length+1) i) l=(l++q++[oI s],0,0)∧jI (s++10::r) m' (dP (s++10::r) ((s++10::r).length+1) i) l=jI (s++10::r) m2 (dP (s++10::r) ((s++10::r).length+1) (s.length+1)) (l++q)∧(s++10::r).length+1≤m2+(s.length+1)∧∀t∈q,t.kind≠0:=by
 intro k
 have hlen:(s++10::r).length=s.length+1+r.length:=by simp;omega
 have pass:∀(i m m':Nat) (l:List Tk),i≤s.length→s.length+1≤m+i→(s++10::r).length+1≤m'+i→¬sk (s.drop i++[10])<(s.drop i).length→
   jI s m (dP s (s.length+1) i) l=(l++[]++[oI s],0,0)∧jI (s++10::r) m' (dP (s++10::r) ((s++10::r).length+1) i) l=jI (s++10::r) m' (dP (s++10::r) ((s++10::r).length+1) (s.length+1)) (l++[]):=by
  intro i m m' l hi hm hm' hn
  have hdl:(s.drop i).length=s.length-i:=List.length_drop ..
  have e1:=aUh _ (s.drop i) (Nat.le_refl _)
  have e2:=(bEn _ (s.drop i) r (Nat.le_refl _)).1
  rw[if_neg hn]at e1 e2
  have d2:(s++10::r).drop i=s.drop i++10::r:=List.drop_append_of_le_length hi
  have d3:(s++10::r).drop (s.length+1)=r:=by rw[←List.drop_drop,List.drop_left];rfl
  constructor
  ·rw[oF,e1]
   obtain⟨m0,rfl⟩:∃m0,m=m0+1:=⟨m-1,by omega⟩
   rw[jI,show s[i+(s.drop i).length]? =none from List.getElem?_eq_none (by omega)]
   simp only[List.append_nil]
  ·rw[oF,d2,e2,oF,d3,List.append_nil]
   congr 1
   omega
 induction k with
 |zero=>
  intro i m m' l hk hi hm hm'
  have:s.drop i=[]:=List.drop_eq_nil_iff.2 (by omega)
  have:=pass i m m' l hi hm hm' (by rw[this];exact Nat.not_lt_zero _)
  exact .inr ⟨[],m',this.1,this.2,by omega,fun t ht=>by cases ht⟩
 |succ k ih=>
  intro i m m' l hk hi hm hm'
  by_cases hn:sk (s.drop i++[10])<(s.drop i).length
  ·have hdl:(s.drop i).length=s.length-i:=List.length_drop ..
   have e1:=aUh _ (s.drop i) (Nat.le_refl _)
   have e2:=(bEn _ (s.drop i) r (Nat.le_refl _)).1
   rw[if_pos hn]at e1 e2
   have d2:(s++10::r).drop i=s.drop i++10::r:=List.drop_append_of_le_length hi
   rw[oF,e1,oF,d2,e2]
   generalize sk (s.drop i++[10])=j at hn
   obtain⟨c,u,hd⟩:∃c u,s.drop (i+j)=c::u:=by
    cases hv:s.drop (i+j)with
    |nil=>have:=List.drop_eq_nil_iff.1 hv;omega
    |cons c u=>exact⟨c,u,rfl⟩
   have hd':(s++10::r).drop (i+j)=(c::u)++10::r:=by rw[List.drop_append_of_le_length (by omega),hd]
   obtain⟨q1,q2⟩:=aVv hd hd'
   obtain⟨m0,rfl⟩:∃m0,m=m0+1:=⟨m-1,by omega⟩
   obtain⟨m0',rfl⟩:∃m0',m'=m0'+1:=⟨m'-1,by omega⟩
   have hc:=aIc hd
   have hc':=aIc hd'
   rw[jI,hc,jI,hc']
   simp only[aPp]
   rw[←q1]
   by_cases h4:l.length≥4000
   ·rw[if_pos h4]
    exact .inl ⟨_,5,_,_,rfl,rfl⟩
   ·rw[if_neg h4]
    cases hz:(eX s (i+j) c).2 with
    |succ w=>exact .inl ⟨_,w,_,_,rfl,rfl⟩
    |zero=>
     have q3:=q2 hz
     rw[←q3]
     have hp:=sK hc hz
     have ha:=aYf hz
     have hkd:=aTd hz
     generalize(eX s (i+j) c).1=t at hp ha hkd
     have htx:((s++10::r).drop (i+j)).take (t.e-(i+j))=(s.drop (i+j)).take (t.e-(i+j)):=by
      rw[hd',hd,List.take_append_of_le_length (by
       have:(c::u).length=s.length-(i+j):=by rw[←hd,List.length_drop]
       omega)]
     simp only
     rw[htx]
     rcases ih t.e m0 m0' (l++[{t with text:=(s.drop (i+j)).take (t.e-(i+j))}]) (by omega) hp.2.1 (by omega) (by omega)with⟨p,w,T,T',h1,h2⟩|⟨q,m2,h1,h2,h3,h4⟩
     ·exact .inl ⟨p,w,T,T',h1,h2⟩
     ·refine .inr ⟨{t with text:=(s.drop (i+j)).take (t.e-(i+j))}::q,m2,?_,?_,h3,fun y hy=>?_⟩
      ·rw[h1];simp
      ·rw[h2];simp
      ·rcases List.mem_cons.1 hy with rfl|hy
       ·exact hkd
       ·exact h4 y hy
  ·have:=pass i m m' l hi hm hm' hn
   exact .inr ⟨[],m',this.1,this.2,by omega,fun t ht=>by cases ht⟩
end Go.VM
end
section
/- Files: the tokens of a text with a declaration behind. -/
set_option maxRecDepth 100000
namespace Go.VM
open Go.RowKit
theorem aQy{s s2 u:List Nat}{i j c:Nat}(h:s.drop i=c::u)(h2:s2.drop j=c::u):(eX s i c).2=(eX s2 j c).2∧((eX s2 j c).2=0→∃d k,(eX s2 j c).1=⟨k,j,j+d,[]⟩∧(eX s i c).1=⟨k,i,i+d,[]⟩):=by
 have e:s.drop i=s2.drop j:=by rw[h,h2]
 cases hL:fA c with
 |true=>
  rw[fK hL,fK hL,e]
  exact⟨rfl,fun _=>⟨_,_,rfl,rfl⟩⟩
 |false=>
 cases hD:eE c with
 |true=>
  rw[gH hL hD,gH hL hD,e]
  exact⟨rfl,fun _=>⟨_,_,rfl,rfl⟩⟩
 |false=>
 by_cases h34:c=34
 ·subst h34
  rw[iM hL hD rfl,iM hL hD rfl]
  have d0:s.drop (i+1)=u:=by
   have:s.drop (i+1)=(s.drop i).drop 1:=by rw[List.drop_drop]
   rw[this,h];rfl
  have d1:s2.drop (j+1)=u:=by
   have:s2.drop (j+1)=(s2.drop j).drop 1:=by rw[List.drop_drop]
   rw[this,h2];rfl
  have q0:qV s i=i+1+aP dG u:=by unfold qV;rw[d0]
  have q1:qV s2 j=j+1+aP dG u:=by unfold qV;rw[d1]
  have g0:s[i+1+aP dG u]? =u[aP dG u]?:=by rw[←List.getElem?_drop,d0]
  have g1:s2[j+1+aP dG u]? =u[aP dG u]?:=by rw[←List.getElem?_drop,d1]
  have hb:wO s i=wO s2 j:=by
   unfold wO
   rw[q0,q1,d0,d1,g0,g1]
  unfold rC
  rw[hb,q0,q1]
  cases wO s2 j with
  |true=>exact⟨rfl,fun e=>by cases e⟩
  |false=>exact⟨rfl,fun _=>⟨1+aP dG u+1,3,by simp only[Nat.add_assoc],by simp only[Nat.add_assoc]⟩⟩
 cases hp:(eZ (s2.drop j) [61,61]||eZ (s2.drop j) [38,38])with
 |true=>
  rw[jV hL hD h34 hp,jV hL hD h34 (by rw[e];exact hp)]
  exact⟨rfl,fun _=>⟨_,_,rfl,rfl⟩⟩
 |false=>
  rw[jT hL hD h34 hp,jT hL hD h34 (by rw[e];exact hp)]
  exact⟨rfl,fun _=>⟨_,_,rfl,rfl⟩⟩
theorem aPy{S s2:List Nat}{N:Nat}(hd:S.drop N=s2)(hN:S.length=N+s2.length):∀(f j:Nat) (l0 T:List Tk) (f':Nat) (Q:List Tk),j≤s2.length→s2.length+1≤f+j→f≤f'→jI s2 f (dP s2 (s2.length+1) j) l0=(T,0,0)→
  (∃p T',jI S f' (dP S (S.length+1) (N+j)) Q=(T',p,6))∨∃q,T=l0++q∧jI S f' (dP S (S.length+1) (N+j)) Q=(Q++q.map (shK N),0,0):=by
 have dr:∀j,S.drop (N+j)=s2.drop j:=fun j=>by rw[←hd,List.drop_drop]
 intro f
 induction f with
 |zero=>intro j l0 T f' Q hj hf;omega
 |succ f ih=>
  intro j l0 T f' Q hj hf hff h
  obtain⟨f1,rfl⟩:∃f1,f'=f1+1:=⟨f'-1,by omega⟩
  have hs:dP S (S.length+1) (N+j)=N+dP s2 (s2.length+1) j:=by
   rw[oF,oF,dr];omega
  have hge:=oX s2 (s2.length+1) j
  rw[hs]
  generalize dP s2 (s2.length+1) j=i at h hge
  rw[jI]at h⊢
  cases hc:s2[i]? with
  |none=>
   rw[hc]at h
   have h:=h
   simp only[Prod.mk.injEq]at h
   have:s2.length≤i:=List.getElem?_eq_none_iff.1 hc
   rw[show S[N+i]? =none from List.getElem?_eq_none (by omega)]
   refine .inr ⟨[oI s2],h.1.symm,?_⟩
   simp only[List.map_cons,List.map_nil,shK,oI,hN,Nat.add_comm N]
  |some c=>
   rw[hc]at h
   have hc2:S[N+i]? =some c:=by rw[←hc,←hd,List.getElem?_drop]
   have hil:=(List.getElem?_eq_some_iff.1 hc).1
   obtain⟨u,hu⟩:∃u,s2.drop i=c::u:=⟨s2.drop (i+1),by rw[List.drop_eq_getElem_cons hil];congr 1;rw[List.getElem?_eq_getElem hil]at hc;exact Option.some.inj hc⟩
   obtain⟨t1,t2⟩:=aQy (i:=N+i) ((dr i).trans hu) hu
   rw[hc2]
   simp only[aPp]at h⊢
   by_cases h4:l0.length≥4000
   ·rw[if_pos h4]at h;cases h
   ·rw[if_neg h4]at h
    cases hz:(eX s2 i c).2 with
    |succ w=>rw[hz]at h;cases h
    |zero=>
     rw[hz]at h t1
     obtain⟨d,k,e1,e2⟩:=t2 hz
     by_cases h5:Q.length≥4000
     ·rw[if_pos h5]
      exact .inl ⟨_,_,rfl⟩
     ·rw[if_neg h5,t1]
      have hp:=sK hc hz
      rw[e1]at hp h
      rw[e2]
      simp only at hp h⊢
      have hp1:i<i+d:=hp.1
      have hp2:i+d≤s2.length:=hp.2.1
      rw[show N+i+d=N+(i+d) by omega]
      rcases ih (i+d) _ T f1 (Q++[⟨k,N+i,N+(i+d),(S.drop (N+i)).take (N+(i+d)-(N+i))⟩]) hp2 (by omega) (by omega) h with⟨p,T',q⟩|⟨q,q1,q2⟩
      ·exact .inl ⟨p,T',q⟩
      ·refine .inr ⟨⟨k,i,i+d,(s2.drop i).take (i+d-i)⟩::q,by rw[q1];simp,?_⟩
       rw[q2,List.append_assoc,List.map_cons]
       simp only[shK,dr,List.singleton_append]
       rw[show N+(i+d)-(N+i)=i+d-i by omega,Nat.add_comm N i,Nat.add_comm N (i+d)]
theorem aVx{s r:List Nat}{T0:List Tk}(h0:jI (10::r) (10::r).length (dP (10::r) ((10::r).length+1) 1) []=(T0,0,0)):
  (∃c,(bF s).2.2=c+1∧(bF (s++10::r)).2.2=c+1)∨∃q x,bF s=(q++[oI s],x,0)∧(∀t∈q,t.kind≠0)∧((bF (s++10::r)).2.2=6∨∃y,bF (s++10::r)=(q++T0.map (shK s.length),y,0)):=by
 have hlen:(s++10::r).length=s.length+(10::r).length:=List.length_append
 rcases aUn s r s.length 0 (s.length+1) ((s++10::r).length+1) [] (by omega) (Nat.zero_le _) (by omega) (by omega)with⟨p,c,T,T',h1,h2⟩|⟨q,m2,h1,h2,h3,h4⟩
 ·refine .inl ⟨c,?_,?_⟩
  ·unfold bF;rw[h1]
  ·unfold bF;rw[h2]
 ·refine .inr ⟨q,0,?_,h4,?_⟩
  ·unfold bF;rw[h1];rfl
  ·rw[List.nil_append]at h2
   have e:bF (s++10::r)=jI (s++10::r) m2 (dP (s++10::r) ((s++10::r).length+1) (s.length+1)) q:=h2
   rcases aPy (S:=s++10::r) (s2:=10::r) (N:=s.length) List.drop_left hlen (10::r).length 1 [] T0 m2 q (by simp) (by omega) (by omega) h0 with⟨p,T',h5⟩|⟨q2,h5,h6⟩
   ·exact .inl (by rw[e,h5])
   ·rw[List.nil_append]at h5
    subst h5
    exact .inr ⟨0,by rw[e,h6]⟩
theorem bIn(N:Nat)(t:Tk):toZ (shK N t)=shZ N (toZ t):=by simp[toZ,shK,shZ]
structure Behind(r:List Nat)(T0:List Tk)(M0:List Tz)(n0 m0:Nat)(D0:Dx):Prop where
 lex:jI (10::r) (10::r).length (dP (10::r) ((10::r).length+1) 1) []=(T0,0,0)
 toks:T0.map toZ=M0
 len:M0.length=n0+1
 short:M0.length<19999
 hT:∀t∈M0,t.t.length<big
 pos:0<n0
 first:(aB M0 0).k=5∧((aB M0 0).t=sType∨(aB M0 0).t=tV)
 stop:(aB M0 n0).k=0
 decl:fB M0 (ST M0) m0 0=.ok D0 n0
theorem aRm{s r:List Nat}{T0:List Tk}{M0:List Tz}{n0 m0:Nat}{D0:Dx}(hb:Behind r T0 M0 n0 m0 D0)(hs:(s++10::r).length<big){q:List Tk}{x y:Nat}(h1:bF s=(q++[oI s],x,0))(hk:∀t∈q,t.kind≠0)(h2:bF (s++10::r)=(q++T0.map (shK s.length),y,0)):
  MoreT ((bF s).1.map toZ) ((bF (s++10::r)).1.map toZ) M0 q.length n0 m0 s.length D0:=by
 have hlen:(s++10::r).length=s.length+(10::r).length:=List.length_append
 obtain⟨_,f2,f3⟩:=qM (s:=s) (by omega) (by rw[h1])
 obtain⟨_,g2,g3⟩:=qM (s:=s++10::r) hs (by rw[h2])
 rw[h1]at f2 f3⊢
 rw[h2]at g2 g3⊢
 dsimp only at f2 f3 g2 g3⊢
 have hT0:T0.length=n0+1:=by rw[←hb.len,←hb.toks,List.length_map]
 have t0:∀i,i<n0+1→∃t,T0[i]? =some t∧aB M0 i=toZ t:=by
  intro i hi
  refine⟨T0[i],List.getElem?_eq_getElem (by omega),?_⟩
  rw[←hb.toks]
  exact fU (by rw[List.getElem?_map,List.getElem?_eq_getElem (by omega)];rfl)
 have tl:∀i,i<q.length→∃t,q[i]? =some t∧∀w:List Tk,aB ((q++w).map toZ) i=toZ t:=by
  intro i hi
  refine⟨q[i],List.getElem?_eq_getElem hi,fun w=>fU ?_⟩
  rw[List.getElem?_map,List.getElem?_append_left hi,List.getElem?_eq_getElem hi]
  rfl
 have tr:∀i t,T0[i]? =some t→aB ((q++T0.map (shK s.length)).map toZ) (q.length+i)=shZ s.length (toZ t):=by
  intro i t ht
  refine fU ?_
  rw[List.getElem?_map,List.getElem?_append_right (Nat.le_add_right _ _),Nat.add_sub_cancel_left,List.getElem?_map,ht]
  exact congrArg some (bIn _ _)
 refine⟨f2,f3,g2,g3,hb.short,hb.hT,by simp,by simp[hT0];omega,hb.len,fun i hi=>?_,fun i hi=>?_,?_,?_,fun i hi=>?_,?_,hb.decl⟩
 ·obtain⟨t,_,ht⟩:=tl i hi
  rw[ht,ht]
 ·obtain⟨t,e1,e2⟩:=t0 i (by omega)
  rw[Nat.add_comm,tr i t e1,e2]
 ·have:aB ((q++[oI s]).map toZ) q.length=toZ (oI s):=fU (by rw[List.getElem?_map,List.getElem?_append_right (Nat.le_refl _),Nat.sub_self];rfl)
  rw[this];rfl
 ·obtain⟨t,e1,e2⟩:=t0 n0 (by omega)
  rw[tr n0 t e1,←e2]
  exact hb.stop
 ·obtain⟨t,e1,ht⟩:=tl i hi
  rw[ht]
  have:=hk t (List.mem_of_getElem? e1)
  show((t.kind:Nat):Int)≠0
  omega
 ·obtain⟨t,e1,e2⟩:=t0 0 (by omega)
  have:=tr 0 t e1
  rw[Nat.add_zero]at this
  rw[this,←e2]
  exact hb.first
end Go.VM
end
section
/- Files: the declarations that are laid behind. -/
set_option maxRecDepth 100000
namespace Go.VM
open Go.RowKit
def r1:List Nat:=[116,121,112,101,32,90,32,115,116,114,117,99,116,32,123,32,122,32,105,110,116,59,32,125]
def r2:List Nat:=[102,117,110,99,32,90,40,122,32,105,110,116,41,32,123,32,122,59,32,125]
def T1:List Tk:=[⟨5,1,5,[116,121,112,101]⟩,⟨1,6,7,[90]⟩,⟨5,8,14,[115,116,114,117,99,116]⟩,⟨4,15,16,[123]⟩,⟨1,17,18,[122]⟩,⟨5,19,22,[105,110,116]⟩,⟨4,22,23,[59]⟩,⟨4,24,25,[125]⟩,⟨0,25,25,[]⟩]
def T2:List Tk:=[⟨5,1,5,[102,117,110,99]⟩,⟨1,6,7,[90]⟩,⟨4,7,8,[40]⟩,⟨1,8,9,[122]⟩,⟨5,10,13,[105,110,116]⟩,⟨4,13,14,[41]⟩,⟨4,15,16,[123]⟩,⟨1,17,18,[122]⟩,⟨4,18,19,[59]⟩,⟨4,20,21,[125]⟩,⟨0,21,21,[]⟩]
def N1:List Tz:=[⟨5,1,5,[116,121,112,101]⟩,⟨1,6,7,[90]⟩,⟨5,8,14,[115,116,114,117,99,116]⟩,⟨4,15,16,[123]⟩,⟨1,17,18,[122]⟩,⟨5,19,22,[105,110,116]⟩,⟨4,22,23,[59]⟩,⟨4,24,25,[125]⟩,⟨0,25,25,[]⟩]
def N2:List Tz:=[⟨5,1,5,[102,117,110,99]⟩,⟨1,6,7,[90]⟩,⟨4,7,8,[40]⟩,⟨1,8,9,[122]⟩,⟨5,10,13,[105,110,116]⟩,⟨4,13,14,[41]⟩,⟨4,15,16,[123]⟩,⟨1,17,18,[122]⟩,⟨4,18,19,[59]⟩,⟨4,20,21,[125]⟩,⟨0,21,21,[]⟩]
def xz:Ex:=.mk 4 17 18 [122] 0 zT []
def bz:List Sx:=[.mk 6 17 [] false xz [] []]
def Dz1:Dx:=⟨1,6,25,[90],false,zPm,[],[⟨[122],17,.mk 1 19 [] [] []⟩],[],false,zT,[]⟩
def Dz2:Dx:=⟨3,6,21,[90],false,zPm,[],[⟨[122],8,.mk 1 10 [] [] []⟩],[],false,zT,bz⟩
theorem bJi(k:Nat):(fns N2 (k+12)).expr 1 7 0=.ok xz 8:=rfl
theorem bKn:PL N2 7=.ok xz 8:=by
 obtain⟨_,N,h⟩:=jP N2 (a:=7) (by decide)
 rw[←h (N+12) (by omega)]
 exact bJi N
theorem bAw(P:Nat→R Ex)(h:P 7=.ok xz 8)(k:Nat):(cG N2 P (k+4)).block 0 ⟨6,0,0⟩=some (bz,⟨10,0,0⟩):=by
 have e:aV P ⟨7,0,0⟩=(xz,⟨8,0,0⟩):=by
  unfold aV
  rw[show bZ ⟨7,0,0⟩=true from rfl]
  show(match P 7 with|.ok x n=>_|.er _ _ p c=>_|.out=>_)=_
  rw[h]
 have st:(cG N2 P (k+2)).stmt 1 ⟨7,0,0⟩=some (.mk 6 17 [] false xz [] [],⟨9,0,0⟩):=by
  show some (Sx.mk 6 17 [] false (aV P ⟨7,0,0⟩).1 [] [],bX N2 (aV P ⟨7,0,0⟩).2 [59])=_
  rw[e]
  rfl
 show(match(cG N2 P (k+2)).stmt 1 ⟨7,0,0⟩with|some (x,s1)=>(cG N2 P (k+2)).loop 1 ([]++[x]) s1|none=>none)=_
 rw[st]
 rfl
theorem bNd:ST N2 6=.ok bz 10:=by
 have ev:EvR (fun m=>(cG N2 (PL N2) m).block 0 ⟨6,0,0⟩) (bz,⟨10,0,0⟩):=⟨4,fun m hm=>by
  obtain⟨k,rfl⟩:∃k,m=k+4:=⟨m-4,by omega⟩
  exact bAw _ bKn k⟩
 rw[aOp (by decide) ev]
 rfl
theorem bAq(S:Nat→R (List Sx)):fB N1 S 12 0=.ok Dz1 8:=rfl
theorem bAx(S:Nat→R (List Sx))(h:S 6=.ok bz 10):fB N2 S 12 0=.ok Dz2 10:=by
 show(lA N2 S 6 [90] false zPm [] [⟨[122],8,.mk 1 10 [] [] []⟩] false zT 6)=_
 unfold lA
 rw[h]
 rfl
theorem bDi:Behind r1 T1 N1 8 12 Dz1:=⟨by kernel_rfl,rfl,rfl,by decide,by decide,by decide,⟨rfl,.inl rfl⟩,rfl,bAq _⟩
theorem bCz:Behind r2 T2 N2 10 12 Dz2:=⟨by kernel_rfl,rfl,rfl,by decide,by decide,by decide,⟨rfl,.inr rfl⟩,rfl,bAx _ bNd⟩
end Go.VM
end
