/- laid for this seat: VhC VhN -/
import Derived.Test.YtgadhdnnkdcgkaaGreatDoorVh8
import Derived.Test.YtgadhdnnkdcgkaaGreatDoorVh6
set_option linter.unusedVariables false
set_option linter.unusedSimpArgs false
section
/- Files: the tokens of a text, with layout and remarks between. -/
set_option maxRecDepth 100000
namespace Go.VM
open Go.RowKit
def comm:List Nat:=[32,47,47,32,99,10]
def dF:List Tk→List Nat
 |[]=>[]
 |t::r=>comm++(t.text++dF r)
def rA:Nat→List Tk→List Tk
 |_,[]=>[]
 |p,t::r=>⟨t.kind,p+6,p+6+t.text.length,t.text⟩::rA (p+6+t.text.length) r
theorem aEy{p:Nat→Bool}(h:p 32=false)(t t2:List Nat):∀x:List Nat,bE p (x++t)=x.length→bE p (x++32::t2)=x.length
 |[],_=>by show bE p (32::t2)=0;rw[bE,h]
 |c::x,e=>by
  rw[List.cons_append,bE]at e⊢
  cases hc:p c with
  |false=>rw[hc]at e;simp at e
  |true=>
   rw[hc]at e
   simp only[List.length_cons]at e⊢
   rw[aEy h t t2 x (by omega)]
theorem aZl{p:Nat→Bool}(t t2:List Nat):∀x:List Nat,bE p (x++t)<x.length→bE p (x++t2)=bE p (x++t)
 |[],e=>by simp at e
 |c::x,e=>by
  rw[List.cons_append,bE]at e
  rw[List.cons_append,List.cons_append,bE,bE]
  cases hc:p c with
  |false=>rfl
  |true=>
   rw[hc]at e
   simp only[List.length_cons]at e⊢
   rw[aZl t t2 x (by omega)]
theorem aUr{y:Nat}(t t2:List Nat):∀x:List Nat,2≤x.length→dZ (x++t) [y,y]=dZ (x++t2) [y,y]
 |[],h=>by simp at h
 |[_],h=>by simp at h
 |c::d::x,_=>by simp[dZ]
theorem bCx{s W x u tail tail':List Nat}{i p c:Nat}(hx:x=c::u)(h:s.drop i=x++tail)(hW:W.drop p=x++32::tail')(h0:(eN s i c).2=0)(he:(eN s i c).1.e=i+x.length):(eN W p c).2=0∧(eN W p c).1=⟨(eN s i c).1.kind,p,p+x.length,[]⟩:=by
 cases hL:eS c with
 |true=>
  rw[jQ hL]at h0 he⊢
  rw[jQ hL]
  have he:i+bE kX (s.drop i)=i+x.length:=he
  rw[h]at h0 he⊢
  have n:bE kX (x++tail)=x.length:=by omega
  have n2:=aEy (p:=kX) (by decide) tail tail' x n
  rw[hW,n2]
  rw[n]at h0⊢
  rw[List.take_left,List.take_left]
  exact⟨h0,rfl⟩
 |false=>
 cases hD:dL c with
 |true=>
  rw[kR hL hD]at h0 he⊢
  rw[kR hL hD]
  have he:i+bE dL (s.drop i)=i+x.length:=he
  rw[h]at h0 he
  have n:bE dL (x++tail)=x.length:=by omega
  have n2:=aEy (p:=dL) (by decide) tail tail' x n
  rw[hW,n2]
  rw[n]at h0
  exact⟨h0,rfl⟩
 |false=>
 by_cases h34:c=34
 ·subst h34
  subst hx
  rw[nB hL hD rfl]at h0 he⊢
  rw[nB hL hD rfl]
  have d0:s.drop (i+1)=u++tail:=by
   have:s.drop (i+1)=(s.drop i).drop 1:=by rw[List.drop_drop]
   rw[this,h];rfl
  have d1:W.drop (p+1)=u++32::tail':=by
   have:W.drop (p+1)=(W.drop p).drop 1:=by rw[List.drop_drop]
   rw[this,hW];rfl
  unfold wF at h0 he⊢
  cases hq:aJc s i with
  |true=>rw[hq]at h0;cases h0
  |false=>
   rw[hq]at he
   have he:vC s i+1=i+(34::u).length:=he
   have q0:vC s i=i+1+bE gR (u++tail):=by unfold vC;rw[d0]
   rw[q0,List.length_cons]at he
   have n:bE gR (u++tail)<u.length:=by omega
   have n2:=aZl (p:=gR) tail (32::tail') u n
   have q1:vC W p=p+1+bE gR (u++tail):=by unfold vC;rw[d1,n2]
   have g0:s[i+1+bE gR (u++tail)]? =u[bE gR (u++tail)]?:=by rw[←List.getElem?_drop,d0,List.getElem?_append_left n]
   have g1:W[p+1+bE gR (u++tail)]? =u[bE gR (u++tail)]?:=by rw[←List.getElem?_drop,d1,List.getElem?_append_left n]
   have hb:aJc W p=false:=by
    rw[←hq]
    unfold aJc
    rw[q0,q1,d0,d1,g0,g1,n2]
   rw[hb,q1]
   refine⟨rfl,?_⟩
   simp only[List.length_cons]
   congr 1
   omega
 cases hp:(dZ (s.drop i) [61,61]||dZ (s.drop i) [38,38])with
 |true=>
  rw[pT hL hD h34 hp]at h0 he⊢
  have he:i+2=i+x.length:=he
  have hp2:(dZ (W.drop p) [61,61]||dZ (W.drop p) [38,38])=true:=by
   rw[h]at hp
   rw[hW,←aUr (y:=61) tail _ x (by omega),←aUr (y:=38) tail _ x (by omega)]
   exact hp
  rw[pT hL hD h34 hp2]
  have hx2:x.length=2:=by omega
  rw[hx2]
  exact⟨rfl,rfl⟩
 |false=>
  rw[mT hL hD h34 hp]at h0 he⊢
  have he:i+1=i+x.length:=he
  have hu:u=[]:=by subst hx;rw[List.length_cons]at he;exact List.eq_nil_of_length_eq_zero (by omega)
  subst hu
  subst hx
  have hp2:(dZ (W.drop p) [61,61]||dZ (W.drop p) [38,38])=false:=by
   rw[hW]
   simp[dZ]
  rw[mT hL hD h34 hp2]
  exact⟨h0,rfl⟩
theorem bAh{s u:List Nat}{i c:Nat}(hd:s.drop i=c::u)(hc:c<256)(h0:(eN s i c).2=0):bF c=false∧c≠47:=by
 have a1:∀c,c<256→eS c=true→bF c=false∧c≠47:=by decide+kernel
 have a2:∀c,c<256→dL c=true→bF c=false∧c≠47:=by decide+kernel
 have a3:∀c,c<256→decide (ibV c aKp<0)=false→bF c=false∧c≠47:=by decide+kernel
 cases hL:eS c with
 |true=>exact a1 c hc hL
 |false=>
 cases hD:dL c with
 |true=>exact a2 c hc hD
 |false=>
 by_cases h34:c=34
 ·subst h34;decide
 cases hp:(dZ (s.drop i) [61,61]||dZ (s.drop i) [38,38])with
 |true=>
  rw[hd]at hp
  have:c=61∨c=38:=by
   cases u with
   |nil=>simp[dZ]at hp
   |cons d u=>
    simp[dZ]at hp
    rcases hp with hp|hp
    ·exact .inl hp.1
    ·exact .inr hp.1
  rcases this with rfl|rfl<;>decide
 |false=>
  rw[mT hL hD h34 hp]at h0
  refine a3 c hc ?_
  cases hz:decide (ibV c aKp<0)with
  |false=>rfl
  |true=>rw[hz]at h0;cases h0
theorem aOi{rest:List Nat}(h:rest=[]∨∃c u,rest=c::u∧bF c=false∧c≠47):sk (comm++rest)=6:=by
 have h1:bE bF rest=0:=by
  rcases h with rfl|⟨c,u,rfl,h,_⟩
  ·rfl
  ·rw[bE,h]
 have h2:dZ rest [47,47]=false:=by
  rcases h with rfl|⟨c,u,rfl,_,h⟩
  ·rfl
  ·cases hp:dZ (c::u) [47,47]with
   |false=>rfl
   |true=>
    exfalso
    cases u with
    |nil=>simp[dZ]at hp
    |cons d u=>simp[dZ]at hp;exact h hp.1
 have e1:sk (10::rest)=1:=by
  rw[bEe,bE,show bF 10=true from by decide]
  simp only
  rw[h1]
  rw[show(10::rest).drop (0+1)=rest from rfl,h2]
  rfl
 have e2:bE bF (comm++rest)=1:=by
  show bE bF (32::47::_)=1
  rw[bE,show bF 32=true from by decide]
  simp only
  rw[bE,show bF 47=false from by decide]
 have e3:(comm++rest).drop 1=47::47::32::99::10::rest:=rfl
 have e4:bE fN (47::47::32::99::10::rest)=4:=by
  simp only[bE,show fN 47=true from by decide,show fN 32=true from by decide,show fN 99=true from by decide,show fN 10=false from by decide]
 rw[bEe,e2,e3,e4]
 rw[show dZ (47::47::32::99::10::rest) [47,47]=true from by simp[dZ],if_pos rfl]
 rw[show(comm++rest).drop (1+4)=10::rest from rfl,e1]
theorem aTg{r:List Tk}(h:r≠[]):∃t,dF r=32::t:=by
 cases r with
 |nil=>exact absurd rfl h
 |cons t r=>exact⟨_,rfl⟩
theorem aUi(s W:List Nat)(h8:∀c∈s,c<256):∀(m i:Nat) (l T:List Tk) (x:Nat),i≤s.length→s.length+1≤m+i→oU s m (jH s (s.length+1) i) l=(T,x,0)→
  ∃r,r≠[]∧T=l++r∧∀(p m':Nat) (l':List Tk),W.drop p=dF r→p≤W.length→W.length+1≤m'+p→l'.length=l.length→oU W m' (jH W (W.length+1) p) l'=(l'++rA p r,0,0):=by
 intro m
 induction m with
 |zero=>intro i l T x hi hm;omega
 |succ m ih=>
  intro i l T x hi hm h
  have hle:=mQ s (s.length+1) i hi
  have hge:=oY s (s.length+1) i
  generalize jH s (s.length+1) i=j at h hle hge
  simp only[oU]at h
  cases hc:s[j]? with
  |none=>
   rw[hc]at h
   cases h
   refine⟨[aAf s],by simp,rfl,fun p m' l' hW hp hm' _=>?_⟩
   have hW:W.drop p=comm++[]:=hW
   have hl:W.length=p+6:=by
    have:=congrArg List.length hW
    rw[List.length_drop]at this
    have:W.length-p=6:=this
    omega
   rw[aOs,hW,aOi (.inl rfl)]
   obtain⟨m0,rfl⟩:∃m0,m'=m0+1:=⟨m'-1,by omega⟩
   rw[oU,show W[p+6]? =none from List.getElem?_eq_none (by omega)]
   simp only[rA,aAf,hl,List.length_nil,Nat.add_zero]
  |some c=>
   rw[hc]at h
   have hjl:=(List.getElem?_eq_some_iff.1 hc).1
   obtain⟨u0,hd⟩:∃u,s.drop j=c::u:=⟨s.drop (j+1),by rw[List.drop_eq_getElem_cons hjl];congr 1;rw[List.getElem?_eq_getElem hjl]at hc;exact Option.some.inj hc⟩
   simp only[aLh]at h
   by_cases h4:l.length≥4000
   ·rw[if_pos h4]at h;cases h
   rw[if_neg h4]at h
   cases hz:(eN s j c).2 with
   |succ w=>rw[hz]at h;cases h
   |zero=>
    rw[hz]at h
    have hp:=yV hc hz
    have ha:=aJo hz
    obtain⟨b1,b2⟩:=bAh hd (h8 c (List.mem_of_getElem? hc)) hz
    obtain⟨x0,hx0⟩:∃x0,x0=(s.drop j).take ((eN s j c).1.e-j):=⟨_,rfl⟩
    have hxl:x0.length=(eN s j c).1.e-j:=by rw[hx0,List.length_take,List.length_drop];omega
    have hsplit:s.drop j=x0++(s.drop j).drop ((eN s j c).1.e-j):=by rw[hx0,List.take_append_drop]
    obtain⟨u,hu⟩:∃u,x0=c::u:=by
     rw[hd]at hx0
     obtain⟨k,hk⟩:∃k,(eN s j c).1.e-j=k+1:=⟨(eN s j c).1.e-j-1,by omega⟩
     rw[hk]at hx0
     exact⟨u0.take k,hx0⟩
    simp only at h
    rw[←hx0]at h
    obtain⟨r,hr,hT,hr2⟩:=ih (eN s j c).1.e _ T x hp.2.1 (by omega) h
    refine⟨{(eN s j c).1 with text:=x0}::r,by simp,by rw[hT];simp,fun p m' l' hW hpl hm' hll=>?_⟩
    have hW:W.drop p=comm++(x0++dF r):=hW
    obtain⟨w,hw⟩:=aTg hr
    have hW6:W.drop (p+6)=x0++32::w:=by rw[←List.drop_drop,hW,←hw];rfl
    have hWl:W.length=p+6+(x0.length+(dF r).length):=by
     have:=congrArg List.length hW
     rw[List.length_drop,List.length_append,List.length_append]at this
     have:W.length-p=6+(x0.length+(dF r).length):=this
     have hne:x0.length≠0:=by rw[hu];simp
     omega
    obtain⟨t1,t2⟩:=bCx hu hsplit hW6 hz (by omega)
    rw[aOs,hW,aOi (.inr ⟨c,u++dF r,by rw[hu];rfl,b1,b2⟩)]
    obtain⟨m0,rfl⟩:∃m0,m'=m0+1:=⟨m'-1,by omega⟩
    rw[oU,show W[p+6]? =some c from aZa (by rw[hW6,hu];rfl)]
    simp only[aLh]
    rw[if_neg (by omega),t1,t2]
    simp only
    have htx:(W.drop (p+6)).take (p+6+x0.length-(p+6))=x0:=by rw[hW6,Nat.add_sub_cancel_left,List.take_left]
    rw[htx]
    have hW7:W.drop (p+6+x0.length)=dF r:=by rw[←List.drop_drop,hW6,List.drop_left,hw]
    rw[hr2 (p+6+x0.length) m0 _ hW7 (by omega) (by omega) (by simp[hll])]
    simp[rA]
theorem aPz{s:List Nat}(h8:∀c∈s,c<256){T:List Tk}{x:Nat}(h:bK s=(T,x,0)):bK (dF T)=(rA 0 T,0,0):=by
 obtain⟨r,_,hT,hr⟩:=aUi s (dF T) h8 (s.length+1) 0 [] T x (Nat.zero_le _) (by omega) h
 rw[List.nil_append]at hT
 subst hT
 have:=hr 0 ((dF T).length+1) [] (by rfl) (Nat.zero_le _) (by omega) rfl
 rw[List.nil_append]at this
 exact this
end Go.VM
end
section
/- Statements of two blocks in one: the kinds. -/
set_option maxRecDepth 100000
namespace Go.VM
open Go.RowKit
def okN(W:Nat):Sx→Prop
 |.mk k _ nm _ _ _ _=>k≤6∧nm.length≤W
section
variable{W:Nat}{l:List Tz}{P:Nat→R Ex}
theorem aVl(hW:∀i,(aA l i).t.length≤W){f:Sf}{d:Nat}{s:Sr}{v:Sx}{s':Sr}(e:eP l P f d s=some (v,s')):okN W v:=by
 have vo:∀k p nm s2,k≤6→nm.length≤W→okN W (mI l P k p nm s2).1:=fun k p nm s2 h1 h2=>⟨h1,h2⟩
 unfold eP at e
 split at e
 ·split at e
  ·have v0:=vo 1 (aA l s.a).a (aA l (s.a+1)).t (aK (aK s)) (by decide) (hW _)
   rw[Option.some.inj e]at v0;exact v0
  ·have v0:=vo 1 (aA l s.a).a [] (eO l (aK s) 5) (by decide) (Nat.zero_le _)
   rw[Option.some.inj e]at v0;exact v0
 ·split at e
  ·split at e
   ·cases e;exact⟨by decide,Nat.zero_le _⟩
   ·cases e;exact⟨by decide,Nat.zero_le _⟩
  ·split at e
   ·split at e
    ·cases e
    ·split at e
     ·split at e
      ·cases e
      ·cases e;exact⟨by decide,Nat.zero_le _⟩
     ·cases e;exact⟨by decide,Nat.zero_le _⟩
   ·split at e
    ·split at e
     ·cases e
     ·cases e;exact⟨by decide,Nat.zero_le _⟩
    ·split at e
     ·have v0:=vo 2 (aA l s.a).a (aA l s.a).t (aK s) (by decide) (hW _)
      rw[Option.some.inj e]at v0;exact v0
     ·cases e;exact⟨by decide,Nat.zero_le _⟩
theorem bAg(hW:∀i,(aA l i).t.length≤W):∀m d acc s v s',(∀x∈acc,okN W x)→(cF l P m).loop d acc s=some (v,s')→∀x∈v,okN W x:=by
 intro m
 induction m with
 |zero=>intro d acc s v s' _ e;cases e
 |succ m ih=>
  intro d acc s v s' ha e
  have e:dX l (cF l P m) d acc s=some (v,s'):=e
  unfold dX at e
  split at e
  ·cases e;exact ha
  ·split at e
   ·cases e;exact ha
   ·split at e
    ·rename_i x s1 hx
     refine ih d _ s1 v s' (fun y hy=>?_) e
     rcases List.mem_append.1 hy with h|h
     ·exact ha y h
     ·rw[List.mem_singleton]at h
      subst h
      cases m with
      |zero=>cases hx
      |succ m=>exact aVl hW hx
    ·cases e
theorem aTp(hW:∀i,(aA l i).t.length≤W){m d:Nat}{s:Sr}{v:List Sx}{s':Sr}(e:(cF l P m).block d s=some (v,s')):∀x∈v,okN W x:=by
 cases m with
 |zero=>cases e
 |succ m=>
  have e:cA l (cF l P m) d s=some (v,s'):=e
  unfold cA at e
  split at e
  ·cases e;intro x hx;cases hx
  ·exact bAg hW m _ [] _ v s' (fun x hx=>by cases hx) e
theorem aVn{N:Nat}(h:∀t∈l,t.t.length≤N)(i:Nat):(aA l i).t.length≤N:=by
 unfold aA
 split
 ·rename_i t ht;exact h t (List.mem_of_getElem? ht)
 ·exact Nat.zero_le _
end
end Go.VM
end
