/- laid for this seat: VyA VyB VyC VyK VyL VyS -/
import Derived.Test.YtgadhdnnkdcgkaaGreatDoorVg6
import Derived.Test.YtgadhdnnkdcgkaaGreatDoorVg2
set_option linter.unusedVariables false
set_option linter.unusedSimpArgs false
section
/- Expressions of a text: the tokens of a text lie one behind the other. -/
set_option maxRecDepth 100000
namespace Go.VM
open Go.RowKit
def toZ(t:Tk):Tz:=⟨t.kind,t.a,t.e,t.text⟩
theorem aHk(l:List Tk):l.map jG=(l.map toZ).map cD:=by rw[List.map_map];rfl
theorem aJo{s:List Nat}{i c:Nat}(h:(eN s i c).2=0):(eN s i c).1.a=i∧(eN s i c).1.kind≤5:=by
 cases hL:eS c with
 |true=>
  rw[jQ hL]
  refine⟨rfl,?_⟩
  dsimp only
  split<;>decide
 |false=>
 cases hD:dL c with
 |true=>rw[kR hL hD];exact⟨rfl,by show 2≤5;decide⟩
 |false=>
 by_cases h34:c=34
 ·rw[nB hL hD h34]at h⊢
  unfold wF at h⊢
  split at h
  ·cases h
  ·exact⟨rfl,by show 3≤5;decide⟩
 cases hp:(dZ (s.drop i) [61,61]||dZ (s.drop i) [38,38])with
 |true=>rw[pT hL hD h34 hp];exact⟨rfl,by show 4≤5;decide⟩
 |false=>rw[mT hL hD h34 hp];exact⟨rfl,by show 4≤5;decide⟩
def Tl(N:Nat):Nat→List Tk→Prop
 |_,[]=>False
 |i,[t]=>t=⟨0,N,N,[]⟩∧i≤N
 |i,t::u::r=>i≤t.a∧t.a<t.e∧t.e≤N∧t.text.length≤N∧Tl N t.e (u::r)
theorem Tl.cons{N i:Nat}{t:Tk}{r:List Tk}(h1:i≤t.a)(h2:t.a<t.e)(h3:t.e≤N)(h4:t.text.length≤N)(h:Tl N t.e r):Tl N i (t::r):=by
 cases r with
 |nil=>exact h.elim
 |cons u r=>exact⟨h1,h2,h3,h4,h⟩
theorem Tl.le{N i j:Nat}{r:List Tk}(h:Tl N i r)(hj:j≤i):Tl N j r:=by
 match r,h with
 |[t],h=>exact⟨h.1,Nat.le_trans hj h.2⟩
 |t::u::r,h=>exact⟨Nat.le_trans hj h.1,h.2⟩
theorem bBp(s:List Nat):∀(m i:Nat) (l T:List Tk) (x:Nat),i≤s.length→s.length+1≤m+i→oU s m i l=(T,x,0)→∃r,T=l++r∧Tl s.length i r:=by
 intro m
 induction m with
 |zero=>intro i l T x h1 h2;omega
 |succ m ih=>
  intro i l T x h1 h2 h
  simp only[oU]at h
  cases hc:s[i]? with
  |none=>
   rw[hc]at h
   cases h
   have:s.length≤i:=List.getElem?_eq_none_iff.1 hc
   exact⟨[aAf s],rfl,rfl,h1⟩
  |some c=>
   rw[hc]at h
   simp only[aLh]at h
   split at h
   ·rename_i t ht
    have h0:(eN s i c).1=t:=by rw[Prod.mk.injEq]at ht;exact ht.1
    have hz:(eN s i c).2=0:=by
     rw[Prod.mk.injEq]at ht
     have h2:=ht.2
     split at h2
     ·cases h2
     ·exact h2
    have hp:=yV hc hz
    have ha:=aJo hz
    rw[h0]at hp ha
    obtain⟨r,hr,htl⟩:=ih _ _ _ _ (mQ s _ _ hp.2.1) (by have:=oY s (s.length+1) t.e;omega) h
    refine⟨{t with text:=(s.drop i).take (t.e-i)}::r,by rw[hr];simp,?_⟩
    refine Tl.cons (by show i≤t.a;omega) (by show t.a<t.e;omega) hp.2.1 ?_ (htl.le (oY s _ _))
    show((s.drop i).take (t.e-i)).length≤_
    rw[List.length_take,List.length_drop]
    omega
   ·rename_i h3;cases h
theorem bBy{s:List Nat}{T:List Tk}{x:Nat}(h:bK s=(T,x,0)):Tl s.length 0 T:=by
 obtain⟨r,hr,ht⟩:=bBp s _ _ _ _ _ (mQ s _ _ (Nat.zero_le _)) (by omega) h
 rw[hr]
 exact ht.le (Nat.zero_le _)
structure GoodT(N:Nat)(l:List Tz):Prop where
 pos:1≤l.length
 last:∀t,l[l.length-1]? =some t→t=⟨0,N,N,[]⟩
 tok:∀i t,l[i]? =some t→i+1<l.length→0≤t.a∧t.a<t.e∧t.e≤(N:Int)∧t.t.length≤N
 next:∀i t u,l[i]? =some t→l[i+1]? =some u→t.e≤u.a
theorem Tl.dW{N:Nat}:∀{i:Nat} {r:List Tk},Tl N i r→GoodT N (r.map toZ)∧∀t,(r.map toZ)[0]? =some t→(i:Int)≤t.a
 |i,[t],h=>by
  obtain⟨rfl,h2⟩:=h
  refine⟨⟨Nat.le_refl _,fun t ht=>by simpa [toZ] using ht.symm,fun j t ht hj=>?_,fun j t u ht hu=>?_⟩,fun t ht=>?_⟩
  ·simp at hj
  ·simp at hu
  ·simp[toZ]at ht
   subst ht
   show(i:Int)≤(N:Int)
   omega
 |i,t::u::r,h=>by
  obtain⟨h1,h2,h3,h4,h5⟩:=h
  obtain⟨g,g0⟩:=Tl.dW h5
  refine⟨⟨by simp,fun x hx=>?_,fun j x hx hj=>?_,fun j x y hx hy=>?_⟩,fun x hx=>?_⟩
  ·refine g.last x ?_
   have e:((t::u::r).map toZ).length-1=(((u::r).map toZ).length-1)+1:=by simp
   rw[e,List.map_cons,List.getElem?_cons_succ]at hx
   exact hx
  ·cases j with
   |zero=>
    simp only[List.map_cons,List.getElem?_cons_zero,Option.some.injEq]at hx
    subst hx
    simp only[toZ]
    omega
   |succ j=>
    rw[List.map_cons,List.getElem?_cons_succ]at hx
    exact g.tok j x hx (by simp at hj⊢;omega)
  ·cases j with
   |zero=>
    simp only[List.map_cons,List.getElem?_cons_zero,Option.some.injEq]at hx
    subst hx
    rw[List.map_cons,List.getElem?_cons_succ]at hy
    exact g0 y hy
   |succ j=>
    rw[List.map_cons,List.getElem?_cons_succ]at hx hy
    exact g.next j x y hx hy
  ·simp only[List.map_cons,List.getElem?_cons_zero,Option.some.injEq]at hx
   subst hx
   simp only[toZ]
   omega
theorem aSb{s:List Nat}{T:List Tk}{x:Nat}(h:bK s=(T,x,0)):GoodT s.length (T.map toZ):=(bBy h).dW.1
end Go.VM
end
section
/- Expressions of a text: parts lie within, one behind the other. -/
set_option maxRecDepth 100000
namespace Go.VM
open Go.RowKit
theorem kK{l:List Tz}{i:Nat}(h:i<l.length):l[i]? =some (aA l i):=by
 rw[aA,List.getElem?_eq_getElem h]
section
variable{N:Nat}{l:List Tz}
theorem GoodT.kind(g:GoodT N l){i:Nat}(h:(aA l i).k≠0):i+1<l.length:=by
 have h1:=cP h
 rcases Nat.lt_or_ge (i+1) l.length with q|q
 ·exact q
 ·have:=g.last (aA l i) (by rw[show l.length-1=i by omega];exact kK h1)
  rw[this]at h;exact absurd rfl h
theorem GoodT.lt(g:GoodT N l){i:Nat}(h:i+1<l.length):(aA l i).a<(aA l i).e:=(g.tok i _ (kK (by omega)) h).2.1
theorem GoodT.step(g:GoodT N l){i:Nat}(h:i+1<l.length):(aA l i).e≤(aA l (i+1)).a:=g.next i _ _ (kK (by omega)) (kK h)
theorem GoodT.sorted(g:GoodT N l):∀{i j:Nat},i<j→j<l.length→(aA l i).e≤(aA l j).a:=by
 intro i j
 induction j with
 |zero=>intro h;omega
 |succ j ih=>
  intro h1 h2
  have h3:=g.step (i:=j) h2
  rcases Nat.lt_or_ge i j with q|q
  ·have:=ih q (by omega)
   have:=g.lt (i:=j) h2
   omega
  ·have:i=j:=by omega
   subst this;exact h3
theorem GoodT.mono(g:GoodT N l){i j:Nat}(h:i≤j)(hj:j<l.length):(aA l i).a≤(aA l j).a:=by
 rcases Nat.eq_or_lt_of_le h with e|e
 ·rw[e];omega
 ·have:=g.sorted e hj
  have:=g.lt (i:=i) (by omega)
  omega
theorem GoodT.range(g:GoodT N l)(i:Nat):0≤(aA l i).a∧(aA l i).a≤(N:Int):=by
 have hp:=g.pos
 have hl:=g.last _ (kK (i:=l.length-1) (by omega))
 rcases Nat.lt_or_ge i l.length with h|h
 ·rcases Nat.lt_or_ge (i+1) l.length with q|q
  ·have:=g.tok i _ (kK h) q;omega
  ·rw[show i=l.length-1 by omega,hl];simp
 ·rw[gJ h]
  have:wG l=(N:Int):=by rw[nK (kK (i:=l.length-1) (by omega)),hl]
  rw[this];simp
end
mutual
def bIf:Ex→Prop
 |.mk _ a e _ _ _ args=>chain a args e
def chain:Int→List Ex→Int→Prop
 |lo,[],hi=>lo≤hi
 |lo,x::r,hi=>lo≤x.at'∧x.at'<x.en∧bIf x∧chain x.en r hi
end
theorem chain.up:∀{r:List Ex} {lo hi hi':Int},chain lo r hi→hi≤hi'→chain lo r hi'
 |[],lo,hi,hi',h,k=>by
  have h:lo≤hi:=h
  show lo≤hi';omega
 |x::r,lo,hi,hi',h,k=>⟨h.1,h.2.1,h.2.2.1,chain.up h.2.2.2 k⟩
structure Span(l:List Tz)(a a':Nat)(x:Ex):Prop where
 lt:a<a'
 len:a'<l.length
 lo:(aA l a).a≤x.at'
 mid:x.at'<x.en
 hi:x.en≤(aA l (a'-1)).e
 bIf:bIf x
theorem aS{α β:Type}{r:R α}{f:α→Nat→R β}{v:β}{a:Nat}(h:r.bind f=.ok v a):∃x a1,r=.ok x a1∧f x a1=.ok v a:=by
 cases r with
 |ok x a1=>exact⟨x,a1,rfl,h⟩
 |er _ _ _ _=>cases h
 |out=>cases h
theorem bP{α:Type}{l:List Tz}{a d:Nat}{f:Nat→Nat→R α}{v:α}{a':Nat}(h:aX l a d f=.ok v a'):f (a+1) (d+1)=.ok v a':=by
 unfold aX at h
 split at h
 ·cases h
 ·exact h
theorem gX{l:List Tz}{a d:Nat}{s:List Nat}{e:Int}{a1:Nat}(h:cH l a d s=.ok e a1):e=(aA l a).e∧a1=a+1∧(aA l a).k=4:=by
 unfold cH at h
 split at h
 ·rename_i hi
  cases h
  unfold isF at hi
  simp only[Bool.and_eq_true,decide_eq_true_eq]at hi
  exact⟨rfl,rfl,hi.1⟩
 ·cases h
theorem aNk{l:List Tz}{a:Nat}{k:Int}{s:List Nat}(h:isF l a k s=true):(aA l a).k=k:=by
 unfold isF at h
 simp only[Bool.and_eq_true,decide_eq_true_eq]at h
 exact h.1
section
variable{N:Nat}{l:List Tz}
theorem Span.end'(g:GoodT N l){a a':Nat}{x:Ex}(s:Span l a a' x):x.en≤(aA l a').a:=by
 have:=g.sorted (i:=a'-1) (j:=a') (by have:=s.lt;omega) s.len
 have:=s.hi
 omega
end
end Go.VM
end
section
/- Expressions of a text: where it is wrong. -/
set_option maxRecDepth 100000
namespace Go.VM
open Go.RowKit
def ErrP{α:Type}(N:Nat)(r:R α):Prop:=∀a d p c,r=.er a d p c→0≤p∧p≤(N:Int)∧c≠0
theorem ErrP.ok{α:Type}{N:Nat}{v:α}{a:Nat}:ErrP N (R.ok v a):=fun _ _ _ _ e=>by cases e
theorem ErrP.out{α:Type}{N:Nat}:ErrP N (R.out (α:=α)):=fun _ _ _ _ e=>by cases e
theorem ErrP.bind{α β:Type}{N:Nat}{r:R α}{f:α→Nat→R β}(h:ErrP N r)(k:∀v a1,ErrP N (f v a1)):ErrP N (r.bind f):=by
 intro a d p c e
 cases r with
 |ok v a1=>exact k v a1 a d p c e
 |er a1 d1 p1 c1=>cases e;exact h _ _ _ _ rfl
 |out=>cases e
section
variable{N:Nat}{l:List Tz}
theorem ErrP.fail{α:Type}(g:GoodT N l){a d:Nat}{c:Int}(hc:c≠0):ErrP N (fD (α:=α) l a d c):=by
 intro a' d' p c' e
 cases e
 exact⟨(g.range a).1,(g.range a).2,hc⟩
theorem ErrP.within{α:Type}(g:GoodT N l){a d:Nat}{f:Nat→Nat→R α}(h:ErrP N (f (a+1) (d+1))):ErrP N (aX l a d f):=by
 unfold aX
 split
 ·exact .fail g (by decide)
 ·exact h
theorem ErrP.dK(g:GoodT N l){a d:Nat}{s:List Nat}:ErrP N (cH l a d s):=by
 unfold cH
 split
 ·exact .ok
 ·exact .fail g (by decide)
theorem aBn:∀(m a:Nat) (ls:List Int) (p c:Int),bT l m a ls=.er p c→∃i,p=(aA l i).a
 |0,a,ls,p,c,h=>by
  simp only[bT]at h
  split at h
  ·cases h
  ·cases h;exact⟨_,rfl⟩
 |m+1,a,ls,p,c,h=>by
  simp only[bT]at h
  split at h
  ·cases h
  ·split at h
   ·cases h;exact⟨_,rfl⟩
   ·exact aBn m (a+2) _ p c h
theorem aTl{a a' d':Nat}{p c:Int}(h:cY l a=.er a' d' p c):∃i,p=(aA l i).a:=by
 unfold cY at h
 split at h
 ·cases h
 ·split at h
  ·split at h
   ·split at h
    ·cases h
    ·cases h;exact⟨_,rfl⟩
   ·cases h
  ·cases h;exact⟨_,rfl⟩
theorem aUq{a a' d':Nat}{p c:Int}(h:tyF l a=.er a' d' p c):∃i,p=(aA l i).a:=by
 unfold tyF at h
 split at h
 ·rename_i p' c' ho;cases h;exact aBn 30 a [] p c ho
 ·split at h
  ·cases h
  ·rename_i hb;cases h;exact aTl hb
  ·cases h
structure ErrF(N:Nat)(f:Fns):Prop where
 expr:∀lv a d,ErrP N (f.expr lv a d)
 oper:∀a d,ErrP N (f.oper a d)
 prim:∀a d,ErrP N (f.prim a d)
 list:∀to a d,ErrP N (f.list to a d)
 bin:∀lv x a d,ErrP N (f.bin lv x a d)
 post:∀x a d,ErrP N (f.post x a d)
 elts:∀acc a d,ErrP N (f.elts acc a d)
theorem aWv(g:GoodT N l){f:Fns}(h:ErrF N f):ErrF N ⟨cX f,dH l f,dG l f,cR l f,gG l f,dI l f,cZ l f⟩:=by
 refine⟨fun lv a d=>?_,fun a d=>?_,fun a d=>?_,fun to a d=>?_,fun lv x a d=>?_,fun x a d=>?_,fun acc a d=>?_⟩
 ·show ErrP N (cX f lv a d)
  unfold cX
  split
  ·exact h.oper _ _
  ·exact(h.expr _ _ _).bind fun _ _=>h.bin _ _ _ _
 ·show ErrP N (dH l f a d)
  unfold dH
  split
  ·exact(ErrP.within g (h.oper _ _)).bind fun _ _=>.ok
  ·exact(h.prim _ _).bind fun _ _=>h.post _ _ _
 ·show ErrP N (dG l f a d)
  unfold dG
  split
  ·refine ErrP.bind ?_ fun _ _=>.ok
   unfold fV
   split
   ·exact .ok
   ·exact .fail g (by decide)
  ·split
   ·split
    ·exact .ok
    ·exact .fail g (by decide)
   ·split
    ·exact .ok
    ·split
     ·exact .ok
     ·split
      ·exact .ok
      ·split
       ·exact(ErrP.within g (h.expr _ _ _)).bind fun _ _=>(ErrP.dK g).bind fun _ _=>.ok
       ·split
        ·unfold oL
         split
         ·split
          ·exact(h.list _ _ _).bind fun _ _=>.ok
          ·exact .fail g (by decide)
         ·rename_i ht
          intro a' d' p c e
          cases e
          obtain⟨i,hi⟩:=aUq ht
          subst hi
          exact⟨(g.range i).1,(g.range i).2,(xP ht).1⟩
         ·exact .out
        ·exact .fail g (by decide)
 ·show ErrP N (cR l f to a d)
  unfold cR
  refine(ErrP.within g ?_).bind fun _ _=>(ErrP.dK g).bind fun _ _=>.ok
  unfold eR
  split
  ·exact .ok
  ·exact h.elts _ _ _
 ·show ErrP N (gG l f lv x a d)
  unfold gG
  split
  ·exact(h.expr _ _ _).bind fun _ _=>h.bin _ _ _ _
  ·exact .ok
 ·show ErrP N (dI l f x a d)
  unfold dI
  split
  ·split
   ·exact h.post _ _ _
   ·exact .fail g (by decide)
  ·split
   ·exact(h.list _ _ _).bind fun _ _=>h.post _ _ _
   ·split
    ·exact(ErrP.within g (h.expr _ _ _)).bind fun _ _=>(ErrP.dK g).bind fun _ _=>h.post _ _ _
    ·exact .ok
 ·show ErrP N (cZ l f acc a d)
  unfold cZ
  refine(h.expr _ _ _).bind fun _ _=>?_
  split
  ·exact h.elts _ _ _
  ·exact .ok
theorem aOv(g:GoodT N l):∀n,ErrF N (fns l n)
 |0=>⟨fun _ _ _=>.out,fun _ _=>.out,fun _ _=>.out,fun _ _ _=>.out,fun _ _ _ _=>.out,fun _ _ _=>.out,fun _ _ _=>.out⟩
 |n+1=>aWv g (aOv g n)
end
end Go.VM
end
section
/- Expressions: the same tokens elsewhere, or one bracket deeper, give the same expression, moved. -/
set_option maxRecDepth 100000
namespace Go.VM
open Go.RowKit
structure ProgF(f:Fns):Prop where
 expr:∀lv a d x a',f.expr lv a d=.ok x a'→a<a'
 oper:∀a d x a',f.oper a d=.ok x a'→a<a'
 prim:∀a d x a',f.prim a d=.ok x a'→a<a'
 list:∀to a d r a',f.list to a d=.ok r a'→a<a'
 bin:∀lv x a d y a',f.bin lv x a d=.ok y a'→a≤a'
 post:∀x a d y a',f.post x a d=.ok y a'→a≤a'
 elts:∀acc a d es a',f.elts acc a d=.ok es a'→a<a'
theorem uC{l:List Tz}{f:Fns}{p:Int}{a d:Nat}{x:Ex}{a':Nat}(e:oL l f p a d=.ok x a'):
  ∃ty a1 r,tyF l (a+1)=.ok ty a1∧isF l a1 4 [123]=true∧f.list [125] a1 d=.ok r a'∧x=.mk 8 p r.2 [] 0 ty r.1:=by
 unfold oL at e
 split at e
 ·rename_i ty a1 ht
  split at e
  ·rename_i hi
   obtain⟨r,a2,e1,e2⟩:=aS e
   cases e2
   exact⟨ty,a1,r,ht,hi,e1,rfl⟩
  ·cases e
 ·cases e
 ·cases e
theorem rP{l:List Tz}{f:Fns}(h:ProgF f){to:List Nat}{a d:Nat}{es:List Ex}{a':Nat}(e:eR l f to a d=.ok es a'):a≤a':=by
 unfold eR at e
 split at e
 ·cases e;exact Nat.le_refl _
 ·exact Nat.le_of_lt (h.elts _ _ _ _ _ e)
theorem aAt{l:List Tz}{f:Fns}(h:ProgF f):ProgF ⟨cX f,dH l f,dG l f,cR l f,gG l f,dI l f,cZ l f⟩:=by
 refine⟨fun lv a d x a' e=>?_,fun a d x a' e=>?_,fun a d x a' e=>?_,fun to a d r a' e=>?_,fun lv x a d y a' e=>?_,fun x a d y a' e=>?_,fun acc a d es a' e=>?_⟩
 ·have e:cX f lv a d=.ok x a':=e
  unfold cX at e
  split at e
  ·exact h.oper _ _ _ _ e
  ·obtain⟨y,a1,e1,e2⟩:=aS e
   have:=h.expr _ _ _ _ _ e1
   have:=h.bin _ _ _ _ _ _ e2
   omega
 ·have e:dH l f a d=.ok x a':=e
  unfold dH at e
  split at e
  ·obtain⟨y,a1,e1,e2⟩:=aS e
   cases e2
   have:=h.oper _ _ _ _ (bP e1)
   omega
  ·obtain⟨y,a1,e1,e2⟩:=aS e
   have:=h.prim _ _ _ _ e1
   have:=h.post _ _ _ _ _ e2
   omega
 ·have e:dG l f a d=.ok x a':=e
  unfold dG at e
  split at e
  ·obtain⟨n,a1,e1,e2⟩:=aS e
   cases e2
   exact Nat.lt_succ_self _
  ·split at e
   ·split at e
    ·cases e;exact Nat.lt_succ_self _
    ·cases e
   ·split at e
    ·cases e;exact Nat.lt_succ_self _
    ·split at e
     ·cases e;exact Nat.lt_succ_self _
     ·split at e
      ·cases e;exact Nat.lt_succ_self _
      ·split at e
       ·obtain⟨y,a1,e1,e2⟩:=aS e
        obtain⟨z,a2,e3,e4⟩:=aS e2
        cases e4
        have:=h.expr _ _ _ _ _ (bP e1)
        have:=(gX e3).2.1
        omega
       ·split at e
        ·obtain⟨ty,a1,r,ht,hi,e1,_⟩:=uC e
         have:=nO ht
         have:=h.list _ _ _ _ _ e1
         omega
        ·cases e
 ·have e:cR l f to a d=.ok r a':=e
  unfold cR at e
  obtain⟨es,a1,e1,e2⟩:=aS e
  obtain⟨z,a3,e3,e4⟩:=aS e2
  cases e4
  have:=rP h (bP e1)
  have:=(gX e3).2.1
  omega
 ·have e:gG l f lv x a d=.ok y a':=e
  unfold gG at e
  split at e
  ·obtain⟨z,a2,e1,e2⟩:=aS e
   have:=h.expr _ _ _ _ _ e1
   have:=h.bin _ _ _ _ _ _ e2
   omega
  ·cases e;exact Nat.le_refl _
 ·have e:dI l f x a d=.ok y a':=e
  unfold dI at e
  split at e
  ·split at e
   ·have:=h.post _ _ _ _ _ e;omega
   ·cases e
  ·split at e
   ·obtain⟨r,a1,e1,e2⟩:=aS e
    have:=h.list _ _ _ _ _ e1
    have:=h.post _ _ _ _ _ e2
    omega
   ·split at e
    ·obtain⟨z,a1,e1,e2⟩:=aS e
     obtain⟨w,a2,e3,e4⟩:=aS e2
     have:=h.expr _ _ _ _ _ (bP e1)
     have:=(gX e3).2.1
     have:=h.post _ _ _ _ _ e4
     omega
    ·cases e;exact Nat.le_refl _
 ·have e:cZ l f acc a d=.ok es a':=e
  unfold cZ at e
  obtain⟨x,a1,e1,e2⟩:=aS e
  have:=h.expr _ _ _ _ _ e1
  split at e2
  ·have:=h.elts _ _ _ _ _ e2;omega
  ·cases e2;omega
theorem pS(l:List Tz):∀n,ProgF (fns l n)
 |0=>⟨fun _ _ _ _ _ e=>(by cases e),fun _ _ _ _ e=>(by cases e),fun _ _ _ _ e=>(by cases e),fun _ _ _ _ _ e=>(by cases e),fun _ _ _ _ _ _ e=>(by cases e),fun _ _ _ _ _ e=>(by cases e),fun _ _ _ _ _ e=>(by cases e)⟩
 |n+1=>aAt (pS l n)
def shZ(by':Int)(t:Tz):Tz:=⟨t.k,t.a+by',t.e+by',t.t⟩
mutual
def shT(by':Int):Tx→Tx
 |.mk k a p n l=>.mk k (a+by') p n (aQb by' l)
def aQb(by':Int):List Tx→List Tx
 |[]=>[]
 |x::l=>shT by' x::aQb by' l
end
mutual
def shX(by':Int):Ex→Ex
 |.mk k a e nm n t args=>.mk k (a+by') (e+by') nm n (match Nat.beq k 8 with|true=>shT by' t|false=>t) (oO by' args)
def oO(by':Int):List Ex→List Ex
 |[]=>[]
 |x::l=>shX by' x::oO by' l
end
theorem aIt(b:Int):∀l m:List Ex,oO b (l++m)=oO b l++oO b m
 |[],m=>rfl
 |x::l,m=>by simp only[oO,List.cons_append,aIt b l m]
theorem aWi(b:Int):∀x:Ex,(shX b x).at'=x.at'+b
 |.mk .. =>rfl
theorem aXt(b:Int):∀x:Ex,(shX b x).en=x.en+b
 |.mk .. =>rfl
def Rl{α:Type}(n k dd:Nat)(sh:α→α)(r r':R α):Prop:=∀v a',r=.ok v a'→a'≤n→r'=.ok (sh v) (a'+k)∨(0<dd∧∃a1 d1 p,r'=.er a1 d1 p 6)
section
variable{n k dd:Nat}
theorem Rl.ok{α:Type}{sh:α→α}{v:α}{a:Nat}{r':R α}(h:a≤n→r'=.ok (sh v) (a+k)):Rl n k dd sh (.ok v a) r':=by
 intro w a' e ha
 cases e
 exact .inl (h ha)
theorem Rl.er{α:Type}{sh:α→α}{a d:Nat}{p c:Int}{r':R α}:Rl n k dd sh (.er a d p c) r':=fun _ _ e=>by cases e
theorem Rl.out{α:Type}{sh:α→α}{r':R α}:Rl n k dd sh .out r':=fun _ _ e=>by cases e
theorem Rl.bind{α β:Type}{s1:α→α}{s2:β→β}{r r':R α}{f f':α→Nat→R β}(h:Rl n k dd s1 r r')(p:∀v a1 w a',r=.ok v a1→f v a1=.ok w a'→a1≤a')
  (q:∀v a1,r=.ok v a1→a1≤n→Rl n k dd s2 (f v a1) (f' (s1 v) (a1+k))):Rl n k dd s2 (r.bind f) (r'.bind f'):=by
 intro w a' e ha
 obtain⟨v,a1,e1,e2⟩:=aS e
 have hp:=p v a1 w a' e1 e2
 rcases h v a1 e1 (by omega)with h1|⟨h0,x,y,z,h1⟩
 ·rw[h1]
  exact q v a1 e1 (by omega) w a' e2 ha
 ·rw[h1]
  exact .inr ⟨h0,x,y,z,rfl⟩
theorem Rl.within{α:Type}{sh:α→α}{l l':List Tz}{a d:Nat}{f f':Nat→Nat→R α}(h:Rl n k dd sh (f (a+1) (d+1)) (f' (a+1+k) (d+1+dd))):Rl n k dd sh (aX l a d f) (aX l' (a+k) (d+dd) f'):=by
 intro v a' e ha
 have e1:=bP e
 by_cases h30:d+dd=30
 ·refine .inr ⟨?_,a+k,d+dd,(aA l' (a+k)).a,?_⟩
  ·rcases Nat.eq_zero_or_pos dd with h0|h0
   ·subst h0
    unfold aX at e
    rw[if_pos (by omega)]at e
    cases e
   ·exact h0
  ·unfold aX
   rw[if_pos h30]
   rfl
 ·unfold aX
  rw[if_neg h30,show a+k+1=a+1+k by omega,show d+dd+1=d+1+dd by omega]
  exact h v a' e1 ha
def mD(t:Tz):Bool:=!decide (t.k=4)||(Nat.beq (lev t.t) 0&&!decide (t.t=[46])&&!decide (t.t=[40])&&!decide (t.t=[91])&&!decide (t.t=[44]))
structure Same(lo n k:Nat)(b:Int)(l l':List Tz):Prop where
 tok:∀i,lo≤i→i<n→aA l' (i+k)=shZ b (aA l i)
 stop:mD (aA l' (n+k))=true
variable{lo:Nat}{b:Int}{l l':List Tz}
theorem Same.is(s:Same lo n k b l l'){i:Nat}(h0:lo≤i)(h:i<n)(kk:Int)(x:List Nat):isF l' (i+k) kk x=isF l i kk x:=by
 unfold isF
 rw[s.tok i h0 h]
 rfl
theorem aXa{t:Tz}(h:mD t=true){x:List Nat}(hx:x=[46]∨x=[40]∨x=[91]∨x=[44]):iS t x=false:=by
 cases hs:iS t x with
 |false=>rfl
 |true=>
  unfold iS at hs
  simp only[Bool.and_eq_true,decide_eq_true_eq]at hs
  unfold mD at h
  rw[hs.1,hs.2]at h
  rcases hx with rfl|rfl|rfl|rfl<;>cases h
theorem Same.isS(s:Same lo n k b l l'){x:List Nat}(hx:x=[46]∨x=[40]∨x=[91]∨x=[44]):isF l' (n+k) 4 x=false:=aXa s.stop hx
theorem Same.bin(s:Same lo n k b l l'){i lv:Nat}(h0:lo≤i)(h:i<n):oM lv (aA l' (i+k))=oM lv (aA l i):=by
 rw[s.tok i h0 h];rfl
theorem Same.bMv(s:Same lo n k b l l'){lv:Nat}(h:1≤lv):oM lv (aA l' (n+k))=false:=by
 cases hb:oM lv (aA l' (n+k))with
 |false=>rfl
 |true=>
  unfold oM at hb
  simp only[Bool.and_eq_true,decide_eq_true_eq]at hb
  have:=s.stop
  unfold mD at this
  rw[hb.1]at this
  simp only[decide_true,Bool.not_true,Bool.false_or,Bool.and_eq_true]at this
  have:=Nat.eq_of_beq_eq_true this.1.1.1.1
  have:=hb.2
  omega
theorem Same.dK(s:Same lo n k b l l'){a d:Nat}{x:List Nat}(h0:lo≤a):Rl n k dd (· +b) (cH l a d x) (cH l' (a+k) (d+dd) x):=by
 intro v a' e ha
 obtain⟨h1,h2,h3⟩:=gX e
 have hlt:a<n:=by omega
 unfold cH at e⊢
 rw[s.is h0 hlt]
 split at e
 ·cases e
  refine .inl ?_
  rw[s.tok a h0 hlt]
  show R.ok ((aA l a).e+b) (a+k+1)=_
  rw[show a+k+1=a+1+k by omega]
 ·cases e
theorem Same.bEl(s:Same lo n k b l l'):∀(m a:Nat) (ls:List Int) (a':Nat) (ls':List Int),lo≤a→bT l m a ls=.brk a' ls'→a'<n→bT l' m (a+k) (ls.map (· +b))=.brk (a'+k) (ls'.map (· +b))
 |0,a,ls,a',ls',h0,h,ha=>by
  simp only[bT]at h⊢
  split at h
  ·rename_i hs
   cases h
   have:=s.is h0 ha 4 [91]
   rw[qK,qK]at this
   rw[this,hs]
  ·cases h
 |m+1,a,ls,a',ls',h0,h,ha=>by
  have hf:=(kO l (m+1) a ls a' ls' h).1
  simp only[bT]at h⊢
  have h1:=s.is (i:=a) h0 (by omega) 4 [91]
  rw[qK,qK]at h1
  split at h
  ·rename_i hs
   cases h
   rw[h1,hs]
  ·rename_i hs
   rw[h1,hs]
   simp only
   split at h
   ·cases h
   ·rename_i hs2
    have hf2:=(kO l m _ _ _ _ h).1
    have h2:=s.is (i:=a+1) (by omega) (by omega) 4 [93]
    rw[qK,qK]at h2
    rw[show a+k+1=a+1+k by omega,h2,hs2]
    simp only
    have:=Same.bEl s m (a+2) (ls++[(aA l a).a]) a' ls' (by omega) h ha
    rw[show a+k+2=a+2+k by omega,←this,s.tok a h0 (by omega)]
    simp[shZ]
theorem Same.base(s:Same lo n k b l l'){a:Nat}{x:Tx}{a2:Nat}(h0:lo≤a)(h:cY l a=.ok x a2)(ha:a2+1<n):cY l' (a+k)=.ok (shT b x) (a2+k):=by
 have hf:=(rO h).1
 unfold cY at h⊢
 have e0:=s.tok a h0 (by omega)
 have e1:=s.tok (a+1) (by omega) (by omega)
 rw[e0,show a+k+1=a+1+k by omega,e1,show a+k+2=a+2+k by omega]
 simp only[show ∀t:Tz,(shZ b t).k=t.k from fun _=>rfl,show ∀t:Tz,(shZ b t).t=t.t from fun _=>rfl,show ∀t:Tz,(shZ b t).a=t.a+b from fun _=>rfl,show ∀(t:Tz) x,iS (shZ b t) x=iS t x from fun _ _=>rfl]
 split at h
 ·rename_i hc
  cases h
  try rw[hc]
  rfl
 ·rename_i hc
  try rw[hc]
  try simp only
  split at h
  ·rename_i hc
   try rw[hc]
   try simp only
   split at h
   ·rename_i hc
    try rw[hc]
    try simp only
    split at h
    ·rename_i hc
     cases h
     rw[s.tok (a+2) (by omega) (by omega)]
     simp only[show ∀t:Tz,(shZ b t).k=t.k from fun _=>rfl,show ∀t:Tz,(shZ b t).t=t.t from fun _=>rfl]
     try rw[hc]
     simp[shT,aQb]
    ·cases h
   ·rename_i hc
    cases h
    try rw[hc]
    rfl
  ·cases h
theorem aFq(b:Int):∀(ls:List Int) (x:Tx),shT b (hU ls x)=hU (ls.map (· +b)) (shT b x)
 |[],x=>rfl
 |p::ls,x=>by simp only[hU,List.map_cons,shT,aQb,aFq b ls x]
theorem Same.ty(s:Same lo n k b l l'){a:Nat}{x:Tx}{a2:Nat}(h0:lo≤a)(h:tyF l a=.ok x a2)(ha:a2<n):tyF l' (a+k)=.ok (shT b x) (a2+k):=by
 unfold tyF at h⊢
 split at h
 ·cases h
 ·rename_i a1 ls ho
  split at h
  ·rename_i y a3 hb
   cases h
   have h1:=(rO hb).1
   have:=s.bEl 30 a [] a1 ls h0 ho (by omega)
   rw[show([]:List Int).map (· +b)=[]from rfl]at this
   rw[this]
   simp only
   rw[s.base (by have:=(kO l 30 a [] a1 ls ho).1;omega) hb (by omega)]
   simp only
   rw[aFq,show a3+k+1=a3+1+k by omega]
  ·cases h
  ·cases h
structure SimF(lo n k dd:Nat)(b:Int)(f f':Fns):Prop where
 expr:∀lv a d,lo≤a→1≤lv→Rl n k dd (shX b) (f.expr lv a d) (f'.expr lv (a+k) (d+dd))
 oper:∀a d,lo≤a→Rl n k dd (shX b) (f.oper a d) (f'.oper (a+k) (d+dd))
 prim:∀a d,lo≤a→Rl n k dd (shX b) (f.prim a d) (f'.prim (a+k) (d+dd))
 list:∀to a d,lo≤a→Rl n k dd (fun r=>(oO b r.1,r.2+b)) (f.list to a d) (f'.list to (a+k) (d+dd))
 bin:∀lv x a d,lo≤a→1≤lv→a≤n→Rl n k dd (shX b) (f.bin lv x a d) (f'.bin lv (shX b x) (a+k) (d+dd))
 post:∀x a d,lo≤a→a≤n→Rl n k dd (shX b) (f.post x a d) (f'.post (shX b x) (a+k) (d+dd))
 elts:∀acc a d,lo≤a→Rl n k dd (oO b) (f.elts acc a d) (f'.elts (oO b acc) (a+k) (d+dd))
theorem Rl.lt{α:Type}{sh:α→α}{r r':R α}{a:Nat}(hp:∀v a',r=.ok v a'→a<a')(h:a<n→Rl n k dd sh r r'):Rl n k dd sh r r':=by
 intro v a' e ha
 have:=hp v a' e
 exact h (by omega) v a' e ha
theorem Rl.le{α:Type}{sh:α→α}{r r':R α}{a:Nat}(hp:∀v a',r=.ok v a'→a≤a')(h:a≤n→Rl n k dd sh r r'):Rl n k dd sh r r':=by
 intro v a' e ha
 have:=hp v a' e
 exact h (by omega) v a' e ha
end
end Go.VM
end
section
/- Expressions: the same tokens elsewhere, or one bracket deeper, give the same expression, moved: proved. -/
set_option maxRecDepth 100000
namespace Go.VM
open Go.RowKit
section
variable{lo n k dd:Nat}{b:Int}{l l':List Tz}
theorem Same.num(s:Same lo n k b l l'){a d:Nat}(h0:lo≤a)(ha:a<n):Rl n k dd id (fV l (aA l a).t a d) (fV l' (aA l' (a+k)).t (a+k) (d+dd)):=by
 rw[s.tok a h0 ha]
 unfold fV
 show Rl n k dd id (match wB (aA l a).t with|true=>.ok (aCr (aA l a).t:Int) a|false=>fD l a d 2) (match wB (aA l a).t with|true=>.ok (aCr (aA l a).t:Int) (a+k)|false=>fD l' (a+k) (d+dd) 2)
 cases wB (aA l a).t with
 |true=>exact .ok fun _=>rfl
 |false=>exact .er
theorem mJ(b:Int){kk:Nat}{p e:Int}{nm:List Nat}{v:Int}{args:List Ex}(h:Nat.beq kk 8=false):shX b (.mk kk p e nm v zT args)=.mk kk (p+b) (e+b) nm v zT (oO b args):=by
 simp only[shX,h]
theorem aZx(s:Same lo n k b l l'){f f':Fns}(pf:ProgF f)(h:SimF lo n k dd b f f')(to:List Nat)(a d:Nat)(h0:lo≤a):Rl n k dd (fun r=>(oO b r.1,r.2+b)) (cR l f to a d) (cR l' f' to (a+k) (d+dd)):=by
 intro v a' e ha
 unfold cR at e⊢
 obtain⟨es,a1,e1,e2⟩:=aS e
 obtain⟨z,a3,e3,e4⟩:=aS e2
 cases e4
 obtain⟨q1,q2,q3⟩:=gX e3
 have hlt:a1<n:=by omega
 have w:Rl a1 k dd (oO b) (aX l a d (eR l f to)) (aX l' (a+k) (d+dd) (eR l' f' to)):=by
  refine Rl.within ?_
  intro es2 a2 e5 ha2
  have hp:=rP pf e5
  unfold eR at e5⊢
  rw[s.is (by omega) (by omega)]
  split at e5
  ·cases e5
   exact .inl rfl
  ·exact h.elts [] (a+1) (d+1) (by omega) es2 a2 e5 (by omega)
 rcases w es a1 e1 (Nat.le_refl _)with h1|⟨h0,x,y,zz,h1⟩
 ·rw[h1]
  have hp0:=rP pf (bP e1)
  have m:=s.dK (dd:=dd) (by omega) z a' e3 ha
  rcases m with h2|⟨h0,x,y,zz,h2⟩
  ·refine .inl ?_
   show(cH l' (a1+k) (d+dd) to).bind _=_
   rw[h2]
   rfl
  ·refine .inr ⟨h0,x,y,zz,?_⟩
   show(cH l' (a1+k) (d+dd) to).bind _=_
   rw[h2]
   rfl
 ·rw[h1]
  exact .inr ⟨h0,x,y,zz,rfl⟩
theorem aWt(s:Same lo n k b l l'){f f':Fns}(pf:ProgF f)(h:SimF lo n k dd b f f')(a d:Nat)(h0:lo≤a)(ha:a<n):Rl n k dd (shX b) (dG l f a d) (dG l' f' (a+k) (d+dd)):=by
 have hn:=s.num (dd:=dd) (d:=d) h0 ha
 unfold dG
 rw[s.is h0 ha,s.is h0 ha,s.is h0 ha,s.is h0 ha]
 rw[s.tok a h0 ha]at hn⊢
 simp only[show ∀t:Tz,(shZ b t).k=t.k from fun _=>rfl,show ∀t:Tz,(shZ b t).t=t.t from fun _=>rfl,show ∀t:Tz,(shZ b t).a=t.a+b from fun _=>rfl,show ∀t:Tz,(shZ b t).e=t.e+b from fun _=>rfl]at hn⊢
 have tk:a+k+1=a+1+k:=by omega
 rw[tk]
 split
 ·refine hn.bind (fun v a1 w a' e1 e2=>?_) fun v a1 _ _=>.ok fun _=>?_
  ·cases e2
   unfold fV at e1
   split at e1
   ·cases e1;omega
   ·cases e1
  ·rw[mJ b rfl];rfl
 ·split
  ·split
   ·exact .ok fun _=>by rw[mJ b rfl];rfl
   ·exact .er
  ·split
   ·exact .ok fun _=>by rw[mJ b rfl];rfl
   ·split
    ·exact .ok fun _=>by rw[mJ b rfl];rfl
    ·split
     ·exact .ok fun _=>by rw[mJ b rfl];rfl
     ·split
      ·refine(Rl.within (h.expr 1 (a+1) (d+1) (by omega) (Nat.le_refl _))).bind (fun v a1 w a' e1 e2=>?_) fun x a1 e9 ha1=>(s.dK (a:=a1) (d:=d) (by have:=pf.expr _ _ _ _ _ (bP e9);omega)).bind (fun v a1 w a' e1 e2=>?_) fun _ a2 _ _=>.ok fun _=>rfl
       ·obtain⟨z,a2,e3,e4⟩:=aS e2
        cases e4
        have:=(gX e3).2.1
        omega
       ·cases e2;exact Nat.le_refl _
      ·split
       ·intro v a' e ha'
        obtain⟨ty,a1,r,ht,hi,e1,rfl⟩:=uC e
        have p1:=pf.list _ _ _ _ _ e1
        have tf:=nO ht
        have tl:=s.ty (by omega) ht (by omega)
        unfold oL
        rw[tk,tl]
        simp only
        rw[s.is (by omega) (by omega),hi]
        simp only
        rcases h.list [125] a1 d (by omega) r a' e1 ha' with h2|⟨h0,x,y,zz,h2⟩
        ·rw[h2]
         exact .inl rfl
        ·rw[h2]
         exact .inr ⟨h0,x,y,zz,rfl⟩
       ·exact .er
theorem aXg(s:Same lo n k b l l'){f f':Fns}(pf:ProgF f)(h:SimF lo n k dd b f f')(x:Ex)(a d:Nat)(h0:lo≤a)(ha:a≤n):Rl n k dd (shX b) (dI l f x a d) (dI l' f' (shX b x) (a+k) (d+dd)):=by
 rcases Nat.eq_or_lt_of_le ha with rfl|ha
 ·intro v a' e ha'
  unfold dI at e⊢
  rw[s.isS (.inl rfl),s.isS (.inr (.inl rfl)),s.isS (.inr (.inr (.inl rfl)))]
  simp only
  split at e
  ·split at e
   ·have:=pf.post _ _ _ _ _ e;omega
   ·cases e
  ·split at e
   ·obtain⟨r,a1,e1,e2⟩:=aS e
    have:=pf.list _ _ _ _ _ e1
    have:=pf.post _ _ _ _ _ e2
    omega
   ·split at e
    ·obtain⟨z,a1,e1,e2⟩:=aS e
     obtain⟨w,a2,e3,e4⟩:=aS e2
     have:=pf.expr _ _ _ _ _ (bP e1)
     have:=(gX e3).2.1
     have:=pf.post _ _ _ _ _ e4
     omega
    ·cases e;exact .inl rfl
 ·unfold dI
  rw[s.is h0 ha,s.is h0 ha,s.is h0 ha,aWi]
  split
  ·intro v a' e ha'
   split at e
   ·rename_i hk
    have hp:=pf.post _ _ _ _ _ e
    have e1:=s.tok (a+1) (by omega) (by omega)
    rw[show a+k+1=a+1+k by omega,e1]
    simp only[show ∀t:Tz,(shZ b t).k=t.k from fun _=>rfl,show ∀t:Tz,(shZ b t).t=t.t from fun _=>rfl,show ∀t:Tz,(shZ b t).e=t.e+b from fun _=>rfl]
    rw[hk]
    simp only
    have:=h.post _ (a+1+1) d (by omega) (by omega) v a' e ha'
    rw[mJ b rfl]at this
    rw[show a+1+k+1=a+1+1+k by omega]
    exact this
   ·cases e
  ·split
   ·refine(h.list [41] a d h0).bind (fun v a1 w a' e1 e2=>pf.post _ _ _ _ _ e2) fun r a1 e9 ha1=>?_
    have:=h.post (.mk 6 x.at' r.2 [] 0 zT (x::r.1)) a1 d (by have:=pf.list _ _ _ _ _ e9;omega) ha1
    rw[mJ b rfl]at this
    exact this
   ·split
    ·refine(Rl.within (h.expr 1 (a+1) (d+1) (by omega) (Nat.le_refl _))).bind (fun v a1 w a' e1 e2=>?_) fun z a1 e9 ha1=>(s.dK (a:=a1) (d:=d) (by have:=pf.expr _ _ _ _ _ (bP e9);omega)).bind (fun v a1 w a' e1 e2=>pf.post _ _ _ _ _ e2) fun e a2 e8 ha2=>?_
     ·obtain⟨w,a2,e3,e4⟩:=aS e2
      have:=(gX e3).2.1
      have:=pf.post _ _ _ _ _ e4
      omega
     ·have:=h.post (.mk 7 x.at' e [] 0 zT [x,z]) a2 d (by have:=pf.expr _ _ _ _ _ (bP e9);have:=(gX e8).2.1;omega) ha2
      rw[mJ b rfl]at this
      exact this
    ·exact .ok fun _=>rfl
theorem aUt(s:Same lo n k b l l'){f f':Fns}(pf:ProgF f)(h:SimF lo n k dd b f f'):SimF lo n k dd b ⟨cX f,dH l f,dG l f,cR l f,gG l f,dI l f,cZ l f⟩ ⟨cX f',dH l' f',dG l' f',cR l' f',gG l' f',dI l' f',cZ l' f'⟩:=by
 have pn:=aAt (l:=l) pf
 refine⟨fun lv a d h0 hlv=>?_,fun a d h0=>?_,fun a d h0=>?_,fun to a d h0=>aZx s pf h to a d h0,fun lv x a d h0 hlv ha=>?_,fun x a d h0 ha=>aXg s pf h x a d h0 ha,fun acc a d h0=>?_⟩
 ·show Rl n k dd (shX b) (cX f lv a d) (cX f' lv (a+k) (d+dd))
  unfold cX
  split
  ·exact h.oper a d h0
  ·exact(h.expr (lv+1) a d h0 (by omega)).bind (fun v a1 w a' e1 e2=>pf.bin _ _ _ _ _ _ e2) fun v a1 e9 ha=>h.bin lv v a1 d (by have:=pf.expr _ _ _ _ _ e9;omega) hlv ha
 ·show Rl n k dd (shX b) (dH l f a d) (dH l' f' (a+k) (d+dd))
  refine Rl.lt (pn.oper a d) fun ha=>?_
  unfold dH
  rw[s.is h0 ha,s.tok a h0 ha]
  split
  ·refine(Rl.within (h.oper (a+1) (d+1) (by omega))).bind (fun v a1 w a' e1 e2=>by cases e2;exact Nat.le_refl _) fun x a1 _ _=>.ok fun _=>?_
   rw[mJ b rfl,aXt]
   rfl
  ·exact(h.prim a d h0).bind (fun v a1 w a' e1 e2=>pf.post _ _ _ _ _ e2) fun v a1 e9 ha1=>h.post v a1 d (by have:=pf.prim _ _ _ _ e9;omega) ha1
 ·exact Rl.lt (pn.prim a d) fun ha=>aWt s pf h a d h0 ha
 ·show Rl n k dd (shX b) (gG l f lv x a d) (gG l' f' lv (shX b x) (a+k) (d+dd))
  rcases Nat.eq_or_lt_of_le ha with rfl|ha
  ·intro v a' e ha'
   unfold gG at e⊢
   rw[s.bMv hlv]
   simp only
   split at e
   ·obtain⟨z,a2,e1,e2⟩:=aS e
    have:=pf.expr _ _ _ _ _ e1
    have:=pf.bin _ _ _ _ _ _ e2
    omega
   ·cases e;exact .inl rfl
  ·unfold gG
   rw[s.bin h0 ha]
   split
   ·rw[show a+k+1=a+1+k by omega]
    refine(h.expr (lv+1) (a+1) d (by omega) (by omega)).bind (fun v a1 w a' e1 e2=>pf.bin _ _ _ _ _ _ e2) fun y a2 e9 ha2=>?_
    have:=h.bin lv (aPt (aA l a) x y) a2 d (by have:=pf.expr _ _ _ _ _ e9;omega) hlv ha2
    have e:aPt (aA l' (a+k)) (shX b x) (shX b y)=shX b (aPt (aA l a) x y):=by
     unfold aPt
     rw[mJ b rfl,s.tok a h0 ha,aWi,aXt]
     rfl
    rw[e]
    exact this
   ·exact .ok fun _=>rfl
 ·show Rl n k dd (oO b) (cZ l f acc a d) (cZ l' f' (oO b acc) (a+k) (d+dd))
  unfold cZ
  refine(h.expr 1 a d h0 (Nat.le_refl _)).bind (fun v a1 w a' e1 e2=>?_) fun x a1 e9 ha1=>?_
  ·split at e2
   ·have:=pf.elts _ _ _ _ _ e2;omega
   ·cases e2;exact Nat.le_refl _
  ·have e0:oO b acc++[shX b x]=oO b (acc++[x]):=by rw[aIt];rfl
   rcases Nat.eq_or_lt_of_le ha1 with rfl|ha1
   ·intro v a' e ha'
    rw[s.isS (.inr (.inr (.inr rfl)))]
    simp only
    split at e
    ·have:=pf.elts _ _ _ _ _ e;omega
    ·cases e
     rw[e0]
     exact .inl rfl
   ·have hp9:=pf.expr _ _ _ _ _ e9
    rw[s.is (by omega) ha1,e0]
    split
    ·rw[show a1+k+1=a1+1+k by omega]
     exact h.elts _ _ _ (by omega)
    ·exact .ok fun _=>rfl
theorem aNb(s:Same lo n k b l l'):∀N,SimF lo n k dd b (fns l N) (fns l' N)
 |0=>⟨fun _ _ _ _ _=>.out,fun _ _ _=>.out,fun _ _ _=>.out,fun _ _ _ _=>.out,fun _ _ _ _ _ _ _=>.out,fun _ _ _ _ _=>.out,fun _ _ _ _=>.out⟩
 |N+1=>aUt s (pS l N) (aNb s N)
end
end Go.VM
end
section
/- Texts: the lexer at a law's memory; an expression's reading, anywhere. -/
set_option maxRecDepth 100000
namespace Go.VM
open Go.RowKit
theorem aWl(s:List Nat)(h8:∀c∈s,c<256)(hl:s.length<big):SCall Go.Proofs.Tryz.prog [0] 12 [.str s] none ⟨1000,og tOl,[]⟩ (.ret (aGp s)) none ⟨1000,og tOl,[]⟩:=by
 refine SCall.trim (aRo s h8 hl) rfl (Nat.le_refl _) (fun b hb=>?_) (fun b _=>rfl) (fun b _=>.inl rfl) ((bBm (D:=(· <1000)) s).bL)
 exact dR (N:=1000) rfl b hb
theorem aGu(s:List Nat):∀(m i:Nat) (l T:List Tk) (x:Nat),l.length≤4000→oU s m i l=(T,x,0)→T.length≤4001:=by
 intro m
 induction m with
 |zero=>intro i l T x hl h;simp only[oU,Prod.mk.injEq]at h;rw[←h.1];omega
 |succ m ih=>
  intro i l T x hl h
  simp only[oU]at h
  split at h
  ·cases h;simp;omega
  ·simp only[aLh]at h
   split at h
   ·rename_i t ht
    rw[Prod.mk.injEq]at ht
    have h2:=ht.2
    split at h2
    ·cases h2
    ·exact ih _ _ _ _ (by simp;omega) h
   ·cases h
theorem aZt{N:Nat}{l:List Tz}(g:GoodT N l)(hN:N<big):∀t∈l,t.t.length<big:=by
 intro t ht
 obtain⟨i,hi⟩:=List.mem_iff_getElem?.1 ht
 have hlt:=(List.getElem?_eq_some_iff.1 hi).1
 rcases Nat.lt_or_ge (i+1) l.length with h|h
 ·have:=(g.tok i t hi h).2.2.2;omega
 ·have:=g.last t (by rw[show l.length-1=i by omega];exact hi)
  rw[this];show 0<big;decide
end Go.VM
end
