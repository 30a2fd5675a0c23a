/- laid for this seat: VyA VyB VyC VyK VyL VyS -/
import Derived.Test.YtgadhdnnkdcgkaaGreatDoorVg6
import Derived.Test.YtgadhdnnkdcgkaaGreatDoorVg2
set_option linter.unusedVariables false
set_option linter.unusedSimpArgs false
section
/- Expressions of a text: the tokens of a text lie one behind the other. -/
set_option maxRecDepth 100000
namespace Go.VM
open Go.RowKit
def toZ(t:Tk):Tz:=⟨t.kind,t.a,t.e,t.text⟩
theorem aSr(l:List Tk):l.map hC=(l.map toZ).map cE:=by rw[List.map_map];rfl
theorem aQk{s:List Nat}{i c:Nat}(h:(fW s i c).2=0):(fW s i c).1.a=i∧(fW s i c).1.kind≤5:=by
 cases hL:eR c with
 |true=>
  rw[nM hL]
  refine⟨rfl,?_⟩
  dsimp only
  split<;>decide
 |false=>
 cases hD:dX c with
 |true=>rw[pP hL hD];exact⟨rfl,by show 2≤5;decide⟩
 |false=>
 by_cases h34:c=34
 ·rw[sP hL hD h34]at h⊢
  unfold vW at h⊢
  split at h
  ·cases h
  ·exact⟨rfl,by show 3≤5;decide⟩
 cases hp:(iX (s.drop i) [61,61]||iX (s.drop i) [38,38])with
 |true=>rw[xL hL hD h34 hp];exact⟨rfl,by show 4≤5;decide⟩
 |false=>rw[wD hL hD h34 hp];exact⟨rfl,by show 4≤5;decide⟩
def Tl(N:Nat):Nat→List Tk→Prop
 |_,[]=>False
 |i,[t]=>t=⟨0,N,N,[]⟩∧i≤N
 |i,t::u::r=>i≤t.a∧t.a<t.e∧t.e≤N∧t.text.length≤N∧Tl N t.e (u::r)
theorem Tl.cons{N i:Nat}{t:Tk}{r:List Tk}(h1:i≤t.a)(h2:t.a<t.e)(h3:t.e≤N)(h4:t.text.length≤N)(h:Tl N t.e r):Tl N i (t::r):=by
 cases r with
 |nil=>exact h.elim
 |cons u r=>exact⟨h1,h2,h3,h4,h⟩
theorem Tl.le{N i j:Nat}{r:List Tk}(h:Tl N i r)(hj:j≤i):Tl N j r:=by
 match r,h with
 |[t],h=>exact⟨h.1,Nat.le_trans hj h.2⟩
 |t::u::r,h=>exact⟨Nat.le_trans hj h.1,h.2⟩
theorem aXw(s:List Nat):∀(m i:Nat) (l T:List Tk) (x:Nat),i≤s.length→s.length+1≤m+i→pM s m i l=(T,x,0)→∃r,T=l++r∧Tl s.length i r:=by
 intro m
 induction m with
 |zero=>intro i l T x h1 h2;omega
 |succ m ih=>
  intro i l T x h1 h2 h
  simp only[pM]at h
  cases hc:s[i]? with
  |none=>
   rw[hc]at h
   cases h
   have:s.length≤i:=List.getElem?_eq_none_iff.1 hc
   exact⟨[aEq s],rfl,rfl,h1⟩
  |some c=>
   rw[hc]at h
   simp only[aMq]at h
   split at h
   ·rename_i t ht
    have h0:(fW s i c).1=t:=by rw[Prod.mk.injEq]at ht;exact ht.1
    have hz:(fW s i c).2=0:=by
     rw[Prod.mk.injEq]at ht
     have h2:=ht.2
     split at h2
     ·cases h2
     ·exact h2
    have hp:=vK hc hz
    have ha:=aQk hz
    rw[h0]at hp ha
    obtain⟨r,hr,htl⟩:=ih _ _ _ _ (jL s _ _ hp.2.1) (by have:=qU s (s.length+1) t.e;omega) h
    refine⟨{t with text:=(s.drop i).take (t.e-i)}::r,by rw[hr];simp,?_⟩
    refine Tl.cons (by show i≤t.a;omega) (by show t.a<t.e;omega) hp.2.1 ?_ (htl.le (qU s _ _))
    show((s.drop i).take (t.e-i)).length≤_
    rw[List.length_take,List.length_drop]
    omega
   ·rename_i h3;cases h
theorem aXv{s:List Nat}{T:List Tk}{x:Nat}(h:bA s=(T,x,0)):Tl s.length 0 T:=by
 obtain⟨r,hr,ht⟩:=aXw s _ _ _ _ _ (jL s _ _ (Nat.zero_le _)) (by omega) h
 rw[hr]
 exact ht.le (Nat.zero_le _)
structure GoodT(N:Nat)(l:List Tz):Prop where
 pos:1≤l.length
 last:∀t,l[l.length-1]? =some t→t=⟨0,N,N,[]⟩
 tok:∀i t,l[i]? =some t→i+1<l.length→0≤t.a∧t.a<t.e∧t.e≤(N:Int)∧t.t.length≤N
 next:∀i t u,l[i]? =some t→l[i+1]? =some u→t.e≤u.a
theorem Tl.cU{N:Nat}:∀{i:Nat} {r:List Tk},Tl N i r→GoodT N (r.map toZ)∧∀t,(r.map toZ)[0]? =some t→(i:Int)≤t.a
 |i,[t],h=>by
  obtain⟨rfl,h2⟩:=h
  refine⟨⟨Nat.le_refl _,fun t ht=>by simpa [toZ] using ht.symm,fun j t ht hj=>?_,fun j t u ht hu=>?_⟩,fun t ht=>?_⟩
  ·simp at hj
  ·simp at hu
  ·simp[toZ]at ht
   subst ht
   show(i:Int)≤(N:Int)
   omega
 |i,t::u::r,h=>by
  obtain⟨h1,h2,h3,h4,h5⟩:=h
  obtain⟨g,g0⟩:=Tl.cU h5
  refine⟨⟨by simp,fun x hx=>?_,fun j x hx hj=>?_,fun j x y hx hy=>?_⟩,fun x hx=>?_⟩
  ·refine g.last x ?_
   have e:((t::u::r).map toZ).length-1=(((u::r).map toZ).length-1)+1:=by simp
   rw[e,List.map_cons,List.getElem?_cons_succ]at hx
   exact hx
  ·cases j with
   |zero=>
    simp only[List.map_cons,List.getElem?_cons_zero,Option.some.injEq]at hx
    subst hx
    simp only[toZ]
    omega
   |succ j=>
    rw[List.map_cons,List.getElem?_cons_succ]at hx
    exact g.tok j x hx (by simp at hj⊢;omega)
  ·cases j with
   |zero=>
    simp only[List.map_cons,List.getElem?_cons_zero,Option.some.injEq]at hx
    subst hx
    rw[List.map_cons,List.getElem?_cons_succ]at hy
    exact g0 y hy
   |succ j=>
    rw[List.map_cons,List.getElem?_cons_succ]at hx hy
    exact g.next j x y hx hy
  ·simp only[List.map_cons,List.getElem?_cons_zero,Option.some.injEq]at hx
   subst hx
   simp only[toZ]
   omega
theorem aOx{s:List Nat}{T:List Tk}{x:Nat}(h:bA s=(T,x,0)):GoodT s.length (T.map toZ):=(aXv h).cU.1
end Go.VM
end
section
/- Expressions of a text: parts lie within, one behind the other. -/
set_option maxRecDepth 100000
namespace Go.VM
open Go.RowKit
theorem kV{l:List Tz}{i:Nat}(h:i<l.length):l[i]? =some (aB l i):=by
 rw[aB,List.getElem?_eq_getElem h]
section
variable{N:Nat}{l:List Tz}
theorem GoodT.kind(g:GoodT N l){i:Nat}(h:(aB l i).k≠0):i+1<l.length:=by
 have h1:=cF h
 rcases Nat.lt_or_ge (i+1) l.length with q|q
 ·exact q
 ·have:=g.last (aB l i) (by rw[show l.length-1=i by omega];exact kV h1)
  rw[this]at h;exact absurd rfl h
theorem GoodT.lt(g:GoodT N l){i:Nat}(h:i+1<l.length):(aB l i).a<(aB l i).e:=(g.tok i _ (kV (by omega)) h).2.1
theorem GoodT.step(g:GoodT N l){i:Nat}(h:i+1<l.length):(aB l i).e≤(aB l (i+1)).a:=g.next i _ _ (kV (by omega)) (kV h)
theorem GoodT.sorted(g:GoodT N l):∀{i j:Nat},i<j→j<l.length→(aB l i).e≤(aB l j).a:=by
 intro i j
 induction j with
 |zero=>intro h;omega
 |succ j ih=>
  intro h1 h2
  have h3:=g.step (i:=j) h2
  rcases Nat.lt_or_ge i j with q|q
  ·have:=ih q (by omega)
   have:=g.lt (i:=j) h2
   omega
  ·have:i=j:=by omega
   subst this;exact h3
theorem GoodT.mono(g:GoodT N l){i j:Nat}(h:i≤j)(hj:j<l.length):(aB l i).a≤(aB l j).a:=by
 rcases Nat.eq_or_lt_of_le h with e|e
 ·rw[e];omega
 ·have:=g.sorted e hj
  have:=g.lt (i:=i) (by omega)
  omega
theorem GoodT.range(g:GoodT N l)(i:Nat):0≤(aB l i).a∧(aB l i).a≤(N:Int):=by
 have hp:=g.pos
 have hl:=g.last _ (kV (i:=l.length-1) (by omega))
 rcases Nat.lt_or_ge i l.length with h|h
 ·rcases Nat.lt_or_ge (i+1) l.length with q|q
  ·have:=g.tok i _ (kV h) q;omega
  ·rw[show i=l.length-1 by omega,hl];simp
 ·rw[jA h]
  have:wP l=(N:Int):=by rw[nU (kV (i:=l.length-1) (by omega)),hl]
  rw[this];simp
end
mutual
def bHb:Ex→Prop
 |.mk _ a e _ _ _ args=>chain a args e
def chain:Int→List Ex→Int→Prop
 |lo,[],hi=>lo≤hi
 |lo,x::r,hi=>lo≤x.at'∧x.at'<x.en∧bHb x∧chain x.en r hi
end
theorem chain.up:∀{r:List Ex} {lo hi hi':Int},chain lo r hi→hi≤hi'→chain lo r hi'
 |[],lo,hi,hi',h,k=>by
  have h:lo≤hi:=h
  show lo≤hi';omega
 |x::r,lo,hi,hi',h,k=>⟨h.1,h.2.1,h.2.2.1,chain.up h.2.2.2 k⟩
theorem eG{α β:Type}{r:R α}{f:α→Nat→R β}{v:β}{a:Nat}(h:r.bind f=.ok v a):∃x a1,r=.ok x a1∧f x a1=.ok v a:=by
 cases r with
 |ok x a1=>exact⟨x,a1,rfl,h⟩
 |er _ _ _ _=>cases h
 |out=>cases h
theorem mP{α:Type}{l:List Tz}{a d:Nat}{f:Nat→Nat→R α}{v:α}{a':Nat}(h:bD l a d f=.ok v a'):f (a+1) (d+1)=.ok v a':=by
 unfold bD at h
 split at h
 ·cases h
 ·exact h
theorem qW{l:List Tz}{a d:Nat}{s:List Nat}{e:Int}{a1:Nat}(h:cI l a d s=.ok e a1):e=(aB l a).e∧a1=a+1∧(aB l a).k=4:=by
 unfold cI at h
 split at h
 ·rename_i hi
  cases h
  unfold isF at hi
  simp only[Bool.and_eq_true,decide_eq_true_eq]at hi
  exact⟨rfl,rfl,hi.1⟩
 ·cases h
theorem aQa{l:List Tz}{a:Nat}{k:Int}{s:List Nat}(h:isF l a k s=true):(aB l a).k=k:=by
 unfold isF at h
 simp only[Bool.and_eq_true,decide_eq_true_eq]at h
 exact h.1
section
variable{N:Nat}{l:List Tz}
end
end Go.VM
end
section
/- Expressions of a text: where it is wrong. -/
set_option maxRecDepth 100000
namespace Go.VM
open Go.RowKit
def ErrP{α:Type}(N:Nat)(r:R α):Prop:=∀a d p c,r=.er a d p c→0≤p∧p≤(N:Int)∧c≠0
theorem ErrP.ok{α:Type}{N:Nat}{v:α}{a:Nat}:ErrP N (R.ok v a):=fun _ _ _ _ e=>by cases e
theorem ErrP.out{α:Type}{N:Nat}:ErrP N (R.out (α:=α)):=fun _ _ _ _ e=>by cases e
theorem ErrP.bind{α β:Type}{N:Nat}{r:R α}{f:α→Nat→R β}(h:ErrP N r)(k:∀v a1,ErrP N (f v a1)):ErrP N (r.bind f):=by
 intro a d p c e
 cases r with
 |ok v a1=>exact k v a1 a d p c e
 |er a1 d1 p1 c1=>cases e;exact h _ _ _ _ rfl
 |out=>cases e
section
variable{N:Nat}{l:List Tz}
theorem ErrP.fail{α:Type}(g:GoodT N l){a d:Nat}{c:Int}(hc:c≠0):ErrP N (fA (α:=α) l a d c):=by
 intro a' d' p c' e
 cases e
 exact⟨(g.range a).1,(g.range a).2,hc⟩
theorem ErrP.within{α:Type}(g:GoodT N l){a d:Nat}{f:Nat→Nat→R α}(h:ErrP N (f (a+1) (d+1))):ErrP N (bD l a d f):=by
 unfold bD
 split
 ·exact .fail g (by decide)
 ·exact h
theorem ErrP.kD(g:GoodT N l){a d:Nat}{s:List Nat}:ErrP N (cI l a d s):=by
 unfold cI
 split
 ·exact .ok
 ·exact .fail g (by decide)
theorem zS:∀(m a:Nat) (ls:List Int) (p c:Int),cS l m a ls=.er p c→∃i,p=(aB l i).a
 |0,a,ls,p,c,h=>by
  simp only[cS]at h
  split at h
  ·cases h
  ·cases h;exact⟨_,rfl⟩
 |m+1,a,ls,p,c,h=>by
  simp only[cS]at h
  split at h
  ·cases h
  ·split at h
   ·cases h;exact⟨_,rfl⟩
   ·exact zS m (a+2) _ p c h
theorem aNr{a a' d':Nat}{p c:Int}(h:fX l a=.er a' d' p c):∃i,p=(aB l i).a:=by
 unfold fX at h
 split at h
 ·cases h
 ·split at h
  ·split at h
   ·split at h
    ·cases h
    ·cases h;exact⟨_,rfl⟩
   ·cases h
  ·cases h;exact⟨_,rfl⟩
theorem aSw{a a' d':Nat}{p c:Int}(h:tyF l a=.er a' d' p c):∃i,p=(aB l i).a:=by
 unfold tyF at h
 split at h
 ·rename_i p' c' ho;cases h;exact zS 30 a [] p c ho
 ·split at h
  ·cases h
  ·rename_i hb;cases h;exact aNr hb
  ·cases h
structure ErrF(N:Nat)(f:Fns):Prop where
 expr:∀lv a d,ErrP N (f.expr lv a d)
 oper:∀a d,ErrP N (f.oper a d)
 prim:∀a d,ErrP N (f.prim a d)
 list:∀to a d,ErrP N (f.list to a d)
 bin:∀lv x a d,ErrP N (f.bin lv x a d)
 post:∀x a d,ErrP N (f.post x a d)
 elts:∀acc a d,ErrP N (f.elts acc a d)
theorem aTx(g:GoodT N l){f:Fns}(h:ErrF N f):ErrF N ⟨gR f,gZ l f,gY l f,fP l f,nT l f,iI l f,gT l f⟩:=by
 refine⟨fun lv a d=>?_,fun a d=>?_,fun a d=>?_,fun to a d=>?_,fun lv x a d=>?_,fun x a d=>?_,fun acc a d=>?_⟩
 ·show ErrP N (gR f lv a d)
  unfold gR
  split
  ·exact h.oper _ _
  ·exact(h.expr _ _ _).bind fun _ _=>h.bin _ _ _ _
 ·show ErrP N (gZ l f a d)
  unfold gZ
  split
  ·exact(ErrP.within g (h.oper _ _)).bind fun _ _=>.ok
  ·exact(h.prim _ _).bind fun _ _=>h.post _ _ _
 ·show ErrP N (gY l f a d)
  unfold gY
  split
  ·refine ErrP.bind ?_ fun _ _=>.ok
   unfold iV
   split
   ·exact .ok
   ·exact .fail g (by decide)
  ·split
   ·split
    ·exact .ok
    ·exact .fail g (by decide)
   ·split
    ·exact .ok
    ·split
     ·exact .ok
     ·split
      ·exact .ok
      ·split
       ·exact(ErrP.within g (h.expr _ _ _)).bind fun _ _=>(ErrP.kD g).bind fun _ _=>.ok
       ·split
        ·unfold pD
         split
         ·split
          ·exact(h.list _ _ _).bind fun _ _=>.ok
          ·exact .fail g (by decide)
         ·rename_i ht
          intro a' d' p c e
          cases e
          obtain⟨i,hi⟩:=aSw ht
          subst hi
          exact⟨(g.range i).1,(g.range i).2,(wO ht).1⟩
         ·exact .out
        ·exact .fail g (by decide)
 ·show ErrP N (fP l f to a d)
  unfold fP
  refine(ErrP.within g ?_).bind fun _ _=>(ErrP.kD g).bind fun _ _=>.ok
  unfold fB
  split
  ·exact .ok
  ·exact h.elts _ _ _
 ·show ErrP N (nT l f lv x a d)
  unfold nT
  split
  ·exact(h.expr _ _ _).bind fun _ _=>h.bin _ _ _ _
  ·exact .ok
 ·show ErrP N (iI l f x a d)
  unfold iI
  split
  ·split
   ·exact h.post _ _ _
   ·exact .fail g (by decide)
  ·split
   ·exact(h.list _ _ _).bind fun _ _=>h.post _ _ _
   ·split
    ·exact(ErrP.within g (h.expr _ _ _)).bind fun _ _=>(ErrP.kD g).bind fun _ _=>h.post _ _ _
    ·exact .ok
 ·show ErrP N (gT l f acc a d)
  unfold gT
  refine(h.expr _ _ _).bind fun _ _=>?_
  split
  ·exact h.elts _ _ _
  ·exact .ok
theorem aJn(g:GoodT N l):∀n,ErrF N (fns l n)
 |0=>⟨fun _ _ _=>.out,fun _ _=>.out,fun _ _=>.out,fun _ _ _=>.out,fun _ _ _ _=>.out,fun _ _ _=>.out,fun _ _ _=>.out⟩
 |n+1=>aTx g (aJn g n)
end
end Go.VM
end
section
/- Expressions: the same tokens elsewhere, or one bracket deeper, give the same expression, moved. -/
set_option maxRecDepth 100000
namespace Go.VM
open Go.RowKit
structure ProgF(f:Fns):Prop where
 expr:∀lv a d x a',f.expr lv a d=.ok x a'→a<a'
 oper:∀a d x a',f.oper a d=.ok x a'→a<a'
 prim:∀a d x a',f.prim a d=.ok x a'→a<a'
 list:∀to a d r a',f.list to a d=.ok r a'→a<a'
 bin:∀lv x a d y a',f.bin lv x a d=.ok y a'→a≤a'
 post:∀x a d y a',f.post x a d=.ok y a'→a≤a'
 elts:∀acc a d es a',f.elts acc a d=.ok es a'→a<a'
theorem aSm{l:List Tz}{f:Fns}{p:Int}{a d:Nat}{x:Ex}{a':Nat}(e:pD l f p a d=.ok x a'):
  ∃ty a1 r,tyF l (a+1)=.ok ty a1∧isF l a1 4 [123]=true∧f.list [125] a1 d=.ok r a'∧x=.mk 8 p r.2 [] 0 ty r.1:=by
 unfold pD at e
 split at e
 ·rename_i ty a1 ht
  split at e
  ·rename_i hi
   obtain⟨r,a2,e1,e2⟩:=eG e
   cases e2
   exact⟨ty,a1,r,ht,hi,e1,rfl⟩
  ·cases e
 ·cases e
 ·cases e
theorem aHf{l:List Tz}{f:Fns}(h:ProgF f){to:List Nat}{a d:Nat}{es:List Ex}{a':Nat}(e:fB l f to a d=.ok es a'):a≤a':=by
 unfold fB at e
 split at e
 ·cases e;exact Nat.le_refl _
 ·exact Nat.le_of_lt (h.elts _ _ _ _ _ e)
theorem aNa{l:List Tz}{f:Fns}(h:ProgF f):ProgF ⟨gR f,gZ l f,gY l f,fP l f,nT l f,iI l f,gT l f⟩:=by
 refine⟨fun lv a d x a' e=>?_,fun a d x a' e=>?_,fun a d x a' e=>?_,fun to a d r a' e=>?_,fun lv x a d y a' e=>?_,fun x a d y a' e=>?_,fun acc a d es a' e=>?_⟩
 ·have e:gR f lv a d=.ok x a':=e
  unfold gR at e
  split at e
  ·exact h.oper _ _ _ _ e
  ·obtain⟨y,a1,e1,e2⟩:=eG e
   have:=h.expr _ _ _ _ _ e1
   have:=h.bin _ _ _ _ _ _ e2
   omega
 ·have e:gZ l f a d=.ok x a':=e
  unfold gZ at e
  split at e
  ·obtain⟨y,a1,e1,e2⟩:=eG e
   cases e2
   have:=h.oper _ _ _ _ (mP e1)
   omega
  ·obtain⟨y,a1,e1,e2⟩:=eG e
   have:=h.prim _ _ _ _ e1
   have:=h.post _ _ _ _ _ e2
   omega
 ·have e:gY l f a d=.ok x a':=e
  unfold gY at e
  split at e
  ·obtain⟨n,a1,e1,e2⟩:=eG e
   cases e2
   exact Nat.lt_succ_self _
  ·split at e
   ·split at e
    ·cases e;exact Nat.lt_succ_self _
    ·cases e
   ·split at e
    ·cases e;exact Nat.lt_succ_self _
    ·split at e
     ·cases e;exact Nat.lt_succ_self _
     ·split at e
      ·cases e;exact Nat.lt_succ_self _
      ·split at e
       ·obtain⟨y,a1,e1,e2⟩:=eG e
        obtain⟨z,a2,e3,e4⟩:=eG e2
        cases e4
        have:=h.expr _ _ _ _ _ (mP e1)
        have:=(qW e3).2.1
        omega
       ·split at e
        ·obtain⟨ty,a1,r,ht,hi,e1,_⟩:=aSm e
         have:=oV ht
         have:=h.list _ _ _ _ _ e1
         omega
        ·cases e
 ·have e:fP l f to a d=.ok r a':=e
  unfold fP at e
  obtain⟨es,a1,e1,e2⟩:=eG e
  obtain⟨z,a3,e3,e4⟩:=eG e2
  cases e4
  have:=aHf h (mP e1)
  have:=(qW e3).2.1
  omega
 ·have e:nT l f lv x a d=.ok y a':=e
  unfold nT at e
  split at e
  ·obtain⟨z,a2,e1,e2⟩:=eG e
   have:=h.expr _ _ _ _ _ e1
   have:=h.bin _ _ _ _ _ _ e2
   omega
  ·cases e;exact Nat.le_refl _
 ·have e:iI l f x a d=.ok y a':=e
  unfold iI at e
  split at e
  ·split at e
   ·have:=h.post _ _ _ _ _ e;omega
   ·cases e
  ·split at e
   ·obtain⟨r,a1,e1,e2⟩:=eG e
    have:=h.list _ _ _ _ _ e1
    have:=h.post _ _ _ _ _ e2
    omega
   ·split at e
    ·obtain⟨z,a1,e1,e2⟩:=eG e
     obtain⟨w,a2,e3,e4⟩:=eG e2
     have:=h.expr _ _ _ _ _ (mP e1)
     have:=(qW e3).2.1
     have:=h.post _ _ _ _ _ e4
     omega
    ·cases e;exact Nat.le_refl _
 ·have e:gT l f acc a d=.ok es a':=e
  unfold gT at e
  obtain⟨x,a1,e1,e2⟩:=eG e
  have:=h.expr _ _ _ _ _ e1
  split at e2
  ·have:=h.elts _ _ _ _ _ e2;omega
  ·cases e2;omega
theorem wZ(l:List Tz):∀n,ProgF (fns l n)
 |0=>⟨fun _ _ _ _ _ e=>(by cases e),fun _ _ _ _ e=>(by cases e),fun _ _ _ _ e=>(by cases e),fun _ _ _ _ _ e=>(by cases e),fun _ _ _ _ _ _ e=>(by cases e),fun _ _ _ _ _ e=>(by cases e),fun _ _ _ _ _ e=>(by cases e)⟩
 |n+1=>aNa (wZ l n)
def shZ(by':Int)(t:Tz):Tz:=⟨t.k,t.a+by',t.e+by',t.t⟩
mutual
def shT(by':Int):Tx→Tx
 |.mk k a p n l=>.mk k (a+by') p n (bGe by' l)
def bGe(by':Int):List Tx→List Tx
 |[]=>[]
 |x::l=>shT by' x::bGe by' l
end
mutual
def shX(by':Int):Ex→Ex
 |.mk k a e nm n t args=>.mk k (a+by') (e+by') nm n (match Nat.beq k 8 with|true=>shT by' t|false=>t) (bCs by' args)
def bCs(by':Int):List Ex→List Ex
 |[]=>[]
 |x::l=>shX by' x::bCs by' l
end
def Rl{α:Type}(n k dd:Nat)(sh:α→α)(r r':R α):Prop:=∀v a',r=.ok v a'→a'≤n→r'=.ok (sh v) (a'+k)∨(0<dd∧∃a1 d1 p,r'=.er a1 d1 p 6)
section
variable{n k dd:Nat}
theorem Rl.ok{α:Type}{sh:α→α}{v:α}{a:Nat}{r':R α}(h:a≤n→r'=.ok (sh v) (a+k)):Rl n k dd sh (.ok v a) r':=by
 intro w a' e ha
 cases e
 exact .inl (h ha)
theorem Rl.er{α:Type}{sh:α→α}{a d:Nat}{p c:Int}{r':R α}:Rl n k dd sh (.er a d p c) r':=fun _ _ e=>by cases e
theorem Rl.out{α:Type}{sh:α→α}{r':R α}:Rl n k dd sh .out r':=fun _ _ e=>by cases e
def xE(t:Tz):Bool:=!decide (t.k=4)||(Nat.beq (lev t.t) 0&&!decide (t.t=[46])&&!decide (t.t=[40])&&!decide (t.t=[91])&&!decide (t.t=[44]))
structure Same(lo n k:Nat)(b:Int)(l l':List Tz):Prop where
 tok:∀i,lo≤i→i<n→aB l' (i+k)=shZ b (aB l i)
 stop:xE (aB l' (n+k))=true
variable{lo:Nat}{b:Int}{l l':List Tz}
theorem Same.is(s:Same lo n k b l l'){i:Nat}(h0:lo≤i)(h:i<n)(kk:Int)(x:List Nat):isF l' (i+k) kk x=isF l i kk x:=by
 unfold isF
 rw[s.tok i h0 h]
 rfl
theorem aSo{t:Tz}(h:xE t=true){x:List Nat}(hx:x=[46]∨x=[40]∨x=[91]∨x=[44]):kC t x=false:=by
 cases hs:kC t x with
 |false=>rfl
 |true=>
  unfold kC at hs
  simp only[Bool.and_eq_true,decide_eq_true_eq]at hs
  unfold xE at h
  rw[hs.1,hs.2]at h
  rcases hx with rfl|rfl|rfl|rfl<;>cases h
theorem Same.isS(s:Same lo n k b l l'){x:List Nat}(hx:x=[46]∨x=[40]∨x=[91]∨x=[44]):isF l' (n+k) 4 x=false:=aSo s.stop hx
theorem Same.kD(s:Same lo n k b l l'){a d:Nat}{x:List Nat}(h0:lo≤a):Rl n k dd (· +b) (cI l a d x) (cI l' (a+k) (d+dd) x):=by
 intro v a' e ha
 obtain⟨h1,h2,h3⟩:=qW e
 have hlt:a<n:=by omega
 unfold cI at e⊢
 rw[s.is h0 hlt]
 split at e
 ·cases e
  refine .inl ?_
  rw[s.tok a h0 hlt]
  show R.ok ((aB l a).e+b) (a+k+1)=_
  rw[show a+k+1=a+1+k by omega]
 ·cases e
theorem Rl.lt{α:Type}{sh:α→α}{r r':R α}{a:Nat}(hp:∀v a',r=.ok v a'→a<a')(h:a<n→Rl n k dd sh r r'):Rl n k dd sh r r':=by
 intro v a' e ha
 have:=hp v a' e
 exact h (by omega) v a' e ha
theorem Rl.le{α:Type}{sh:α→α}{r r':R α}{a:Nat}(hp:∀v a',r=.ok v a'→a≤a')(h:a≤n→Rl n k dd sh r r'):Rl n k dd sh r r':=by
 intro v a' e ha
 have:=hp v a' e
 exact h (by omega) v a' e ha
end
end Go.VM
end
section
/- Expressions: the same tokens elsewhere, or one bracket deeper, give the same expression, moved: proved. -/
set_option maxRecDepth 100000
namespace Go.VM
open Go.RowKit
section
variable{lo n k dd:Nat}{b:Int}{l l':List Tz}
end
end Go.VM
end
section
/- Texts: the lexer at a law's memory; an expression's reading, anywhere. -/
set_option maxRecDepth 100000
namespace Go.VM
open Go.RowKit
theorem bBz(s:List Nat)(h8:∀c∈s,c<256)(hl:s.length<big):SCall Go.Proofs.Tryz.prog [0] 12 [.str s] none ⟨1000,og tOl,[]⟩ (.ret (aGf s)) none ⟨1000,og tOl,[]⟩:=by
 refine SCall.trim (aLp s h8 hl) rfl (Nat.le_refl _) (fun b hb=>?_) (fun b _=>rfl) (fun b _=>.inl rfl) ((aWx (D:=(· <1000)) s).bF)
 exact cX (N:=1000) rfl b hb
theorem aTy(s:List Nat):∀(m i:Nat) (l T:List Tk) (x:Nat),l.length≤4000→pM s m i l=(T,x,0)→T.length≤4001:=by
 intro m
 induction m with
 |zero=>intro i l T x hl h;simp only[pM,Prod.mk.injEq]at h;rw[←h.1];omega
 |succ m ih=>
  intro i l T x hl h
  simp only[pM]at h
  split at h
  ·cases h;simp;omega
  ·simp only[aMq]at h
   split at h
   ·rename_i t ht
    rw[Prod.mk.injEq]at ht
    have h2:=ht.2
    split at h2
    ·cases h2
    ·exact ih _ _ _ _ (by simp;omega) h
   ·cases h
theorem aSk{N:Nat}{l:List Tz}(g:GoodT N l)(hN:N<big):∀t∈l,t.t.length<big:=by
 intro t ht
 obtain⟨i,hi⟩:=List.mem_iff_getElem?.1 ht
 have hlt:=(List.getElem?_eq_some_iff.1 hi).1
 rcases Nat.lt_or_ge (i+1) l.length with h|h
 ·have:=(g.tok i t hi h).2.2.2;omega
 ·have:=g.last t (by rw[show l.length-1=i by omega];exact hi)
  rw[this];show 0<big;decide
end Go.VM
end
