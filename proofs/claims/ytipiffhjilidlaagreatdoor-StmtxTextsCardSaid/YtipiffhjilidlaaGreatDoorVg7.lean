/- laid for this seat: VyA VyB VyC VyK VyL VyS -/
import Derived.Test.YtipiffhjilidlaaGreatDoorVg6
import Derived.Test.YtipiffhjilidlaaGreatDoorVg2
set_option linter.unusedVariables false
set_option linter.unusedSimpArgs false
section
/- Expressions of a text: the tokens of a text lie one behind the other. -/
set_option maxRecDepth 100000
namespace Go.VM
open Go.RowKit
def toZ(t:Tk):Tz:=⟨t.kind,t.a,t.e,t.text⟩
theorem aDj(l:List Tk):l.map hC=(l.map toZ).map bS:=by rw[List.map_map];rfl
theorem aYf{s:List Nat}{i c:Nat}(h:(hJ s i c).2=0):(hJ s i c).1.a=i∧(hJ s i c).1.kind≤5:=by
 cases hL:fD c with
 |true=>
  rw[nG hL]
  refine⟨rfl,?_⟩
  dsimp only
  split<;>decide
 |false=>
 cases hD:eE c with
 |true=>rw[pI hL hD];exact⟨rfl,by show 2≤5;decide⟩
 |false=>
 by_cases h34:c=34
 ·rw[rN hL hD h34]at h⊢
  unfold uS at h⊢
  split at h
  ·cases h
  ·exact⟨rfl,by show 3≤5;decide⟩
 cases hp:(jD (s.drop i) [61,61]||jD (s.drop i) [38,38])with
 |true=>rw[vF hL hD h34 hp];exact⟨rfl,by show 4≤5;decide⟩
 |false=>rw[vX hL hD h34 hp];exact⟨rfl,by show 4≤5;decide⟩
def Tl(N:Nat):Nat→List Tk→Prop
 |_,[]=>False
 |i,[t]=>t=⟨0,N,N,[]⟩∧i≤N
 |i,t::u::r=>i≤t.a∧t.a<t.e∧t.e≤N∧t.text.length≤N∧Tl N t.e (u::r)
theorem Tl.cons{N i:Nat}{t:Tk}{r:List Tk}(h1:i≤t.a)(h2:t.a<t.e)(h3:t.e≤N)(h4:t.text.length≤N)(h:Tl N t.e r):Tl N i (t::r):=by
 cases r with
 |nil=>exact h.elim
 |cons u r=>exact⟨h1,h2,h3,h4,h⟩
theorem Tl.le{N i j:Nat}{r:List Tk}(h:Tl N i r)(hj:j≤i):Tl N j r:=by
 match r,h with
 |[t],h=>exact⟨h.1,Nat.le_trans hj h.2⟩
 |t::u::r,h=>exact⟨Nat.le_trans hj h.1,h.2⟩
theorem aUe(s:List Nat):∀(m i:Nat) (l T:List Tk) (x:Nat),i≤s.length→s.length+1≤m+i→aBk s m i l=(T,x,0)→∃r,T=l++r∧Tl s.length i r:=by
 intro m
 induction m with
 |zero=>intro i l T x h1 h2;omega
 |succ m ih=>
  intro i l T x h1 h2 h
  simp only[aBk]at h
  cases hc:s[i]? with
  |none=>
   rw[hc]at h
   cases h
   have:s.length≤i:=List.getElem?_eq_none_iff.1 hc
   exact⟨[aIj s],rfl,rfl,h1⟩
  |some c=>
   rw[hc]at h
   simp only[aSz]at h
   split at h
   ·rename_i t ht
    have h0:(hJ s i c).1=t:=by rw[Prod.mk.injEq]at ht;exact ht.1
    have hz:(hJ s i c).2=0:=by
     rw[Prod.mk.injEq]at ht
     have h2:=ht.2
     split at h2
     ·cases h2
     ·exact h2
    have hp:=aCw hc hz
    have ha:=aYf hz
    rw[h0]at hp ha
    obtain⟨r,hr,htl⟩:=ih _ _ _ _ (nB s _ _ hp.2.1) (by have:=qQ s (s.length+1) t.e;omega) h
    refine⟨{t with text:=(s.drop i).take (t.e-i)}::r,by rw[hr];simp,?_⟩
    refine Tl.cons (by show i≤t.a;omega) (by show t.a<t.e;omega) hp.2.1 ?_ (htl.le (qQ s _ _))
    show((s.drop i).take (t.e-i)).length≤_
    rw[List.length_take,List.length_drop]
    omega
   ·rename_i h3;cases h
theorem aTh{s:List Nat}{T:List Tk}{x:Nat}(h:cE s=(T,x,0)):Tl s.length 0 T:=by
 obtain⟨r,hr,ht⟩:=aUe s _ _ _ _ _ (nB s _ _ (Nat.zero_le _)) (by omega) h
 rw[hr]
 exact ht.le (Nat.zero_le _)
structure GoodT(N:Nat)(l:List Tz):Prop where
 pos:1≤l.length
 last:∀t,l[l.length-1]? =some t→t=⟨0,N,N,[]⟩
 tok:∀i t,l[i]? =some t→i+1<l.length→0≤t.a∧t.a<t.e∧t.e≤(N:Int)∧t.t.length≤N
 next:∀i t u,l[i]? =some t→l[i+1]? =some u→t.e≤u.a
theorem Tl.cT{N:Nat}:∀{i:Nat} {r:List Tk},Tl N i r→GoodT N (r.map toZ)∧∀t,(r.map toZ)[0]? =some t→(i:Int)≤t.a
 |i,[t],h=>by
  obtain⟨rfl,h2⟩:=h
  refine⟨⟨Nat.le_refl _,fun t ht=>by simpa [toZ] using ht.symm,fun j t ht hj=>?_,fun j t u ht hu=>?_⟩,fun t ht=>?_⟩
  ·simp at hj
  ·simp at hu
  ·simp[toZ]at ht
   subst ht
   show(i:Int)≤(N:Int)
   omega
 |i,t::u::r,h=>by
  obtain⟨h1,h2,h3,h4,h5⟩:=h
  obtain⟨g,g0⟩:=Tl.cT h5
  refine⟨⟨by simp,fun x hx=>?_,fun j x hx hj=>?_,fun j x y hx hy=>?_⟩,fun x hx=>?_⟩
  ·refine g.last x ?_
   have e:((t::u::r).map toZ).length-1=(((u::r).map toZ).length-1)+1:=by simp
   rw[e,List.map_cons,List.getElem?_cons_succ]at hx
   exact hx
  ·cases j with
   |zero=>
    simp only[List.map_cons,List.getElem?_cons_zero,Option.some.injEq]at hx
    subst hx
    simp only[toZ]
    omega
   |succ j=>
    rw[List.map_cons,List.getElem?_cons_succ]at hx
    exact g.tok j x hx (by simp at hj⊢;omega)
  ·cases j with
   |zero=>
    simp only[List.map_cons,List.getElem?_cons_zero,Option.some.injEq]at hx
    subst hx
    rw[List.map_cons,List.getElem?_cons_succ]at hy
    exact g0 y hy
   |succ j=>
    rw[List.map_cons,List.getElem?_cons_succ]at hx hy
    exact g.next j x y hx hy
  ·simp only[List.map_cons,List.getElem?_cons_zero,Option.some.injEq]at hx
   subst hx
   simp only[toZ]
   omega
theorem aMi{s:List Nat}{T:List Tk}{x:Nat}(h:cE s=(T,x,0)):GoodT s.length (T.map toZ):=(aTh h).cT.1
end Go.VM
end
section
/- Expressions of a text: parts lie within, one behind the other. -/
set_option maxRecDepth 100000
namespace Go.VM
open Go.RowKit
theorem pK{l:List Tz}{i:Nat}(h:i<l.length):l[i]? =some (aA l i):=by
 rw[aA,List.getElem?_eq_getElem h]
section
variable{N:Nat}{l:List Tz}
theorem GoodT.kind(g:GoodT N l){i:Nat}(h:(aA l i).k≠0):i+1<l.length:=by
 have h1:=cJ h
 rcases Nat.lt_or_ge (i+1) l.length with q|q
 ·exact q
 ·have:=g.last (aA l i) (by rw[show l.length-1=i by omega];exact pK h1)
  rw[this]at h;exact absurd rfl h
theorem GoodT.lt(g:GoodT N l){i:Nat}(h:i+1<l.length):(aA l i).a<(aA l i).e:=(g.tok i _ (pK (by omega)) h).2.1
theorem GoodT.step(g:GoodT N l){i:Nat}(h:i+1<l.length):(aA l i).e≤(aA l (i+1)).a:=g.next i _ _ (pK (by omega)) (pK h)
theorem GoodT.sorted(g:GoodT N l):∀{i j:Nat},i<j→j<l.length→(aA l i).e≤(aA l j).a:=by
 intro i j
 induction j with
 |zero=>intro h;omega
 |succ j ih=>
  intro h1 h2
  have h3:=g.step (i:=j) h2
  rcases Nat.lt_or_ge i j with q|q
  ·have:=ih q (by omega)
   have:=g.lt (i:=j) h2
   omega
  ·have:i=j:=by omega
   subst this;exact h3
theorem GoodT.mono(g:GoodT N l){i j:Nat}(h:i≤j)(hj:j<l.length):(aA l i).a≤(aA l j).a:=by
 rcases Nat.eq_or_lt_of_le h with e|e
 ·rw[e];omega
 ·have:=g.sorted e hj
  have:=g.lt (i:=i) (by omega)
  omega
theorem GoodT.range(g:GoodT N l)(i:Nat):0≤(aA l i).a∧(aA l i).a≤(N:Int):=by
 have hp:=g.pos
 have hl:=g.last _ (pK (i:=l.length-1) (by omega))
 rcases Nat.lt_or_ge i l.length with h|h
 ·rcases Nat.lt_or_ge (i+1) l.length with q|q
  ·have:=g.tok i _ (pK h) q;omega
  ·rw[show i=l.length-1 by omega,hl];simp
 ·rw[gM h]
  have:eI l=(N:Int):=by rw[nN (pK (i:=l.length-1) (by omega)),hl]
  rw[this];simp
end
mutual
def bEd:Ex→Prop
 |.mk _ a e _ _ _ args=>chain a args e
def chain:Int→List Ex→Int→Prop
 |lo,[],hi=>lo≤hi
 |lo,x::r,hi=>lo≤x.at'∧x.at'<x.en∧bEd x∧chain x.en r hi
end
theorem chain.up:∀{r:List Ex} {lo hi hi':Int},chain lo r hi→hi≤hi'→chain lo r hi'
 |[],lo,hi,hi',h,k=>by
  have h:lo≤hi:=h
  show lo≤hi';omega
 |x::r,lo,hi,hi',h,k=>⟨h.1,h.2.1,h.2.2.1,chain.up h.2.2.2 k⟩
theorem bW{α β:Type}{r:R α}{f:α→Nat→R β}{v:β}{a:Nat}(h:r.bind f=.ok v a):∃x a1,r=.ok x a1∧f x a1=.ok v a:=by
 cases r with
 |ok x a1=>exact⟨x,a1,rfl,h⟩
 |er _ _ _ _=>cases h
 |out=>cases h
theorem eZ{α:Type}{l:List Tz}{a d:Nat}{f:Nat→Nat→R α}{v:α}{a':Nat}(h:aW l a d f=.ok v a'):f (a+1) (d+1)=.ok v a':=by
 unfold aW at h
 split at h
 ·cases h
 ·exact h
theorem nD{l:List Tz}{a d:Nat}{s:List Nat}{e:Int}{a1:Nat}(h:bK l a d s=.ok e a1):e=(aA l a).e∧a1=a+1∧(aA l a).k=4:=by
 unfold bK at h
 split at h
 ·rename_i hi
  cases h
  unfold isF at hi
  simp only[Bool.and_eq_true,decide_eq_true_eq]at hi
  exact⟨rfl,rfl,hi.1⟩
 ·cases h
section
variable{N:Nat}{l:List Tz}
end
end Go.VM
end
section
/- Expressions of a text: where it is wrong. -/
set_option maxRecDepth 100000
namespace Go.VM
open Go.RowKit
def ErrP{α:Type}(N:Nat)(r:R α):Prop:=∀a d p c,r=.er a d p c→0≤p∧p≤(N:Int)∧c≠0
theorem ErrP.ok{α:Type}{N:Nat}{v:α}{a:Nat}:ErrP N (R.ok v a):=fun _ _ _ _ e=>by cases e
theorem ErrP.out{α:Type}{N:Nat}:ErrP N (R.out (α:=α)):=fun _ _ _ _ e=>by cases e
section
variable{N:Nat}{l:List Tz}
theorem ErrP.fail{α:Type}(g:GoodT N l){a d:Nat}{c:Int}(hc:c≠0):ErrP N (fN (α:=α) l a d c):=by
 intro a' d' p c' e
 cases e
 exact⟨(g.range a).1,(g.range a).2,hc⟩
theorem ErrP.qX(g:GoodT N l){a d:Nat}{s:List Nat}:ErrP N (bK l a d s):=by
 unfold bK
 split
 ·exact .ok
 ·exact .fail g (by decide)
end
end Go.VM
end
section
/- Expressions: the same tokens elsewhere, or one bracket deeper, give the same expression, moved. -/
set_option maxRecDepth 100000
namespace Go.VM
open Go.RowKit
structure ProgF(f:Fns):Prop where
 expr:∀lv a d x a',f.expr lv a d=.ok x a'→a<a'
 oper:∀a d x a',f.oper a d=.ok x a'→a<a'
 prim:∀a d x a',f.prim a d=.ok x a'→a<a'
 list:∀to a d r a',f.list to a d=.ok r a'→a<a'
 bin:∀lv x a d y a',f.bin lv x a d=.ok y a'→a≤a'
 post:∀x a d y a',f.post x a d=.ok y a'→a≤a'
 elts:∀acc a d es a',f.elts acc a d=.ok es a'→a<a'
theorem aCj{l:List Tz}{f:Fns}{p:Int}{a d:Nat}{x:Ex}{a':Nat}(e:nV l f p a d=.ok x a'):
  ∃ty a1 r,tyF l (a+1)=.ok ty a1∧isF l a1 4 [123]=true∧f.list [125] a1 d=.ok r a'∧x=.mk 8 p r.2 [] 0 ty r.1:=by
 unfold nV at e
 split at e
 ·rename_i ty a1 ht
  split at e
  ·rename_i hi
   obtain⟨r,a2,e1,e2⟩:=bW e
   cases e2
   exact⟨ty,a1,r,ht,hi,e1,rfl⟩
  ·cases e
 ·cases e
 ·cases e
theorem aFe{l:List Tz}{f:Fns}(h:ProgF f){to:List Nat}{a d:Nat}{es:List Ex}{a':Nat}(e:eP l f to a d=.ok es a'):a≤a':=by
 unfold eP at e
 split at e
 ·cases e;exact Nat.le_refl _
 ·exact Nat.le_of_lt (h.elts _ _ _ _ _ e)
theorem aLg{l:List Tz}{f:Fns}(h:ProgF f):ProgF ⟨fJ f,gF l f,bZ l f,eC l f,kM l f,gP l f,fA l f⟩:=by
 refine⟨fun lv a d x a' e=>?_,fun a d x a' e=>?_,fun a d x a' e=>?_,fun to a d r a' e=>?_,fun lv x a d y a' e=>?_,fun x a d y a' e=>?_,fun acc a d es a' e=>?_⟩
 ·have e:fJ f lv a d=.ok x a':=e
  unfold fJ at e
  split at e
  ·exact h.oper _ _ _ _ e
  ·obtain⟨y,a1,e1,e2⟩:=bW e
   have:=h.expr _ _ _ _ _ e1
   have:=h.bin _ _ _ _ _ _ e2
   omega
 ·have e:gF l f a d=.ok x a':=e
  unfold gF at e
  split at e
  ·obtain⟨y,a1,e1,e2⟩:=bW e
   cases e2
   have:=h.oper _ _ _ _ (eZ e1)
   omega
  ·obtain⟨y,a1,e1,e2⟩:=bW e
   have:=h.prim _ _ _ _ e1
   have:=h.post _ _ _ _ _ e2
   omega
 ·have e:bZ l f a d=.ok x a':=e
  unfold bZ at e
  split at e
  ·obtain⟨n,a1,e1,e2⟩:=bW e
   cases e2
   exact Nat.lt_succ_self _
  ·split at e
   ·split at e
    ·cases e;exact Nat.lt_succ_self _
    ·cases e
   ·split at e
    ·cases e;exact Nat.lt_succ_self _
    ·split at e
     ·cases e;exact Nat.lt_succ_self _
     ·split at e
      ·cases e;exact Nat.lt_succ_self _
      ·split at e
       ·obtain⟨y,a1,e1,e2⟩:=bW e
        obtain⟨z,a2,e3,e4⟩:=bW e2
        cases e4
        have:=h.expr _ _ _ _ _ (eZ e1)
        have:=(nD e3).2.1
        omega
       ·split at e
        ·obtain⟨ty,a1,r,ht,hi,e1,_⟩:=aCj e
         have:=qU ht
         have:=h.list _ _ _ _ _ e1
         omega
        ·cases e
 ·have e:eC l f to a d=.ok r a':=e
  unfold eC at e
  obtain⟨es,a1,e1,e2⟩:=bW e
  obtain⟨z,a3,e3,e4⟩:=bW e2
  cases e4
  have:=aFe h (eZ e1)
  have:=(nD e3).2.1
  omega
 ·have e:kM l f lv x a d=.ok y a':=e
  unfold kM at e
  split at e
  ·obtain⟨z,a2,e1,e2⟩:=bW e
   have:=h.expr _ _ _ _ _ e1
   have:=h.bin _ _ _ _ _ _ e2
   omega
  ·cases e;exact Nat.le_refl _
 ·have e:gP l f x a d=.ok y a':=e
  unfold gP at e
  split at e
  ·split at e
   ·have:=h.post _ _ _ _ _ e;omega
   ·cases e
  ·split at e
   ·obtain⟨r,a1,e1,e2⟩:=bW e
    have:=h.list _ _ _ _ _ e1
    have:=h.post _ _ _ _ _ e2
    omega
   ·split at e
    ·obtain⟨z,a1,e1,e2⟩:=bW e
     obtain⟨w,a2,e3,e4⟩:=bW e2
     have:=h.expr _ _ _ _ _ (eZ e1)
     have:=(nD e3).2.1
     have:=h.post _ _ _ _ _ e4
     omega
    ·cases e;exact Nat.le_refl _
 ·have e:fA l f acc a d=.ok es a':=e
  unfold fA at e
  obtain⟨x,a1,e1,e2⟩:=bW e
  have:=h.expr _ _ _ _ _ e1
  split at e2
  ·have:=h.elts _ _ _ _ _ e2;omega
  ·cases e2;omega
theorem nA(l:List Tz):∀n,ProgF (fns l n)
 |0=>⟨fun _ _ _ _ _ e=>(by cases e),fun _ _ _ _ e=>(by cases e),fun _ _ _ _ e=>(by cases e),fun _ _ _ _ _ e=>(by cases e),fun _ _ _ _ _ _ e=>(by cases e),fun _ _ _ _ _ e=>(by cases e),fun _ _ _ _ _ e=>(by cases e)⟩
 |n+1=>aLg (nA l n)
def shZ(by':Int)(t:Tz):Tz:=⟨t.k,t.a+by',t.e+by',t.t⟩
mutual
def shT(by':Int):Tx→Tx
 |.mk k a p n l=>.mk k (a+by') p n (bBh by' l)
def bBh(by':Int):List Tx→List Tx
 |[]=>[]
 |x::l=>shT by' x::bBh by' l
end
mutual
def shX(by':Int):Ex→Ex
 |.mk k a e nm n t args=>.mk k (a+by') (e+by') nm n (match Nat.beq k 8 with|true=>shT by' t|false=>t) (aZi by' args)
def aZi(by':Int):List Ex→List Ex
 |[]=>[]
 |x::l=>shX by' x::aZi by' l
end
def Rl{α:Type}(n k dd:Nat)(sh:α→α)(r r':R α):Prop:=∀v a',r=.ok v a'→a'≤n→r'=.ok (sh v) (a'+k)∨(0<dd∧∃a1 d1 p,r'=.er a1 d1 p 6)
section
variable{n k dd:Nat}
theorem Rl.ok{α:Type}{sh:α→α}{v:α}{a:Nat}{r':R α}(h:a≤n→r'=.ok (sh v) (a+k)):Rl n k dd sh (.ok v a) r':=by
 intro w a' e ha
 cases e
 exact .inl (h ha)
theorem Rl.er{α:Type}{sh:α→α}{a d:Nat}{p c:Int}{r':R α}:Rl n k dd sh (.er a d p c) r':=fun _ _ e=>by cases e
theorem Rl.out{α:Type}{sh:α→α}{r':R α}:Rl n k dd sh .out r':=fun _ _ e=>by cases e
def vZ(t:Tz):Bool:=!decide (t.k=4)||(Nat.beq (lev t.t) 0&&!decide (t.t=[46])&&!decide (t.t=[40])&&!decide (t.t=[91])&&!decide (t.t=[44]))
structure Same(lo n k:Nat)(b:Int)(l l':List Tz):Prop where
 tok:∀i,lo≤i→i<n→aA l' (i+k)=shZ b (aA l i)
 stop:vZ (aA l' (n+k))=true
variable{lo:Nat}{b:Int}{l l':List Tz}
theorem Same.is(s:Same lo n k b l l'){i:Nat}(h0:lo≤i)(h:i<n)(kk:Int)(x:List Nat):isF l' (i+k) kk x=isF l i kk x:=by
 unfold isF
 rw[s.tok i h0 h]
 rfl
theorem aSe{t:Tz}(h:vZ t=true){x:List Nat}(hx:x=[46]∨x=[40]∨x=[91]∨x=[44]):eX t x=false:=by
 cases hs:eX t x with
 |false=>rfl
 |true=>
  unfold eX at hs
  simp only[Bool.and_eq_true,decide_eq_true_eq]at hs
  unfold vZ at h
  rw[hs.1,hs.2]at h
  rcases hx with rfl|rfl|rfl|rfl<;>cases h
theorem Same.isS(s:Same lo n k b l l'){x:List Nat}(hx:x=[46]∨x=[40]∨x=[91]∨x=[44]):isF l' (n+k) 4 x=false:=aSe s.stop hx
theorem Same.qX(s:Same lo n k b l l'){a d:Nat}{x:List Nat}(h0:lo≤a):Rl n k dd (· +b) (bK l a d x) (bK l' (a+k) (d+dd) x):=by
 intro v a' e ha
 obtain⟨h1,h2,h3⟩:=nD e
 have hlt:a<n:=by omega
 unfold bK at e⊢
 rw[s.is h0 hlt]
 split at e
 ·cases e
  refine .inl ?_
  rw[s.tok a h0 hlt]
  show R.ok ((aA l a).e+b) (a+k+1)=_
  rw[show a+k+1=a+1+k by omega]
 ·cases e
theorem Rl.lt{α:Type}{sh:α→α}{r r':R α}{a:Nat}(hp:∀v a',r=.ok v a'→a<a')(h:a<n→Rl n k dd sh r r'):Rl n k dd sh r r':=by
 intro v a' e ha
 have:=hp v a' e
 exact h (by omega) v a' e ha
theorem Rl.le{α:Type}{sh:α→α}{r r':R α}{a:Nat}(hp:∀v a',r=.ok v a'→a≤a')(h:a≤n→Rl n k dd sh r r'):Rl n k dd sh r r':=by
 intro v a' e ha
 have:=hp v a' e
 exact h (by omega) v a' e ha
end
end Go.VM
end
section
/- Expressions: the same tokens elsewhere, or one bracket deeper, give the same expression, moved: proved. -/
set_option maxRecDepth 100000
namespace Go.VM
open Go.RowKit
section
variable{lo n k dd:Nat}{b:Int}{l l':List Tz}
end
end Go.VM
end
section
/- Texts: the lexer at a law's memory; an expression's reading, anywhere. -/
set_option maxRecDepth 100000
namespace Go.VM
open Go.RowKit
theorem aRi(s:List Nat)(h8:∀c∈s,c<256)(hl:s.length<big):SCall Go.Proofs.Tryz.prog [0] 9 [.str s] none ⟨1000,og tOl,[]⟩ (.ret (aCu s)) none ⟨1000,og tOl,[]⟩:=by
 refine SCall.trim (aLs s h8 hl) rfl (Nat.le_refl _) (fun b hb=>?_) (fun b _=>rfl) (fun b _=>.inl rfl) ((aUr (D:=(· <1000)) s).bE)
 exact cO (N:=1000) rfl b hb
theorem aQz(s:List Nat):∀(m i:Nat) (l T:List Tk) (x:Nat),l.length≤4000→aBk s m i l=(T,x,0)→T.length≤4001:=by
 intro m
 induction m with
 |zero=>intro i l T x hl h;simp only[aBk,Prod.mk.injEq]at h;rw[←h.1];omega
 |succ m ih=>
  intro i l T x hl h
  simp only[aBk]at h
  split at h
  ·cases h;simp;omega
  ·simp only[aSz]at h
   split at h
   ·rename_i t ht
    rw[Prod.mk.injEq]at ht
    have h2:=ht.2
    split at h2
    ·cases h2
    ·exact ih _ _ _ _ (by simp;omega) h
   ·cases h
theorem aPl{N:Nat}{l:List Tz}(g:GoodT N l)(hN:N<big):∀t∈l,t.t.length<big:=by
 intro t ht
 obtain⟨i,hi⟩:=List.mem_iff_getElem?.1 ht
 have hlt:=(List.getElem?_eq_some_iff.1 hi).1
 rcases Nat.lt_or_ge (i+1) l.length with h|h
 ·have:=(g.tok i t hi h).2.2.2;omega
 ·have:=g.last t (by rw[show l.length-1=i by omega];exact hi)
  rw[this];show 0<big;decide
end Go.VM
end
