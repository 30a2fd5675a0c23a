/- laid for this seat: VhA VhB -/
import Derived.Test.YtgadhdnnkdcgkaaGreatDoorVh3
set_option linter.unusedVariables false
set_option linter.unusedSimpArgs false
section
/- Files: tokens elsewhere, in any places: expressions end alike. -/
set_option maxRecDepth 100000
namespace Go.VM
open Go.RowKit
structure Alike(l l':List Tz):Prop where
 len:l'.length=l.length
 k:∀i,(aA l' i).k=(aA l i).k
 t:∀i,(aA l' i).t=(aA l i).t
def Pl(l l':List Tz)(p p':Int):Prop:=∃i,p=(aA l i).a∧p'=(aA l' i).a
def Nt{α β:Type}(l l':List Tz)(Q:α→β→Prop):R α→R β→Prop
 |.ok v a,.ok v' a'=>Q v v'∧a'=a
 |.er a d p c,.er a' d' p' c'=>a'=a∧d'=d∧c'=c∧Pl l l' p p'
 |.out,.out=>True
 |_,_=>False
def Any{α β:Type}(_:α)(_:β):Prop:=True
section
variable{l l':List Tz}
theorem Nt.bind{α β γ δ:Type}{Q:α→β→Prop}{Q2:γ→δ→Prop}{r:R α}{r':R β}{f:α→Nat→R γ}{f':β→Nat→R δ}(h:Nt l l' Q r r')(k:∀v v' a,Q v v'→Nt l l' Q2 (f v a) (f' v' a)):Nt l l' Q2 (r.bind f) (r'.bind f'):=by
 cases r with
 |ok v a=>cases r' with
  |ok v' a'=>obtain⟨h1,rfl⟩:=h;exact k _ _ _ h1
  |er _ _ _ _=>cases h
  |out=>cases h
 |er a d p c=>cases r' with
  |ok _ _=>cases h
  |er _ _ _ _=>exact h
  |out=>cases h
 |out=>cases r' with
  |ok _ _=>cases h
  |er _ _ _ _=>cases h
  |out=>trivial
theorem Nt.ok{α β:Type}{Q:α→β→Prop}{v:α}{v':β}{a:Nat}(h:Q v v'):Nt l l' Q (.ok v a) (.ok v' a):=⟨h,rfl⟩
theorem Nt.fail{α β:Type}{Q:α→β→Prop}{a d:Nat}{c:Int}:Nt l l' Q (fD l a d c:R α) (fD l' a d c:R β):=⟨rfl,rfl,rfl,a,rfl,rfl⟩
theorem Alike.is(h:Alike l l')(a:Nat)(k:Int)(x:List Nat):isF l' a k x=isF l a k x:=by
 unfold isF
 rw[h.k,h.t]
theorem Alike.dK(h:Alike l l'){a d:Nat}{x:List Nat}:Nt l l' Any (cH l a d x) (cH l' a d x):=by
 unfold cH
 rw[h.is]
 split
 ·exact .ok trivial
 ·exact .fail
theorem Nt.within{α β:Type}{Q:α→β→Prop}{a d:Nat}{f:Nat→Nat→R α}{f':Nat→Nat→R β}(h:Nt l l' Q (f (a+1) (d+1)) (f' (a+1) (d+1))):Nt l l' Q (aX l a d f) (aX l' a d f'):=by
 unfold aX
 split
 ·exact .fail
 ·exact h
theorem Alike.sym(h:Alike l l')(a:Nat)(x:List Nat):iS (aA l' a) x=iS (aA l a) x:=h.is a 4 x
def NtO(l l':List Tz):OpenR→OpenR→Prop
 |.brk b us,.brk b' us'=>b'=b∧us.length=us'.length
 |.er p c,.er p' c'=>c'=c∧Pl l l' p p'
 |_,_=>False
theorem aJr(h:Alike l l'):∀(m a:Nat) (ls ls':List Int),ls.length=ls'.length→NtO l l' (bT l m a ls) (bT l' m a ls'):=by
 intro m
 induction m with
 |zero=>
  intro a ls ls' hl
  unfold bT
  rw[h.sym]
  cases iS (aA l a) [91]with
  |false=>exact⟨rfl,hl⟩
  |true=>exact⟨rfl,a,rfl,rfl⟩
 |succ m ih=>
  intro a ls ls' hl
  unfold bT
  rw[h.sym,h.sym]
  cases iS (aA l a) [91]with
  |false=>exact⟨rfl,hl⟩
  |true=>
   cases iS (aA l (a+1)) [93]with
   |false=>exact⟨rfl,a+1,rfl,rfl⟩
   |true=>exact ih _ _ _ (by simp[hl])
theorem aLd(h:Alike l l'){a:Nat}:Nt l l' Any (cY l a) (cY l' a):=by
 unfold cY
 rw[h.k,h.t,h.k,h.t,h.sym]
 split
 ·exact .ok trivial
 ·split
  ·split
   ·split
    ·exact .ok trivial
    ·exact⟨rfl,rfl,rfl,a+2,rfl,rfl⟩
   ·exact .ok trivial
  ·exact⟨rfl,rfl,rfl,a,rfl,rfl⟩
theorem aGk(h:Alike l l'){a:Nat}:Nt l l' Any (tyF l a) (tyF l' a):=by
 unfold tyF
 have h1:=aJr h 30 a [] [] rfl
 generalize bT l 30 a []=o at h1
 generalize bT l' 30 a []=o' at h1
 cases o with
 |er p c=>cases o' with
  |er p' c'=>exact⟨rfl,rfl,h1.1,h1.2⟩
  |brk _ _=>cases h1
 |brk b ls=>cases o' with
  |er _ _=>cases h1
  |brk b' ls'=>
   obtain⟨rfl,_⟩:=h1
   have h2:=aLd h (a:=b')
   dsimp only
   generalize cY l b'=r at h2
   generalize cY l' b'=r' at h2
   cases r with
   |ok x a2=>cases r' with
    |ok x' a2'=>obtain⟨_,rfl⟩:=h2;exact .ok trivial
    |er _ _ _ _=>cases h2
    |out=>cases h2
   |er a d p c=>cases r' with
    |ok _ _=>cases h2
    |er a' d' p' c'=>exact⟨rfl,rfl,h2.2.2.1,h2.2.2.2⟩
    |out=>cases h2
   |out=>cases r' with
    |ok _ _=>cases h2
    |er _ _ _ _=>cases h2
    |out=>trivial
structure NatF(l l':List Tz)(f f':Fns):Prop where
 expr:∀lv a d,Nt l l' Any (f.expr lv a d) (f'.expr lv a d)
 oper:∀a d,Nt l l' Any (f.oper a d) (f'.oper a d)
 prim:∀a d,Nt l l' Any (f.prim a d) (f'.prim a d)
 list:∀to a d,Nt l l' Any (f.list to a d) (f'.list to a d)
 bin:∀lv x x' a d,Nt l l' Any (f.bin lv x a d) (f'.bin lv x' a d)
 post:∀x x' a d,Nt l l' Any (f.post x a d) (f'.post x' a d)
 elts:∀acc acc' a d,Nt l l' Any (f.elts acc a d) (f'.elts acc' a d)
theorem aUz(h:Alike l l'){f f':Fns}(n:NatF l l' f f'):NatF l l' ⟨cX f,dH l f,dG l f,cR l f,gG l f,dI l f,cZ l f⟩ ⟨cX f',dH l' f',dG l' f',cR l' f',gG l' f',dI l' f',cZ l' f'⟩:=by
 refine⟨fun lv a d=>?_,fun a d=>?_,fun a d=>?_,fun to a d=>?_,fun lv x x' a d=>?_,fun x x' a d=>?_,fun acc acc' a d=>?_⟩
 ·show Nt l l' Any (cX f lv a d) (cX f' lv a d)
  unfold cX
  split
  ·exact n.oper _ _
  ·exact(n.expr _ _ _).bind fun _ _ _ _=>n.bin _ _ _ _ _
 ·show Nt l l' Any (dH l f a d) (dH l' f' a d)
  unfold dH
  rw[h.is]
  split
  ·exact(Nt.within (n.oper _ _)).bind fun _ _ _ _=>.ok trivial
  ·exact(n.prim _ _).bind fun _ _ _ _=>n.post _ _ _ _
 ·show Nt l l' Any (dG l f a d) (dG l' f' a d)
  unfold dG
  simp only[h.k,h.t,h.is]
  split
  ·refine Nt.bind (Q:=Any) ?_ fun _ _ _ _=>.ok trivial
   unfold fV
   split
   ·exact .ok trivial
   ·exact .fail
  ·split
   ·split
    ·exact .ok trivial
    ·exact .fail
   ·split
    ·exact .ok trivial
    ·split
     ·exact .ok trivial
     ·split
      ·exact .ok trivial
      ·split
       ·exact(Nt.within (n.expr _ _ _)).bind fun _ _ _ _=>h.dK.bind fun _ _ _ _=>.ok trivial
       ·split
        ·unfold oL
         have h2:=aGk h (a:=a+1)
         generalize tyF l (a+1)=r at h2
         generalize tyF l' (a+1)=r' at h2
         cases r with
         |ok x a2=>cases r' with
          |ok x' a2'=>
           obtain⟨_,rfl⟩:=h2
           simp only[h.is]
           split
           ·exact(n.list _ _ _).bind fun _ _ _ _=>.ok trivial
           ·exact .fail
          |er _ _ _ _=>cases h2
          |out=>cases h2
         |er _ _ p c=>cases r' with
          |ok _ _=>cases h2
          |er _ _ p' c'=>exact⟨rfl,rfl,h2.2.2.1,h2.2.2.2⟩
          |out=>cases h2
         |out=>cases r' with
          |ok _ _=>cases h2
          |er _ _ _ _=>cases h2
          |out=>trivial
        ·exact .fail
 ·show Nt l l' Any (cR l f to a d) (cR l' f' to a d)
  unfold cR
  refine Nt.bind (Q:=Any) (Nt.within ?_) fun _ _ _ _=>h.dK.bind fun _ _ _ _=>.ok trivial
  unfold eR
  rw[h.is]
  split
  ·exact .ok trivial
  ·exact n.elts _ _ _ _
 ·show Nt l l' Any (gG l f lv x a d) (gG l' f' lv x' a d)
  unfold gG
  have e:oM lv (aA l' a)=oM lv (aA l a):=by unfold oM;rw[h.k,h.t]
  rw[e]
  split
  ·exact(n.expr _ _ _).bind fun _ _ _ _=>n.bin _ _ _ _ _
  ·exact .ok trivial
 ·show Nt l l' Any (dI l f x a d) (dI l' f' x' a d)
  unfold dI
  simp only[h.is,h.k]
  split
  ·split
   ·exact n.post _ _ _ _
   ·exact .fail
  ·split
   ·exact(n.list _ _ _).bind fun _ _ _ _=>n.post _ _ _ _
   ·split
    ·exact(Nt.within (n.expr _ _ _)).bind fun _ _ _ _=>h.dK.bind fun _ _ _ _=>n.post _ _ _ _
    ·exact .ok trivial
 ·show Nt l l' Any (cZ l f acc a d) (cZ l' f' acc' a d)
  unfold cZ
  refine(n.expr _ _ _).bind fun _ _ a1 _=>?_
  rw[h.is]
  split
  ·exact n.elts _ _ _ _
  ·exact .ok trivial
theorem aNc(h:Alike l l'):∀m,NatF l l' (fns l m) (fns l' m)
 |0=>⟨fun _ _ _=>trivial,fun _ _=>trivial,fun _ _=>trivial,fun _ _ _=>trivial,fun _ _ _ _ _=>trivial,fun _ _ _ _=>trivial,fun _ _ _ _=>trivial⟩
 |m+1=>aUz h (aNc h m)
theorem bFq(h:Alike l l')(a:Nat):Nt l l' Any (PL l a) (PL l' a):=by
 by_cases ha:a≤l.length
 ·obtain⟨_,N,hN⟩:=iW l ha
  obtain⟨_,N',hN'⟩:=iW l' (a:=a) (by rw[h.len];exact ha)
  rw[←hN (max N N') (by omega),←hN' (max N N') (by omega)]
  exact(aNc h (max N N')).expr 1 a 0
 ·unfold PL
  rw[dif_neg ha,dif_neg (by rw[h.len];exact ha)]
  trivial
end
end Go.VM
end
section
/- Files: tokens elsewhere, in any places: statements and files end alike. -/
set_option maxRecDepth 100000
namespace Go.VM
open Go.RowKit
def nmX:Sx→List Nat|.mk _ _ nm .. =>nm
def NS(l l':List Tz)(s s':Sr):Prop:=s'.a=s.a∧s'.c=s.c∧(s.c≠0→Pl l l' s.p s'.p)
def NO{α:Type}(l l':List Tz)(Q:α→α→Prop):Option (α×Sr)→Option (α×Sr)→Prop
 |some (v,s),some (v',s')=>Q v v'∧NS l l' s s'
 |none,none=>True
 |_,_=>False
section
variable{l l':List Tz}{P P':Nat→R Ex}
theorem NS.jU{s s':Sr}(h:NS l l' s s'):bW s'=bW s:=by unfold bW;rw[h.2.1]
theorem NS.is(n:Alike l l'){s s':Sr}(h:NS l l' s s')(k:Int)(x:List Nat):isS l' s' k x=isS l s k x:=by
 unfold isS
 rw[h.jU,h.1,n.is]
theorem NS.next{s s':Sr}(h:NS l l' s s'):NS l l' (aK s) (aK s'):=⟨by show s'.a+1=s.a+1;rw[h.1],h.2.1,h.2.2⟩
theorem NS.fail{s s':Sr}(h:NS l l' s s'){c:Int}:NS l l' (eO l s c) (eO l' s' c):=by
 unfold eO
 rw[h.jU]
 split
 ·exact⟨h.1,rfl,fun _=>⟨s.a,rfl,by show(aA l' s'.a).a=_;rw[h.1]⟩⟩
 ·exact h
theorem NS.dK(n:Alike l l'){s s':Sr}(h:NS l l' s s'){x:List Nat}:NS l l' (bN l s x) (bN l' s' x):=by
 unfold bN
 rw[h.is n]
 split
 ·exact h.next
 ·exact h.fail
theorem NS.expr(hp:∀a,Nt l l' Any (P a) (P' a)){s s':Sr}(h:NS l l' s s'):NS l l' (aT P s).2 (aT P' s').2:=by
 unfold aT
 rw[h.jU,h.1]
 split
 ·have q:=hp s.a
  generalize P s.a=r at q
  generalize P' s.a=r' at q
  cases r with
  |ok x n=>cases r' with
   |ok x' n'=>exact⟨q.2,rfl,fun e=>absurd rfl e⟩
   |er _ _ _ _=>cases q
   |out=>cases q
  |er a d p c=>cases r' with
   |ok _ _=>cases q
   |er a' d' p' c'=>exact⟨rfl,q.2.2.1,fun _=>q.2.2.2⟩
   |out=>cases q
  |out=>cases r' with
   |ok _ _=>cases q
   |er _ _ _ _=>cases q
   |out=>exact h
 ·exact h
theorem NS.val(n:Alike l l')(hp:∀a,Nt l l' Any (P a) (P' a)){s s':Sr}(h:NS l l' s s'):NS l l' (bN l (aT P (bN l s [61])).2 [59]) (bN l' (aT P' (bN l' s' [61])).2 [59]):=NS.dK n (NS.expr hp (h.dK n))
structure NatS(l l':List Tz)(f f':Sf):Prop where
 block:∀d s s',NS l l' s s'→NO l l' (fun v v'=>v'.map nmX=v.map nmX) (f.block d s) (f'.block d s')
 loop:∀d acc acc' s s',acc'.map nmX=acc.map nmX→NS l l' s s'→NO l l' (fun v v'=>v'.map nmX=v.map nmX) (f.loop d acc s) (f'.loop d acc' s')
 stmt:∀d s s',NS l l' s s'→NO l l' (fun v v'=>nmX v'=nmX v) (f.stmt d s) (f'.stmt d s')
theorem aQu(n:Alike l l')(hp:∀a,Nt l l' Any (P a) (P' a)){f f':Sf}(h:NatS l l' f f'):NatS l l' ⟨cA l f,dX l f,eP l P f⟩ ⟨cA l' f',dX l' f',eP l' P' f'⟩:=by
 refine⟨fun d s s' q=>?_,fun d acc acc' s s' ha q=>?_,fun d s s' q=>?_⟩
 ·show NO l l' _ (cA l f d s) (cA l' f' d s')
  unfold cA
  have e:mF l' d s'=mF l d s:=by unfold mF;rw[q.jU,q.1,n.k,n.t]
  rw[e]
  split
  ·exact⟨rfl,q.fail⟩
  ·exact h.loop _ _ _ _ _ rfl (q.dK n)
 ·show NO l l' _ (dX l f d acc s) (dX l' f' d acc' s')
  unfold dX
  rw[q.jU,q.is n]
  split
  ·exact⟨ha,q⟩
  ·split
   ·exact⟨ha,q.next⟩
   ·have k:=h.stmt d s s' q
    generalize f.stmt d s=r at k
    generalize f'.stmt d s'=r' at k
    cases r with
    |none=>cases r' with
     |none=>trivial
     |some _=>cases k
    |some v=>cases r' with
     |none=>cases k
     |some v'=>
      obtain⟨x,s1⟩:=v
      obtain⟨x',s1'⟩:=v'
      exact h.loop _ _ _ _ _ (by rw[List.map_append,List.map_append,ha,List.map_singleton,List.map_singleton,k.1]) k.2
 ·show NO l l' _ (eP l P f d s) (eP l' P' f' d s')
  unfold eP
  simp only[q.is n,q.1]
  split
  ·simp only[n.k,n.t]
   split
   ·exact⟨rfl,NS.val n hp q.next.next⟩
   ·exact⟨rfl,NS.val n hp q.next.fail⟩
  ·split
   ·rw[q.next.is n]
    split
    ·exact⟨rfl,q.next.next⟩
    ·exact⟨rfl,(NS.expr hp q.next).dK n⟩
   ·split
    ·have k1:=h.block d _ _ (NS.expr hp q.next)
     generalize f.block d (aT P (aK s)).2=r at k1⊢
     generalize f'.block d (aT P' (aK s')).2=r' at k1⊢
     cases r with
     |none=>cases r' with
      |none=>trivial
      |some _=>cases k1
     |some v=>cases r' with
      |none=>cases k1
      |some v'=>
     obtain⟨b1,s1⟩:=v
     obtain⟨b1',s1'⟩:=v'
     have q1:NS l l' s1 s1':=k1.2
     dsimp only
     rw[q1.is n]
     split
     ·have k2:=h.block d _ _ q1.next
      generalize f.block d (aK s1)=r at k2⊢
      generalize f'.block d (aK s1')=r' at k2⊢
      cases r with
      |none=>cases r' with
       |none=>trivial
       |some _=>cases k2
      |some v=>cases r' with
       |none=>cases k2
       |some v'=>
      obtain⟨b2,s2⟩:=v
      obtain⟨b2',s2'⟩:=v'
      have q2:NS l l' s2 s2':=k2.2
      dsimp only
      exact⟨rfl,q2⟩
     ·exact⟨rfl,q1⟩
    ·split
     ·have k1:=h.block d _ _ (NS.expr hp q.next)
      generalize f.block d (aT P (aK s)).2=r at k1⊢
      generalize f'.block d (aT P' (aK s')).2=r' at k1⊢
      cases r with
      |none=>cases r' with
       |none=>trivial
       |some _=>cases k1
      |some v=>cases r' with
       |none=>cases k1
       |some v'=>
      obtain⟨b1,s1⟩:=v
      obtain⟨b1',s1'⟩:=v'
      have q1:NS l l' s1 s1':=k1.2
      dsimp only
      exact⟨rfl,q1⟩
     ·have e:rI l' s.a=rI l s.a:=by unfold rI;simp only[n.k,n.t]
      rw[e]
      split
      ·exact⟨by show(aA l' s.a).t=(aA l s.a).t;rw[n.t],NS.val n hp q.next⟩
      ·exact⟨rfl,(NS.expr hp q).dK n⟩
theorem aHj(n:Alike l l')(hp:∀a,Nt l l' Any (P a) (P' a)):∀m,NatS l l' (cF l P m) (cF l' P' m)
 |0=>⟨fun _ _ _ _=>trivial,fun _ _ _ _ _ _ _=>trivial,fun _ _ _ _=>trivial⟩
 |m+1=>aQu n hp (aHj n hp m)
theorem bHy(n:Alike l l')(hl:l.length<19999)(hT:∀t∈l,t.t.length<big)(hT':∀t∈l',t.t.length<big)(a:Nat):Nt l l' (fun v v':List Sx=>v'.map nmX=v.map nmX) (ST l a) (ST l' a):=by
 by_cases ha:a≤l.length
 ·obtain⟨N,r,h⟩:=rS (aBm l hl hT) a ha
  obtain⟨N',r',h'⟩:=rS (aBm l' (by rw[n.len];exact hl) hT') a (by rw[n.len];exact ha)
  rw[aGz ha ⟨N,h⟩,aGz (by rw[n.len];exact ha) ⟨N',h'⟩]
  have q:=(aHj n (bFq n) (max N N')).block 0 ⟨a,0,0⟩ ⟨a,0,0⟩ ⟨rfl,rfl,fun e=>absurd rfl e⟩
  rw[h _ (by omega),h' _ (by omega)]at q
  obtain⟨v,s⟩:=r
  obtain⟨v',s'⟩:=r'
  obtain⟨q1,q2⟩:=q
  unfold oV
  rw[q2.jU]
  cases hf:bW s with
  |true=>exact⟨q1,q2.1⟩
  |false=>exact⟨rfl,rfl,q2.2.1,q2.2.2 (fun e=>by rw[eT.2 e]at hf;cases hf)⟩
 ·rcases kN l a with e|⟨h,_⟩
  ·rcases kN l' a with e'|⟨h',_⟩
   ·rw[e,e'];trivial
   ·rw[n.len]at h';exact absurd h' ha
  ·exact absurd h ha
def QP(p p':Pm):Prop:=p'.n=p.n
def QL{α:Type}(Q:α→α→Prop):List α→List α→Prop
 |[],[]=>True
 |x::r,x'::r'=>Q x x'∧QL Q r r'
 |_,_=>False
theorem QL.app{α:Type}{Q:α→α→Prop}{x x':α}(hx:Q x x'):∀{r r':List α},QL Q r r'→QL Q (r++[x]) (r'++[x'])
 |[],[],_=>⟨hx,trivial⟩
 |_::_,_::_,h=>⟨h.1,QL.app hx h.2⟩
 |[],_::_,h=>by cases h
 |_::_,[],h=>by cases h
def QM(m m':Mx):Prop:=m'.n=m.n
structure QD(d d':Dx):Prop where
 n:d'.n=d.n
 rv:d'.rv.n=d.rv.n
 fs:QL QP d.fs d'.fs
 ms:QL QM d.ms d'.ms
 body:d'.body.map nmX=d.body.map nmX
def QI(i i':Im):Prop:=i'.n=i.n
structure QF(f f':FileX):Prop where
 n:f'.n=f.n
 is:QL QI f.is f'.is
 ds:QL QD f.ds f'.ds
def QT(t t':Tz):Prop:=t'.t=t.t
theorem qC(n:Alike l l'){a:Nat}:Nt l l' QT (fName l a) (fName l' a):=by
 unfold fName
 rw[n.k]
 split
 ·exact .ok (n.t a)
 ·exact .fail
theorem hH(n:Alike l l'){k:Int}{x:List Nat}{a:Nat}:Nt l l' Any (bM l k x a) (bM l' k x a):=by
 unfold bM
 rw[n.is]
 split
 ·exact .ok trivial
 ·exact .fail
theorem yA(n:Alike l l'){a:Nat}:Nt l l' Any (cB l a) (cB l' a):=by
 unfold cB
 have h2:=aGk n (a:=a)
 generalize tyF l a=r at h2
 generalize tyF l' a=r' at h2
 cases r with
 |ok x a2=>cases r' with
  |ok x' a2'=>exact h2
  |er _ _ _ _=>cases h2
  |out=>cases h2
 |er _ _ p c=>cases r' with
  |ok _ _=>cases h2
  |er _ _ p' c'=>exact⟨rfl,rfl,h2.2.2.1,h2.2.2.2⟩
  |out=>cases h2
 |out=>cases r' with
  |ok _ _=>cases h2
  |er _ _ _ _=>cases h2
  |out=>trivial
theorem uG(n:Alike l l'){a:Nat}:Nt l l' QP (cK l a) (cK l' a):=(qC n).bind fun _ _ _ h=>(yA n).bind fun _ _ _ _=>.ok h
theorem aUn(n:Alike l l'){α:Type}{Q:α→α→Prop}{rd rd':Nat→R α}(hr:∀a,Nt l l' Q (rd a) (rd' a)){to:List Nat}:∀(m:Nat) (acc acc':List α) (a:Nat),QL Q acc acc'→Nt l l' (QL Q) (fT l rd to m acc a) (fT l' rd' to m acc' a)
 |0,_,_,_,_=>trivial
 |m+1,acc,acc',a,h=>by
  unfold fT
  refine(hr a).bind fun x x' a1 hx=>?_
  rw[n.is]
  split
  ·exact aUn n hr m _ _ _ (h.app hx)
  ·exact(hH n).bind fun _ _ _ _=>.ok (h.app hx)
theorem rQ(n:Alike l l'){α:Type}{Q:α→α→Prop}{rd rd':Nat→R α}(hr:∀a,Nt l l' Q (rd a) (rd' a)){to:List Nat}{none:Bool}{m a:Nat}:Nt l l' (QL Q) (bC l rd to none m a) (bC l' rd' to none m a):=by
 unfold bC
 rw[n.is]
 split
 ·exact .ok trivial
 ·exact aUn n hr _ [] [] _ trivial
theorem aUm(n:Alike l l'){to:List Nat}{a:Nat}:Nt l l' Any (oN l to a) (oN l' to a):=by
 unfold oN
 rw[n.is]
 split
 ·exact .ok trivial
 ·exact(yA n).bind fun _ _ _ _=>.ok trivial
theorem aSv(n:Alike l l'){m a:Nat}:Nt l l' QM (cW l m a) (cW l' m a):=
 (qC n).bind fun _ _ _ h=>(hH n).bind fun _ _ _ _=>(rQ n fun _=>yA n).bind fun _ _ _ _=>(aUm n).bind fun _ _ _ _=>(hH n).bind fun _ _ _ _=>.ok h
theorem aVx(n:Alike l l'){α:Type}{Q:α→α→Prop}{rd rd':Nat→R α}(hr:∀a,Nt l l' Q (rd a) (rd' a)):∀(m:Nat) (acc acc':List α) (a:Nat),QL Q acc acc'→Nt l l' (QL Q) (fTo l rd m acc a) (fTo l' rd' m acc' a)
 |0,_,_,_,_=>trivial
 |m+1,acc,acc',a,h=>by
  unfold fTo
  rw[n.is]
  split
  ·exact .ok h
  ·exact(hr a).bind fun x x' a1 hx=>aVx n hr m _ _ _ (h.app hx)
theorem aVe(n:Alike l l'){a:Nat}:Nt l l' QP (gP l a) (gP l' a):=(uG n).bind fun _ _ _ h=>(hH n).bind fun _ _ _ _=>.ok h
theorem bCm(n:Alike l l'){m a:Nat}:Nt l l' QD (cL l m a) (cL l' m a):=by
 refine(qC n).bind fun t t' a1 h=>?_
 rw[n.is]
 split
 ·exact(hH n).bind fun _ _ _ _=>(aVx n (fun _=>aSv n) _ [] [] _ trivial).bind fun _ _ _ h2=>.ok ⟨h,rfl,trivial,h2,rfl⟩
 ·exact(hH n).bind fun _ _ _ _=>(hH n).bind fun _ _ _ _=>(aVx n (fun _=>aVe n) _ [] [] _ trivial).bind fun _ _ _ h2=>.ok ⟨h,rfl,h2,trivial,rfl⟩
variable{S S':Nat→R (List Sx)}
theorem bFj(n:Alike l l')(hs:∀a,Nt l l' (fun v v':List Sx=>v'.map nmX=v.map nmX) (S a) (S' a)){m p p' nm nm' mt rv rv' bs bs' a}(h:nm'=nm)(hv:QP rv rv'):Nt l l' QD (fJ3 l S m p nm mt rv bs a) (fJ3 l' S' m p' nm' mt rv' bs' a):=by
 refine(hH n).bind fun _ _ _ _=>(rQ n fun _=>uG n).bind fun fs fs' _ hf=>(aUm n).bind fun _ _ a3 _=>?_
 unfold lR
 have q:=hs a3
 generalize S a3=r at q
 generalize S' a3=r' at q
 cases r with
 |ok x a2=>cases r' with
  |ok x' a2'=>obtain⟨q1,rfl⟩:=q;exact .ok ⟨h,hv,hf,trivial,q1⟩
  |er _ _ _ _=>cases q
  |out=>cases q
 |er _ _ p c=>cases r' with
  |ok _ _=>cases q
  |er _ _ p' c'=>exact⟨rfl,rfl,q.2.2.1,q.2.2.2⟩
  |out=>cases q
 |out=>cases r' with
  |ok _ _=>cases q
  |er _ _ _ _=>cases q
  |out=>trivial
theorem bEi(n:Alike l l')(hs:∀a,Nt l l' (fun v v':List Sx=>v'.map nmX=v.map nmX) (S a) (S' a)){m mt rv rv' a}(hv:QP rv rv'):Nt l l' QD (fJ4 l S m mt rv a) (fJ4 l' S' m mt rv' a):=by
 refine(qC n).bind fun t t' a1 h=>?_
 rw[n.is]
 split
 ·exact(rQ n fun _=>uG n).bind fun _ _ _ _=>bFj n hs h hv
 ·exact bFj n hs h hv
theorem bBd(n:Alike l l')(hs:∀a,Nt l l' (fun v v':List Sx=>v'.map nmX=v.map nmX) (S a) (S' a)){m a}:Nt l l' QD (fB l S m a) (fB l' S' m a):=by
 unfold fB gN
 simp only[n.is]
 split
 ·exact bCm n
 ·split
  ·split
   ·exact(uG n).bind fun _ _ _ h=>(hH n).bind fun _ _ _ _=>bEi n hs h
   ·exact bEi n hs rfl
  ·exact .fail
theorem aGf(n:Alike l l')(hs:∀a,Nt l l' (fun v v':List Sx=>v'.map nmX=v.map nmX) (S a) (S' a)){M:Nat}:∀(m:Nat) (acc acc':List Dx) (a:Nat),QL QD acc acc'→Nt l l' (QL QD) (cN l S M m acc a) (cN l' S' M m acc' a)
 |0,_,_,_,_=>trivial
 |m+1,acc,acc',a,h=>by
  unfold cN
  rw[n.k]
  split
  ·exact .ok h
  ·exact(bBd n hs).bind fun _ _ _ hd=>aGf n hs m _ _ _ (h.app hd)
theorem aPp(n:Alike l l'):∀(m:Nat) (acc acc':List Im) (a:Nat),QL QI acc acc'→Nt l l' (QL QI) (eC l m acc a) (eC l' m acc' a)
 |0,_,_,_,_=>trivial
 |m+1,acc,acc',a,h=>by
  unfold eC
  rw[n.is]
  split
  ·exact .ok h
  ·exact(qC n).bind fun t t' _ ht=>(hH n).bind fun _ _ _ _=>aPp n m _ _ _ (h.app (x:=⟨t.t,t.a⟩) (x':=⟨t'.t,t'.a⟩) ht)
theorem bHs(n:Alike l l')(hl:l.length<19999)(hT:∀t∈l,t.t.length<big)(hT':∀t∈l',t.t.length<big):Nt l l' QF (FL l) (FL l'):=by
 have hs:=bHy n hl hT hT'
 unfold FL
 rw[n.len]
 exact(hH n).bind fun _ _ _ _=>(qC n).bind fun _ _ _ h=>(hH n).bind fun _ _ _ _=>(aPp n _ [] [] _ trivial).bind fun _ _ _ hi=>(aGf n hs _ [] [] _ trivial).bind fun _ _ _ hd=>.ok ⟨h,hi,hd⟩
end
end Go.VM
end
