/- laid for this seat: VgA VgB VgC -/
import Derived.Test.YtgadhdnnkdcgkaaGreatDoorVh3
import Derived.Test.YtgadhdnnkdcgkaaGreatDoorVg7
set_option linter.unusedVariables false
set_option linter.unusedSimpArgs false
section
/- Files: where names stand: by tokens. -/
set_option maxRecDepth 100000
namespace Go.VM
open Go.RowKit
def Nm(l:List Tz)(lo hi:Nat)(p:Int)(nm:List Nat):Prop:=∃i,lo≤i∧i<hi∧(aA l i).k=1∧p=(aA l i).a∧nm=(aA l i).t
theorem Nm.mono{l:List Tz}{lo lo' hi hi':Nat}{p:Int}{nm:List Nat}(h:Nm l lo hi p nm)(h1:lo'≤lo)(h2:hi≤hi'):Nm l lo' hi' p nm:=by
 obtain⟨i,a,b,c⟩:=h
 exact⟨i,by omega,by omega,c⟩
section
variable{l:List Tz}{S:Nat→R (List Sx)}
theorem aWe{α:Type}{rd:Nat→R α}{Q:Nat→Nat→α→Prop}(hq:∀a x a1,rd a=.ok x a1→Q a a1 x)(hm:∀lo hi lo' hi' x,Q lo hi x→lo'≤lo→hi≤hi'→Q lo' hi' x)(hr:∀a x a1,rd a=.ok x a1→a<a1∧a1≤l.length){to:List Nat}:∀(n:Nat) (acc:List α) (a:Nat) (xs:List α) (a' lo:Nat),
  fT l rd to n acc a=.ok xs a'→lo≤a→(∀x∈acc,Q lo a x)→∀x∈xs,Q lo a' x:=by
 intro n
 induction n with
 |zero=>intro acc a xs a' lo h;cases h
 |succ n ih=>
  intro acc a xs a' lo h hlo hacc
  unfold fT at h
  obtain⟨x,a1,h1,h⟩:=R.aB h
  have q:=hr _ _ _ h1
  have ha:∀y∈acc++[x],Q lo a1 y:=by
   intro y hy
   rcases List.mem_append.1 hy with hy|hy
   ·exact hm _ _ _ _ _ (hacc y hy) (Nat.le_refl _) (by omega)
   ·rw[List.mem_singleton]at hy;subst hy;exact hm _ _ _ _ _ (hq _ _ _ h1) hlo (Nat.le_refl _)
  split at h
  ·exact ih _ _ _ _ lo h (by omega) (fun y hy=>hm _ _ _ _ _ (ha y hy) (Nat.le_refl _) (by omega))
  ·obtain⟨u,a2,h2,h⟩:=R.aB h
   have:=aN (by decide) h2
   cases h
   exact fun y hy=>hm _ _ _ _ _ (ha y hy) (Nat.le_refl _) (by omega)
structure DeclAt(l:List Tz)(a a':Nat)(d:Dx):Prop where
 lt:a<a'
 len:a'≤l.length
 name:Nm l a (a'-1) d.a d.n
 stop:d.e=(aA l (a'-1)).e
 shut:isF l (a'-1) 4 [125]=true
 fields:∀p∈d.fs,Nm l a (a'-1) p.a p.n
theorem Nm.cut{lo hi:Nat}{p:Int}{nm:List Nat}(h:Nm l lo hi p nm)(hs:isF l (hi-1) 4 [125]=true):Nm l lo (hi-1) p nm:=by
 obtain⟨i,a,b,c,d⟩:=h
 refine⟨i,a,?_,c,d⟩
 rcases Nat.lt_or_ge i (hi-1)with q|q
 ·exact q
 ·have:i=hi-1:=by omega
  subst this
  have:=aNk hs
  rw[c]at this
  cases this
end
end Go.VM
end
section
/- Files: where names stand: in the text. -/
set_option maxRecDepth 100000
namespace Go.VM
open Go.RowKit
theorem aRp(s:List Nat):∀(m i:Nat) (l T:List Tk) (x:Nat),oU s m i l=(T,x,0)→∀t∈T,t∈l∨t=aAf s∨t.text=(s.drop t.a).take (t.e-t.a):=by
 intro m
 induction m with
 |zero=>intro i l T x h t ht;simp only[oU,Prod.mk.injEq]at h;rw[←h.1]at ht;exact .inl ht
 |succ m ih=>
  intro i l T x h t ht
  simp only[oU]at h
  split at h
  ·cases h
   rcases List.mem_append.1 ht with q|q
   ·exact .inl q
   ·rw[List.mem_singleton]at q;exact .inr (.inl q)
  ·rename_i c hc
   simp only[aLh]at h
   split at h
   ·rename_i u hu
    rw[Prod.mk.injEq]at hu
    have h2:=hu.2
    split at h2
    ·cases h2
    ·have ha:=(aJo h2).1
     rcases ih _ _ _ _ h t ht with q|q
     ·rcases List.mem_append.1 q with q|q
      ·exact .inl q
      ·rw[List.mem_singleton]at q
       subst q
       refine .inr (.inr ?_)
       rw[←hu.1]
       show(s.drop i).take _=(s.drop (eN s i c).1.a).take _
       rw[ha]
     ·exact .inr q
   ·cases h
def aPh(s:List Nat)(l:List Tz):Prop:=∀i,(aA l i).k≠0→∃a e:Nat,(aA l i).a=a∧(aA l i).e=e∧(aA l i).t=(s.drop a).take (e-a)
def aEt(s:List Nat)(p:Int)(nm:List Nat):Prop:=∃i:Nat,p=i∧nm≠[]∧i+nm.length≤s.length∧(s.drop i).take nm.length=nm
theorem aTq{s:List Nat}{l:List Tz}(g:GoodT s.length l)(tx:aPh s l){i:Nat}(hk:(aA l i).k≠0):aEt s (aA l i).a (aA l i).t:=by
 obtain⟨a,e,h1,h2,h3⟩:=tx i hk
 have q:=g.tok i _ (kK (cP hk)) (g.kind hk)
 have hl:((s.drop a).take (e-a)).length=e-a:=by rw[List.length_take,List.length_drop];omega
 refine⟨a,h1,fun h=>?_,?_,?_⟩
 ·rw[h]at h3
  rw[←h3]at hl
  have:(0:Nat)=e-a:=hl
  omega
 ·rw[h3,hl];omega
 ·rw[h3,hl]
theorem aQp{s:List Nat}{l:List Tz}(g:GoodT s.length l)(tx:aPh s l){i:Nat}(h:isF l i 4 [125]=true):∃e:Nat,(aA l i).e=((e+1:Nat):Int)∧e<s.length∧s[e]? =some 125∧(aA l i).a=(e:Int):=by
 have hk:(aA l i).k≠0:=by rw[aNk h];decide
 obtain⟨a,e,h1,h2,h3⟩:=tx i hk
 have q:=g.tok i _ (kK (cP hk)) (g.kind hk)
 have ht:(aA l i).t=[125]:=by
  unfold isF at h
  rw[Bool.and_eq_true]at h
  exact of_decide_eq_true h.2
 rw[ht]at h3
 have hl:((s.drop a).take (e-a)).length=e-a:=by rw[List.length_take,List.length_drop];omega
 rw[←h3]at hl
 have hl:1=e-a:=hl
 refine⟨a,by rw[h2];congr 1;omega,by omega,?_,h1⟩
 have h5:(s.drop a)[0]? =some 125:=by
  have:((s.drop a).take (e-a))[0]? =some 125:=by rw[←h3];rfl
  rwa[List.getElem?_take_of_lt (by omega)]at this
 rwa[List.getElem?_drop,Nat.add_zero]at h5
theorem bGv{l:List Tz}{N:Nat}(g:GoodT N l){P:Nat→R Ex}(hp:∀a,ErrP N (P a)):∀n,(∀d s v s',(cF l P n).block d s=some (v,s')→(s.c≠0→0≤s.p∧s.p≤(N:Int))→s'.c≠0→0≤s'.p∧s'.p≤(N:Int))∧
  (∀d acc s v s',(cF l P n).loop d acc s=some (v,s')→(s.c≠0→0≤s.p∧s.p≤(N:Int))→s'.c≠0→0≤s'.p∧s'.p≤(N:Int))∧
  (∀d s v s',(cF l P n).stmt d s=some (v,s')→(s.c≠0→0≤s.p∧s.p≤(N:Int))→s'.c≠0→0≤s'.p∧s'.p≤(N:Int)):=by
 have fail:∀(s:Sr) (c:Int),(s.c≠0→0≤s.p∧s.p≤(N:Int))→((eO l s c).c≠0→0≤(eO l s c).p∧(eO l s c).p≤(N:Int)):=by
  intro s c h
  unfold eO
  split
  ·exact fun _=>g.range s.a
  ·exact h
 have dK:∀(s:Sr) (x:List Nat),(s.c≠0→0≤s.p∧s.p≤(N:Int))→((bN l s x).c≠0→0≤(bN l s x).p∧(bN l s x).p≤(N:Int)):=by
  intro s x h
  unfold bN
  split
  ·exact h
  ·exact fail s 5 h
 have expr:∀(s:Sr),(s.c≠0→0≤s.p∧s.p≤(N:Int))→((aT P s).2.c≠0→0≤(aT P s).2.p∧(aT P s).2.p≤(N:Int)):=by
  intro s h
  unfold aT
  split
  ·split
   ·exact fun e=>absurd rfl e
   ·rename_i e;exact fun _=>⟨(hp _ _ _ _ _ e).1,(hp _ _ _ _ _ e).2.1⟩
   ·exact h
  ·exact h
 have val:∀(k:Nat) (p:Int) (nm:List Nat) (s:Sr),(s.c≠0→0≤s.p∧s.p≤(N:Int))→((mI l P k p nm s).2.c≠0→0≤(mI l P k p nm s).2.p∧(mI l P k p nm s).2.p≤(N:Int)):=by
  intro k p nm s h
  exact dK _ _ (expr _ (dK _ _ h))
 intro n
 induction n with
 |zero=>exact⟨fun _ _ _ _ e=>(by cases e),fun _ _ _ _ _ e=>(by cases e),fun _ _ _ _ e=>(by cases e)⟩
 |succ n ih=>
  obtain⟨ib,il,is⟩:=ih
  refine⟨fun d s v s' e h=>?_,fun d acc s v s' e h=>?_,fun d s v s' e h=>?_⟩
  ·have e:cA l (cF l P n) d s=some (v,s'):=e
   unfold cA at e
   split at e
   ·cases e;exact fail _ _ h
   ·exact il _ _ _ _ _ e (dK _ _ h)
  ·have e:dX l (cF l P n) d acc s=some (v,s'):=e
   unfold dX at e
   split at e
   ·cases e;exact h
   ·split at e
    ·cases e;exact h
    ·split at e
     ·rename_i x s1 hx
      exact il _ _ _ _ _ e (is _ _ _ _ hx h)
     ·cases e
  ·have e:eP l P (cF l P n) d s=some (v,s'):=e
   unfold eP at e
   split at e
   ·split at e
    ·have:=val 1 (aA l s.a).a (aA l (s.a+1)).t (aK (aK s)) h
     rw[Option.some.inj e]at this
     exact this
    ·have:=val 1 (aA l s.a).a [] _ (fail (aK s) 5 h)
     rw[Option.some.inj e]at this
     exact this
   ·split at e
    ·split at e
     ·cases e;exact h
     ·cases e;exact dK _ _ (expr _ h)
    ·split at e
     ·split at e
      ·cases e
      ·rename_i b s1 hb
       have h1:=ib _ _ _ _ hb (expr (aK s) h)
       split at e
       ·split at e
        ·cases e
        ·rename_i b2 s2 hb2
         cases e
         exact ib _ _ _ _ hb2 h1
       ·cases e;exact h1
     ·split at e
      ·split at e
       ·cases e
       ·rename_i b s1 hb
        cases e
        exact ib _ _ _ _ hb (expr (aK s) h)
      ·split at e
       ·have:=val 2 (aA l s.a).a (aA l s.a).t (aK s) h
        rw[Option.some.inj e]at this
        exact this
       ·cases e;exact dK _ _ (expr _ h)
end Go.VM
end
section
/- Files: where a file's names stand; where it is wrong. -/
set_option maxRecDepth 100000
namespace Go.VM
open Go.RowKit
section
variable{l:List Tz}{N:Nat}{S:Nat→R (List Sx)}
theorem fK(g:GoodT N l){k:Int}{x:List Nat}{a:Nat}:ErrP N (bM l k x a):=by
 unfold bM
 split
 ·exact .ok
 ·exact .fail g (by decide)
theorem nI(g:GoodT N l){a:Nat}:ErrP N (fName l a):=by
 unfold fName
 split
 ·exact .ok
 ·exact .fail g (by decide)
theorem uY(g:GoodT N l){a:Nat}:ErrP N (cB l a):=by
 intro a1 d p c h
 unfold cB at h
 split at h
 ·cases h
 ·rename_i h1
  obtain⟨i,hi⟩:=aUq h1
  have q:=xP h1
  cases h
  rw[hi]
  exact⟨(g.range i).1,(g.range i).2,q.1⟩
 ·cases h
theorem qB(g:GoodT N l){a:Nat}:ErrP N (cK l a):=.bind (nI g) fun _ _=>.bind (uY g) fun _ _=>.ok
theorem aOn{α:Type}(g:GoodT N l){rd:Nat→R α}(hr:∀a,ErrP N (rd a)){to:List Nat}:∀(n:Nat) (acc:List α) (a:Nat),ErrP N (fT l rd to n acc a)
 |0,_,_=>.out
 |n+1,acc,a=>by
  unfold fT
  refine .bind (hr a) fun x a1=>?_
  split
  ·exact aOn g hr n _ _
  ·exact .bind (fK g) fun _ _=>.ok
theorem pC{α:Type}(g:GoodT N l){rd:Nat→R α}(hr:∀a,ErrP N (rd a)){to:List Nat}{none:Bool}{m a:Nat}:ErrP N (bC l rd to none m a):=by
 unfold bC
 split
 ·exact .ok
 ·exact aOn g hr _ _ _
theorem aMw(g:GoodT N l){to:List Nat}{a:Nat}:ErrP N (oN l to a):=by
 unfold oN
 split
 ·exact .ok
 ·exact .bind (uY g) fun _ _=>.ok
theorem aJy(g:GoodT N l){m a:Nat}:ErrP N (cW l m a):=
 .bind (nI g) fun _ _=>.bind (fK g) fun _ _=>.bind (pC g fun _=>uY g) fun _ _=>.bind (aMw g) fun _ _=>.bind (fK g) fun _ _=>.ok
theorem aJp{α:Type}{rd:Nat→R α}(hr:∀a,ErrP N (rd a)):∀(n:Nat) (acc:List α) (a:Nat),ErrP N (fTo l rd n acc a)
 |0,_,_=>.out
 |n+1,acc,a=>by
  unfold fTo
  split
  ·exact .ok
  ·exact .bind (hr a) fun x a1=>aJp hr n _ _
theorem aSt(g:GoodT N l){a:Nat}:ErrP N (gP l a):=.bind (qB g) fun _ _=>.bind (fK g) fun _ _=>.ok
theorem aYt(g:GoodT N l){m a:Nat}:ErrP N (cL l m a):=by
 refine .bind (nI g) fun t a1=>?_
 split
 ·exact .bind (fK g) fun _ _=>.bind (aJp (fun _=>aJy g) _ _ _) fun _ _=>.ok
 ·exact .bind (fK g) fun _ _=>.bind (fK g) fun _ _=>.bind (aJp (fun _=>aSt g) _ _ _) fun _ _=>.ok
theorem bAk(hs:∀a,ErrP N (S a)){p nm mt rv bs fs has res a}:ErrP N (lR l S p nm mt rv bs fs has res a):=by
 intro a1 d q c h
 unfold lR at h
 split at h
 ·cases h
 ·rename_i h1;cases h;exact hs _ _ _ _ _ h1
 ·cases h
theorem aZw(g:GoodT N l)(hs:∀a,ErrP N (S a)){m p nm mt rv bs a}:ErrP N (fJ3 l S m p nm mt rv bs a):=
 .bind (fK g) fun _ _=>.bind (pC g fun _=>qB g) fun _ _=>.bind (aMw g) fun _ _=>bAk hs
theorem aVh(g:GoodT N l)(hs:∀a,ErrP N (S a)){m mt rv a}:ErrP N (fJ4 l S m mt rv a):=by
 refine .bind (nI g) fun t a1=>?_
 split
 ·exact .bind (pC g fun _=>qB g) fun _ _=>aZw g hs
 ·exact aZw g hs
theorem bAf(g:GoodT N l)(hs:∀a,ErrP N (S a)){m a}:ErrP N (gN l S m a):=by
 unfold gN
 split
 ·exact .bind (qB g) fun _ _=>.bind (fK g) fun _ _=>aVh g hs
 ·exact aVh g hs
theorem bAa(g:GoodT N l)(hs:∀a,ErrP N (S a)){m a}:ErrP N (fB l S m a):=by
 unfold fB
 split
 ·exact aYt g
 ·split
  ·exact bAf g hs
  ·exact .fail g (by decide)
theorem aBz(g:GoodT N l)(hs:∀a,ErrP N (S a)){m:Nat}:∀(n:Nat) (acc:List Dx) (a:Nat),ErrP N (cN l S m n acc a)
 |0,_,_=>.out
 |n+1,acc,a=>by
  unfold cN
  split
  ·exact .ok
  ·exact .bind (bAa g hs) fun x a1=>aBz g hs n _ _
theorem aIe(g:GoodT N l):∀(n:Nat) (acc:List Im) (a:Nat),ErrP N (eC l n acc a)
 |0,_,_=>.out
 |n+1,acc,a=>by
  unfold eC
  split
  ·exact .ok
  ·exact .bind (nI g) fun _ _=>.bind (fK g) fun _ _=>aIe g n _ _
theorem aUp(g:GoodT N l)(hs:∀a,ErrP N (S a)){m:Nat}:ErrP N (iT l S m):=
 .bind (fK g) fun _ _=>.bind (nI g) fun _ _=>.bind (fK g) fun _ _=>.bind (aIe g _ _ _) fun _ _=>.bind (aBz g hs _ _ _) fun _ _=>.ok
theorem bGt(g:GoodT N l)(a:Nat):ErrP N (PL l a):=by
 intro a1 d p c h
 by_cases ha:a≤l.length
 ·obtain⟨h1,M,h2⟩:=iW l ha
  have h2:=h2 M (Nat.le_refl _)
  rw[h]at h2
  exact(aOv g M).expr 1 a 0 _ _ _ _ h2
 ·unfold PL at h
  rw[dif_neg ha]at h
  cases h
theorem bGn(g:GoodT N l)(a:Nat):ErrP N (ST l a):=by
 intro a1 d p c h
 rcases kN l a with e|⟨_,r,⟨M,hm⟩,e⟩
 ·rw[e]at h;cases h
 ·rw[e]at h
  unfold oV at h
  cases hf:bW r.2 with
  |true=>rw[hf]at h;cases h
  |false=>
   rw[hf]at h
   have hc:r.2.c≠0:=fun e=>by rw[eT.2 e]at hf;cases hf
   have:=(bGv g (bGt g) M).1 0 ⟨a,0,0⟩ r.1 r.2 (hm M (Nat.le_refl _)) (fun e=>absurd rfl e) hc
   cases h
   exact⟨this.1,this.2,hc⟩
theorem bId(g:GoodT N l):ErrP N (FL l):=aUp g (bGn g)
end
structure DeclOk(s:List Nat)(at':Int)(d:Dx):Prop where
 name:aEt s d.a d.n
 lt:at'<d.a
 le:d.a<d.e
 shut:∃e:Nat,d.e=((e+1:Nat):Int)∧e<s.length∧s[e]? =some 125
 fields:∀p∈d.fs,aEt s p.a p.n∧at'<p.a∧p.a<d.e
def Bef(l:List Tz)(p:Int)(i:Nat):Prop:=∀j,i≤j→(aA l j).k≠0→p<(aA l j).a
section
variable{s:List Nat}{l:List Tz}
theorem Nm.at(g:GoodT s.length l)(tx:aPh s l){lo hi:Nat}{p:Int}{nm:List Nat}(h:Nm l lo hi p nm){q:Int}(hb:Bef l q lo):aEt s p nm∧q<p:=by
 obtain⟨i,h1,h2,h3,h4,h5⟩:=h
 have hk:(aA l i).k≠0:=by rw[h3];decide
 rw[h4,h5]
 exact⟨aTq g tx hk,hb i h1 hk⟩
theorem DeclAt.ok(g:GoodT s.length l)(tx:aPh s l){a a':Nat}{d:Dx}(h:DeclAt l a a' d){p:Int}(hb:Bef l p a):DeclOk s p d∧Bef l d.e (a'+1):=by
 obtain⟨e,h1,h2,h3,h4⟩:=aQp g tx h.shut
 have hk:(aA l (a'-1)).k≠0:=by rw[aNk h.shut];decide
 have nm:=h.name.at g tx hb
 have bf:∀{q:Int} {nm:List Nat},Nm l a (a'-1) q nm→q<d.e:=by
  intro q nm hn
  obtain⟨i,k1,k2,k3,k4,k5⟩:=hn
  rw[k4,h.stop]
  have hki:(aA l i).k≠0:=by rw[k3];decide
  have:=g.sorted k2 (cP hk)
  have:=g.lt (g.kind hki)
  have:=g.lt (g.kind hk)
  omega
 refine⟨⟨nm.1,nm.2,bf h.name,⟨e,by rw[h.stop,h1],h2,h3⟩,fun q hq=>?_⟩,fun j hj hkj=>?_⟩
 ·have:=(h.fields q hq).at g tx hb
  exact⟨this.1,this.2,bf (h.fields q hq)⟩
 ·rw[h.stop]
  have hkl:=cP hkj
  have q1:=g.sorted (i:=a'-1) (j:=a') (by have:=h.lt;omega) (by omega)
  have q2:=g.sorted (i:=a') (j:=j) (by omega) hkl
  have q3:=g.lt (i:=a') (by omega)
  omega
end
end Go.VM
end
