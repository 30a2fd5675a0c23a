/- laid for this seat: VgA VgB VgC -/
import Derived.Test.YtgadhdnnkdcgkaaGreatDoorVh3
import Derived.Test.YtgadhdnnkdcgkaaGreatDoorVg7
set_option linter.unusedVariables false
set_option linter.unusedSimpArgs false
section
/- Files: where names stand: by tokens. -/
set_option maxRecDepth 100000
namespace Go.VM
open Go.RowKit
def Nm(l:List Tz)(lo hi:Nat)(p:Int)(nm:List Nat):Prop:=∃i,lo≤i∧i<hi∧(aB l i).k=1∧p=(aB l i).a∧nm=(aB l i).t
theorem Nm.mono{l:List Tz}{lo lo' hi hi':Nat}{p:Int}{nm:List Nat}(h:Nm l lo hi p nm)(h1:lo'≤lo)(h2:hi≤hi'):Nm l lo' hi' p nm:=by
 obtain⟨i,a,b,c⟩:=h
 exact⟨i,by omega,by omega,c⟩
section
variable{l:List Tz}{S:Nat→R (List Sx)}
theorem lK{a:Nat}{t:Tz}{a1:Nat}(h:fName l a=.ok t a1):Nm l a a1 t.a t.t:=by
 have:=cA h
 exact⟨a,Nat.le_refl _,by omega,this.2.2.2,by rw[this.2.2.1],by rw[this.2.2.1]⟩
theorem aAb{a:Nat}{x:Pm}{a1:Nat}(h:cL l a=.ok x a1):Nm l a a1 x.a x.n:=by
 obtain⟨t,a2,h1,h⟩:=R.aF h
 obtain⟨y,a3,h2,h⟩:=R.aF h
 cases h
 have:=eS h2
 exact(lK h1).mono (Nat.le_refl _) (by omega)
theorem aSn{α:Type}{rd:Nat→R α}{Q:Nat→Nat→α→Prop}(hq:∀a x a1,rd a=.ok x a1→Q a a1 x)(hm:∀lo hi lo' hi' x,Q lo hi x→lo'≤lo→hi≤hi'→Q lo' hi' x)(hr:∀a x a1,rd a=.ok x a1→a<a1∧a1≤l.length){to:List Nat}:∀(n:Nat) (acc:List α) (a:Nat) (xs:List α) (a' lo:Nat),
  iK l rd to n acc a=.ok xs a'→lo≤a→(∀x∈acc,Q lo a x)→∀x∈xs,Q lo a' x:=by
 intro n
 induction n with
 |zero=>intro acc a xs a' lo h;cases h
 |succ n ih=>
  intro acc a xs a' lo h hlo hacc
  unfold iK at h
  obtain⟨x,a1,h1,h⟩:=R.aF h
  have q:=hr _ _ _ h1
  have ha:∀y∈acc++[x],Q lo a1 y:=by
   intro y hy
   rcases List.mem_append.1 hy with hy|hy
   ·exact hm _ _ _ _ _ (hacc y hy) (Nat.le_refl _) (by omega)
   ·rw[List.mem_singleton]at hy;subst hy;exact hm _ _ _ _ _ (hq _ _ _ h1) hlo (Nat.le_refl _)
  split at h
  ·exact ih _ _ _ _ lo h (by omega) (fun y hy=>hm _ _ _ _ _ (ha y hy) (Nat.le_refl _) (by omega))
  ·obtain⟨u,a2,h2,h⟩:=R.aF h
   have:=aN (by decide) h2
   cases h
   exact fun y hy=>hm _ _ _ _ _ (ha y hy) (Nat.le_refl _) (by omega)
theorem aHw{to:List Nat}{none:Bool}{m a:Nat}{xs:List Pm}{a':Nat}(h:bS l (cL l) to none m a=.ok xs a'):∀x∈xs,Nm l a a' x.a x.n:=by
 unfold bS at h
 split at h
 ·cases h;intro x hx;cases hx
 ·exact aSn (Q:=fun lo hi x=>Nm l lo hi x.a x.n) (fun _ _ _=>aAb) (fun lo hi lo' hi' (x:Pm) (q:Nm l lo hi x.a x.n) h1 h2=>(q.mono h1 h2:Nm l lo' hi' x.a x.n)) (fun _ _ _=>bT) _ _ _ _ _ a h (Nat.le_refl _) (fun x hx=>by cases hx)
theorem aZz:∀(n:Nat) (acc:List Pm) (a:Nat) (xs:List Pm) (a' lo:Nat),fTo l (jV l) n acc a=.ok xs a'→lo≤a→(∀x∈acc,Nm l lo a x.a x.n)→∀x∈xs,Nm l lo a' x.a x.n:=by
 intro n
 induction n with
 |zero=>intro acc a xs a' lo h;cases h
 |succ n ih=>
  intro acc a xs a' lo h hlo hacc
  unfold fTo at h
  split at h
  ·cases h;exact fun x hx=>(hacc x hx).mono (Nat.le_refl _) (Nat.le_succ _)
  ·obtain⟨x,a1,h1,h⟩:=R.aF h
   have q:=hJ h1
   obtain⟨p,b1,h2,h1⟩:=R.aF h1
   obtain⟨u,b2,h3,h1⟩:=R.aF h1
   have q3:=aN (by decide) h3
   cases h1
   refine ih _ _ _ _ lo h (by omega) fun y hy=>?_
   rcases List.mem_append.1 hy with hy|hy
   ·exact(hacc y hy).mono (Nat.le_refl _) (by omega)
   ·rw[List.mem_singleton]at hy;subst hy;exact(aAb h2).mono hlo (by omega)
theorem aKd{α:Type}{rd:Nat→R α}:∀(n:Nat) (acc:List α) (a:Nat) (xs:List α) (a':Nat),fTo l rd n acc a=.ok xs a'→isF l (a'-1) 4 [125]=true:=by
 intro n
 induction n with
 |zero=>intro acc a xs a' h;cases h
 |succ n ih=>
  intro acc a xs a' h
  unfold fTo at h
  split at h
  ·rename_i h1;cases h;exact h1
  ·obtain⟨x,a1,h1,h⟩:=R.aF h
   exact ih _ _ _ _ h
structure DeclAt(l:List Tz)(a a':Nat)(d:Dx):Prop where
 lt:a<a'
 len:a'≤l.length
 name:Nm l a (a'-1) d.a d.n
 stop:d.e=(aB l (a'-1)).e
 shut:isF l (a'-1) 4 [125]=true
 fields:∀p∈d.fs,Nm l a (a'-1) p.a p.n
theorem Nm.cut{lo hi:Nat}{p:Int}{nm:List Nat}(h:Nm l lo hi p nm)(hs:isF l (hi-1) 4 [125]=true):Nm l lo (hi-1) p nm:=by
 obtain⟨i,a,b,c,d⟩:=h
 refine⟨i,a,?_,c,d⟩
 rcases Nat.lt_or_ge i (hi-1)with q|q
 ·exact q
 ·have:i=hi-1:=by omega
  subst this
  have:=aQa hs
  rw[c]at this
  cases this
theorem aFd{m a:Nat}{d:Dx}{a':Nat}(h:eW l m a=.ok d a'):DeclAt l a a' d:=by
 have q:=lW h
 obtain⟨t,a1,h1,h⟩:=R.aF h
 have q1:=cA h1
 split at h
 ·obtain⟨_,a2,h2,h⟩:=R.aF h
  obtain⟨ms,a3,h3,h⟩:=R.aF h
  have q2:=aN (by decide) h2
  have q3:=pH (fun _ _ _ _=>kA) _ _ _ _ _ q2.2.1 h3
  have e:=aKd _ _ _ _ _ h3
  cases h
  exact⟨q.1,q.2,((lK h1).mono (Nat.le_refl _) (by omega)).cut e,rfl,e,fun p hp=>by cases hp⟩
 ·obtain⟨_,a2,h2,h⟩:=R.aF h
  obtain⟨_,a3,h3,h⟩:=R.aF h
  obtain⟨fs,a4,h4,h⟩:=R.aF h
  have q2:=aN (by decide) h2
  have q3:=aN (by decide) h3
  have q4:=pH (fun _ _ _ _=>hJ) _ _ _ _ _ q3.2.1 h4
  have e:=aKd _ _ _ _ _ h4
  have nm:=aZz _ _ _ _ _ a3 h4 (Nat.le_refl _) (fun x hx=>by cases hx)
  cases h
  exact⟨q.1,q.2,((lK h1).mono (Nat.le_refl _) (by omega)).cut e,rfl,e,fun p hp=>((nm p hp).mono (by omega) (Nat.le_refl _)).cut e⟩
def bBp(l:List Tz)(S:Nat→R (List Sx)):Prop:=∀a b n,S a=.ok b n→isF l (n-1) 4 [125]=true
theorem aWq(hS:StmOk l S)(hb:bBp l S){m a:Nat}{d:Dx}{a':Nat}(h:kT l S m a=.ok d a'):DeclAt l a a' d:=by
 have body:∀{p nm mt rv bs fs has res b d a'},mV l S p nm mt rv bs fs has res b=.ok d a'→b≤l.length→d.a=p∧d.n=nm∧d.fs=fs∧d.e=(aB l (a'-1)).e∧isF l (a'-1) 4 [125]=true:=by
  intro p nm mt rv bs fs has res b d a' h hl
  unfold mV at h
  cases h1:S b with
  |out=>rw[h1]at h;cases h
  |er _ _ _ _=>rw[h1]at h;cases h
  |ok x n=>rw[h1]at h;cases h;exact⟨rfl,rfl,rfl,rfl,hb _ _ _ h1⟩
 have j3:∀{p nm mt rv bs b d a' lo},fJ3 l S m p nm mt rv bs b=.ok d a'→lo≤b→Nm l lo b p nm→DeclAt l lo a' d:=by
  intro p nm mt rv bs b d a' lo h hlo hn
  have q:=aIq hS h
  obtain⟨_,a1,h1,h⟩:=R.aF h
  obtain⟨fs,a2,h2,h⟩:=R.aF h
  obtain⟨r,a3,h3,h⟩:=R.aF h
  have q1:=aN (by decide) h1
  have q2:=cO (fun _ _ _=>bT) h2
  have q3:=uI q2.2 h3
  have q4:=aDi hS q3.2 h
  obtain⟨e1,e2,e3,e4,e5⟩:=body h q3.2
  refine⟨by omega,q.2,?_,e4,e5,fun x hx=>?_⟩
  ·rw[e1,e2];exact(hn.mono (Nat.le_refl _) (by omega)).cut e5
  ·rw[e3]at hx
   exact((aHw h2 x hx).mono (by omega) (by omega)).cut e5
 have j4:∀{mt rv b d a' lo},fJ4 l S m mt rv b=.ok d a'→lo≤b→DeclAt l lo a' d:=by
  intro mt rv b d a' lo h hlo
  obtain⟨t,a1,h1,h⟩:=R.aF h
  have q1:=cA h1
  split at h
  ·obtain⟨bs,a2,h2,h⟩:=R.aF h
   have q2:=cO (fun _ _ _=>bT) h2
   exact j3 h (by omega) ((lK h1).mono hlo (by omega))
  ·exact j3 h (by omega) ((lK h1).mono hlo (Nat.le_refl _))
 unfold kT at h
 split at h
 ·obtain⟨p,a1,h1,h⟩:=R.aF h
  obtain⟨_,a2,h2,h⟩:=R.aF h
  have:=bT h1
  have:=aN (by decide) h2
  exact j4 h (by omega)
 ·exact j4 h (Nat.le_refl _)
end
end Go.VM
end
section
/- Files: where names stand: in the text. -/
set_option maxRecDepth 100000
namespace Go.VM
open Go.RowKit
theorem aMp(s:List Nat):∀(m i:Nat) (l T:List Tk) (x:Nat),pM s m i l=(T,x,0)→∀t∈T,t∈l∨t=aEq s∨t.text=(s.drop t.a).take (t.e-t.a):=by
 intro m
 induction m with
 |zero=>intro i l T x h t ht;simp only[pM,Prod.mk.injEq]at h;rw[←h.1]at ht;exact .inl ht
 |succ m ih=>
  intro i l T x h t ht
  simp only[pM]at h
  split at h
  ·cases h
   rcases List.mem_append.1 ht with q|q
   ·exact .inl q
   ·rw[List.mem_singleton]at q;exact .inr (.inl q)
  ·rename_i c hc
   simp only[aMq]at h
   split at h
   ·rename_i u hu
    rw[Prod.mk.injEq]at hu
    have h2:=hu.2
    split at h2
    ·cases h2
    ·have ha:=(aQk h2).1
     rcases ih _ _ _ _ h t ht with q|q
     ·rcases List.mem_append.1 q with q|q
      ·exact .inl q
      ·rw[List.mem_singleton]at q
       subst q
       refine .inr (.inr ?_)
       rw[←hu.1]
       show(s.drop i).take _=(s.drop (fW s i c).1.a).take _
       rw[ha]
     ·exact .inr q
   ·cases h
def tT(s:List Nat)(l:List Tz):Prop:=∀i,(aB l i).k≠0→∃a e:Nat,(aB l i).a=a∧(aB l i).e=e∧(aB l i).t=(s.drop a).take (e-a)
theorem aLt{s:List Nat}(hc:(bA s).2.2=0):tT s ((bA s).1.map toZ):=by
 intro i hk
 have h:=cF hk
 have e:=kV h
 rw[List.getElem?_map]at e
 cases ht:(bA s).1[i]? with
 |none=>rw[ht]at e;cases e
 |some t=>
  rw[ht]at e
  have e:toZ t=aB ((bA s).1.map toZ) i:=Option.some.inj e
  rw[←e]at hk⊢
  have e2:bA s=((bA s).1,(bA s).2.1,0):=by rw[←hc]
  rcases aMp s _ _ _ _ _ e2 t (List.mem_of_getElem? ht)with q|q|q
  ·cases q
  ·subst q;exact absurd rfl hk
  ·exact⟨t.a,t.e,rfl,rfl,q⟩
def lY(s:List Nat)(p:Int)(nm:List Nat):Prop:=∃i:Nat,p=i∧nm≠[]∧i+nm.length≤s.length∧(s.drop i).take nm.length=nm
theorem zF{s:List Nat}{l:List Tz}(g:GoodT s.length l)(tx:tT s l){i:Nat}(hk:(aB l i).k≠0):lY s (aB l i).a (aB l i).t:=by
 obtain⟨a,e,h1,h2,h3⟩:=tx i hk
 have q:=g.tok i _ (kV (cF hk)) (g.kind hk)
 have hl:((s.drop a).take (e-a)).length=e-a:=by rw[List.length_take,List.length_drop];omega
 refine⟨a,h1,fun h=>?_,?_,?_⟩
 ·rw[h]at h3
  rw[←h3]at hl
  have:(0:Nat)=e-a:=hl
  omega
 ·rw[h3,hl];omega
 ·rw[h3,hl]
theorem aNc{s:List Nat}{l:List Tz}(g:GoodT s.length l)(tx:tT s l){i:Nat}(h:isF l i 4 [125]=true):∃e:Nat,(aB l i).e=((e+1:Nat):Int)∧e<s.length∧s[e]? =some 125∧(aB l i).a=(e:Int):=by
 have hk:(aB l i).k≠0:=by rw[aQa h];decide
 obtain⟨a,e,h1,h2,h3⟩:=tx i hk
 have q:=g.tok i _ (kV (cF hk)) (g.kind hk)
 have ht:(aB l i).t=[125]:=by
  unfold isF at h
  rw[Bool.and_eq_true]at h
  exact of_decide_eq_true h.2
 rw[ht]at h3
 have hl:((s.drop a).take (e-a)).length=e-a:=by rw[List.length_take,List.length_drop];omega
 rw[←h3]at hl
 have hl:1=e-a:=hl
 refine⟨a,by rw[h2];congr 1;omega,by omega,?_,h1⟩
 have h5:(s.drop a)[0]? =some 125:=by
  have:((s.drop a).take (e-a))[0]? =some 125:=by rw[←h3];rfl
  rwa[List.getElem?_take_of_lt (by omega)]at this
 rwa[List.getElem?_drop,Nat.add_zero]at h5
theorem aNy{l:List Tz}{P:Nat→R Ex}:∀(n d:Nat) (acc:List Sx) (s:Sr) (v:List Sx) (s':Sr),(cZ l P n).loop d acc s=some (v,s')→s'.c=0→isF l (s'.a-1) 4 [125]=true:=by
 intro n
 induction n with
 |zero=>intro d acc s v s' h;cases h
 |succ n ih=>
  intro d acc s v s' h hc
  have h:kP l (cZ l P n) d acc s=some (v,s'):=h
  unfold kP at h
  split at h
  ·rename_i hf
   cases h
   rw[fS.2 hc]at hf
   cases hf
  ·split at h
   ·rename_i hi
    cases h
    exact(aQi hi).2
   ·split at h
    ·exact ih _ _ _ _ _ h hc
    ·cases h
theorem aHj{l:List Tz}{P:Nat→R Ex}{n d:Nat}{s:Sr}{v:List Sx}{s':Sr}(h:(cZ l P n).block d s=some (v,s'))(hc:s'.c=0):isF l (s'.a-1) 4 [125]=true:=by
 cases n with
 |zero=>cases h
 |succ n=>
  have h:fI l (cZ l P n) d s=some (v,s'):=h
  unfold fI at h
  split at h
  ·cases h
   exact(aLm (by decide) hc).elim
  ·exact aNy _ _ _ _ _ _ h hc
theorem aVv(l:List Tz):bBp l (ST l):=by
 intro a b n h
 unfold ST at h
 split at h
 ·rename_i e
  obtain⟨m,hm⟩:=Classical.choose_spec e.2
  generalize Classical.choose e.2=r at h hm
  unfold xW at h
  cases hf:cD r.2 with
  |false=>rw[hf]at h;cases h
  |true=>
   rw[hf]at h
   cases h
   exact aHj hm (fS.1 hf)
 ·cases h
theorem bAy{l:List Tz}{N:Nat}(g:GoodT N l){P:Nat→R Ex}(hp:∀a,ErrP N (P a)):∀n,(∀d s v s',(cZ l P n).block d s=some (v,s')→(s.c≠0→0≤s.p∧s.p≤(N:Int))→s'.c≠0→0≤s'.p∧s'.p≤(N:Int))∧
  (∀d acc s v s',(cZ l P n).loop d acc s=some (v,s')→(s.c≠0→0≤s.p∧s.p≤(N:Int))→s'.c≠0→0≤s'.p∧s'.p≤(N:Int))∧
  (∀d s v s',(cZ l P n).stmt d s=some (v,s')→(s.c≠0→0≤s.p∧s.p≤(N:Int))→s'.c≠0→0≤s'.p∧s'.p≤(N:Int)):=by
 have fail:∀(s:Sr) (c:Int),(s.c≠0→0≤s.p∧s.p≤(N:Int))→((gF l s c).c≠0→0≤(gF l s c).p∧(gF l s c).p≤(N:Int)):=by
  intro s c h
  unfold gF
  split
  ·exact fun _=>g.range s.a
  ·exact h
 have kD:∀(s:Sr) (x:List Nat),(s.c≠0→0≤s.p∧s.p≤(N:Int))→((bR l s x).c≠0→0≤(bR l s x).p∧(bR l s x).p≤(N:Int)):=by
  intro s x h
  unfold bR
  split
  ·exact h
  ·exact fail s 5 h
 have expr:∀(s:Sr),(s.c≠0→0≤s.p∧s.p≤(N:Int))→((bC P s).2.c≠0→0≤(bC P s).2.p∧(bC P s).2.p≤(N:Int)):=by
  intro s h
  unfold bC
  split
  ·split
   ·exact fun e=>absurd rfl e
   ·rename_i e;exact fun _=>⟨(hp _ _ _ _ _ e).1,(hp _ _ _ _ _ e).2.1⟩
   ·exact h
  ·exact h
 have val:∀(k:Nat) (p:Int) (nm:List Nat) (s:Sr),(s.c≠0→0≤s.p∧s.p≤(N:Int))→((nD l P k p nm s).2.c≠0→0≤(nD l P k p nm s).2.p∧(nD l P k p nm s).2.p≤(N:Int)):=by
  intro k p nm s h
  exact kD _ _ (expr _ (kD _ _ h))
 intro n
 induction n with
 |zero=>exact⟨fun _ _ _ _ e=>(by cases e),fun _ _ _ _ _ e=>(by cases e),fun _ _ _ _ e=>(by cases e)⟩
 |succ n ih=>
  obtain⟨ib,il,is⟩:=ih
  refine⟨fun d s v s' e h=>?_,fun d acc s v s' e h=>?_,fun d s v s' e h=>?_⟩
  ·have e:fI l (cZ l P n) d s=some (v,s'):=e
   unfold fI at e
   split at e
   ·cases e;exact fail _ _ h
   ·exact il _ _ _ _ _ e (kD _ _ h)
  ·have e:kP l (cZ l P n) d acc s=some (v,s'):=e
   unfold kP at e
   split at e
   ·cases e;exact h
   ·split at e
    ·cases e;exact h
    ·split at e
     ·rename_i x s1 hx
      exact il _ _ _ _ _ e (is _ _ _ _ hx h)
     ·cases e
  ·have e:oB l P (cZ l P n) d s=some (v,s'):=e
   unfold oB at e
   split at e
   ·split at e
    ·have:=val 1 (aB l s.a).a (aB l (s.a+1)).t (aX (aX s)) h
     rw[Option.some.inj e]at this
     exact this
    ·have:=val 1 (aB l s.a).a [] _ (fail (aX s) 5 h)
     rw[Option.some.inj e]at this
     exact this
   ·split at e
    ·split at e
     ·cases e;exact h
     ·cases e;exact kD _ _ (expr _ h)
    ·split at e
     ·split at e
      ·cases e
      ·rename_i b s1 hb
       have h1:=ib _ _ _ _ hb (expr (aX s) h)
       split at e
       ·split at e
        ·cases e
        ·rename_i b2 s2 hb2
         cases e
         exact ib _ _ _ _ hb2 h1
       ·cases e;exact h1
     ·split at e
      ·split at e
       ·cases e
       ·rename_i b s1 hb
        cases e
        exact ib _ _ _ _ hb (expr (aX s) h)
      ·split at e
       ·have:=val 2 (aB l s.a).a (aB l s.a).t (aX s) h
        rw[Option.some.inj e]at this
        exact this
       ·cases e;exact kD _ _ (expr _ h)
end Go.VM
end
section
/- Files: where a file's names stand; where it is wrong. -/
set_option maxRecDepth 100000
namespace Go.VM
open Go.RowKit
section
variable{l:List Tz}{N:Nat}{S:Nat→R (List Sx)}
theorem eA(g:GoodT N l){k:Int}{x:List Nat}{a:Nat}:ErrP N (bP l k x a):=by
 unfold bP
 split
 ·exact .ok
 ·exact .fail g (by decide)
theorem lA(g:GoodT N l){a:Nat}:ErrP N (fName l a):=by
 unfold fName
 split
 ·exact .ok
 ·exact .fail g (by decide)
theorem sZ(g:GoodT N l){a:Nat}:ErrP N (cJ l a):=by
 intro a1 d p c h
 unfold cJ at h
 split at h
 ·cases h
 ·rename_i h1
  obtain⟨i,hi⟩:=aSw h1
  have q:=wO h1
  cases h
  rw[hi]
  exact⟨(g.range i).1,(g.range i).2,q.1⟩
 ·cases h
theorem oK(g:GoodT N l){a:Nat}:ErrP N (cL l a):=.bind (lA g) fun _ _=>.bind (sZ g) fun _ _=>.ok
theorem aKb{α:Type}(g:GoodT N l){rd:Nat→R α}(hr:∀a,ErrP N (rd a)){to:List Nat}:∀(n:Nat) (acc:List α) (a:Nat),ErrP N (iK l rd to n acc a)
 |0,_,_=>.out
 |n+1,acc,a=>by
  unfold iK
  refine .bind (hr a) fun x a1=>?_
  split
  ·exact aKb g hr n _ _
  ·exact .bind (eA g) fun _ _=>.ok
theorem nY{α:Type}(g:GoodT N l){rd:Nat→R α}(hr:∀a,ErrP N (rd a)){to:List Nat}{none:Bool}{m a:Nat}:ErrP N (bS l rd to none m a):=by
 unfold bS
 split
 ·exact .ok
 ·exact aKb g hr _ _ _
theorem aKk(g:GoodT N l){to:List Nat}{a:Nat}:ErrP N (xQ l to a):=by
 unfold xQ
 split
 ·exact .ok
 ·exact .bind (sZ g) fun _ _=>.ok
theorem aHv(g:GoodT N l){m a:Nat}:ErrP N (eZ l m a):=
 .bind (lA g) fun _ _=>.bind (eA g) fun _ _=>.bind (nY g fun _=>sZ g) fun _ _=>.bind (aKk g) fun _ _=>.bind (eA g) fun _ _=>.ok
theorem aGj{α:Type}{rd:Nat→R α}(hr:∀a,ErrP N (rd a)):∀(n:Nat) (acc:List α) (a:Nat),ErrP N (fTo l rd n acc a)
 |0,_,_=>.out
 |n+1,acc,a=>by
  unfold fTo
  split
  ·exact .ok
  ·exact .bind (hr a) fun x a1=>aGj hr n _ _
theorem aLy(g:GoodT N l){a:Nat}:ErrP N (jV l a):=.bind (oK g) fun _ _=>.bind (eA g) fun _ _=>.ok
theorem aRh(g:GoodT N l){m a:Nat}:ErrP N (eW l m a):=by
 refine .bind (lA g) fun t a1=>?_
 split
 ·exact .bind (eA g) fun _ _=>.bind (aGj (fun _=>aHv g) _ _ _) fun _ _=>.ok
 ·exact .bind (eA g) fun _ _=>.bind (eA g) fun _ _=>.bind (aGj (fun _=>aLy g) _ _ _) fun _ _=>.ok
theorem aSe(hs:∀a,ErrP N (S a)){p nm mt rv bs fs has res a}:ErrP N (mV l S p nm mt rv bs fs has res a):=by
 intro a1 d q c h
 unfold mV at h
 split at h
 ·cases h
 ·rename_i h1;cases h;exact hs _ _ _ _ _ h1
 ·cases h
theorem aTm(g:GoodT N l)(hs:∀a,ErrP N (S a)){m p nm mt rv bs a}:ErrP N (fJ3 l S m p nm mt rv bs a):=
 .bind (eA g) fun _ _=>.bind (nY g fun _=>oK g) fun _ _=>.bind (aKk g) fun _ _=>aSe hs
theorem aTl(g:GoodT N l)(hs:∀a,ErrP N (S a)){m mt rv a}:ErrP N (fJ4 l S m mt rv a):=by
 refine .bind (lA g) fun t a1=>?_
 split
 ·exact .bind (nY g fun _=>oK g) fun _ _=>aTm g hs
 ·exact aTm g hs
theorem aPs(g:GoodT N l)(hs:∀a,ErrP N (S a)){m a}:ErrP N (kT l S m a):=by
 unfold kT
 split
 ·exact .bind (oK g) fun _ _=>.bind (eA g) fun _ _=>aTl g hs
 ·exact aTl g hs
theorem aRa(g:GoodT N l)(hs:∀a,ErrP N (S a)){m a}:ErrP N (nH l S m a):=by
 unfold nH
 split
 ·exact aRh g
 ·split
  ·exact aPs g hs
  ·exact .fail g (by decide)
theorem yG(g:GoodT N l)(hs:∀a,ErrP N (S a)){m:Nat}:∀(n:Nat) (acc:List Dx) (a:Nat),ErrP N (fE l S m n acc a)
 |0,_,_=>.out
 |n+1,acc,a=>by
  unfold fE
  split
  ·exact .ok
  ·exact .bind (aRa g hs) fun x a1=>yG g hs n _ _
theorem aDw(g:GoodT N l):∀(n:Nat) (acc:List Im) (a:Nat),ErrP N (hH l n acc a)
 |0,_,_=>.out
 |n+1,acc,a=>by
  unfold hH
  split
  ·exact .ok
  ·exact .bind (lA g) fun _ _=>.bind (eA g) fun _ _=>aDw g n _ _
theorem aSh(g:GoodT N l)(hs:∀a,ErrP N (S a)){m:Nat}:ErrP N (jZ l S m):=
 .bind (eA g) fun _ _=>.bind (lA g) fun _ _=>.bind (eA g) fun _ _=>.bind (aDw g _ _ _) fun _ _=>.bind (yG g hs _ _ _) fun _ _=>.ok
theorem bBo(g:GoodT N l)(a:Nat):ErrP N (PL l a):=by
 intro a1 d p c h
 by_cases ha:a≤l.length
 ·obtain⟨h1,M,h2⟩:=rL l ha
  have h2:=h2 M (Nat.le_refl _)
  rw[h]at h2
  exact(aJn g M).expr 1 a 0 _ _ _ _ h2
 ·unfold PL at h
  rw[dif_neg ha]at h
  cases h
theorem bAa(g:GoodT N l)(a:Nat):ErrP N (ST l a):=by
 intro a1 d p c h
 unfold ST at h
 split at h
 ·rename_i e
  obtain⟨m,hm⟩:=Classical.choose_spec e.2
  generalize Classical.choose e.2=r at h hm
  unfold xW at h
  cases hf:cD r.2 with
  |true=>rw[hf]at h;cases h
  |false=>
   rw[hf]at h
   have hc:r.2.c≠0:=fun e=>by rw[fS.2 e]at hf;cases hf
   have:=(bAy g (bBo g) m).1 0 ⟨a,0,0⟩ r.1 r.2 hm (fun e=>absurd rfl e) hc
   cases h
   exact⟨this.1,this.2,hc⟩
 ·cases h
theorem bCc(g:GoodT N l):ErrP N (FL l):=aSh g (bAa g)
end
def aKw(s:List Nat):Int→List Im→Prop
 |_,[]=>True
 |at',i::r=>lY s i.a i.n∧at'<i.a∧aKw s i.a r
def pK:Int→List Im→Int
 |at',[]=>at'
 |_,i::r=>pK i.a r
structure DeclOk(s:List Nat)(at':Int)(d:Dx):Prop where
 name:lY s d.a d.n
 lt:at'<d.a
 le:d.a<d.e
 shut:∃e:Nat,d.e=((e+1:Nat):Int)∧e<s.length∧s[e]? =some 125
 fields:∀p∈d.fs,lY s p.a p.n∧at'<p.a∧p.a<d.e
def aAr(s:List Nat):Int→List Dx→Prop
 |_,[]=>True
 |at',d::r=>DeclOk s at' d∧aAr s d.e r
def Bef(l:List Tz)(p:Int)(i:Nat):Prop:=∀j,i≤j→(aB l j).k≠0→p<(aB l j).a
section
variable{s:List Nat}{l:List Tz}
theorem aLi(g:GoodT s.length l){i:Nat}(h:(aB l i).k≠0):Bef l (aB l i).a (i+1):=by
 intro j hj hk
 have:=g.sorted (i:=i) (j:=j) (by omega) (cF hk)
 have:=g.lt (g.kind h)
 omega
theorem Nm.at(g:GoodT s.length l)(tx:tT s l){lo hi:Nat}{p:Int}{nm:List Nat}(h:Nm l lo hi p nm){q:Int}(hb:Bef l q lo):lY s p nm∧q<p:=by
 obtain⟨i,h1,h2,h3,h4,h5⟩:=h
 have hk:(aB l i).k≠0:=by rw[h3];decide
 rw[h4,h5]
 exact⟨zF g tx hk,hb i h1 hk⟩
theorem aUh(g:GoodT s.length l)(tx:tT s l):∀(n:Nat) (acc:List Im) (a:Nat) (xs:List Im) (a':Nat) (p:Int),hH l n acc a=.ok xs a'→Bef l p a→∃r,xs=acc++r∧aKw s p r∧Bef l (pK p r) a':=by
 intro n
 induction n with
 |zero=>intro acc a xs a' p h;cases h
 |succ n ih=>
  intro acc a xs a' p h hb
  unfold hH at h
  split at h
  ·cases h;exact⟨[],(List.append_nil _).symm,trivial,hb⟩
  ·obtain⟨t,a1,h1,h⟩:=R.aF h
   obtain⟨_,a2,h2,h⟩:=R.aF h
   have q1:=cA h1
   have q2:=aN (by decide) h2
   have nm:=(lK h1).at g tx (q:=p) (fun j hj=>hb j (by omega))
   have hk:(aB l (a+1)).k≠0:=by rw[q1.2.2.2];decide
   obtain⟨r,e,h3,h4⟩:=ih _ _ _ _ t.a h (fun j hj hkj=>by
    rw[q1.2.2.1]
    exact aLi g hk j (by omega) hkj)
   exact⟨⟨t.t,t.a⟩::r,by rw[e];simp,⟨nm.1,nm.2,h3⟩,h4⟩
theorem DeclAt.ok(g:GoodT s.length l)(tx:tT s l){a a':Nat}{d:Dx}(h:DeclAt l a a' d){p:Int}(hb:Bef l p a):DeclOk s p d∧Bef l d.e (a'+1):=by
 obtain⟨e,h1,h2,h3,h4⟩:=aNc g tx h.shut
 have hk:(aB l (a'-1)).k≠0:=by rw[aQa h.shut];decide
 have nm:=h.name.at g tx hb
 have bf:∀{q:Int} {nm:List Nat},Nm l a (a'-1) q nm→q<d.e:=by
  intro q nm hn
  obtain⟨i,k1,k2,k3,k4,k5⟩:=hn
  rw[k4,h.stop]
  have hki:(aB l i).k≠0:=by rw[k3];decide
  have:=g.sorted k2 (cF hk)
  have:=g.lt (g.kind hki)
  have:=g.lt (g.kind hk)
  omega
 refine⟨⟨nm.1,nm.2,bf h.name,⟨e,by rw[h.stop,h1],h2,h3⟩,fun q hq=>?_⟩,fun j hj hkj=>?_⟩
 ·have:=(h.fields q hq).at g tx hb
  exact⟨this.1,this.2,bf (h.fields q hq)⟩
 ·rw[h.stop]
  have hkl:=cF hkj
  have q1:=g.sorted (i:=a'-1) (j:=a') (by have:=h.lt;omega) (by omega)
  have q2:=g.sorted (i:=a') (j:=j) (by omega) hkl
  have q3:=g.lt (i:=a') (by omega)
  omega
theorem aMb(g:GoodT s.length l)(tx:tT s l){S:Nat→R (List Sx)}(hS:StmOk l S)(hb:bBp l S){m:Nat}:∀(n:Nat) (acc:List Dx) (a:Nat) (xs:List Dx) (a':Nat) (p:Int),fE l S m n acc a=.ok xs a'→Bef l p (a+1)→∃r,xs=acc++r∧aAr s p r:=by
 intro n
 induction n with
 |zero=>intro acc a xs a' p h;cases h
 |succ n ih=>
  intro acc a xs a' p h hbf
  unfold fE at h
  split at h
  ·cases h;exact⟨[],(List.append_nil _).symm,trivial⟩
  ·obtain⟨d,a1,h1,h⟩:=R.aF h
   have da:DeclAt l (a+1) a1 d:=by
    unfold nH at h1
    split at h1
    ·exact aFd h1
    ·split at h1
     ·exact aWq hS hb h1
     ·cases h1
   have q:=da.ok g tx hbf
   obtain⟨r,e,h3⟩:=ih _ _ _ _ d.e h q.2
   exact⟨d::r,by rw[e];simp,q.1,h3⟩
theorem aVt(g:GoodT s.length l)(tx:tT s l)(hl:l.length<19999)(hT:∀t∈l,t.t.length<big){f:FileX}{a:Nat}(h:FL l=.ok f a):lY s f.a f.n∧aKw s f.a f.is∧aAr s (pK f.a f.is) f.ds:=by
 unfold FL at h
 obtain⟨_,a1,h1,h⟩:=R.aF h
 obtain⟨t,a2,h2,h⟩:=R.aF h
 obtain⟨_,a3,h3,h⟩:=R.aF h
 obtain⟨is,a4,h4,h⟩:=R.aF h
 obtain⟨ds,a5,h5,h⟩:=R.aF h
 cases h
 have q1:=cA h2
 have q2:=aN (by decide) h3
 have hk:(aB l a1).k≠0:=by rw[q1.2.2.2];decide
 have nm:lY s t.a t.t:=by rw[q1.2.2.1];exact zF g tx hk
 have b0:Bef l t.a a3:=by rw[q1.2.2.1];exact fun j hj=>aLi g hk j (by omega)
 obtain⟨r,e,h6,h7⟩:=aUh g tx _ _ _ _ _ _ h4 b0
 obtain⟨r2,e2,h8⟩:=aMb g tx (aJs hl hT) (aVv l) _ _ _ _ _ _ h5 (fun j hj=>h7 j (by omega))
 rw[List.nil_append]at e e2
 subst e
 subst e2
 exact⟨nm,h6,h8⟩
end
end Go.VM
end
