/- laid for this seat: VzT VzU VqT VzV VzW VzX VqU -/
import Derived.Test.YtipiffhjilidlaaGreatDoorVg9
import Derived.Test.YtipiffhjilidlaaGreatDoorVh5
import Derived.Test.YtipiffhjilidlaaGreatDoorVh4
set_option linter.unusedVariables false
set_option linter.unusedSimpArgs false
section
/- Statements: the same tokens elsewhere give the same statements, moved. -/
set_option maxRecDepth 100000
namespace Go.VM
open Go.RowKit
mutual
def aWv(b:Int):Sx→Sx
 |.mk k a nm has x body els=>.mk k (a+b) nm has (match Nat.beq k 3&&!has with|true=>x|false=>shX b x) (aJg b body) (aJg b els)
def aJg(b:Int):List Sx→List Sx
 |[]=>[]
 |x::l=>aWv b x::aJg b l
end
def shS(k:Nat)(s:Sr):Sr:=⟨s.a+k,s.p,s.c⟩
structure TokS(lo n k:Nat)(b:Int)(l l':List Tz)(P P':Nat→R Ex):Prop where
 tok:∀i,lo≤i→i<n→aA l' (i+k)=shZ b (aA l i)
 els:isF l' (n+k) 5 uN=false
 expr:∀a x a',lo≤a→P a=.ok x a'→a'<n→uS (aA l a')=true→P' (a+k)=.ok (shX b x) (a'+k)
section
variable{lo n k:Nat}{b:Int}{l l':List Tz}{P P':Nat→R Ex}
theorem TokS.is(t:TokS lo n k b l l' P P'){s:Sr}(h0:lo≤s.a)(h:s.a<n)(kk:Int)(x:List Nat):isS l' (shS k s) kk x=isS l s kk x:=by
 unfold isS isF
 show(bJ s&&(decide ((aA l' (s.a+k)).k=kk)&&decide ((aA l' (s.a+k)).t=x)))=_
 rw[t.tok _ h0 h]
 rfl
theorem aQn(s:Sr):bA (shS k s)=shS k (bA s):=by
 unfold bA shS
 simp only
 rw[show s.a+k+1=s.a+1+k by omega]
theorem yL{s:Sr}{x:List Nat}(h:(bI l s x).c=0):isS l s 4 x=true∧bI l s x=bA s∧isF l s.a 4 x=true:=by
 unfold bI at h⊢
 cases hi:isS l s 4 x with
 |true=>exact⟨rfl,rfl,(aWb hi).2⟩
 |false=>
  rw[hi]at h
  exfalso
  unfold eA at h
  cases hf:bJ s with
  |true=>
   rw[hf]at h
   have h:(5:Int)=0:=h
   exact absurd h (by decide)
  |false=>
   rw[hf]at h
   exact(of_decide_eq_false hf) h
theorem aNs{s:Sr}{c:Int}(hc:c≠0)(h:(eA l s c).c=0):False:=by
 unfold eA at h
 cases hf:bJ s with
 |true=>rw[hf]at h;exact hc h
 |false=>rw[hf]at h;exact(of_decide_eq_false hf) h
theorem TokS.qZ(t:TokS lo n k b l l' P P'){s:Sr}(h0:lo≤s.a){x:List Nat}(h:(bI l s x).c=0)(hn:(bI l s x).a≤n):bI l' (shS k s) x=shS k (bI l s x):=by
 obtain⟨h1,h2,h3⟩:=yL h
 rw[h2]at hn⊢
 have hn:s.a+1≤n:=hn
 unfold bI
 rw[t.is h0 (by omega),h1]
 exact aQn s
theorem aNv(hP:ParseOk l P){s:Sr}(hs:s.a≤l.length)(h:(aS P s).2.c=0):s.c=0∧∃x a',P s.a=.ok x a'∧aS P s=(x,⟨a',0,0⟩):=by
 unfold aS at h⊢
 cases hf:bJ s with
 |false=>rw[hf]at h;exact absurd h (of_decide_eq_false hf)
 |true=>
  rw[hf]at h
  refine⟨mA.1 hf,?_⟩
  cases hr:P s.a with
  |ok x a'=>exact⟨x,a',rfl,rfl⟩
  |er a d p c=>rw[hr]at h;exact absurd h (hP.er _ _ _ _ _ hr)
  |out=>have:=hP.known _ hs;rw[hr]at this;cases this
theorem TokS.exp(t:TokS lo n k b l l' P P')(hP:ParseOk l P){s:Sr}(h0:lo≤s.a)(hs:s.a≤l.length)(h:(aS P s).2.c=0)(hn:(aS P s).2.a<n)(hst:uS (aA l (aS P s).2.a)=true):aS P' (shS k s)=(shX b (aS P s).1,shS k (aS P s).2):=by
 obtain⟨h1,x,a',h2,h3⟩:=aNv hP hs h
 rw[h3]at hn hst⊢
 have e:=t.expr _ _ _ h0 h2 hn hst
 unfold aS
 rw[show bJ (shS k s)=true from decide_eq_true h1]
 show(match P' (s.a+k)with|.ok x n=>(x,(⟨n,0,0⟩:Sr))|.er _ _ p c=>(zX,⟨s.a+k,p,c⟩)|.out=>(zX,shS k s))=_
 rw[e]
 rfl
theorem aSz{a:Nat}{x:List Nat}(h:isF l a 4 x=true)(hx:x=[59]∨x=[123]):uS (aA l a)=true:=by
 unfold isF at h
 simp only[Bool.and_eq_true,decide_eq_true_eq]at h
 unfold uS
 rw[h.1,h.2]
 rcases hx with rfl|rfl<;>rfl
theorem TokS.val(t:TokS lo n k b l l' P P')(hP:ParseOk l P){s:Sr}(h0:lo≤s.a)(hs:s.a≤l.length){kk:Nat}(hk:Nat.beq kk 3=false){p:Int}{nm:List Nat}(h:(jV l P kk p nm s).2.c=0)(hn:(jV l P kk p nm s).2.a≤n):
  jV l' P' kk (p+b) nm (shS k s)=(aWv b (jV l P kk p nm s).1,shS k (jV l P kk p nm s).2):=by
 have m1:=cN hs (x:=[61])
 have m2:=bS hP m1.len
 have m3:=cN m2.len (x:=[59])
 unfold jV at h hn⊢
 have h:(bI l (aS P (bI l s [61])).2 [59]).c=0:=h
 have hn:(bI l (aS P (bI l s [61])).2 [59]).a≤n:=hn
 have c2:=m3.lJ h
 have c1:=m2.lJ c2
 obtain⟨q1,q2,q3⟩:=yL h
 have a1:(bI l s [61]).a≤n:=by have:=m2.le;have:=m3.le;omega
 have a2:(aS P (bI l s [61])).2.a<n:=by have:=m3.lt h;omega
 rw[t.qZ h0 c1 a1,t.exp hP (by have:=m1.le;omega) m1.len c2 a2 (aSz q3 (.inl rfl)),t.qZ (by have:=m1.le;have:=m2.le;omega) h hn]
 simp only[aWv,aJg,hk,Bool.false_and]
end
end Go.VM
end
section
/- Statements: how much there is of what was read. -/
set_option maxRecDepth 100000
namespace Go.VM
open Go.RowKit
mutual
def okT(K:Nat):Tx→Prop
 |.mk _ _ _ _ l=>l.length≤K∧aXz K l
def aXz(K:Nat):List Tx→Prop
 |[]=>True
 |x::l=>okT K x∧aXz K l
end
mutual
def okX(K:Nat):Ex→Prop
 |.mk _ _ _ _ _ t args=>okT K t∧args.length≤K∧aCi K args
def aCi(K:Nat):List Ex→Prop
 |[]=>True
 |x::l=>okX K x∧aCi K l
end
mutual
def okS(K:Nat):Sx→Prop
 |.mk _ _ _ _ x body els=>okX K x∧(body.length≤K∧wY K body)∧(els.length≤K∧wY K els)
def wY(K:Nat):List Sx→Prop
 |[]=>True
 |x::l=>okS K x∧wY K l
end
theorem aBw{K:Nat}:∀{l:List Ex} {x:Ex},aCi K l→okX K x→aCi K (l++[x])
 |[],x,_,h=>⟨h,trivial⟩
 |y::l,x,h,k=>⟨h.1,aBw h.2 k⟩
theorem aCv{K:Nat}:∀{l:List Sx} {x:Sx},wY K l→okS K x→wY K (l++[x])
 |[],x,_,h=>⟨h,trivial⟩
 |y::l,x,h,k=>⟨h.1,aCv h.2 k⟩
theorem aBu{K:Nat}:∀{l:List Tx} {x:Tx},aXz K l→x∈l→okT K x
 |y::l,x,h,hm=>by
  cases hm with
  |head=>exact h.1
  |tail _ hm=>exact aBu h.2 hm
theorem aCx{K:Nat}:∀{l:List Ex} {x:Ex},aCi K l→x∈l→okX K x
 |y::l,x,h,hm=>by
  cases hm with
  |head=>exact h.1
  |tail _ hm=>exact aCx h.2 hm
theorem aDa{K:Nat}:∀{l:List Sx} {x:Sx},wY K l→x∈l→okS K x
 |y::l,x,h,hm=>by
  cases hm with
  |head=>exact h.1
  |tail _ hm=>exact aDa h.2 hm
theorem uV{K:Nat}:okT K zT:=⟨Nat.zero_le _,trivial⟩
theorem aKo{K:Nat}:okX K zX:=⟨uV,Nat.zero_le _,trivial⟩
theorem nV{K k:Nat}{a e n:Int}{nm:List Nat}:okX K (.mk k a e nm n zT []):=⟨uV,Nat.zero_le _,trivial⟩
theorem aBv{K:Nat}(hK:1≤K):∀(ls:List Int) {x:Tx},okT K x→okT K (hY ls x)
 |[],x,h=>h
 |p::ls,x,h=>⟨hK,aBv hK ls h,trivial⟩
theorem aXl{K:Nat}(hK:1≤K){l:List Tz}{a:Nat}{x:Tx}{a2:Nat}(h:tyF l a=.ok x a2):okT K x:=by
 unfold tyF at h
 split at h
 ·cases h
 ·split at h
  ·rename_i y a3 hb
   cases h
   refine aBv hK _ ?_
   unfold dD at hb
   split at hb
   ·cases hb;exact⟨Nat.zero_le _,trivial⟩
   ·split at hb
    ·split at hb
     ·split at hb
      ·cases hb;exact⟨Nat.zero_le _,trivial⟩
      ·cases hb
     ·cases hb;exact⟨Nat.zero_le _,trivial⟩
    ·cases hb
  ·cases h
  ·cases h
structure BdF(l:List Tz)(f:Fns):Prop where
 expr:∀lv a d x a',f.expr lv a d=.ok x a'→okX (l.length+2) x
 oper:∀a d x a',f.oper a d=.ok x a'→okX (l.length+2) x
 prim:∀a d x a',f.prim a d=.ok x a'→okX (l.length+2) x
 list:∀to a d r a',f.list to a d=.ok r a'→aCi (l.length+2) r.1∧r.1.length≤l.length
 bin:∀lv x a d y a',okX (l.length+2) x→f.bin lv x a d=.ok y a'→okX (l.length+2) y
 post:∀x a d y a',okX (l.length+2) x→f.post x a d=.ok y a'→okX (l.length+2) y
 elts:∀acc a d es a',aCi (l.length+2) acc→acc.length≤a→f.elts acc a d=.ok es a'→aCi (l.length+2) es∧es.length≤a'
theorem aUx{l:List Tz}{f:Fns}(pf:ProgF f)(h:BdF l f):BdF l ⟨fH f,gK l f,cA l f,dY l f,kL l f,gU l f,eW l f⟩:=by
 refine⟨fun lv a d x a' e=>?_,fun a d x a' e=>?_,fun a d x a' e=>?_,fun to a d r a' e=>?_,fun lv x a d y a' hx e=>?_,fun x a d y a' hx e=>?_,fun acc a d es a' hacc hlen e=>?_⟩
 ·have e:fH f lv a d=.ok x a':=e
  unfold fH at e
  split at e
  ·exact h.oper _ _ _ _ e
  ·obtain⟨y,a1,e1,e2⟩:=bT e
   exact h.bin _ _ _ _ _ _ (h.expr _ _ _ _ _ e1) e2
 ·have e:gK l f a d=.ok x a':=e
  unfold gK at e
  split at e
  ·obtain⟨y,a1,e1,e2⟩:=bT e
   cases e2
   exact⟨uV,by simp,h.oper _ _ _ _ (eZ e1),trivial⟩
  ·obtain⟨y,a1,e1,e2⟩:=bT e
   exact h.post _ _ _ _ _ (h.prim _ _ _ _ e1) e2
 ·have e:cA l f a d=.ok x a':=e
  unfold cA at e
  split at e
  ·obtain⟨n,a1,e1,e2⟩:=bT e
   cases e2
   exact nV
  ·split at e
   ·split at e
    ·cases e;exact nV
    ·cases e
   ·split at e
    ·cases e;exact nV
    ·split at e
     ·cases e;exact nV
     ·split at e
      ·cases e;exact nV
      ·split at e
       ·obtain⟨y,a1,e1,e2⟩:=bT e
        obtain⟨z,a2,e3,e4⟩:=bT e2
        cases e4
        exact h.expr _ _ _ _ _ (eZ e1)
       ·split at e
        ·obtain⟨ty,a1,r,ht,hi,e1,rfl⟩:=aCp e
         have:=h.list _ _ _ _ _ e1
         exact⟨aXl (by omega) ht,by omega,this.1⟩
        ·cases e
 ·have e:dY l f to a d=.ok r a':=e
  unfold dY at e
  obtain⟨es,a1,e1,e2⟩:=bT e
  obtain⟨z,a3,e3,e4⟩:=bT e2
  cases e4
  have hk:=cH (l:=l) (a:=a1) (by rw[(nS e3).2.2];decide)
  have e1:=eZ e1
  unfold eN at e1
  split at e1
  ·cases e1;exact⟨trivial,Nat.zero_le _⟩
  ·have:=h.elts [] _ _ _ _ trivial (Nat.zero_le _) e1
   exact⟨this.1,by show es.length≤_;omega⟩
 ·have e:kL l f lv x a d=.ok y a':=e
  unfold kL at e
  split at e
  ·obtain⟨z,a2,e1,e2⟩:=bT e
   refine h.bin _ _ _ _ _ _ ?_ e2
   exact⟨uV,by simp,hx,h.expr _ _ _ _ _ e1,trivial⟩
  ·cases e;exact hx
 ·have e:gU l f x a d=.ok y a':=e
  unfold gU at e
  split at e
  ·split at e
   ·refine h.post _ _ _ _ _ ?_ e
    exact⟨uV,by simp,hx,trivial⟩
   ·cases e
  ·split at e
   ·obtain⟨r,a1,e1,e2⟩:=bT e
    have:=h.list _ _ _ _ _ e1
    refine h.post _ _ _ _ _ ?_ e2
    exact⟨uV,by simp;omega,hx,this.1⟩
   ·split at e
    ·obtain⟨z,a1,e1,e2⟩:=bT e
     obtain⟨w,a2,e3,e4⟩:=bT e2
     refine h.post _ _ _ _ _ ?_ e4
     exact⟨uV,by simp,hx,h.expr _ _ _ _ _ (eZ e1),trivial⟩
    ·cases e;exact hx
 ·have e:eW l f acc a d=.ok es a':=e
  unfold eW at e
  obtain⟨x,a1,e1,e2⟩:=bT e
  have p:=pf.expr _ _ _ _ _ e1
  have q:=aBw hacc (h.expr _ _ _ _ _ e1)
  split at e2
  ·exact h.elts _ _ _ _ _ q (by simp;omega) e2
  ·cases e2
   exact⟨q,by simp;omega⟩
theorem aPa(l:List Tz):∀n,BdF l (fns l n)
 |0=>⟨fun _ _ _ _ _ e=>(by cases e),fun _ _ _ _ e=>(by cases e),fun _ _ _ _ e=>(by cases e),fun _ _ _ _ _ e=>(by cases e),fun _ _ _ _ _ _ _ e=>(by cases e),fun _ _ _ _ _ _ e=>(by cases e),fun _ _ _ _ _ _ _ e=>(by cases e)⟩
 |n+1=>aUx (mO l n) (aPa l n)
section
variable{l:List Tz}{P:Nat→R Ex}
structure BdS(l:List Tz)(f:Sf):Prop where
 block:∀d s v s',s.a≤l.length→f.block d s=some (v,s')→s'.c=0→wY (l.length+2) v∧v.length≤l.length
 loop:∀d acc s v s',s.a≤l.length→wY (l.length+2) acc→acc.length≤s.a→f.loop d acc s=some (v,s')→s'.c=0→wY (l.length+2) v∧v.length≤l.length
 stmt:∀d s v s',s.a≤l.length→f.stmt d s=some (v,s')→s'.c=0→okS (l.length+2) v
theorem kY(hx:∀a x n,P a=.ok x n→okX (l.length+2) x)(s:Sr):okX (l.length+2) (aS P s).1:=by
 unfold aS
 split
 ·split
  ·rename_i h;exact hx _ _ _ h
  ·exact aKo
  ·exact aKo
 ·exact aKo
theorem aRd(hP:ParseOk l P)(hx:∀a x n,P a=.ok x n→okX (l.length+2) x){f:Sf}(iv:InvS l f)(h:BdS l f):BdS l ⟨dN l f,gS l f,jQ l P f⟩:=by
 refine⟨fun d s v s' hs e hc=>?_,fun d acc s v s' hs ha hl e hc=>?_,fun d s v s' hs e hc=>?_⟩
 ·have e:dN l f d s=some (v,s'):=e
  unfold dN at e
  split at e
  ·cases e;exact(aNs (by decide) hc).elim
  ·exact h.loop _ [] _ _ _ (cN hs).len trivial (Nat.zero_le _) e hc
 ·have e:gS l f d acc s=some (v,s'):=e
  unfold gS at e
  split at e
  ·cases e;exact⟨ha,by omega⟩
  ·split at e
   ·cases e;exact⟨ha,by omega⟩
   ·split at e
    ·rename_i x s1 hx
     have m1:=iv.stmt _ _ _ _ hs hx
     have m2:=iv.loop _ _ _ _ _ m1.len e
     have c1:=m2.lJ hc
     have:=m1.lt c1
     exact h.loop _ _ _ _ _ m1.len (aCv ha (h.stmt _ _ _ _ hs hx c1)) (by simp;omega) e hc
    ·cases e
 ·have e:jQ l P f d s=some (v,s'):=e
  have val:∀k p nm s2,okS (l.length+2) (jV l P k p nm s2).1:=fun k p nm s2=>⟨kY hx _,⟨Nat.zero_le _,trivial⟩,⟨Nat.zero_le _,trivial⟩⟩
  unfold jQ at e
  split at e
  ·split at e
   ·have v0:=val 1 (aA l s.a).a (aA l (s.a+1)).t (bA (bA s))
    rw[Option.some.inj e]at v0;exact v0
   ·have v0:=val 1 (aA l s.a).a [] (eA l (bA s) 5)
    rw[Option.some.inj e]at v0;exact v0
  ·split at e
   ·split at e
    ·cases e;exact⟨aKo,⟨Nat.zero_le _,trivial⟩,⟨Nat.zero_le _,trivial⟩⟩
    ·cases e;exact⟨kY hx _,⟨Nat.zero_le _,trivial⟩,⟨Nat.zero_le _,trivial⟩⟩
   ·split at e
    ·rename_i hi
     have n1:=aY (eF hi (by decide))
     have m2:=bS hP n1.len
     split at e
     ·cases e
     ·rename_i b s1 hb
      have m3:=iv.block _ _ _ _ m2.len hb
      split at e
      ·rename_i h4
       have n4:=aY (eF h4 (by decide))
       split at e
       ·cases e
       ·rename_i b2 s2 hb2
        have m6:=iv.block _ _ _ _ n4.len hb2
        cases e
        have k1:=h.block _ _ _ _ m2.len hb (n4.lJ (m6.lJ hc))
        have k2:=h.block _ _ _ _ n4.len hb2 hc
        exact⟨kY hx _,⟨by omega,k1.1⟩,⟨by omega,k2.1⟩⟩
      ·cases e
       have k1:=h.block _ _ _ _ m2.len hb hc
       exact⟨kY hx _,⟨by omega,k1.1⟩,⟨Nat.zero_le _,trivial⟩⟩
    ·split at e
     ·rename_i hi
      have n1:=aY (eF hi (by decide))
      have m2:=bS hP n1.len
      split at e
      ·cases e
      ·rename_i b s1 hb
       cases e
       have k1:=h.block _ _ _ _ m2.len hb hc
       exact⟨kY hx _,⟨by omega,k1.1⟩,⟨Nat.zero_le _,trivial⟩⟩
     ·split at e
      ·have v0:=val 2 (aA l s.a).a (aA l s.a).t (bA s)
       rw[Option.some.inj e]at v0;exact v0
      ·cases e;exact⟨kY hx _,⟨Nat.zero_le _,trivial⟩,⟨Nat.zero_le _,trivial⟩⟩
theorem aKc(hP:ParseOk l P)(hx:∀a x n,P a=.ok x n→okX (l.length+2) x):∀n,BdS l (cB l P n)
 |0=>⟨fun _ _ _ _ _ e=>(by cases e),fun _ _ _ _ _ _ _ _ e=>(by cases e),fun _ _ _ _ _ e=>(by cases e)⟩
 |n+1=>aRd hP hx (iL hP n) (aKc hP hx n)
end
end Go.VM
end
section
/- Statements: a parse, of the program's and of the document's, from any place. -/
set_option maxRecDepth 100000
namespace Go.VM
open Go.RowKit
def aUp(l:List Tz):List Sx×Sr:=([],⟨l.length,eI l,5⟩)
theorem aEe{l:List Tz}{P:Nat→R Ex}{d:Nat}{s:Sr}(hc:s.c≠0):(cB l P 2).block d s=some ([],s):=by
 show dN l (cB l P 1) d s=_
 unfold dN nM
 rw[show bJ s=false from decide_eq_false hc,Bool.false_and,Bool.and_false]
 have e:bI l s [123]=s:=by
  unfold bI isS eA
  rw[show bJ s=false from decide_eq_false hc,Bool.false_and]
 show(cB l P 1).loop (d+1) [] (bI l s [123])=_
 rw[e]
 show gS l (cB l P 0) (d+1) [] s=_
 unfold gS
 rw[show bJ s=false from decide_eq_false hc]
theorem aFb{l:List Tz}{P:Nat→R Ex}(hP:ParseOk l P)(hl:l.length<20000)(z:Int)(hz:z<0∨z>l.length)(h:H):
  SCall Go.Proofs.Tryz.prog [0] 6 [lsV l,.int .i64 z] none h (.ret (stV (aUp l))) none h:=by
 refine SCall.more (SCall.cK rfl ?_ (by exact⟨gX l,trivial,trivial⟩) (by exact vO _) h)
 have hl':l.length<4294967296:=by omega
 have bk:=(yP hP hl 3 2 (by omega)).block 0 ⟨l.length,eI l,5⟩ [] ⟨l.length,eI l,5⟩ (by omega) (Nat.le_refl _) (aEe (by show(5:Int)≠0;decide))
 have hf:=jK (l:=l) (d:=0) (s:=⟨l.length,eI l,5⟩) (h:=⟨1001,og (srL l 0 ⟨l.length,eI l,5⟩),[]⟩) (R:=1000) (by decide) rfl
 have fl:=rA (l:=l) (d:=0) (s:=⟨l.length,0,0⟩) (c:=5) hl' (h:=⟨1001,og [(1000,srO l 0 ⟨l.length,0,0⟩)],[(6,[.int .i64 0,.int .i64 0])]⟩) (R:=1000) (by decide) rfl
 have efl:eA l ⟨l.length,0,0⟩ 5=⟨l.length,eI l,5⟩:=by
  unfold eA
  rw[show bJ ⟨l.length,0,0⟩=true from rfl]
  show(⟨l.length,(aA l l.length).a,5⟩:Sr)=_
  rw[gJ (Nat.le_refl _)]
 rw[efl]at fl
 have e:stV (aUp l)=.tup [.lst [] (.ex 0),.int .i64 0,.agg (dgX (eI l) 5)]:=rfl
 rw[e]
 refine SCall.listed (fn:=Go.Proofs.Tryz.f6) (by kernel_rfl) bCq (by kernel_rfl) (by kernel_rfl) (Nat.le_refl _) rfl (trivial) (by exact⟨⟨trivial,trivial⟩,trivial,⟨trivial,trivial,trivial⟩,trivial⟩) ?_
 unfold rc6
 unfold lsV
 repeat apply sQ
 refine WR.q rfl ?_
 refine WR.seq (WR.reg (WQ.aJ [7,12] 1000 _ _ _ _ rfl (WQ.aL ?_)))
 repeat apply sQ
 refine WR.m 2 rfl ?_
 by_cases h0:z<0
 ·rw[show decide (z<0)=true from decide_eq_true h0]
  refine WQ.q rfl ?_
  repeat apply sQ
  refine WR.aB rfl ?_
  repeat apply sQ
  refine WR.m 3 rfl ?_
  rw[List.length_map]
  refine WQ.q rfl ?_
  repeat apply sQ
  refine WR.m 1 rfl ?_
  refine WQ.c rfl fl (.put .base rfl) rfl ?_
  refine WQ.q rfl ?_
  unfold zE
  repeat apply sQ
  refine WR.m 1 rfl ?_
  refine WQ.c rfl (iG bk trivial (by exact⟨bY _,trivial⟩) (h:=⟨1001,og [(1000,srO l 0 ⟨l.length,eI l,5⟩)],[(6,[.int .i64 0,.int .i64 0])]⟩) (R:=1000) (by decide) rfl) (.put .base rfl) rfl ?_
  refine WQ.q rfl ?_
  repeat apply sQ
  refine WR.m 1 rfl ?_
  refine WQ.c rfl (SCall.dX hf _) .base rfl ?_
  refine WQ.q rfl ?_
  repeat apply sQ
  refine WR.aB rfl ?_
  refine WR.seq (WR.aO aV (DW.m 1000 rfl ?_))
  refine DW.stS pQ rfl rfl rfl rfl (DW.m 1000 rfl (DW.cD pQ ?_))
  exact WR.ret ⟨rfl,rfl,⟨_,rfl,vQ⟩,fun b hb=>uA b hb⟩
 ·rw[show decide (z<0)=false from decide_eq_false h0]
  refine WQ.m 4 rfl ?_
  rw[List.length_map]
  refine WQ.m 1 rfl ?_
  rw[show decide (z>(l.length:Int))=true from decide_eq_true (by omega)]
  refine WQ.q rfl ?_
  repeat apply sQ
  refine WR.aB rfl ?_
  repeat apply sQ
  refine WR.m 3 rfl ?_
  rw[List.length_map]
  refine WQ.q rfl ?_
  repeat apply sQ
  refine WR.m 1 rfl ?_
  refine WQ.c rfl fl (.put .base rfl) rfl ?_
  refine WQ.q rfl ?_
  unfold zE
  repeat apply sQ
  refine WR.m 1 rfl ?_
  refine WQ.c rfl (iG bk trivial (by exact⟨bY _,trivial⟩) (h:=⟨1001,og [(1000,srO l 0 ⟨l.length,eI l,5⟩)],[(6,[.int .i64 0,.int .i64 0])]⟩) (R:=1000) (by decide) rfl) (.put .base rfl) rfl ?_
  refine WQ.q rfl ?_
  repeat apply sQ
  refine WR.m 1 rfl ?_
  refine WQ.c rfl (SCall.dX hf _) .base rfl ?_
  refine WQ.q rfl ?_
  repeat apply sQ
  refine WR.aB rfl ?_
  refine WR.seq (WR.aO aV (DW.m 1000 rfl ?_))
  refine DW.stS pQ rfl rfl rfl rfl (DW.m 1000 rfl (DW.cD pQ ?_))
  exact WR.ret ⟨rfl,rfl,⟨_,rfl,vQ⟩,fun b hb=>uA b hb⟩
theorem aId(l:List Tz)(hl:l.length<20000)(z:Int)(hz:z<0∨z>l.length)(h:H):
  SCall Go.Proofs.Tryz.prog [] 7 [lsV l,.int .i64 z] none h (.ret (stV (aUp l))) none h:=by
 refine SCall.cK rfl ?_ (by exact⟨gX l,trivial,trivial⟩) (by exact vO _) h
 have hl':l.length<4294967296:=by omega
 have etk:cZ l z=⟨0,eI l,eI l,[]⟩:=by
  by_cases h0:z<0
  ·unfold cZ
   rw[decide_eq_false (by omega)]
  ·obtain⟨a,rfl⟩:∃a:Nat,z=(a:Int):=⟨z.toNat,by omega⟩
   rw[bL,gJ (by omega)]
 have fl:=dS hl' (s:=⟨z,0,0⟩) (c:=5) (h:=⟨1001,og (rrL l ⟨z,0,0⟩),[(6,[.int .i64 0,.int .i64 0])]⟩) (R:=1000) (by decide) rfl
 have efl:dA l ⟨z,0,0⟩ 5=⟨z,eI l,5⟩:=by
  unfold dA
  show(⟨z,(cZ l z).a,5⟩:Rk)=_
  rw[etk]
 rw[efl]at fl
 have e:stV (aUp l)=.tup [.lst [] (.ex 0),.int .i64 0,.agg (dgX (eI l) 5)]:=rfl
 rw[e]
 refine SCall.listed (fn:=Go.Proofs.Tryz.f7) (by kernel_rfl) aYl (by kernel_rfl) (by kernel_rfl) (Nat.le_refl _) rfl (trivial) (by exact⟨⟨trivial,trivial⟩,trivial,⟨trivial,trivial,trivial⟩,trivial⟩) ?_
 unfold rc7
 unfold lsV
 repeat apply sQ
 refine WR.q rfl ?_
 refine WR.seq (WR.reg (WQ.aJ [7,12] 1000 _ _ _ _ rfl (WQ.aL ?_)))
 repeat apply sQ
 refine WR.m 2 rfl ?_
 by_cases h0:z<0
 ·rw[show decide (z<0)=true from decide_eq_true h0]
  refine WQ.q rfl ?_
  repeat apply sQ
  refine WR.aB rfl ?_
  repeat apply sQ
  refine WR.m 1 rfl ?_
  refine WQ.c rfl fl (.put .base rfl) rfl ?_
  refine WQ.q rfl ?_
  refine WR.seq (WR.aO aV (DW.m 1000 rfl ?_))
  refine DW.stS pQ rfl rfl rfl rfl (DW.m 1000 rfl (DW.cD pQ ?_))
  refine WR.ret ⟨rfl,rfl,⟨_,rfl,vQ⟩,fun b hb=>rV b hb⟩
 ·rw[show decide (z<0)=false from decide_eq_false h0]
  refine WQ.m 4 rfl ?_
  rw[List.length_map]
  refine WQ.m 1 rfl ?_
  rw[show decide (z>(l.length:Int))=true from decide_eq_true (by omega)]
  refine WQ.q rfl ?_
  repeat apply sQ
  refine WR.aB rfl ?_
  repeat apply sQ
  refine WR.m 1 rfl ?_
  refine WQ.c rfl fl (.put .base rfl) rfl ?_
  refine WQ.q rfl ?_
  refine WR.seq (WR.aO aV (DW.m 1000 rfl ?_))
  refine DW.stS pQ rfl rfl rfl rfl (DW.m 1000 rfl (DW.cD pQ ?_))
  refine WR.ret ⟨rfl,rfl,⟨_,rfl,vQ⟩,fun b hb=>rV b hb⟩
theorem aMq{l:List Tz}{P:Nat→R Ex}(hP:ParseOk l P)(hl:l.length<20000)(h4:∀a,a≤l.length→∀h:H,SCall Go.Proofs.Tryz.prog [] 48 [lsV l,.int .i64 a] none h (.ret (exV (P a))) none h)(n a:Nat)(ha:a≤l.length){r:List Sx×Sr}(he:(cB l P n).block 0 ⟨a,0,0⟩=some r)(h:H):
  SCall Go.Proofs.Tryz.prog [] 7 [lsV l,.int .i64 a] none h (.ret (stV r)) none h:=by
 obtain⟨v,s'⟩:=r
 refine SCall.cK rfl ?_ (by exact⟨gX l,trivial,trivial⟩) (by exact vO _) h
 obtain⟨es,r,⟨hr,hes⟩,sc⟩:=vE (enc:=fun x=>.lst (cR x) .unk) (fun v=>⟨bY v,trivial⟩) (by exact⟨trivial,trivial⟩) ((xP hP hl h4 (n+1) n (Nat.lt_succ_self n)).block 0 a v s' (by omega) ha he)
 by_cases hc:s'.c=0
 ·obtain⟨es',rfl⟩:=hr.lJ hc
  have e:stV (v,s')=.tup [.lst (cR es) .unk,.int .i64 s'.a,.agg (dgX 0 0)]:=by
   rw[hes hc]
   unfold stV
   rw[show bJ s'=true from decide_eq_true hc]
  rw[e]
  refine SCall.listed (fn:=Go.Proofs.Tryz.f7) (by kernel_rfl) aYl (by kernel_rfl) (by kernel_rfl) (Nat.le_refl _) rfl (trivial) (by exact⟨⟨bY _,trivial⟩,trivial,⟨trivial,trivial,trivial⟩,trivial⟩) ?_
  unfold rc7
  unfold lsV
  repeat apply sQ
  refine WR.q rfl ?_
  refine WR.seq (WR.reg (WQ.aJ [7,12] 1000 _ _ _ _ rfl (WQ.aL ?_)))
  repeat apply sQ
  refine WR.m 2 rfl ?_
  rw[show decide ((a:Int)<0)=false from decide_eq_false (by omega)]
  refine WQ.m 4 rfl ?_
  rw[List.length_map]
  refine WQ.m 1 rfl ?_
  rw[show decide ((a:Int)>(l.length:Int))=false from decide_eq_false (by omega)]
  refine WQ.q rfl ?_
  repeat apply sQ
  refine WR.k rfl ?_
  repeat apply sQ
  refine WR.m 1 rfl ?_
  refine WQ.c rfl (sc (by decide) rfl) (.put .base rfl) rfl ?_
  refine WQ.q rfl ?_
  repeat apply sQ
  refine WR.q rfl ?_
  repeat apply sQ
  refine WR.k rfl ?_
  refine WR.seq (WR.aO aV (DW.m 1000 rfl ?_))
  refine DW.stS pQ rfl rfl rfl rfl (DW.m 1000 rfl (DW.cD pQ ?_))
  refine WR.ret ⟨rfl,rfl,⟨_,rfl,vQ⟩,fun b hb=>rV b hb⟩
 ·have hrc:=hr.code
  have hrp:=(hr.2 hc).1
  have e:stV (v,s')=.tup [.lst [] (.ex 0),.int .i64 0,.agg (dgX r.p r.c)]:=by
   rw[hrc,hrp]
   unfold stV
   rw[show bJ s'=false from decide_eq_false hc]
  rw[e]
  refine SCall.listed (fn:=Go.Proofs.Tryz.f7) (by kernel_rfl) aYl (by kernel_rfl) (by kernel_rfl) (Nat.le_refl _) rfl (trivial) (by exact⟨⟨trivial,trivial⟩,trivial,⟨trivial,trivial,trivial⟩,trivial⟩) ?_
  unfold rc7
  unfold lsV
  repeat apply sQ
  refine WR.q rfl ?_
  refine WR.seq (WR.reg (WQ.aJ [7,12] 1000 _ _ _ _ rfl (WQ.aL ?_)))
  repeat apply sQ
  refine WR.m 2 rfl ?_
  rw[show decide ((a:Int)<0)=false from decide_eq_false (by omega)]
  refine WQ.m 4 rfl ?_
  rw[List.length_map]
  refine WQ.m 1 rfl ?_
  rw[show decide ((a:Int)>(l.length:Int))=false from decide_eq_false (by omega)]
  refine WQ.q rfl ?_
  repeat apply sQ
  refine WR.k rfl ?_
  repeat apply sQ
  refine WR.m 1 rfl ?_
  refine WQ.c rfl (sc (by decide) rfl) (.put .base rfl) rfl ?_
  refine WQ.q rfl ?_
  repeat apply sQ
  refine WR.m 5 rfl ?_
  refine WQ.m 1 rfl ?_
  rw[show decide (r.c=0)=false from decide_eq_false (by rw[hrc];exact hc)]
  refine WQ.q rfl ?_
  repeat apply sQ
  refine WR.aB rfl ?_
  refine WR.seq (WR.aO aV (DW.m 1000 rfl ?_))
  refine DW.stS pQ rfl rfl rfl rfl (DW.m 1000 rfl (DW.cD pQ ?_))
  refine WR.ret ⟨rfl,rfl,⟨_,rfl,vQ⟩,fun b hb=>rV b hb⟩
end Go.VM
end
section
/- Statements: the document's comparing, of what is the same. -/
set_option maxRecDepth 100000
namespace Go.VM
open Go.RowKit
theorem eS:∀l:List Tx,nL l=l.map gL
 |[]=>rfl
 |x::l=>by simp only[nL,List.map_cons,eS l]
def bEo(i:Nat):TM:=[(2,.l 2 0),(3,.l 3 0),(4,.v (.bool false)),(5,.v (.int .i64 i))]
theorem aVk{QN:S→Prop}{QX:X→S→Prop}(k:Nat)(a:Int)(p n:List Nat)(args:List Tx)(hb:args.length<big)
  (ih:∀y∈args,SCall Go.Proofs.Tryz.prog [] 24 [.agg (gL y),.agg (gL y)] none ⟨1000,og [],[]⟩ (.ret (.bool true)) none ⟨1000,og [],[]⟩)
  (h0:∀tm,QX (.exit 0) (SL.toS ⟨tm,[],none,1000,[],[(3,gL (.mk k a p n args)),(2,gL (.mk k a p n args))]⟩)):∀(m i:Nat),i+m=args.length→∀lc,TellL lc [(3,gL (.mk k a p n args)),(2,gL (.mk k a p n args))]→∀tm,TellT tm [(3,gL (.mk k a p n args)),(2,gL (.mk k a p n args))] (bEo i)→
  WLr Go.Proofs.Tryz.prog [] ⟨Go.Proofs.Tryz.f24.ntmps,none,24⟩ tY (SL.toS ⟨tm,[],none,1000,[],lc⟩) QN QX:=by
 intro m
 induction m with
 |zero=>
  intro i hi lc hlc tm htm
  refine WLr.weak (SW.aP htm hlc) ?_
  unfold tY
  refine WLr.of ?_
  repeat apply sQ
  refine WR.m 5 rfl ?_
  rw[eS,List.length_map,show decide ((i:Int)<(args.length:Int))=false from decide_eq_false (by omega)]
  refine WQ.q rfl ?_
  repeat apply sQ
  rw[←eS]
  exact WR.aE rfl (WR.exit (h0 _))
 |succ m ihm=>
  intro i hi lc hlc tm htm
  obtain⟨y,hy⟩:∃y,args[i]? =some y:=⟨args[i],List.getElem?_eq_getElem (by omega)⟩
  have sc:=ih y (List.mem_of_getElem? hy)
  obtain⟨yk,ya,yp,yn,yl⟩:=y
  refine WLr.weak (SW.aP htm hlc) ?_
  unfold tY
  refine WLr.of ?_
  repeat apply sQ
  refine WR.m 5 rfl ?_
  rw[eS,List.length_map,show decide ((i:Int)<(args.length:Int))=true from decide_eq_true (by omega)]
  refine WQ.q rfl ?_
  rw[←eS]
  repeat apply sQ
  refine WR.aB rfl (WR.skip ?_)
  repeat apply sQ
  refine WR.block ?_
  repeat apply sQ
  refine WR.aO aV (DW.m 3 rfl ?_)
  refine DW.nA rfl (fun h=>gC (cs:=gL (.mk yk ya yp yn yl)) rfl rfl (by rw[eS,List.getElem?_map,hy];rfl) rfl) rfl ?_
  refine DW.m 4 rfl ?_
  refine DW.nA rfl (fun h=>gC (cs:=gL (.mk yk ya yp yn yl)) rfl rfl (by rw[eS,List.getElem?_map,hy];rfl) rfl) rfl ?_
  refine DW.m 2 rfl ?_
  refine DW.eP pQ rfl rfl rfl rfl rfl (SCall.dX sc _) .base rfl ?_
  refine DW.m 1000 rfl (DW.cD pQ ?_)
  repeat apply sQ
  refine WR.q rfl ?_
  repeat apply sQ
  refine WR.k rfl ?_
  unfold aJs
  repeat apply sQ
  refine WR.m 2 rfl ?_
  rw[aN (by omega)]
  refine WQ.q rfl ?_
  refine WIr.again (ihm (i+1) (by omega) _ ?_ _ ?_)
  ·exact lQ
  ·exact tQ
theorem aDv(K:Nat)(hK:K<big):∀(N:Nat) (x:Tx),SizeOf.sizeOf x<N→okT K x→SCall Go.Proofs.Tryz.prog [] 24 [.agg (gL x),.agg (gL x)] none ⟨1000,og [],[]⟩ (.ret (.bool true)) none ⟨1000,og [],[]⟩
 |0,x,h,_=>by omega
 |N+1,.mk k a p n args,h,ho=>by
  obtain⟨hlen,hsub⟩:=ho
  have ih:∀y∈args,SCall Go.Proofs.Tryz.prog [] 24 [.agg (gL y),.agg (gL y)] none ⟨1000,og [],[]⟩ (.ret (.bool true)) none ⟨1000,og [],[]⟩:=by
   intro y hy
   refine aDv K hK N y ?_ (aBu hsub hy)
   have:=List.sizeOf_lt_of_mem hy
   simp only[Tx.mk.sizeOf_spec]at h
   omega
  refine SCall.listed (fn:=Go.Proofs.Tryz.f24) (by kernel_rfl) bBo (by kernel_rfl) (by kernel_rfl) (Nat.le_refl _) rfl (trivial) trivial ?_
  unfold aYs
  repeat apply sQ
  refine WR.q rfl ?_
  repeat apply sQ
  refine WR.m 5 rfl ?_
  rw[show decide ((k:Int)=(k:Int))=true from decide_eq_true rfl]
  refine WQ.m 7 rfl ?_
  rw[show decide (a=a)=true from decide_eq_true rfl]
  refine WQ.m 7 rfl ?_
  rw[show decide (p=p)=true from decide_eq_true rfl]
  refine WQ.m 7 rfl ?_
  rw[show decide (n=n)=true from decide_eq_true rfl]
  refine WQ.m 9 rfl ?_
  rw[show decide (((nL args).length:Int)=((nL args).length:Int))=true from decide_eq_true rfl]
  refine WQ.q rfl ?_
  repeat apply sQ
  refine WR.k rfl ?_
  repeat apply sQ
  refine WR.q rfl ?_
  repeat apply sQ
  refine WR.block (WR.loop (aVk k a p n args (by omega) ih (fun tm=>?_) args.length 0 (by omega) _ ?_ _ ?_))
  ·unfold aKj
   repeat apply sQ
   refine WR.q rfl ?_
   exact WR.e
  ·exact lQ
  ·exact tQ
end Go.VM
end
section
/- Statements: the document's comparing, of expressions and statements that are the same. -/
set_option maxRecDepth 100000
namespace Go.VM
open Go.RowKit
def bEt(i:Nat):TM:=[(2,.l 2 0),(3,.l 3 0),(4,.v (.bool false)),(6,.v (.int .i64 i))]
theorem aSw{QN:S→Prop}{QX:X→S→Prop}(k:Nat)(a e:Int)(nm:List Nat)(nn:Int)(tk:Nat)(ta:Int)(tp tn:List Nat)(tl:List Tx)(args:List Ex)(hb:args.length<big)
  (ih:∀y∈args,SCall Go.Proofs.Tryz.prog [] 15 [.agg (bG y),.agg (bG y)] none ⟨1000,og [],[]⟩ (.ret (.bool true)) none ⟨1000,og [],[]⟩)
  (h0:∀tm,QX (.exit 0) (SL.toS ⟨tm,[],none,1000,[],[(3,bG (.mk k a e nm nn (.mk tk ta tp tn tl) args)),(2,bG (.mk k a e nm nn (.mk tk ta tp tn tl) args))]⟩)):∀(m i:Nat),i+m=args.length→∀lc,TellL lc [(3,bG (.mk k a e nm nn (.mk tk ta tp tn tl) args)),(2,bG (.mk k a e nm nn (.mk tk ta tp tn tl) args))]→∀tm,TellT tm [(3,bG (.mk k a e nm nn (.mk tk ta tp tn tl) args)),(2,bG (.mk k a e nm nn (.mk tk ta tp tn tl) args))] (bEt i)→
  WLr Go.Proofs.Tryz.prog [] ⟨Go.Proofs.Tryz.f15.ntmps,none,15⟩ tW (SL.toS ⟨tm,[],none,1000,[],lc⟩) QN QX:=by
 intro m
 induction m with
 |zero=>
  intro i hi lc hlc tm htm
  refine WLr.weak (SW.aP htm hlc) ?_
  unfold tW
  refine WLr.of ?_
  repeat apply sQ
  refine WR.m 5 rfl ?_
  rw[bD,List.length_map,show decide ((i:Int)<(args.length:Int))=false from decide_eq_false (by omega)]
  refine WQ.q rfl ?_
  repeat apply sQ
  rw[←bD]
  exact WR.aE rfl (WR.exit (h0 _))
 |succ m ihm=>
  intro i hi lc hlc tm htm
  obtain⟨y,hy⟩:∃y,args[i]? =some y:=⟨args[i],List.getElem?_eq_getElem (by omega)⟩
  have sc:=ih y (List.mem_of_getElem? hy)
  obtain⟨yk,ya,ye,yn,yv,⟨ytk,yta,ytp,ytn,ytl⟩,ys⟩:=y
  refine WLr.weak (SW.aP htm hlc) ?_
  unfold tW
  refine WLr.of ?_
  repeat apply sQ
  refine WR.m 5 rfl ?_
  rw[bD,List.length_map,show decide ((i:Int)<(args.length:Int))=true from decide_eq_true (by omega)]
  refine WQ.q rfl ?_
  rw[←bD]
  repeat apply sQ
  refine WR.aB rfl (WR.skip ?_)
  repeat apply sQ
  refine WR.block ?_
  repeat apply sQ
  refine WR.aO aV (DW.m 3 rfl ?_)
  refine DW.nA rfl (fun h=>gC (cs:=bG (.mk yk ya ye yn yv (.mk ytk yta ytp ytn ytl) ys)) rfl rfl (by rw[bD,List.getElem?_map,hy];rfl) rfl) rfl ?_
  refine DW.m 4 rfl ?_
  refine DW.nA rfl (fun h=>gC (cs:=bG (.mk yk ya ye yn yv (.mk ytk yta ytp ytn ytl) ys)) rfl rfl (by rw[bD,List.getElem?_map,hy];rfl) rfl) rfl ?_
  refine DW.m 2 rfl ?_
  refine DW.eP pQ rfl rfl rfl rfl rfl (SCall.dX sc _) .base rfl ?_
  refine DW.m 1000 rfl (DW.cD pQ ?_)
  repeat apply sQ
  refine WR.q rfl ?_
  repeat apply sQ
  refine WR.k rfl ?_
  unfold aKy
  repeat apply sQ
  refine WR.m 2 rfl ?_
  rw[aN (by omega)]
  refine WQ.q rfl ?_
  refine WIr.again (ihm (i+1) (by omega) _ ?_ _ ?_)
  ·exact lQ
  ·exact tQ
theorem aCg(K:Nat)(hK:K<big):∀(N:Nat) (x:Ex),SizeOf.sizeOf x<N→okX K x→SCall Go.Proofs.Tryz.prog [] 15 [.agg (bG x),.agg (bG x)] none ⟨1000,og [],[]⟩ (.ret (.bool true)) none ⟨1000,og [],[]⟩
 |0,x,h,_=>by omega
 |N+1,.mk k a e nm nn (.mk tk ta tp tn tl) args,h,ho=>by
  obtain⟨hT,hlen,hsub⟩:=ho
  have ih:∀y∈args,SCall Go.Proofs.Tryz.prog [] 15 [.agg (bG y),.agg (bG y)] none ⟨1000,og [],[]⟩ (.ret (.bool true)) none ⟨1000,og [],[]⟩:=by
   intro y hy
   refine aCg K hK N y ?_ (aCx hsub hy)
   have:=List.sizeOf_lt_of_mem hy
   simp only[Ex.mk.sizeOf_spec]at h
   omega
  have st:=aDv K hK _ _ (Nat.lt_succ_self _) hT
  refine SCall.listed (fn:=Go.Proofs.Tryz.f15) (by kernel_rfl) bBm (by kernel_rfl) (by kernel_rfl) (Nat.le_refl _) rfl (trivial) trivial ?_
  unfold bAm
  repeat apply sQ
  refine WR.q rfl ?_
  repeat apply sQ
  refine WR.m 4 rfl ?_
  refine WQ.c rfl (SCall.dX st _) .base rfl ?_
  refine WQ.q rfl ?_
  repeat apply sQ
  refine WR.m 7 rfl ?_
  refine WQ.m 1 rfl ?_
  rw[show decide ((k:Int)=(k:Int))=true from decide_eq_true rfl]
  refine WQ.m 7 rfl ?_
  rw[show decide (a=a)=true from decide_eq_true rfl]
  refine WQ.m 7 rfl ?_
  rw[show decide (e=e)=true from decide_eq_true rfl]
  refine WQ.m 7 rfl ?_
  rw[show decide (nm=nm)=true from decide_eq_true rfl]
  refine WQ.m 7 rfl ?_
  rw[show decide (nn=nn)=true from decide_eq_true rfl]
  refine WQ.m 9 rfl ?_
  rw[show decide (((dF args).length:Int)=((dF args).length:Int))=true from decide_eq_true rfl]
  refine WQ.q rfl ?_
  repeat apply sQ
  refine WR.k rfl ?_
  repeat apply sQ
  refine WR.q rfl ?_
  repeat apply sQ
  refine WR.block (WR.loop (aSw k a e nm nn tk ta tp tn tl args (by omega) ih (fun tm=>?_) args.length 0 (by omega) _ ?_ _ ?_))
  ·unfold aIi
   repeat apply sQ
   refine WR.q rfl ?_
   exact WR.e
  ·exact lQ
  ·exact tQ
def slC(l:List Sx):V:=.lst (cR l) .unk
def aWp(l:List Sx)(i:Nat):TM:=[(0,.v (slC l)),(1,.v (slC l)),(4,.v (.bool false)),(5,.v (.int .i64 i))]
theorem aUv{QN:S→Prop}{QX:X→S→Prop}(K:Nat)(hK:K<big)(l:List Sx)(hb:l.length<big)
  (ih:∀y∈l,∀k a nm h x b e,y=.mk k a nm h x b e→okX K x∧SCall Go.Proofs.Tryz.prog [] 8 [slC b,slC b] none ⟨1000,og [],[]⟩ (.ret (.bool true)) none ⟨1000,og [],[]⟩∧SCall Go.Proofs.Tryz.prog [] 8 [slC e,slC e] none ⟨1000,og [],[]⟩ (.ret (.bool true)) none ⟨1000,og [],[]⟩)
  (h0:∀tm lc,QX (.exit 0) (SL.toS ⟨tm,[],none,1000,[],lc⟩)):∀(m i:Nat),i+m=l.length→∀lc tm,TellT tm [] (aWp l i)→
  WLr Go.Proofs.Tryz.prog [] ⟨Go.Proofs.Tryz.f8.ntmps,none,8⟩ aAm (SL.toS ⟨tm,[],none,1000,[],lc⟩) QN QX:=by
 intro m
 induction m with
 |zero=>
  intro i hi lc tm htm
  refine WLr.weak (s:=SL.toS ⟨aWp l i,[],none,1000,[],[]⟩) (SW.aP htm .nil) ?_
  unfold aAm
  refine WLr.of ?_
  repeat apply sQ
  refine WR.m 3 rfl ?_
  rw[iA,List.length_map]
  refine WQ.m 1 rfl ?_
  rw[show decide ((i:Int)<(l.length:Int))=false from decide_eq_false (by omega)]
  refine WQ.q rfl ?_
  repeat apply sQ
  exact WR.aE rfl (WR.exit (h0 _ _))
 |succ m ihm=>
  intro i hi lc tm htm
  obtain⟨y,hy⟩:∃y,l[i]? =some y:=⟨l[i],List.getElem?_eq_getElem (by omega)⟩
  have sc:=ih y (List.mem_of_getElem? hy)
  obtain⟨yk,ya,yn,yh,⟨xk,xa,xe,xn,xv,⟨xtk,xta,xtp,xtn,xtl⟩,xs⟩,yb,ye⟩:=y
  obtain⟨sx,sb,se⟩:=sc _ _ _ _ _ _ _ rfl
  have s4:=aCg K hK _ _ (Nat.lt_succ_self _) sx
  refine WLr.weak (s:=SL.toS ⟨aWp l i,[],none,1000,[],[]⟩) (SW.aP htm .nil) ?_
  unfold aAm
  refine WLr.of ?_
  repeat apply sQ
  refine WR.m 3 rfl ?_
  rw[iA,List.length_map]
  refine WQ.m 1 rfl ?_
  rw[show decide ((i:Int)<(l.length:Int))=true from decide_eq_true (by omega)]
  refine WQ.q rfl ?_
  repeat apply sQ
  refine WR.aB rfl (WR.skip ?_)
  repeat apply sQ
  refine WR.block ?_
  repeat apply sQ
  refine WR.m 2 rfl ?_
  refine WQ.bK rfl rfl rfl (gC (cs:=eU (.mk yk ya yn yh (.mk xk xa xe xn xv (.mk xtk xta xtp xtn xtl) xs) yb ye)) rfl rfl (by rw[iA,List.getElem?_map,hy];rfl) rfl) rfl ?_
  refine WQ.q rfl ?_
  repeat apply sQ
  refine WR.m 2 rfl ?_
  refine WQ.bK rfl rfl rfl (gC (cs:=eU (.mk yk ya yn yh (.mk xk xa xe xn xv (.mk xtk xta xtp xtn xtl) xs) yb ye)) rfl rfl (by rw[iA,List.getElem?_map,hy];rfl) rfl) rfl ?_
  refine WQ.q rfl ?_
  repeat apply sQ
  refine WR.m 5 rfl ?_
  rw[show decide ((yk:Int)=(yk:Int))=true from decide_eq_true rfl]
  refine WQ.m 7 rfl ?_
  rw[show decide (ya=ya)=true from decide_eq_true rfl]
  refine WQ.m 7 rfl ?_
  rw[show decide (yn=yn)=true from decide_eq_true rfl]
  refine WQ.m 6 rfl ?_
  refine WQ.m 1 rfl ?_
  rw[show(yh==yh)=true from by cases yh<;>rfl]
  refine WQ.q rfl ?_
  repeat apply sQ
  refine WR.k rfl ?_
  repeat apply sQ
  refine WR.m 4 rfl ?_
  refine WQ.c rfl (SCall.dX s4 _) .base rfl ?_
  refine WQ.q rfl ?_
  repeat apply sQ
  refine WR.m 4 rfl ?_
  refine WQ.c rfl (SCall.dX sb _) .base rfl ?_
  refine WQ.q rfl ?_
  repeat apply sQ
  refine WR.m 4 rfl ?_
  refine WQ.c rfl (SCall.dX se _) .base rfl ?_
  refine WQ.q rfl ?_
  repeat apply sQ
  refine WR.q rfl ?_
  repeat apply sQ
  refine WR.k rfl ?_
  unfold aQz
  repeat apply sQ
  refine WR.m 2 rfl ?_
  rw[aN (by omega)]
  refine WQ.q rfl ?_
  refine WIr.again (ihm (i+1) (by omega) _ _ ?_)
  exact tQ
theorem qB(K:Nat)(hK:K<big):∀(N:Nat) (l:List Sx),SizeOf.sizeOf l<N→wY K l→l.length≤K→SCall Go.Proofs.Tryz.prog [] 8 [slC l,slC l] none ⟨1000,og [],[]⟩ (.ret (.bool true)) none ⟨1000,og [],[]⟩
 |0,x,h,_,_=>by omega
 |N+1,l,h,ho,hlen=>by
  have ih:∀y∈l,∀k a nm h x b e,y=.mk k a nm h x b e→okX K x∧SCall Go.Proofs.Tryz.prog [] 8 [slC b,slC b] none ⟨1000,og [],[]⟩ (.ret (.bool true)) none ⟨1000,og [],[]⟩∧SCall Go.Proofs.Tryz.prog [] 8 [slC e,slC e] none ⟨1000,og [],[]⟩ (.ret (.bool true)) none ⟨1000,og [],[]⟩:=by
   intro y hy k a nm hh x b e he
   have hm:=aDa ho hy
   have hsz:=List.sizeOf_lt_of_mem hy
   subst he
   obtain⟨q1,q2,q3⟩:=hm
   simp only[Sx.mk.sizeOf_spec]at hsz
   exact⟨q1,qB K hK N b (by omega) q2.2 q2.1,qB K hK N e (by omega) q3.2 q3.1⟩
  refine SCall.listed (fn:=Go.Proofs.Tryz.f8) (by kernel_rfl) bEe (by kernel_rfl) (by kernel_rfl) (Nat.le_refl _) rfl (trivial) trivial ?_
  unfold rc8
  unfold slC
  repeat apply sQ
  refine WR.q rfl ?_
  repeat apply sQ
  refine WR.m 4 rfl ?_
  refine WQ.m 1 rfl ?_
  rw[show decide (((cR l).length:Int)=((cR l).length:Int))=true from decide_eq_true rfl]
  refine WQ.q rfl ?_
  repeat apply sQ
  refine WR.k rfl ?_
  repeat apply sQ
  refine WR.q rfl ?_
  repeat apply sQ
  refine WR.block (WR.loop (aUv K hK l (by omega) ih (fun tm lc=>?_) l.length 0 (by omega) _ _ ?_))
  ·unfold aPh
   repeat apply sQ
   refine WR.q rfl ?_
   exact WR.e
  ·exact tQ
end Go.VM
end
section
/- Statements: what stands behind a block. -/
set_option maxRecDepth 100000
namespace Go.VM
open Go.RowKit
noncomputable def PL(l:List Tz)(a:Nat):R Ex:=open Classical in if h:a≤l.length then Classical.choose (Classical.choose_spec (xI l a 1 0 h))else .out
theorem oO(l:List Tz){a:Nat}(h:a≤l.length):(PL l a).dO=false∧∃N,∀n,N≤n→(fns l n).expr 1 a 0=PL l a:=by
 have h2:=Classical.choose_spec (Classical.choose_spec (xI l a 1 0 h))
 unfold PL
 rw[dif_pos h]
 exact⟨h2.1,_,h2.2⟩
theorem aZi(l:List Tz)(hl:l.length<19999)(hT:∀t∈l,t.t.length<big):ParseOk l (PL l):=by
 refine⟨fun a ha h=>?_,fun a ha=>(oO l ha).1,fun a x n ha e=>?_,fun a a1 d p c e=>?_⟩
 ·obtain⟨h1,N,h2⟩:=oO l ha
  have h2:=h2 N (Nat.le_refl _)
  have:=SCall.cK rfl (wJ l hl hT a N ha (by rw[h2];exact h1)) (by exact⟨gX l,trivial,trivial⟩) (by exact sM _) h
  rw[h2]at this
  exact this
 ·obtain⟨h1,N,h2⟩:=oO l ha
  have h2:=h2 N (Nat.le_refl _)
  rw[e]at h2
  exact⟨(mO l N).expr 1 a 0 x n h2,((bX l N).expr 1 a 0 x n h2).2 ha⟩
 ·by_cases ha:a≤l.length
  ·obtain⟨h1,N,h2⟩:=oO l ha
   have h2:=h2 N (Nat.le_refl _)
   rw[e]at h2
   exact(eH N).expr 1 a 0 a1 d p c h2
  ·unfold PL at e
   rw[dif_neg ha]at e
   cases e
theorem bDr(l:List Tz):∀a x n,PL l a=.ok x n→okX (l.length+2) x:=by
 intro a x n e
 by_cases ha:a≤l.length
 ·obtain⟨h1,N,h2⟩:=oO l ha
  have h2:=h2 N (Nat.le_refl _)
  rw[e]at h2
  exact(aPa l N).expr 1 a 0 x n h2
 ·unfold PL at e
  rw[dif_neg ha]at e
  cases e
section
variable{lo n k:Nat}{b:Int}{l l':List Tz}{P P':Nat→R Ex}
end
end Go.VM
end
section
/- Statements: the laws StmtxTexts and StmtxReads, walked. -/
set_option maxRecDepth 100000
namespace Go.VM
open Go.RowKit
theorem aHw(l:List Tz)(hl:l.length<19999)(hT:∀t∈l,t.t.length<big)(z:Int):∃(x:V) (n p c:Int),x.In (fun _=>False)∧(∀h,SCall Go.Proofs.Tryz.prog [0] 6 [lsV l,.int .i64 z] none h (.ret (.tup [x,.int .i64 n,.agg (dgX p c)])) none h)∧
  (∀h,SCall Go.Proofs.Tryz.prog [0] 7 [lsV l,.int .i64 z] none h (.ret (.tup [x,.int .i64 n,.agg (dgX p c)])) none h)∧∀h,SCall Go.Proofs.Tryz.prog [0] 8 [x,x] none h (.ret (.bool true)) none h:=by
 have hP:=aZi l hl hT
 have h4:∀a,a≤l.length→∀h:H,SCall Go.Proofs.Tryz.prog [] 48 [lsV l,.int .i64 a] none h (.ret (exV (PL l a))) none h:=by
  intro a ha h
  obtain⟨h1,N,h2⟩:=oO l ha
  have h2:=h2 N (Nat.le_refl _)
  have:=SCall.cK rfl (aEk l hl hT a N ha (by rw[h2];exact h1)) (by exact⟨gX l,trivial,trivial⟩) (by exact sM _) h
  rw[h2]at this
  exact this
 have same0:∀h,SCall Go.Proofs.Tryz.prog [0] 8 [.lst [] (.ex 0),.lst [] (.ex 0)] none h (.ret (.bool true)) none h:=by
  intro h
  have:=qB 1 (by unfold big;omega) _ [] (Nat.lt_succ_self _) trivial (Nat.zero_le _)
  refine SCall.args (SCall.more (SCall.cK rfl this (by exact⟨⟨trivial,trivial⟩,⟨trivial,trivial⟩,trivial⟩) trivial h)) (fun E xs h=>VLL.ars (.cons (VLe.unk _ _) (.cons (VLe.unk _ _) .nil)) h)
 by_cases hz:z<0∨z>l.length
 ·exact⟨.lst [] (.ex 0),0,eI l,5,(by exact⟨trivial,trivial⟩),fun h=>aFb hP (by omega) z hz h,fun h=>SCall.more (aId l (by omega) z hz h),same0⟩
 ·obtain⟨a,rfl⟩:∃a:Nat,z=(a:Int):=⟨z.toNat,by omega⟩
  have ha:a≤l.length:=by omega
  obtain⟨N,⟨v,s'⟩,hN⟩:=aHz hP a ha
  have e:=hN N (Nat.le_refl _)
  have s1:=fun h=>rS hP (by omega) N a ha e h
  have s2:=fun h=>aMq hP (by omega) h4 N a ha e h
  cases hf:bJ s' with
  |false=>
   have ev:stV (v,s')=.tup [.lst [] (.ex 0),.int .i64 0,.agg (dgX s'.p s'.c)]:=by unfold stV;rw[hf]
   rw[ev]at s1 s2
   exact⟨.lst [] (.ex 0),_,_,_,(by exact⟨trivial,trivial⟩),s1,fun h=>SCall.more (s2 h),same0⟩
  |true=>
   have hc:s'.c=0:=of_decide_eq_true hf
   have ev:stV (v,s')=.tup [slC v,.int .i64 s'.a,.agg (dgX 0 0)]:=by unfold stV slC;rw[hf]
   rw[ev]at s1 s2
   obtain⟨ok,hvl⟩:=(aKc hP (bDr l) N).block 0 ⟨a,0,0⟩ v s' ha e hc
   have sm:=qB (l.length+2) (by unfold big;omega) _ v (Nat.lt_succ_self _) ok (by omega)
   exact⟨slC v,_,_,_,(by exact⟨bY v,trivial⟩),s1,fun h=>SCall.more (s2 h),fun h=>SCall.more (SCall.cK rfl sm (by exact⟨⟨bY _,trivial⟩,⟨bY _,trivial⟩,trivial⟩) trivial h)⟩
def aUk(p c:Int):LM:=[(9,dgX p c)]
def aDm(l:List Tz)(z:Int)(x:V)(n:Int):TM:=[(0,.v (lsV l)),(1,.v (.int .i64 z)),(5,.v (.bool true)),(6,.v (lsV l)),(7,.v x),(8,.v (.int .i64 n)),(9,.l 9 0)]
theorem aUn{QN:S→Prop}{QX:X→S→Prop}(l:List Tz)(hl:l.length<big)(z:Int)(x:V)(n p c:Int)(h0:∀tm,TellT tm (aUk p c) (aDm l z x n)→QX (.exit 0) (SL.toS ⟨tm,[],none,1000,tOl,aUk p c⟩)):
  ∀m i,i+m=l.length→∀tm lc,TellT tm (aUk p c) ((10,.v (.int .i64 i))::aDm l z x n)→TellL lc (aUk p c)→
  WLr Go.Proofs.Tryz.prog [0] ⟨Go.Proofs.Tryz.f3.ntmps,none,3⟩ zV (SL.toS ⟨tm,[],none,1000,tOl,lc⟩) QN QX:=by
 intro m
 induction m with
 |zero=>
  intro i hi tm lc htm hlc
  refine WLr.weak (SW.aP htm hlc) ?_
  unfold zV
  refine WLr.of ?_
  unfold aDm lsV
  repeat apply sQ
  refine WR.m 3 rfl ?_
  rw[List.length_map]
  refine WQ.m 1 rfl ?_
  rw[show decide ((i:Int)<(l.length:Int))=false from decide_eq_false (by omega)]
  refine WQ.q rfl ?_
  repeat apply sQ
  refine WR.aE rfl (WR.exit (h0 _ ?_))
  unfold aDm lsV
  exact tQ
 |succ m ih=>
  intro i hi tm lc htm hlc
  obtain⟨t,ht⟩:∃t,l[i]? =some t:=⟨l[i],List.getElem?_eq_getElem (by omega)⟩
  refine WLr.weak (SW.aP htm hlc) ?_
  unfold zV
  refine WLr.of ?_
  unfold aDm lsV
  repeat apply sQ
  refine WR.m 3 rfl ?_
  rw[List.length_map]
  refine WQ.m 1 rfl ?_
  rw[show decide ((i:Int)<(l.length:Int))=true from decide_eq_true (by omega)]
  refine WQ.q rfl ?_
  repeat apply sQ
  refine WR.aB rfl (WR.skip ?_)
  repeat(first|refine WR.seq ?_|refine WR.block ?_)
  refine WR.aO aV (DW.m 2 rfl ?_)
  refine DW.bK rfl (gC (cs:=bH t) rfl rfl (by rw[List.getElem?_map,ht];rfl) rfl) rfl (DW.m 3 rfl ?_)
  refine DW.bK rfl (gC (cs:=bH t) rfl rfl (by rw[List.getElem?_map,ht];rfl) rfl) rfl (DW.m 1 rfl ?_)
  refine DW.m 1 rfl ?_
  rw[show(!(decide (t.k=t.k)&&(decide (t.a=t.a)&&(decide (t.e=t.e)&&(decide (t.t=t.t)&&true)))))=false from by rw[decide_eq_true rfl,decide_eq_true rfl,decide_eq_true rfl,decide_eq_true rfl];rfl]
  refine DW.cD pQ ?_
  repeat apply sQ
  refine WR.k rfl ?_
  unfold aQd
  repeat apply sQ
  refine WR.m 2 rfl ?_
  rw[aN (by omega)]
  refine WQ.q rfl ?_
  refine WIr.again (ih (i+1) (by omega) _ _ ?_ ?_)
  ·unfold aDm lsV
   exact tQ
  ·exact lQ
theorem aHu(l:List Tz)(hT:∀t∈l,t.t.length<big)(z:Int):
  SCall Go.Proofs.Tryz.prog [0] 3 [lsV l,.int .i64 z] none ⟨1000,og tOl,[]⟩ (.ret (.bool true)) none ⟨1000,og tOl,[]⟩:=by
 refine SCall.listed (fn:=Go.Proofs.Tryz.f3) (by kernel_rfl) bEl (by kernel_rfl) (by kernel_rfl) (Nat.le_refl _) rfl ((by exact⟨rH,trivial⟩)) trivial ?_
 unfold rc3
 repeat apply sQ
 refine WR.q rfl ?_
 repeat apply sQ
 refine WR.reg (WQ.c rfl aNy .base rfl ?_)
 refine WQ.q rfl ?_
 repeat apply sQ
 refine WR.m 2 rfl ?_
 rw[List.length_map]
 refine WQ.m 1 rfl ?_
 by_cases h1:l.length>4100
 ·rw[show decide ((l.length:Int)>4100)=true from decide_eq_true (by omega)]
  refine WQ.q rfl ?_
  repeat apply sQ
  refine WR.aB rfl ?_
  repeat apply sQ
  refine WR.q rfl ?_
  exact WR.e
 rw[show decide ((l.length:Int)>4100)=false from decide_eq_false (by omega)]
 obtain⟨x,n,p,c,hx,p1,p2,sm⟩:=aHw l (by omega) hT z
 have lp:=fun QN QX h0=>aUn (QN:=QN) (QX:=QX) l (by unfold big;omega) z x n p c h0 l.length 0 (by omega)
 refine WQ.q rfl ?_
 repeat apply sQ
 refine WR.k rfl ?_
 unfold lsV at*
 repeat apply sQ
 refine WR.m 2 rfl ?_
 refine WQ.dZ rfl (lG (es2:=l.map bH) (fs2:=l.map bH) rfl rfl rfl (by simp) (by
  intro e he;obtain⟨y,_,rfl⟩:=List.mem_map.1 he;rfl) (by
  rw[List.length_map];show 40*(0+l.length)≤lim;unfold lim;omega) (by rw[List.map_map];rfl) rfl) rfl ?_
 refine WQ.q rfl ?_
 repeat apply sQ
 refine WR.m 2 rfl ?_
 refine WQ.c rfl (p1 _) .base rfl ?_
 refine WQ.q rfl ?_
 repeat apply sQ
 refine WR.q rfl ?_
 repeat apply sQ
 refine WR.block (WR.loop (lp _ _ (fun tm ht=>?_) _ _ ?_ ?_))
 ·refine WR.weak (SW.aP ht (.cons rfl (.inl rfl) .nil)) ?_
  unfold aDm lsV aRk
  repeat apply sQ
  refine WR.m 2 rfl ?_
  refine WQ.c rfl (p2 _) .base rfl ?_
  refine WQ.q rfl ?_
  repeat apply sQ
  refine WR.m 2 rfl ?_
  refine WQ.c rfl (sm _) .base rfl ?_
  refine WQ.q rfl ?_
  repeat apply sQ
  refine WR.m 8 rfl ?_
  rw[show decide (n=n)=true from decide_eq_true rfl]
  refine WQ.m 4 rfl ?_
  refine WQ.m 1 rfl ?_
  rw[show(decide (p=p)&&(decide (c=c)&&true))=true from by rw[decide_eq_true rfl,decide_eq_true rfl];rfl]
  refine WQ.q rfl ?_
  exact WR.e
 ·unfold aDm lsV
  exact tQ
 ·exact lQ
theorem aFr(l:List Tz)(hT:∀t∈l,t.t.length<big)(z:Int):SCall Go.Proofs.Tryz.prog [0] 3 [lsV l,.int .i64 z] none (Go.VM.hT 0 .u8 aAa) (.ret (.bool true)) none (Go.VM.hT 0 .u8 aAa):=aHu l hT z
end Go.VM
end
