/- laid for this seat: VzT VzU VqT VzV VzW VzX VqU -/
import Derived.Test.YtipiffhjilidlaaGreatDoorVg9
import Derived.Test.YtipiffhjilidlaaGreatDoorVh5
import Derived.Test.YtipiffhjilidlaaGreatDoorVh4
set_option linter.unusedVariables false
set_option linter.unusedSimpArgs false
section
/- Statements: the same tokens elsewhere give the same statements, moved. -/
set_option maxRecDepth 100000
namespace Go.VM
open Go.RowKit
mutual
def aXa(b:Int):Sx→Sx
 |.mk k a nm has x body els=>.mk k (a+b) nm has (match Nat.beq k 3&&!has with|true=>x|false=>shX b x) (aKa b body) (aKa b els)
def aKa(b:Int):List Sx→List Sx
 |[]=>[]
 |x::l=>aXa b x::aKa b l
end
def shS(k:Nat)(s:Sr):Sr:=⟨s.a+k,s.p,s.c⟩
structure TokS(lo n k:Nat)(b:Int)(l l':List Tz)(P P':Nat→R Ex):Prop where
 tok:∀i,lo≤i→i<n→aA l' (i+k)=shZ b (aA l i)
 els:isF l' (n+k) 5 wZ=false
 expr:∀a x a',lo≤a→P a=.ok x a'→a'<n→vZ (aA l a')=true→P' (a+k)=.ok (shX b x) (a'+k)
section
variable{lo n k:Nat}{b:Int}{l l':List Tz}{P P':Nat→R Ex}
theorem TokS.is(t:TokS lo n k b l l' P P'){s:Sr}(h0:lo≤s.a)(h:s.a<n)(kk:Int)(x:List Nat):isS l' (shS k s) kk x=isS l s kk x:=by
 unfold isS isF
 show(bI s&&(decide ((aA l' (s.a+k)).k=kk)&&decide ((aA l' (s.a+k)).t=x)))=_
 rw[t.tok _ h0 h]
 rfl
theorem aRc(s:Sr):bA (shS k s)=shS k (bA s):=by
 unfold bA shS
 simp only
 rw[show s.a+k+1=s.a+1+k by omega]
theorem xK{s:Sr}{x:List Nat}(h:(bH l s x).c=0):isS l s 4 x=true∧bH l s x=bA s∧isF l s.a 4 x=true:=by
 unfold bH at h⊢
 cases hi:isS l s 4 x with
 |true=>exact⟨rfl,rfl,(aVo hi).2⟩
 |false=>
  rw[hi]at h
  exfalso
  unfold eA at h
  cases hf:bI s with
  |true=>
   rw[hf]at h
   have h:(5:Int)=0:=h
   exact absurd h (by decide)
  |false=>
   rw[hf]at h
   exact(of_decide_eq_false hf) h
theorem aMc{s:Sr}{c:Int}(hc:c≠0)(h:(eA l s c).c=0):False:=by
 unfold eA at h
 cases hf:bI s with
 |true=>rw[hf]at h;exact hc h
 |false=>rw[hf]at h;exact(of_decide_eq_false hf) h
theorem TokS.qX(t:TokS lo n k b l l' P P'){s:Sr}(h0:lo≤s.a){x:List Nat}(h:(bH l s x).c=0)(hn:(bH l s x).a≤n):bH l' (shS k s) x=shS k (bH l s x):=by
 obtain⟨h1,h2,h3⟩:=xK h
 rw[h2]at hn⊢
 have hn:s.a+1≤n:=hn
 unfold bH
 rw[t.is h0 (by omega),h1]
 exact aRc s
theorem aLr(hP:ParseOk l P){s:Sr}(hs:s.a≤l.length)(h:(aS P s).2.c=0):s.c=0∧∃x a',P s.a=.ok x a'∧aS P s=(x,⟨a',0,0⟩):=by
 unfold aS at h⊢
 cases hf:bI s with
 |false=>rw[hf]at h;exact absurd h (of_decide_eq_false hf)
 |true=>
  rw[hf]at h
  refine⟨mD.1 hf,?_⟩
  cases hr:P s.a with
  |ok x a'=>exact⟨x,a',rfl,rfl⟩
  |er a d p c=>rw[hr]at h;exact absurd h (hP.er _ _ _ _ _ hr)
  |out=>have:=hP.known _ hs;rw[hr]at this;cases this
theorem TokS.exp(t:TokS lo n k b l l' P P')(hP:ParseOk l P){s:Sr}(h0:lo≤s.a)(hs:s.a≤l.length)(h:(aS P s).2.c=0)(hn:(aS P s).2.a<n)(hst:vZ (aA l (aS P s).2.a)=true):aS P' (shS k s)=(shX b (aS P s).1,shS k (aS P s).2):=by
 obtain⟨h1,x,a',h2,h3⟩:=aLr hP hs h
 rw[h3]at hn hst⊢
 have e:=t.expr _ _ _ h0 h2 hn hst
 unfold aS
 rw[show bI (shS k s)=true from decide_eq_true h1]
 show(match P' (s.a+k)with|.ok x n=>(x,(⟨n,0,0⟩:Sr))|.er _ _ p c=>(zX,⟨s.a+k,p,c⟩)|.out=>(zX,shS k s))=_
 rw[e]
 rfl
theorem aTb{a:Nat}{x:List Nat}(h:isF l a 4 x=true)(hx:x=[59]∨x=[123]):vZ (aA l a)=true:=by
 unfold isF at h
 simp only[Bool.and_eq_true,decide_eq_true_eq]at h
 unfold vZ
 rw[h.1,h.2]
 rcases hx with rfl|rfl<;>rfl
theorem TokS.val(t:TokS lo n k b l l' P P')(hP:ParseOk l P){s:Sr}(h0:lo≤s.a)(hs:s.a≤l.length){kk:Nat}(hk:Nat.beq kk 3=false){p:Int}{nm:List Nat}(h:(jY l P kk p nm s).2.c=0)(hn:(jY l P kk p nm s).2.a≤n):
  jY l' P' kk (p+b) nm (shS k s)=(aXa b (jY l P kk p nm s).1,shS k (jY l P kk p nm s).2):=by
 have m1:=cP hs (x:=[61])
 have m2:=bR hP m1.len
 have m3:=cP m2.len (x:=[59])
 unfold jY at h hn⊢
 have h:(bH l (aS P (bH l s [61])).2 [59]).c=0:=h
 have hn:(bH l (aS P (bH l s [61])).2 [59]).a≤n:=hn
 have c2:=m3.lY h
 have c1:=m2.lY c2
 obtain⟨q1,q2,q3⟩:=xK h
 have a1:(bH l s [61]).a≤n:=by have:=m2.le;have:=m3.le;omega
 have a2:(aS P (bH l s [61])).2.a<n:=by have:=m3.lt h;omega
 rw[t.qX h0 c1 a1,t.exp hP (by have:=m1.le;omega) m1.len c2 a2 (aTb q3 (.inl rfl)),t.qX (by have:=m1.le;have:=m2.le;omega) h hn]
 simp only[aXa,aKa,hk,Bool.false_and]
end
end Go.VM
end
section
/- Statements: how much there is of what was read. -/
set_option maxRecDepth 100000
namespace Go.VM
open Go.RowKit
mutual
def okT(K:Nat):Tx→Prop
 |.mk _ _ _ _ l=>l.length≤K∧aXg K l
def aXg(K:Nat):List Tx→Prop
 |[]=>True
 |x::l=>okT K x∧aXg K l
end
mutual
def okX(K:Nat):Ex→Prop
 |.mk _ _ _ _ _ t args=>okT K t∧args.length≤K∧aCz K args
def aCz(K:Nat):List Ex→Prop
 |[]=>True
 |x::l=>okX K x∧aCz K l
end
mutual
def okS(K:Nat):Sx→Prop
 |.mk _ _ _ _ x body els=>okX K x∧(body.length≤K∧xF K body)∧(els.length≤K∧xF K els)
def xF(K:Nat):List Sx→Prop
 |[]=>True
 |x::l=>okS K x∧xF K l
end
theorem aEb{K:Nat}:∀{l:List Ex} {x:Ex},aCz K l→okX K x→aCz K (l++[x])
 |[],x,_,h=>⟨h,trivial⟩
 |y::l,x,h,k=>⟨h.1,aEb h.2 k⟩
theorem aDz{K:Nat}:∀{l:List Sx} {x:Sx},xF K l→okS K x→xF K (l++[x])
 |[],x,_,h=>⟨h,trivial⟩
 |y::l,x,h,k=>⟨h.1,aDz h.2 k⟩
theorem aCv{K:Nat}:∀{l:List Tx} {x:Tx},aXg K l→x∈l→okT K x
 |y::l,x,h,hm=>by
  cases hm with
  |head=>exact h.1
  |tail _ hm=>exact aCv h.2 hm
theorem aDs{K:Nat}:∀{l:List Ex} {x:Ex},aCz K l→x∈l→okX K x
 |y::l,x,h,hm=>by
  cases hm with
  |head=>exact h.1
  |tail _ hm=>exact aDs h.2 hm
theorem aDf{K:Nat}:∀{l:List Sx} {x:Sx},xF K l→x∈l→okS K x
 |y::l,x,h,hm=>by
  cases hm with
  |head=>exact h.1
  |tail _ hm=>exact aDf h.2 hm
theorem wM{K:Nat}:okT K zT:=⟨Nat.zero_le _,trivial⟩
theorem aJd{K:Nat}:okX K zX:=⟨wM,Nat.zero_le _,trivial⟩
theorem mT{K k:Nat}{a e n:Int}{nm:List Nat}:okX K (.mk k a e nm n zT []):=⟨wM,Nat.zero_le _,trivial⟩
theorem aCe{K:Nat}(hK:1≤K):∀(ls:List Int) {x:Tx},okT K x→okT K (iC ls x)
 |[],x,h=>h
 |p::ls,x,h=>⟨hK,aCe hK ls h,trivial⟩
theorem aXk{K:Nat}(hK:1≤K){l:List Tz}{a:Nat}{x:Tx}{a2:Nat}(h:tyF l a=.ok x a2):okT K x:=by
 unfold tyF at h
 split at h
 ·cases h
 ·split at h
  ·rename_i y a3 hb
   cases h
   refine aCe hK _ ?_
   unfold dD at hb
   split at hb
   ·cases hb;exact⟨Nat.zero_le _,trivial⟩
   ·split at hb
    ·split at hb
     ·split at hb
      ·cases hb;exact⟨Nat.zero_le _,trivial⟩
      ·cases hb
     ·cases hb;exact⟨Nat.zero_le _,trivial⟩
    ·cases hb
  ·cases h
  ·cases h
structure BdF(l:List Tz)(f:Fns):Prop where
 expr:∀lv a d x a',f.expr lv a d=.ok x a'→okX (l.length+2) x
 oper:∀a d x a',f.oper a d=.ok x a'→okX (l.length+2) x
 prim:∀a d x a',f.prim a d=.ok x a'→okX (l.length+2) x
 list:∀to a d r a',f.list to a d=.ok r a'→aCz (l.length+2) r.1∧r.1.length≤l.length
 bin:∀lv x a d y a',okX (l.length+2) x→f.bin lv x a d=.ok y a'→okX (l.length+2) y
 post:∀x a d y a',okX (l.length+2) x→f.post x a d=.ok y a'→okX (l.length+2) y
 elts:∀acc a d es a',aCz (l.length+2) acc→acc.length≤a→f.elts acc a d=.ok es a'→aCz (l.length+2) es∧es.length≤a'
theorem aVd{l:List Tz}{f:Fns}(pf:ProgF f)(h:BdF l f):BdF l ⟨fJ f,gF l f,bZ l f,eC l f,kM l f,gP l f,fA l f⟩:=by
 refine⟨fun lv a d x a' e=>?_,fun a d x a' e=>?_,fun a d x a' e=>?_,fun to a d r a' e=>?_,fun lv x a d y a' hx e=>?_,fun x a d y a' hx e=>?_,fun acc a d es a' hacc hlen e=>?_⟩
 ·have e:fJ f lv a d=.ok x a':=e
  unfold fJ at e
  split at e
  ·exact h.oper _ _ _ _ e
  ·obtain⟨y,a1,e1,e2⟩:=bW e
   exact h.bin _ _ _ _ _ _ (h.expr _ _ _ _ _ e1) e2
 ·have e:gF l f a d=.ok x a':=e
  unfold gF at e
  split at e
  ·obtain⟨y,a1,e1,e2⟩:=bW e
   cases e2
   exact⟨wM,by simp,h.oper _ _ _ _ (eZ e1),trivial⟩
  ·obtain⟨y,a1,e1,e2⟩:=bW e
   exact h.post _ _ _ _ _ (h.prim _ _ _ _ e1) e2
 ·have e:bZ l f a d=.ok x a':=e
  unfold bZ at e
  split at e
  ·obtain⟨n,a1,e1,e2⟩:=bW e
   cases e2
   exact mT
  ·split at e
   ·split at e
    ·cases e;exact mT
    ·cases e
   ·split at e
    ·cases e;exact mT
    ·split at e
     ·cases e;exact mT
     ·split at e
      ·cases e;exact mT
      ·split at e
       ·obtain⟨y,a1,e1,e2⟩:=bW e
        obtain⟨z,a2,e3,e4⟩:=bW e2
        cases e4
        exact h.expr _ _ _ _ _ (eZ e1)
       ·split at e
        ·obtain⟨ty,a1,r,ht,hi,e1,rfl⟩:=aCj e
         have:=h.list _ _ _ _ _ e1
         exact⟨aXk (by omega) ht,by omega,this.1⟩
        ·cases e
 ·have e:eC l f to a d=.ok r a':=e
  unfold eC at e
  obtain⟨es,a1,e1,e2⟩:=bW e
  obtain⟨z,a3,e3,e4⟩:=bW e2
  cases e4
  have hk:=cJ (l:=l) (a:=a1) (by rw[(nD e3).2.2];decide)
  have e1:=eZ e1
  unfold eP at e1
  split at e1
  ·cases e1;exact⟨trivial,Nat.zero_le _⟩
  ·have:=h.elts [] _ _ _ _ trivial (Nat.zero_le _) e1
   exact⟨this.1,by show es.length≤_;omega⟩
 ·have e:kM l f lv x a d=.ok y a':=e
  unfold kM at e
  split at e
  ·obtain⟨z,a2,e1,e2⟩:=bW e
   refine h.bin _ _ _ _ _ _ ?_ e2
   exact⟨wM,by simp,hx,h.expr _ _ _ _ _ e1,trivial⟩
  ·cases e;exact hx
 ·have e:gP l f x a d=.ok y a':=e
  unfold gP at e
  split at e
  ·split at e
   ·refine h.post _ _ _ _ _ ?_ e
    exact⟨wM,by simp,hx,trivial⟩
   ·cases e
  ·split at e
   ·obtain⟨r,a1,e1,e2⟩:=bW e
    have:=h.list _ _ _ _ _ e1
    refine h.post _ _ _ _ _ ?_ e2
    exact⟨wM,by simp;omega,hx,this.1⟩
   ·split at e
    ·obtain⟨z,a1,e1,e2⟩:=bW e
     obtain⟨w,a2,e3,e4⟩:=bW e2
     refine h.post _ _ _ _ _ ?_ e4
     exact⟨wM,by simp,hx,h.expr _ _ _ _ _ (eZ e1),trivial⟩
    ·cases e;exact hx
 ·have e:fA l f acc a d=.ok es a':=e
  unfold fA at e
  obtain⟨x,a1,e1,e2⟩:=bW e
  have p:=pf.expr _ _ _ _ _ e1
  have q:=aEb hacc (h.expr _ _ _ _ _ e1)
  split at e2
  ·exact h.elts _ _ _ _ _ q (by simp;omega) e2
  ·cases e2
   exact⟨q,by simp;omega⟩
theorem aPb(l:List Tz):∀n,BdF l (fns l n)
 |0=>⟨fun _ _ _ _ _ e=>(by cases e),fun _ _ _ _ e=>(by cases e),fun _ _ _ _ e=>(by cases e),fun _ _ _ _ _ e=>(by cases e),fun _ _ _ _ _ _ _ e=>(by cases e),fun _ _ _ _ _ _ e=>(by cases e),fun _ _ _ _ _ _ _ e=>(by cases e)⟩
 |n+1=>aVd (nA l n) (aPb l n)
section
variable{l:List Tz}{P:Nat→R Ex}
structure BdS(l:List Tz)(f:Sf):Prop where
 block:∀d s v s',s.a≤l.length→f.block d s=some (v,s')→s'.c=0→xF (l.length+2) v∧v.length≤l.length
 loop:∀d acc s v s',s.a≤l.length→xF (l.length+2) acc→acc.length≤s.a→f.loop d acc s=some (v,s')→s'.c=0→xF (l.length+2) v∧v.length≤l.length
 stmt:∀d s v s',s.a≤l.length→f.stmt d s=some (v,s')→s'.c=0→okS (l.length+2) v
theorem kX(hx:∀a x n,P a=.ok x n→okX (l.length+2) x)(s:Sr):okX (l.length+2) (aS P s).1:=by
 unfold aS
 split
 ·split
  ·rename_i h;exact hx _ _ _ h
  ·exact aJd
  ·exact aJd
 ·exact aJd
theorem aRk(hP:ParseOk l P)(hx:∀a x n,P a=.ok x n→okX (l.length+2) x){f:Sf}(iv:InvS l f)(h:BdS l f):BdS l ⟨dN l f,gR l f,jK l P f⟩:=by
 refine⟨fun d s v s' hs e hc=>?_,fun d acc s v s' hs ha hl e hc=>?_,fun d s v s' hs e hc=>?_⟩
 ·have e:dN l f d s=some (v,s'):=e
  unfold dN at e
  split at e
  ·cases e;exact(aMc (by decide) hc).elim
  ·exact h.loop _ [] _ _ _ (cP hs).len trivial (Nat.zero_le _) e hc
 ·have e:gR l f d acc s=some (v,s'):=e
  unfold gR at e
  split at e
  ·cases e;exact⟨ha,by omega⟩
  ·split at e
   ·cases e;exact⟨ha,by omega⟩
   ·split at e
    ·rename_i x s1 hx
     have m1:=iv.stmt _ _ _ _ hs hx
     have m2:=iv.loop _ _ _ _ _ m1.len e
     have c1:=m2.lY hc
     have:=m1.lt c1
     exact h.loop _ _ _ _ _ m1.len (aDz ha (h.stmt _ _ _ _ hs hx c1)) (by simp;omega) e hc
    ·cases e
 ·have e:jK l P f d s=some (v,s'):=e
  have val:∀k p nm s2,okS (l.length+2) (jY l P k p nm s2).1:=fun k p nm s2=>⟨kX hx _,⟨Nat.zero_le _,trivial⟩,⟨Nat.zero_le _,trivial⟩⟩
  unfold jK at e
  split at e
  ·split at e
   ·have v0:=val 1 (aA l s.a).a (aA l (s.a+1)).t (bA (bA s))
    rw[Option.some.inj e]at v0;exact v0
   ·have v0:=val 1 (aA l s.a).a [] (eA l (bA s) 5)
    rw[Option.some.inj e]at v0;exact v0
  ·split at e
   ·split at e
    ·cases e;exact⟨aJd,⟨Nat.zero_le _,trivial⟩,⟨Nat.zero_le _,trivial⟩⟩
    ·cases e;exact⟨kX hx _,⟨Nat.zero_le _,trivial⟩,⟨Nat.zero_le _,trivial⟩⟩
   ·split at e
    ·rename_i hi
     have n1:=aY (eD hi (by decide))
     have m2:=bR hP n1.len
     split at e
     ·cases e
     ·rename_i b s1 hb
      have m3:=iv.block _ _ _ _ m2.len hb
      split at e
      ·rename_i h4
       have n4:=aY (eD h4 (by decide))
       split at e
       ·cases e
       ·rename_i b2 s2 hb2
        have m6:=iv.block _ _ _ _ n4.len hb2
        cases e
        have k1:=h.block _ _ _ _ m2.len hb (n4.lY (m6.lY hc))
        have k2:=h.block _ _ _ _ n4.len hb2 hc
        exact⟨kX hx _,⟨by omega,k1.1⟩,⟨by omega,k2.1⟩⟩
      ·cases e
       have k1:=h.block _ _ _ _ m2.len hb hc
       exact⟨kX hx _,⟨by omega,k1.1⟩,⟨Nat.zero_le _,trivial⟩⟩
    ·split at e
     ·rename_i hi
      have n1:=aY (eD hi (by decide))
      have m2:=bR hP n1.len
      split at e
      ·cases e
      ·rename_i b s1 hb
       cases e
       have k1:=h.block _ _ _ _ m2.len hb hc
       exact⟨kX hx _,⟨by omega,k1.1⟩,⟨Nat.zero_le _,trivial⟩⟩
     ·split at e
      ·have v0:=val 2 (aA l s.a).a (aA l s.a).t (bA s)
       rw[Option.some.inj e]at v0;exact v0
      ·cases e;exact⟨kX hx _,⟨Nat.zero_le _,trivial⟩,⟨Nat.zero_le _,trivial⟩⟩
theorem aLd(hP:ParseOk l P)(hx:∀a x n,P a=.ok x n→okX (l.length+2) x):∀n,BdS l (cA l P n)
 |0=>⟨fun _ _ _ _ _ e=>(by cases e),fun _ _ _ _ _ _ _ _ e=>(by cases e),fun _ _ _ _ _ e=>(by cases e)⟩
 |n+1=>aRk hP hx (iM hP n) (aLd hP hx n)
end
end Go.VM
end
section
/- Statements: a parse, of the program's and of the document's, from any place. -/
set_option maxRecDepth 100000
namespace Go.VM
open Go.RowKit
def aSr(l:List Tz):List Sx×Sr:=([],⟨l.length,eI l,5⟩)
theorem aDk{l:List Tz}{P:Nat→R Ex}{d:Nat}{s:Sr}(hc:s.c≠0):(cA l P 2).block d s=some ([],s):=by
 show dN l (cA l P 1) d s=_
 unfold dN nL
 rw[show bI s=false from decide_eq_false hc,Bool.false_and,Bool.and_false]
 have e:bH l s [123]=s:=by
  unfold bH isS eA
  rw[show bI s=false from decide_eq_false hc,Bool.false_and]
 show(cA l P 1).loop (d+1) [] (bH l s [123])=_
 rw[e]
 show gR l (cA l P 0) (d+1) [] s=_
 unfold gR
 rw[show bI s=false from decide_eq_false hc]
theorem aGl{l:List Tz}{P:Nat→R Ex}(hP:ParseOk l P)(hl:l.length<20000)(z:Int)(hz:z<0∨z>l.length)(h:H):
  SCall Go.Proofs.Tryz.prog [0] 6 [lsV l,.int .i64 z] none h (.ret (stV (aSr l))) none h:=by
 refine SCall.more (SCall.cK rfl ?_ (by exact⟨gY l,trivial,trivial⟩) (by exact wQ _) h)
 have hl':l.length<4294967296:=by omega
 have bk:=(xJ hP hl 3 2 (by omega)).block 0 ⟨l.length,eI l,5⟩ [] ⟨l.length,eI l,5⟩ (by omega) (Nat.le_refl _) (aDk (by show(5:Int)≠0;decide))
 have hf:=jS (l:=l) (d:=0) (s:=⟨l.length,eI l,5⟩) (h:=⟨1001,og (srL l 0 ⟨l.length,eI l,5⟩),[]⟩) (R:=1000) (by decide) rfl
 have fl:=qT (l:=l) (d:=0) (s:=⟨l.length,0,0⟩) (c:=5) hl' (h:=⟨1001,og [(1000,srO l 0 ⟨l.length,0,0⟩)],[(6,[.int .i64 0,.int .i64 0])]⟩) (R:=1000) (by decide) rfl
 have efl:eA l ⟨l.length,0,0⟩ 5=⟨l.length,eI l,5⟩:=by
  unfold eA
  rw[show bI ⟨l.length,0,0⟩=true from rfl]
  show(⟨l.length,(aA l l.length).a,5⟩:Sr)=_
  rw[gM (Nat.le_refl _)]
 rw[efl]at fl
 have e:stV (aSr l)=.tup [.lst [] (.ex 0),.int .i64 0,.agg (dgX (eI l) 5)]:=rfl
 rw[e]
 refine SCall.listed (fn:=Go.Proofs.Tryz.f6) (by kernel_rfl) aZz (by kernel_rfl) (by kernel_rfl) (Nat.le_refl _) rfl (trivial) (by exact⟨⟨trivial,trivial⟩,trivial,⟨trivial,trivial,trivial⟩,trivial⟩) ?_
 unfold rc6
 unfold lsV
 repeat apply sQ
 refine WR.q rfl ?_
 refine WR.seq (WR.reg (WQ.aJ [7,12] 1000 _ _ _ _ rfl (WQ.aL ?_)))
 repeat apply sQ
 refine WR.m 2 rfl ?_
 by_cases h0:z<0
 ·rw[show decide (z<0)=true from decide_eq_true h0]
  refine WQ.q rfl ?_
  repeat apply sQ
  refine WR.aB rfl ?_
  repeat apply sQ
  refine WR.m 3 rfl ?_
  rw[List.length_map]
  refine WQ.q rfl ?_
  repeat apply sQ
  refine WR.m 1 rfl ?_
  refine WQ.c rfl fl (.put .base rfl) rfl ?_
  refine WQ.q rfl ?_
  unfold aBe
  repeat apply sQ
  refine WR.m 1 rfl ?_
  refine WQ.c rfl (iD bk trivial (by exact⟨bY _,trivial⟩) (h:=⟨1001,og [(1000,srO l 0 ⟨l.length,eI l,5⟩)],[(6,[.int .i64 0,.int .i64 0])]⟩) (R:=1000) (by decide) rfl) (.put .base rfl) rfl ?_
  refine WQ.q rfl ?_
  repeat apply sQ
  refine WR.m 1 rfl ?_
  refine WQ.c rfl (SCall.dU hf _) .base rfl ?_
  refine WQ.q rfl ?_
  repeat apply sQ
  refine WR.aB rfl ?_
  refine WR.seq (WR.aO aV (DW.m 1000 rfl ?_))
  refine DW.stS pQ rfl rfl rfl rfl (DW.m 1000 rfl (DW.cD pQ ?_))
  exact WR.ret ⟨rfl,rfl,⟨_,rfl,vQ⟩,fun b hb=>uG b hb⟩
 ·rw[show decide (z<0)=false from decide_eq_false h0]
  refine WQ.m 4 rfl ?_
  rw[List.length_map]
  refine WQ.m 1 rfl ?_
  rw[show decide (z>(l.length:Int))=true from decide_eq_true (by omega)]
  refine WQ.q rfl ?_
  repeat apply sQ
  refine WR.aB rfl ?_
  repeat apply sQ
  refine WR.m 3 rfl ?_
  rw[List.length_map]
  refine WQ.q rfl ?_
  repeat apply sQ
  refine WR.m 1 rfl ?_
  refine WQ.c rfl fl (.put .base rfl) rfl ?_
  refine WQ.q rfl ?_
  unfold aBe
  repeat apply sQ
  refine WR.m 1 rfl ?_
  refine WQ.c rfl (iD bk trivial (by exact⟨bY _,trivial⟩) (h:=⟨1001,og [(1000,srO l 0 ⟨l.length,eI l,5⟩)],[(6,[.int .i64 0,.int .i64 0])]⟩) (R:=1000) (by decide) rfl) (.put .base rfl) rfl ?_
  refine WQ.q rfl ?_
  repeat apply sQ
  refine WR.m 1 rfl ?_
  refine WQ.c rfl (SCall.dU hf _) .base rfl ?_
  refine WQ.q rfl ?_
  repeat apply sQ
  refine WR.aB rfl ?_
  refine WR.seq (WR.aO aV (DW.m 1000 rfl ?_))
  refine DW.stS pQ rfl rfl rfl rfl (DW.m 1000 rfl (DW.cD pQ ?_))
  exact WR.ret ⟨rfl,rfl,⟨_,rfl,vQ⟩,fun b hb=>uG b hb⟩
theorem aGn(l:List Tz)(hl:l.length<20000)(z:Int)(hz:z<0∨z>l.length)(h:H):
  SCall Go.Proofs.Tryz.prog [] 7 [lsV l,.int .i64 z] none h (.ret (stV (aSr l))) none h:=by
 refine SCall.cK rfl ?_ (by exact⟨gY l,trivial,trivial⟩) (by exact wQ _) h
 have hl':l.length<4294967296:=by omega
 have etk:cX l z=⟨0,eI l,eI l,[]⟩:=by
  by_cases h0:z<0
  ·unfold cX
   rw[decide_eq_false (by omega)]
  ·obtain⟨a,rfl⟩:∃a:Nat,z=(a:Int):=⟨z.toNat,by omega⟩
   rw[bJ,gM (by omega)]
 have fl:=dX hl' (s:=⟨z,0,0⟩) (c:=5) (h:=⟨1001,og (rrL l ⟨z,0,0⟩),[(6,[.int .i64 0,.int .i64 0])]⟩) (R:=1000) (by decide) rfl
 have efl:dB l ⟨z,0,0⟩ 5=⟨z,eI l,5⟩:=by
  unfold dB
  show(⟨z,(cX l z).a,5⟩:Rk)=_
  rw[etk]
 rw[efl]at fl
 have e:stV (aSr l)=.tup [.lst [] (.ex 0),.int .i64 0,.agg (dgX (eI l) 5)]:=rfl
 rw[e]
 refine SCall.listed (fn:=Go.Proofs.Tryz.f7) (by kernel_rfl) aXz (by kernel_rfl) (by kernel_rfl) (Nat.le_refl _) rfl (trivial) (by exact⟨⟨trivial,trivial⟩,trivial,⟨trivial,trivial,trivial⟩,trivial⟩) ?_
 unfold rc7
 unfold lsV
 repeat apply sQ
 refine WR.q rfl ?_
 refine WR.seq (WR.reg (WQ.aJ [7,12] 1000 _ _ _ _ rfl (WQ.aL ?_)))
 repeat apply sQ
 refine WR.m 2 rfl ?_
 by_cases h0:z<0
 ·rw[show decide (z<0)=true from decide_eq_true h0]
  refine WQ.q rfl ?_
  repeat apply sQ
  refine WR.aB rfl ?_
  repeat apply sQ
  refine WR.m 1 rfl ?_
  refine WQ.c rfl fl (.put .base rfl) rfl ?_
  refine WQ.q rfl ?_
  refine WR.seq (WR.aO aV (DW.m 1000 rfl ?_))
  refine DW.stS pQ rfl rfl rfl rfl (DW.m 1000 rfl (DW.cD pQ ?_))
  refine WR.ret ⟨rfl,rfl,⟨_,rfl,vQ⟩,fun b hb=>rU b hb⟩
 ·rw[show decide (z<0)=false from decide_eq_false h0]
  refine WQ.m 4 rfl ?_
  rw[List.length_map]
  refine WQ.m 1 rfl ?_
  rw[show decide (z>(l.length:Int))=true from decide_eq_true (by omega)]
  refine WQ.q rfl ?_
  repeat apply sQ
  refine WR.aB rfl ?_
  repeat apply sQ
  refine WR.m 1 rfl ?_
  refine WQ.c rfl fl (.put .base rfl) rfl ?_
  refine WQ.q rfl ?_
  refine WR.seq (WR.aO aV (DW.m 1000 rfl ?_))
  refine DW.stS pQ rfl rfl rfl rfl (DW.m 1000 rfl (DW.cD pQ ?_))
  refine WR.ret ⟨rfl,rfl,⟨_,rfl,vQ⟩,fun b hb=>rU b hb⟩
theorem aLj{l:List Tz}{P:Nat→R Ex}(hP:ParseOk l P)(hl:l.length<20000)(h4:∀a,a≤l.length→∀h:H,SCall Go.Proofs.Tryz.prog [] 48 [lsV l,.int .i64 a] none h (.ret (exV (P a))) none h)(n a:Nat)(ha:a≤l.length){r:List Sx×Sr}(he:(cA l P n).block 0 ⟨a,0,0⟩=some r)(h:H):
  SCall Go.Proofs.Tryz.prog [] 7 [lsV l,.int .i64 a] none h (.ret (stV r)) none h:=by
 obtain⟨v,s'⟩:=r
 refine SCall.cK rfl ?_ (by exact⟨gY l,trivial,trivial⟩) (by exact wQ _) h
 obtain⟨es,r,⟨hr,hes⟩,sc⟩:=vL (enc:=fun x=>.lst (cR x) .unk) (fun v=>⟨bY v,trivial⟩) (by exact⟨trivial,trivial⟩) ((xR hP hl h4 (n+1) n (Nat.lt_succ_self n)).block 0 a v s' (by omega) ha he)
 by_cases hc:s'.c=0
 ·obtain⟨es',rfl⟩:=hr.lY hc
  have e:stV (v,s')=.tup [.lst (cR es) .unk,.int .i64 s'.a,.agg (dgX 0 0)]:=by
   rw[hes hc]
   unfold stV
   rw[show bI s'=true from decide_eq_true hc]
  rw[e]
  refine SCall.listed (fn:=Go.Proofs.Tryz.f7) (by kernel_rfl) aXz (by kernel_rfl) (by kernel_rfl) (Nat.le_refl _) rfl (trivial) (by exact⟨⟨bY _,trivial⟩,trivial,⟨trivial,trivial,trivial⟩,trivial⟩) ?_
  unfold rc7
  unfold lsV
  repeat apply sQ
  refine WR.q rfl ?_
  refine WR.seq (WR.reg (WQ.aJ [7,12] 1000 _ _ _ _ rfl (WQ.aL ?_)))
  repeat apply sQ
  refine WR.m 2 rfl ?_
  rw[show decide ((a:Int)<0)=false from decide_eq_false (by omega)]
  refine WQ.m 4 rfl ?_
  rw[List.length_map]
  refine WQ.m 1 rfl ?_
  rw[show decide ((a:Int)>(l.length:Int))=false from decide_eq_false (by omega)]
  refine WQ.q rfl ?_
  repeat apply sQ
  refine WR.k rfl ?_
  repeat apply sQ
  refine WR.m 1 rfl ?_
  refine WQ.c rfl (sc (by decide) rfl) (.put .base rfl) rfl ?_
  refine WQ.q rfl ?_
  repeat apply sQ
  refine WR.q rfl ?_
  repeat apply sQ
  refine WR.k rfl ?_
  refine WR.seq (WR.aO aV (DW.m 1000 rfl ?_))
  refine DW.stS pQ rfl rfl rfl rfl (DW.m 1000 rfl (DW.cD pQ ?_))
  refine WR.ret ⟨rfl,rfl,⟨_,rfl,vQ⟩,fun b hb=>rU b hb⟩
 ·have hrc:=hr.code
  have hrp:=(hr.2 hc).1
  have e:stV (v,s')=.tup [.lst [] (.ex 0),.int .i64 0,.agg (dgX r.p r.c)]:=by
   rw[hrc,hrp]
   unfold stV
   rw[show bI s'=false from decide_eq_false hc]
  rw[e]
  refine SCall.listed (fn:=Go.Proofs.Tryz.f7) (by kernel_rfl) aXz (by kernel_rfl) (by kernel_rfl) (Nat.le_refl _) rfl (trivial) (by exact⟨⟨trivial,trivial⟩,trivial,⟨trivial,trivial,trivial⟩,trivial⟩) ?_
  unfold rc7
  unfold lsV
  repeat apply sQ
  refine WR.q rfl ?_
  refine WR.seq (WR.reg (WQ.aJ [7,12] 1000 _ _ _ _ rfl (WQ.aL ?_)))
  repeat apply sQ
  refine WR.m 2 rfl ?_
  rw[show decide ((a:Int)<0)=false from decide_eq_false (by omega)]
  refine WQ.m 4 rfl ?_
  rw[List.length_map]
  refine WQ.m 1 rfl ?_
  rw[show decide ((a:Int)>(l.length:Int))=false from decide_eq_false (by omega)]
  refine WQ.q rfl ?_
  repeat apply sQ
  refine WR.k rfl ?_
  repeat apply sQ
  refine WR.m 1 rfl ?_
  refine WQ.c rfl (sc (by decide) rfl) (.put .base rfl) rfl ?_
  refine WQ.q rfl ?_
  repeat apply sQ
  refine WR.m 5 rfl ?_
  refine WQ.m 1 rfl ?_
  rw[show decide (r.c=0)=false from decide_eq_false (by rw[hrc];exact hc)]
  refine WQ.q rfl ?_
  repeat apply sQ
  refine WR.aB rfl ?_
  refine WR.seq (WR.aO aV (DW.m 1000 rfl ?_))
  refine DW.stS pQ rfl rfl rfl rfl (DW.m 1000 rfl (DW.cD pQ ?_))
  refine WR.ret ⟨rfl,rfl,⟨_,rfl,vQ⟩,fun b hb=>rU b hb⟩
end Go.VM
end
section
/- Statements: the document's comparing, of what is the same. -/
set_option maxRecDepth 100000
namespace Go.VM
open Go.RowKit
theorem eU:∀l:List Tx,oA l=l.map gE
 |[]=>rfl
 |x::l=>by simp only[oA,List.map_cons,eU l]
def bEr(i:Nat):TM:=[(2,.l 2 0),(3,.l 3 0),(4,.v (.bool false)),(5,.v (.int .i64 i))]
theorem aVl{QN:S→Prop}{QX:X→S→Prop}(k:Nat)(a:Int)(p n:List Nat)(args:List Tx)(hb:args.length<big)
  (ih:∀y∈args,SCall Go.Proofs.Tryz.prog [] 24 [.agg (gE y),.agg (gE y)] none ⟨1000,og [],[]⟩ (.ret (.bool true)) none ⟨1000,og [],[]⟩)
  (h0:∀tm,QX (.exit 0) (SL.toS ⟨tm,[],none,1000,[],[(3,gE (.mk k a p n args)),(2,gE (.mk k a p n args))]⟩)):∀(m i:Nat),i+m=args.length→∀lc,TellL lc [(3,gE (.mk k a p n args)),(2,gE (.mk k a p n args))]→∀tm,TellT tm [(3,gE (.mk k a p n args)),(2,gE (.mk k a p n args))] (bEr i)→
  WLr Go.Proofs.Tryz.prog [] ⟨Go.Proofs.Tryz.f24.ntmps,none,24⟩ tP (SL.toS ⟨tm,[],none,1000,[],lc⟩) QN QX:=by
 intro m
 induction m with
 |zero=>
  intro i hi lc hlc tm htm
  refine WLr.weak (SW.aP htm hlc) ?_
  unfold tP
  refine WLr.of ?_
  repeat apply sQ
  refine WR.m 5 rfl ?_
  rw[eU,List.length_map,show decide ((i:Int)<(args.length:Int))=false from decide_eq_false (by omega)]
  refine WQ.q rfl ?_
  repeat apply sQ
  rw[←eU]
  exact WR.aF rfl (WR.exit (h0 _))
 |succ m ihm=>
  intro i hi lc hlc tm htm
  obtain⟨y,hy⟩:∃y,args[i]? =some y:=⟨args[i],List.getElem?_eq_getElem (by omega)⟩
  have sc:=ih y (List.mem_of_getElem? hy)
  obtain⟨yk,ya,yp,yn,yl⟩:=y
  refine WLr.weak (SW.aP htm hlc) ?_
  unfold tP
  refine WLr.of ?_
  repeat apply sQ
  refine WR.m 5 rfl ?_
  rw[eU,List.length_map,show decide ((i:Int)<(args.length:Int))=true from decide_eq_true (by omega)]
  refine WQ.q rfl ?_
  rw[←eU]
  repeat apply sQ
  refine WR.aB rfl (WR.skip ?_)
  repeat apply sQ
  refine WR.block ?_
  repeat apply sQ
  refine WR.aO aV (DW.m 3 rfl ?_)
  refine DW.nE rfl (fun h=>hU (cs:=gE (.mk yk ya yp yn yl)) rfl rfl (by rw[eU,List.getElem?_map,hy];rfl) rfl) rfl ?_
  refine DW.m 4 rfl ?_
  refine DW.nE rfl (fun h=>hU (cs:=gE (.mk yk ya yp yn yl)) rfl rfl (by rw[eU,List.getElem?_map,hy];rfl) rfl) rfl ?_
  refine DW.m 2 rfl ?_
  refine DW.eR pQ rfl rfl rfl rfl rfl (SCall.dU sc _) .base rfl ?_
  refine DW.m 1000 rfl (DW.cD pQ ?_)
  repeat apply sQ
  refine WR.q rfl ?_
  repeat apply sQ
  refine WR.k rfl ?_
  unfold aKi
  repeat apply sQ
  refine WR.m 2 rfl ?_
  rw[aN (by omega)]
  refine WQ.q rfl ?_
  refine WIr.again (ihm (i+1) (by omega) _ ?_ _ ?_)
  ·exact lQ
  ·exact tQ
theorem aCb(K:Nat)(hK:K<big):∀(N:Nat) (x:Tx),SizeOf.sizeOf x<N→okT K x→SCall Go.Proofs.Tryz.prog [] 24 [.agg (gE x),.agg (gE x)] none ⟨1000,og [],[]⟩ (.ret (.bool true)) none ⟨1000,og [],[]⟩
 |0,x,h,_=>by omega
 |N+1,.mk k a p n args,h,ho=>by
  obtain⟨hlen,hsub⟩:=ho
  have ih:∀y∈args,SCall Go.Proofs.Tryz.prog [] 24 [.agg (gE y),.agg (gE y)] none ⟨1000,og [],[]⟩ (.ret (.bool true)) none ⟨1000,og [],[]⟩:=by
   intro y hy
   refine aCb K hK N y ?_ (aCv hsub hy)
   have:=List.sizeOf_lt_of_mem hy
   simp only[Tx.mk.sizeOf_spec]at h
   omega
  refine SCall.listed (fn:=Go.Proofs.Tryz.f24) (by kernel_rfl) bCl (by kernel_rfl) (by kernel_rfl) (Nat.le_refl _) rfl (trivial) trivial ?_
  unfold aZa
  repeat apply sQ
  refine WR.q rfl ?_
  repeat apply sQ
  refine WR.m 5 rfl ?_
  rw[show decide ((k:Int)=(k:Int))=true from decide_eq_true rfl]
  refine WQ.m 7 rfl ?_
  rw[show decide (a=a)=true from decide_eq_true rfl]
  refine WQ.m 7 rfl ?_
  rw[show decide (p=p)=true from decide_eq_true rfl]
  refine WQ.m 7 rfl ?_
  rw[show decide (n=n)=true from decide_eq_true rfl]
  refine WQ.m 9 rfl ?_
  rw[show decide (((oA args).length:Int)=((oA args).length:Int))=true from decide_eq_true rfl]
  refine WQ.q rfl ?_
  repeat apply sQ
  refine WR.k rfl ?_
  repeat apply sQ
  refine WR.q rfl ?_
  repeat apply sQ
  refine WR.block (WR.loop (aVl k a p n args (by omega) ih (fun tm=>?_) args.length 0 (by omega) _ ?_ _ ?_))
  ·unfold aIw
   repeat apply sQ
   refine WR.q rfl ?_
   exact WR.e
  ·exact lQ
  ·exact tQ
end Go.VM
end
section
/- Statements: the document's comparing, of expressions and statements that are the same. -/
set_option maxRecDepth 100000
namespace Go.VM
open Go.RowKit
def bEo(i:Nat):TM:=[(2,.l 2 0),(3,.l 3 0),(4,.v (.bool false)),(6,.v (.int .i64 i))]
theorem aSx{QN:S→Prop}{QX:X→S→Prop}(k:Nat)(a e:Int)(nm:List Nat)(nn:Int)(tk:Nat)(ta:Int)(tp tn:List Nat)(tl:List Tx)(args:List Ex)(hb:args.length<big)
  (ih:∀y∈args,SCall Go.Proofs.Tryz.prog [] 15 [.agg (bG y),.agg (bG y)] none ⟨1000,og [],[]⟩ (.ret (.bool true)) none ⟨1000,og [],[]⟩)
  (h0:∀tm,QX (.exit 0) (SL.toS ⟨tm,[],none,1000,[],[(3,bG (.mk k a e nm nn (.mk tk ta tp tn tl) args)),(2,bG (.mk k a e nm nn (.mk tk ta tp tn tl) args))]⟩)):∀(m i:Nat),i+m=args.length→∀lc,TellL lc [(3,bG (.mk k a e nm nn (.mk tk ta tp tn tl) args)),(2,bG (.mk k a e nm nn (.mk tk ta tp tn tl) args))]→∀tm,TellT tm [(3,bG (.mk k a e nm nn (.mk tk ta tp tn tl) args)),(2,bG (.mk k a e nm nn (.mk tk ta tp tn tl) args))] (bEo i)→
  WLr Go.Proofs.Tryz.prog [] ⟨Go.Proofs.Tryz.f15.ntmps,none,15⟩ uE (SL.toS ⟨tm,[],none,1000,[],lc⟩) QN QX:=by
 intro m
 induction m with
 |zero=>
  intro i hi lc hlc tm htm
  refine WLr.weak (SW.aP htm hlc) ?_
  unfold uE
  refine WLr.of ?_
  repeat apply sQ
  refine WR.m 5 rfl ?_
  rw[bC,List.length_map,show decide ((i:Int)<(args.length:Int))=false from decide_eq_false (by omega)]
  refine WQ.q rfl ?_
  repeat apply sQ
  rw[←bC]
  exact WR.aF rfl (WR.exit (h0 _))
 |succ m ihm=>
  intro i hi lc hlc tm htm
  obtain⟨y,hy⟩:∃y,args[i]? =some y:=⟨args[i],List.getElem?_eq_getElem (by omega)⟩
  have sc:=ih y (List.mem_of_getElem? hy)
  obtain⟨yk,ya,ye,yn,yv,⟨ytk,yta,ytp,ytn,ytl⟩,ys⟩:=y
  refine WLr.weak (SW.aP htm hlc) ?_
  unfold uE
  refine WLr.of ?_
  repeat apply sQ
  refine WR.m 5 rfl ?_
  rw[bC,List.length_map,show decide ((i:Int)<(args.length:Int))=true from decide_eq_true (by omega)]
  refine WQ.q rfl ?_
  rw[←bC]
  repeat apply sQ
  refine WR.aB rfl (WR.skip ?_)
  repeat apply sQ
  refine WR.block ?_
  repeat apply sQ
  refine WR.aO aV (DW.m 3 rfl ?_)
  refine DW.nE rfl (fun h=>hU (cs:=bG (.mk yk ya ye yn yv (.mk ytk yta ytp ytn ytl) ys)) rfl rfl (by rw[bC,List.getElem?_map,hy];rfl) rfl) rfl ?_
  refine DW.m 4 rfl ?_
  refine DW.nE rfl (fun h=>hU (cs:=bG (.mk yk ya ye yn yv (.mk ytk yta ytp ytn ytl) ys)) rfl rfl (by rw[bC,List.getElem?_map,hy];rfl) rfl) rfl ?_
  refine DW.m 2 rfl ?_
  refine DW.eR pQ rfl rfl rfl rfl rfl (SCall.dU sc _) .base rfl ?_
  refine DW.m 1000 rfl (DW.cD pQ ?_)
  repeat apply sQ
  refine WR.q rfl ?_
  repeat apply sQ
  refine WR.k rfl ?_
  unfold aIo
  repeat apply sQ
  refine WR.m 2 rfl ?_
  rw[aN (by omega)]
  refine WQ.q rfl ?_
  refine WIr.again (ihm (i+1) (by omega) _ ?_ _ ?_)
  ·exact lQ
  ·exact tQ
theorem aDq(K:Nat)(hK:K<big):∀(N:Nat) (x:Ex),SizeOf.sizeOf x<N→okX K x→SCall Go.Proofs.Tryz.prog [] 15 [.agg (bG x),.agg (bG x)] none ⟨1000,og [],[]⟩ (.ret (.bool true)) none ⟨1000,og [],[]⟩
 |0,x,h,_=>by omega
 |N+1,.mk k a e nm nn (.mk tk ta tp tn tl) args,h,ho=>by
  obtain⟨hT,hlen,hsub⟩:=ho
  have ih:∀y∈args,SCall Go.Proofs.Tryz.prog [] 15 [.agg (bG y),.agg (bG y)] none ⟨1000,og [],[]⟩ (.ret (.bool true)) none ⟨1000,og [],[]⟩:=by
   intro y hy
   refine aDq K hK N y ?_ (aDs hsub hy)
   have:=List.sizeOf_lt_of_mem hy
   simp only[Ex.mk.sizeOf_spec]at h
   omega
  have st:=aCb K hK _ _ (Nat.lt_succ_self _) hT
  refine SCall.listed (fn:=Go.Proofs.Tryz.f15) (by kernel_rfl) bAz (by kernel_rfl) (by kernel_rfl) (Nat.le_refl _) rfl (trivial) trivial ?_
  unfold bBn
  repeat apply sQ
  refine WR.q rfl ?_
  repeat apply sQ
  refine WR.m 4 rfl ?_
  refine WQ.c rfl (SCall.dU st _) .base rfl ?_
  refine WQ.q rfl ?_
  repeat apply sQ
  refine WR.m 7 rfl ?_
  refine WQ.m 1 rfl ?_
  rw[show decide ((k:Int)=(k:Int))=true from decide_eq_true rfl]
  refine WQ.m 7 rfl ?_
  rw[show decide (a=a)=true from decide_eq_true rfl]
  refine WQ.m 7 rfl ?_
  rw[show decide (e=e)=true from decide_eq_true rfl]
  refine WQ.m 7 rfl ?_
  rw[show decide (nm=nm)=true from decide_eq_true rfl]
  refine WQ.m 7 rfl ?_
  rw[show decide (nn=nn)=true from decide_eq_true rfl]
  refine WQ.m 9 rfl ?_
  rw[show decide (((dG args).length:Int)=((dG args).length:Int))=true from decide_eq_true rfl]
  refine WQ.q rfl ?_
  repeat apply sQ
  refine WR.k rfl ?_
  repeat apply sQ
  refine WR.q rfl ?_
  repeat apply sQ
  refine WR.block (WR.loop (aSx k a e nm nn tk ta tp tn tl args (by omega) ih (fun tm=>?_) args.length 0 (by omega) _ ?_ _ ?_))
  ·unfold aKp
   repeat apply sQ
   refine WR.q rfl ?_
   exact WR.e
  ·exact lQ
  ·exact tQ
def slC(l:List Sx):V:=.lst (cR l) .unk
def aXw(l:List Sx)(i:Nat):TM:=[(0,.v (slC l)),(1,.v (slC l)),(4,.v (.bool false)),(5,.v (.int .i64 i))]
theorem aTn{QN:S→Prop}{QX:X→S→Prop}(K:Nat)(hK:K<big)(l:List Sx)(hb:l.length<big)
  (ih:∀y∈l,∀k a nm h x b e,y=.mk k a nm h x b e→okX K x∧SCall Go.Proofs.Tryz.prog [] 8 [slC b,slC b] none ⟨1000,og [],[]⟩ (.ret (.bool true)) none ⟨1000,og [],[]⟩∧SCall Go.Proofs.Tryz.prog [] 8 [slC e,slC e] none ⟨1000,og [],[]⟩ (.ret (.bool true)) none ⟨1000,og [],[]⟩)
  (h0:∀tm lc,QX (.exit 0) (SL.toS ⟨tm,[],none,1000,[],lc⟩)):∀(m i:Nat),i+m=l.length→∀lc tm,TellT tm [] (aXw l i)→
  WLr Go.Proofs.Tryz.prog [] ⟨Go.Proofs.Tryz.f8.ntmps,none,8⟩ aBn (SL.toS ⟨tm,[],none,1000,[],lc⟩) QN QX:=by
 intro m
 induction m with
 |zero=>
  intro i hi lc tm htm
  refine WLr.weak (s:=SL.toS ⟨aXw l i,[],none,1000,[],[]⟩) (SW.aP htm .nil) ?_
  unfold aBn
  refine WLr.of ?_
  repeat apply sQ
  refine WR.m 3 rfl ?_
  rw[iB,List.length_map]
  refine WQ.m 1 rfl ?_
  rw[show decide ((i:Int)<(l.length:Int))=false from decide_eq_false (by omega)]
  refine WQ.q rfl ?_
  repeat apply sQ
  exact WR.aF rfl (WR.exit (h0 _ _))
 |succ m ihm=>
  intro i hi lc tm htm
  obtain⟨y,hy⟩:∃y,l[i]? =some y:=⟨l[i],List.getElem?_eq_getElem (by omega)⟩
  have sc:=ih y (List.mem_of_getElem? hy)
  obtain⟨yk,ya,yn,yh,⟨xk,xa,xe,xn,xv,⟨xtk,xta,xtp,xtn,xtl⟩,xs⟩,yb,ye⟩:=y
  obtain⟨sx,sb,se⟩:=sc _ _ _ _ _ _ _ rfl
  have s4:=aDq K hK _ _ (Nat.lt_succ_self _) sx
  refine WLr.weak (s:=SL.toS ⟨aXw l i,[],none,1000,[],[]⟩) (SW.aP htm .nil) ?_
  unfold aBn
  refine WLr.of ?_
  repeat apply sQ
  refine WR.m 3 rfl ?_
  rw[iB,List.length_map]
  refine WQ.m 1 rfl ?_
  rw[show decide ((i:Int)<(l.length:Int))=true from decide_eq_true (by omega)]
  refine WQ.q rfl ?_
  repeat apply sQ
  refine WR.aB rfl (WR.skip ?_)
  repeat apply sQ
  refine WR.block ?_
  repeat apply sQ
  refine WR.m 2 rfl ?_
  refine WQ.bP rfl rfl rfl (hU (cs:=eY (.mk yk ya yn yh (.mk xk xa xe xn xv (.mk xtk xta xtp xtn xtl) xs) yb ye)) rfl rfl (by rw[iB,List.getElem?_map,hy];rfl) rfl) rfl ?_
  refine WQ.q rfl ?_
  repeat apply sQ
  refine WR.m 2 rfl ?_
  refine WQ.bP rfl rfl rfl (hU (cs:=eY (.mk yk ya yn yh (.mk xk xa xe xn xv (.mk xtk xta xtp xtn xtl) xs) yb ye)) rfl rfl (by rw[iB,List.getElem?_map,hy];rfl) rfl) rfl ?_
  refine WQ.q rfl ?_
  repeat apply sQ
  refine WR.m 5 rfl ?_
  rw[show decide ((yk:Int)=(yk:Int))=true from decide_eq_true rfl]
  refine WQ.m 7 rfl ?_
  rw[show decide (ya=ya)=true from decide_eq_true rfl]
  refine WQ.m 7 rfl ?_
  rw[show decide (yn=yn)=true from decide_eq_true rfl]
  refine WQ.m 6 rfl ?_
  refine WQ.m 1 rfl ?_
  rw[show(yh==yh)=true from by cases yh<;>rfl]
  refine WQ.q rfl ?_
  repeat apply sQ
  refine WR.k rfl ?_
  repeat apply sQ
  refine WR.m 4 rfl ?_
  refine WQ.c rfl (SCall.dU s4 _) .base rfl ?_
  refine WQ.q rfl ?_
  repeat apply sQ
  refine WR.m 4 rfl ?_
  refine WQ.c rfl (SCall.dU sb _) .base rfl ?_
  refine WQ.q rfl ?_
  repeat apply sQ
  refine WR.m 4 rfl ?_
  refine WQ.c rfl (SCall.dU se _) .base rfl ?_
  refine WQ.q rfl ?_
  repeat apply sQ
  refine WR.q rfl ?_
  repeat apply sQ
  refine WR.k rfl ?_
  unfold aOw
  repeat apply sQ
  refine WR.m 2 rfl ?_
  rw[aN (by omega)]
  refine WQ.q rfl ?_
  refine WIr.again (ihm (i+1) (by omega) _ _ ?_)
  exact tQ
theorem qO(K:Nat)(hK:K<big):∀(N:Nat) (l:List Sx),SizeOf.sizeOf l<N→xF K l→l.length≤K→SCall Go.Proofs.Tryz.prog [] 8 [slC l,slC l] none ⟨1000,og [],[]⟩ (.ret (.bool true)) none ⟨1000,og [],[]⟩
 |0,x,h,_,_=>by omega
 |N+1,l,h,ho,hlen=>by
  have ih:∀y∈l,∀k a nm h x b e,y=.mk k a nm h x b e→okX K x∧SCall Go.Proofs.Tryz.prog [] 8 [slC b,slC b] none ⟨1000,og [],[]⟩ (.ret (.bool true)) none ⟨1000,og [],[]⟩∧SCall Go.Proofs.Tryz.prog [] 8 [slC e,slC e] none ⟨1000,og [],[]⟩ (.ret (.bool true)) none ⟨1000,og [],[]⟩:=by
   intro y hy k a nm hh x b e he
   have hm:=aDf ho hy
   have hsz:=List.sizeOf_lt_of_mem hy
   subst he
   obtain⟨q1,q2,q3⟩:=hm
   simp only[Sx.mk.sizeOf_spec]at hsz
   exact⟨q1,qO K hK N b (by omega) q2.2 q2.1,qO K hK N e (by omega) q3.2 q3.1⟩
  refine SCall.listed (fn:=Go.Proofs.Tryz.f8) (by kernel_rfl) bEv (by kernel_rfl) (by kernel_rfl) (Nat.le_refl _) rfl (trivial) trivial ?_
  unfold rc8
  unfold slC
  repeat apply sQ
  refine WR.q rfl ?_
  repeat apply sQ
  refine WR.m 4 rfl ?_
  refine WQ.m 1 rfl ?_
  rw[show decide (((cR l).length:Int)=((cR l).length:Int))=true from decide_eq_true rfl]
  refine WQ.q rfl ?_
  repeat apply sQ
  refine WR.k rfl ?_
  repeat apply sQ
  refine WR.q rfl ?_
  repeat apply sQ
  refine WR.block (WR.loop (aTn K hK l (by omega) ih (fun tm lc=>?_) l.length 0 (by omega) _ _ ?_))
  ·unfold aOs
   repeat apply sQ
   refine WR.q rfl ?_
   exact WR.e
  ·exact tQ
end Go.VM
end
section
/- Statements: what stands behind a block. -/
set_option maxRecDepth 100000
namespace Go.VM
open Go.RowKit
noncomputable def PL(l:List Tz)(a:Nat):R Ex:=open Classical in if h:a≤l.length then Classical.choose (Classical.choose_spec (xW l a 1 0 h))else .out
theorem oF(l:List Tz){a:Nat}(h:a≤l.length):(PL l a).dP=false∧∃N,∀n,N≤n→(fns l n).expr 1 a 0=PL l a:=by
 have h2:=Classical.choose_spec (Classical.choose_spec (xW l a 1 0 h))
 unfold PL
 rw[dif_pos h]
 exact⟨h2.1,_,h2.2⟩
theorem bBb(l:List Tz)(hl:l.length<19999)(hT:∀t∈l,t.t.length<big):ParseOk l (PL l):=by
 refine⟨fun a ha h=>?_,fun a ha=>(oF l ha).1,fun a x n ha e=>?_,fun a a1 d p c e=>?_⟩
 ·obtain⟨h1,N,h2⟩:=oF l ha
  have h2:=h2 N (Nat.le_refl _)
  have:=SCall.cK rfl (wS l hl hT a N ha (by rw[h2];exact h1)) (by exact⟨gY l,trivial,trivial⟩) (by exact sX _) h
  rw[h2]at this
  exact this
 ·obtain⟨h1,N,h2⟩:=oF l ha
  have h2:=h2 N (Nat.le_refl _)
  rw[e]at h2
  exact⟨(nA l N).expr 1 a 0 x n h2,((bX l N).expr 1 a 0 x n h2).2 ha⟩
 ·by_cases ha:a≤l.length
  ·obtain⟨h1,N,h2⟩:=oF l ha
   have h2:=h2 N (Nat.le_refl _)
   rw[e]at h2
   exact(eH N).expr 1 a 0 a1 d p c h2
  ·unfold PL at e
   rw[dif_neg ha]at e
   cases e
theorem bDs(l:List Tz):∀a x n,PL l a=.ok x n→okX (l.length+2) x:=by
 intro a x n e
 by_cases ha:a≤l.length
 ·obtain⟨h1,N,h2⟩:=oF l ha
  have h2:=h2 N (Nat.le_refl _)
  rw[e]at h2
  exact(aPb l N).expr 1 a 0 x n h2
 ·unfold PL at e
  rw[dif_neg ha]at e
  cases e
section
variable{lo n k:Nat}{b:Int}{l l':List Tz}{P P':Nat→R Ex}
end
end Go.VM
end
section
/- Statements: the laws StmtxTexts and StmtxReads, walked. -/
set_option maxRecDepth 100000
namespace Go.VM
open Go.RowKit
theorem aFa(l:List Tz)(hl:l.length<19999)(hT:∀t∈l,t.t.length<big)(z:Int):∃(x:V) (n p c:Int),x.In (fun _=>False)∧(∀h,SCall Go.Proofs.Tryz.prog [0] 6 [lsV l,.int .i64 z] none h (.ret (.tup [x,.int .i64 n,.agg (dgX p c)])) none h)∧
  (∀h,SCall Go.Proofs.Tryz.prog [0] 7 [lsV l,.int .i64 z] none h (.ret (.tup [x,.int .i64 n,.agg (dgX p c)])) none h)∧∀h,SCall Go.Proofs.Tryz.prog [0] 8 [x,x] none h (.ret (.bool true)) none h:=by
 have hP:=bBb l hl hT
 have h4:∀a,a≤l.length→∀h:H,SCall Go.Proofs.Tryz.prog [] 48 [lsV l,.int .i64 a] none h (.ret (exV (PL l a))) none h:=by
  intro a ha h
  obtain⟨h1,N,h2⟩:=oF l ha
  have h2:=h2 N (Nat.le_refl _)
  have:=SCall.cK rfl (aDl l hl hT a N ha (by rw[h2];exact h1)) (by exact⟨gY l,trivial,trivial⟩) (by exact sX _) h
  rw[h2]at this
  exact this
 have same0:∀h,SCall Go.Proofs.Tryz.prog [0] 8 [.lst [] (.ex 0),.lst [] (.ex 0)] none h (.ret (.bool true)) none h:=by
  intro h
  have:=qO 1 (by unfold big;omega) _ [] (Nat.lt_succ_self _) trivial (Nat.zero_le _)
  refine SCall.args (SCall.more (SCall.cK rfl this (by exact⟨⟨trivial,trivial⟩,⟨trivial,trivial⟩,trivial⟩) trivial h)) (fun E xs h=>VLL.ars (.cons (VLe.unk _ _) (.cons (VLe.unk _ _) .nil)) h)
 by_cases hz:z<0∨z>l.length
 ·exact⟨.lst [] (.ex 0),0,eI l,5,(by exact⟨trivial,trivial⟩),fun h=>aGl hP (by omega) z hz h,fun h=>SCall.more (aGn l (by omega) z hz h),same0⟩
 ·obtain⟨a,rfl⟩:∃a:Nat,z=(a:Int):=⟨z.toNat,by omega⟩
  have ha:a≤l.length:=by omega
  obtain⟨N,⟨v,s'⟩,hN⟩:=aFk hP a ha
  have e:=hN N (Nat.le_refl _)
  have s1:=fun h=>sJ hP (by omega) N a ha e h
  have s2:=fun h=>aLj hP (by omega) h4 N a ha e h
  cases hf:bI s' with
  |false=>
   have ev:stV (v,s')=.tup [.lst [] (.ex 0),.int .i64 0,.agg (dgX s'.p s'.c)]:=by unfold stV;rw[hf]
   rw[ev]at s1 s2
   exact⟨.lst [] (.ex 0),_,_,_,(by exact⟨trivial,trivial⟩),s1,fun h=>SCall.more (s2 h),same0⟩
  |true=>
   have hc:s'.c=0:=of_decide_eq_true hf
   have ev:stV (v,s')=.tup [slC v,.int .i64 s'.a,.agg (dgX 0 0)]:=by unfold stV slC;rw[hf]
   rw[ev]at s1 s2
   obtain⟨ok,hvl⟩:=(aLd hP (bDs l) N).block 0 ⟨a,0,0⟩ v s' ha e hc
   have sm:=qO (l.length+2) (by unfold big;omega) _ v (Nat.lt_succ_self _) ok (by omega)
   exact⟨slC v,_,_,_,(by exact⟨bY v,trivial⟩),s1,fun h=>SCall.more (s2 h),fun h=>SCall.more (SCall.cK rfl sm (by exact⟨⟨bY _,trivial⟩,⟨bY _,trivial⟩,trivial⟩) trivial h)⟩
theorem aHg(s:List Nat)(h8:∀c∈s,c<256)(hl:s.length<big):
  SCall Go.Proofs.Tryz.prog [0] 4 [.str s] none ⟨1000,og tOl,[]⟩ (.ret (.bool true)) none ⟨1000,og tOl,[]⟩:=by
 have al:=aRi s h8 hl
 unfold aCu at al
 rw[aDj]at al
 have al:SCall Go.Proofs.Tryz.prog [0] 9 [.str s] none ⟨1000,og tOl,[]⟩ (.ret (.tup [lsV ((match(cE s).2.2 with|0=>(cE s).1|_+1=>[]).map toZ),.agg (dg (cE s).2.1 (cE s).2.2)])) none ⟨1000,og tOl,[]⟩:=al
 have cT:(cE s).2.2=0→GoodT s.length ((cE s).1.map toZ)∧(cE s).1.length≤4001:=by
  intro hc
  have e:cE s=((cE s).1,(cE s).2.1,0):=by rw[←hc]
  exact⟨aMi e,aQz s _ _ _ _ _ (Nat.zero_le _) e⟩
 generalize(cE s).2.2=c at al cT
 generalize(cE s).2.1=w at al
 generalize(cE s).1=T at al cT
 refine SCall.listed (fn:=Go.Proofs.Tryz.f4) (by kernel_rfl) bEh (by kernel_rfl) (by kernel_rfl) (Nat.le_refl _) rfl ((by exact⟨qY,trivial⟩)) trivial ?_
 unfold rc4
 repeat apply sQ
 refine WR.q rfl ?_
 repeat apply sQ
 refine WR.reg (WQ.c rfl aNm .base rfl ?_)
 refine WQ.q rfl ?_
 repeat apply sQ
 refine WR.m 1 rfl ?_
 refine WQ.c rfl (SCall.dU al _) .base rfl ?_
 refine WQ.q rfl ?_
 repeat apply sQ
 refine WR.m 2 rfl ?_
 refine WQ.m 1 rfl ?_
 by_cases k1:c=0
 rotate_left
 ·rw[show decide ((c:Int)=0)=false from decide_eq_false (by omega)]
  refine WQ.q rfl ?_
  repeat apply sQ
  refine WR.aB rfl ?_
  repeat apply sQ
  refine WR.q rfl ?_
  exact WR.e
 subst k1
 obtain⟨g,hg⟩:=cT rfl
 obtain⟨x,n,p,c,hx,p1,p2,sm⟩:=aFa (T.map toZ) (by rw[List.length_map];omega) (aPl g hl) 0
 generalize T.map toZ=Z at p1 p2
 refine WQ.q rfl ?_
 repeat apply sQ
 refine WR.k rfl ?_
 repeat apply sQ
 refine WR.m 2 rfl ?_
 refine WQ.c rfl (p1 _) .base rfl ?_
 refine WQ.q rfl ?_
 repeat apply sQ
 refine WR.m 2 rfl ?_
 refine WQ.c rfl (p2 _) .base rfl ?_
 refine WQ.q rfl ?_
 repeat apply sQ
 refine WR.m 2 rfl ?_
 refine WQ.c rfl (sm _) .base rfl ?_
 refine WQ.q rfl ?_
 repeat apply sQ
 refine WR.m 8 rfl ?_
 rw[show decide (n=n)=true from decide_eq_true rfl]
 refine WQ.m 4 rfl ?_
 refine WQ.m 1 rfl ?_
 rw[show(decide (p=p)&&(decide (c=c)&&true))=true from by rw[decide_eq_true rfl,decide_eq_true rfl];rfl]
 refine WQ.q rfl ?_
 exact WR.e
theorem aEx(s:List Nat)(h8:∀c∈s,c<256)(hl:s.length<big):SCall Go.Proofs.Tryz.prog [0] 4 [.str s] none (Go.VM.hT 0 .u8 aAk) (.ret (.bool true)) none (Go.VM.hT 0 .u8 aAk):=aHg s h8 hl
end Go.VM
end
