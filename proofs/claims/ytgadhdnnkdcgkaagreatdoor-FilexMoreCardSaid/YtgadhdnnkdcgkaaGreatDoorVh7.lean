/- laid for this seat: VfM VfN VfO VfP -/
import Derived.Test.YtgadhdnnkdcgkaaGreatDoorVh3
import Derived.Test.YtgadhdnnkdcgkaaGreatDoorVh6
set_option linter.unusedVariables false
set_option linter.unusedSimpArgs false
section
/- Files: the same tokens elsewhere give the same parts, moved. -/
set_option maxRecDepth 100000
namespace Go.VM
open Go.RowKit
def shP(b:Int)(p:Pm):Pm:=⟨p.n,p.a+b,shT b p.t⟩
def shI(b:Int)(has:Bool)(x:Tx):Tx:=match has with
 |true=>shT b x
 |false=>x
def shM(b:Int)(m:Mx):Mx:=⟨m.n,m.a+b,m.ps.map (shT b),m.has,shI b m.has m.res⟩
def shV(b:Int)(mt:Bool)(p:Pm):Pm:=match mt with
 |true=>shP b p
 |false=>p
def shD(b:Int)(d:Dx):Dx:=⟨d.k,d.a+b,d.e+b,d.n,d.mt,shV b d.mt d.rv,d.bs.map (shP b),d.fs.map (shP b),d.ms.map (shM b),d.has,shI b d.has d.res,hJ b d.body⟩
structure SimZ(n k:Nat)(b:Int)(l l':List Tz)(S S':Nat→R (List Sx)):Prop where
 sm:Same 0 n k b l l'
 st:∀a v a',S a=.ok v a'→a'≤n→S' (a+k)=.ok (hJ b v) (a'+k)
section
variable{n k:Nat}{b:Int}{l l':List Tz}{S S':Nat→R (List Sx)}
theorem SimZ.is(h:SimZ n k b l l' S S'){a:Nat}(ha:a<n)(kk:Int)(x:List Nat):isF l' (a+k) kk x=isF l a kk x:=h.sm.is (Nat.zero_le _) ha kk x
theorem SimZ.name(h:SimZ n k b l l' S S'){a:Nat}{t:Tz}{a1:Nat}(e:fName l a=.ok t a1)(ha:a1≤n):fName l' (a+k)=.ok (shZ b t) (a1+k):=by
 have q:=cK e
 unfold fName
 rw[h.sm.tok a (Nat.zero_le _) (by omega),show(shZ b (aB l a)).k=(aB l a).k from rfl,decide_eq_true q.2.2.2,q.2.2.1,q.1,show a+k+1=a+1+k by omega]
theorem SimZ.eW(h:SimZ n k b l l' S S'){kk:Int}{x:List Nat}{a:Nat}{u:Unit}{a1:Nat}(hk:kk≠0)(e:bM l kk x a=.ok u a1)(ha:a1≤n):bM l' kk x (a+k)=.ok () (a1+k):=by
 have q:=aM hk e
 unfold bM
 rw[h.is (by omega),q.2.2,q.1,show a+k+1=a+1+k by omega]
theorem SimZ.typed(h:SimZ n k b l l' S S'){a:Nat}{x:Tx}{a1:Nat}(e:cC l a=.ok x a1)(ha:a1<n):cC l' (a+k)=.ok (shT b x) (a1+k):=by
 unfold cC at e⊢
 split at e
 ·rename_i h1
  cases e
  rw[h.sm.ty (Nat.zero_le _) h1 ha]
 ·cases e
 ·cases e
theorem SimZ.param(h:SimZ n k b l l' S S'){a:Nat}{x:Pm}{a1:Nat}(e:cZ l a=.ok x a1)(ha:a1<n):cZ l' (a+k)=.ok (shP b x) (a1+k):=by
 obtain⟨t,a2,h1,e⟩:=R.aA e
 obtain⟨y,a3,h2,e⟩:=R.aA e
 cases e
 have:=dS h2
 unfold cZ
 rw[h.name h1 (by omega)]
 simp only[R.bind]
 rw[h.typed h2 ha]
 rfl
theorem SimZ.sev(h:SimZ n k b l l' S S'){α:Type}{rd rd':Nat→R α}{sh:α→α}(hr:∀a x a1,rd a=.ok x a1→a<a1∧a1≤l.length)(hs:∀a x a1,rd a=.ok x a1→a1<n→rd' (a+k)=.ok (sh x) (a1+k)){to:List Nat}:∀(m:Nat) (acc:List α) (a:Nat) (xs:List α) (a':Nat),
  gO l rd to m acc a=.ok xs a'→a'≤n→gO l' rd' to m (acc.map sh) (a+k)=.ok (xs.map sh) (a'+k):=by
 intro m
 induction m with
 |zero=>intro acc a xs a' e;cases e
 |succ m ih=>
  intro acc a xs a' e ha
  unfold gO at e⊢
  obtain⟨x,a1,h1,e⟩:=R.aA e
  cases hi:isF l a1 4 [44]with
  |true=>
   rw[hi]at e
   have q:=aOj hr _ _ _ _ _ e
   rw[hs _ _ _ h1 (by omega)]
   simp only[R.bind]
   rw[h.is (by omega),hi]
   have:=ih _ _ _ _ e ha
   rw[List.map_append,List.map_singleton,show a1+1+k=a1+k+1 by omega]at this
   exact this
  |false=>
   rw[hi]at e
   obtain⟨u,a2,h2,e⟩:=R.aA e
   have q:=aM (by decide) h2
   cases e
   rw[hs _ _ _ h1 (by omega)]
   simp only[R.bind]
   rw[h.is (by omega),hi]
   simp only
   rw[h.eW (by decide) h2 ha,List.map_append,List.map_singleton]
theorem SimZ.aEc(h:SimZ n k b l l' S S'){α:Type}{rd rd':Nat→R α}{sh:α→α}(hr:∀a x a1,rd a=.ok x a1→a<a1∧a1≤l.length)(hs:∀a x a1,rd a=.ok x a1→a1<n→rd' (a+k)=.ok (sh x) (a1+k)){to:List Nat}{none:Bool}{m a:Nat}{xs:List α}{a':Nat}
  (e:bH l rd to none m a=.ok xs a') (ha:a'≤n):bH l' rd' to none m (a+k)=.ok (xs.map sh) (a'+k):=by
 have q:=cP hr e
 unfold bH at e⊢
 rw[h.is (by omega)]
 split at e
 ·rename_i h1
  cases e
  try rw[h1]
  rw[show a+k+1=a+1+k by omega]
  rfl
 ·rename_i h1
  try rw[h1]
  exact h.sev hr hs _ _ _ _ _ e ha
theorem SimZ.res(h:SimZ n k b l l' S S'){to:List Nat}{a:Nat}(hl:a≤l.length){r:Bool×Tx}{a1:Nat}(e:oO l to a=.ok r a1)(ha:a1<n):oO l' to (a+k)=.ok (r.1,shI b r.1 r.2) (a1+k):=by
 have q:=qJ hl e
 unfold oO at e⊢
 rw[h.is (by omega)]
 split at e
 ·rename_i h1;cases e;try rw[h1]
  rfl
 ·rename_i h1
  obtain⟨x,a2,h2,e⟩:=R.aA e
  cases e
  try rw[h1]
  try simp only
  rw[h.typed h2 ha]
  rfl
theorem SimZ.method(h:SimZ n k b l l' S S'){m a:Nat}{x:Mx}{a':Nat}(e:dJ l m a=.ok x a')(ha:a'≤n):dJ l' m (a+k)=.ok (shM b x) (a'+k):=by
 obtain⟨t,a1,h1,e⟩:=R.aA e
 obtain⟨_,a2,h2,e⟩:=R.aA e
 obtain⟨ps,a3,h3,e⟩:=R.aA e
 obtain⟨r,a4,h4,e⟩:=R.aA e
 obtain⟨_,a5,h5,e⟩:=R.aA e
 cases e
 have q1:=cK h1
 have q2:=aM (by decide) h2
 have q3:=cP (fun _ _ _=>dS) h3
 have q4:=qJ q3.2 h4
 have q5:=aM (by decide) h5
 unfold dJ
 rw[h.name h1 (by omega)]
 simp only[R.bind]
 rw[h.eW (by decide) h2 (by omega)]
 simp only
 rw[h.aEc (sh:=shT b) (fun _ _ _=>dS) (fun _ _ _=>h.typed) h3 (by omega)]
 simp only
 rw[h.res q3.2 h4 (by omega)]
 simp only
 rw[h.eW (by decide) h5 (by omega)]
 rfl
theorem SimZ.to(h:SimZ n k b l l' S S'){α:Type}{rd rd':Nat→R α}{sh:α→α}(hr:∀a x a1,a≤l.length→rd a=.ok x a1→a<a1∧a1≤l.length)(hs:∀a x a1,rd a=.ok x a1→a1≤n→rd' (a+k)=.ok (sh x) (a1+k)):∀(m:Nat) (acc:List α) (a:Nat) (xs:List α) (a':Nat),a≤l.length→
  fTo l rd m acc a=.ok xs a'→a'≤n→fTo l' rd' m (acc.map sh) (a+k)=.ok (xs.map sh) (a'+k):=by
 intro m
 induction m with
 |zero=>intro acc a xs a' _ e;cases e
 |succ m ih=>
  intro acc a xs a' hl e ha
  have q:=kW hr _ _ _ _ _ hl e
  unfold fTo at e⊢
  rw[h.is (by omega)]
  split at e
  ·rename_i h1;cases e;try rw[h1]
   rw[show a+k+1=a+1+k by omega]
  ·rename_i h1
   obtain⟨x,a1,h2,e⟩:=R.aA e
   have q1:=hr _ _ _ hl h2
   have q2:=kW hr _ _ _ _ _ q1.2 e
   try rw[h1]
   try simp only
   rw[hs _ _ _ h2 (by omega)]
   simp only[R.bind]
   have:=ih _ _ _ _ q1.2 e ha
   rw[List.map_append,List.map_singleton]at this
   exact this
theorem SimZ.field(h:SimZ n k b l l' S S'){a:Nat}{x:Pm}{a1:Nat}(e:iW l a=.ok x a1)(ha:a1≤n):iW l' (a+k)=.ok (shP b x) (a1+k):=by
 obtain⟨p,b1,h1,e⟩:=R.aA e
 obtain⟨u,b2,h2,e⟩:=R.aA e
 have q:=aM (by decide) h2
 cases e
 unfold iW
 rw[h.param h1 (by omega)]
 simp only[R.bind]
 rw[h.eW (by decide) h2 ha]
theorem SimZ.end'(h:SimZ n k b l l' S S'){a:Nat}(h1:1≤a)(ha:a≤n):aFm l' (a+k)=aFm l a+b:=by
 unfold aFm
 rw[show a+k-1=a-1+k by omega,h.sm.tok (a-1) (Nat.zero_le _) (by omega)]
 rfl
theorem SimZ.type(h:SimZ n k b l l' S S'){m a:Nat}{x:Dx}{a':Nat}(e:dK l m a=.ok x a')(ha:a'≤n):dK l' m (a+k)=.ok (shD b x) (a'+k):=by
 unfold dK
 obtain⟨t,a1,h1,e⟩:=R.aA e
 have q1:=cK h1
 split at e
 ·rename_i hi
  obtain⟨_,a2,h2,e⟩:=R.aA e
  obtain⟨ms,a3,h3,e⟩:=R.aA e
  have q2:=aM (by decide) h2
  have q3:=kW (fun _ _ _ _=>fL) _ _ _ _ _ q2.2.1 h3
  cases e
  rw[h.name h1 (by omega)]
  simp only[R.bind]
  rw[h.is (by omega),hi]
  simp only
  rw[show a1+k+1=a1+1+k by omega,h.eW (by decide) h2 (by omega)]
  simp only
  have:=h.to (sh:=shM b) (fun _ _ _ _=>fL) (fun _ _ _=>h.method (m:=m)) _ [] _ _ _ q2.2.1 h3 (by omega)
  rw[show([]:List Mx)=List.map (shM b) []from rfl,this]
  simp only
  rw[h.end' (by omega) ha]
  rfl
 ·rename_i hi
  obtain⟨_,a2,h2,e⟩:=R.aA e
  obtain⟨_,a3,h3,e⟩:=R.aA e
  obtain⟨fs,a4,h4,e⟩:=R.aA e
  have q2:=aM (by decide) h2
  have q3:=aM (by decide) h3
  have q4:=kW (fun _ _ _ _=>fV) _ _ _ _ _ q3.2.1 h4
  cases e
  rw[h.name h1 (by omega)]
  simp only[R.bind]
  rw[h.is (by omega),hi]
  simp only
  rw[h.eW (by decide) h2 (by omega)]
  simp only
  rw[h.eW (by decide) h3 (by omega)]
  simp only
  have:=h.to (sh:=shP b) (fun _ _ _ _=>fV) (fun _ _ _=>h.field) _ [] _ _ _ q3.2.1 h4 (by omega)
  rw[show([]:List Pm)=List.map (shP b) []from rfl,this]
  simp only
  rw[h.end' (by omega) ha]
  rfl
theorem SimZ.j3(h:SimZ n k b l l' S S')(hS:StmOk l S){m:Nat}{p:Int}{nm:List Nat}{mt:Bool}{rv:Pm}{bs:List Pm}{a:Nat}{x:Dx}{a':Nat}(e:fJ3 l S m p nm mt rv bs a=.ok x a')(ha:a'≤n):fJ3 l' S' m (p+b) nm mt (shV b mt rv) (bs.map (shP b)) (a+k)=.ok (shD b x) (a'+k):=by
 obtain⟨_,a1,h1,e⟩:=R.aA e
 obtain⟨fs,a2,h2,e⟩:=R.aA e
 obtain⟨r,a3,h3,e⟩:=R.aA e
 have q1:=aM (by decide) h1
 have q2:=cP (fun _ _ _=>bL) h2
 have q3:=qJ q2.2 h3
 have q4:=aGr hS q3.2 e
 unfold fJ3
 rw[h.eW (by decide) h1 (by omega)]
 simp only[R.bind]
 rw[h.aEc (sh:=shP b) (fun _ _ _=>bL) (fun _ _ _=>h.param) h2 (by omega)]
 simp only
 rw[h.res q2.2 h3 (by omega)]
 simp only
 unfold lA at e⊢
 cases hs:S a3 with
 |out=>rw[hs]at e;cases e
 |er _ _ _ _=>rw[hs]at e;cases e
 |ok v n2=>
  rw[hs]at e
  cases e
  rw[h.st _ _ _ hs ha]
  simp only
  rw[h.end' (by omega) ha]
  rfl
theorem SimZ.j4(h:SimZ n k b l l' S S')(hS:StmOk l S){m:Nat}{mt:Bool}{rv:Pm}{a:Nat}{x:Dx}{a':Nat}(e:fJ4 l S m mt rv a=.ok x a')(ha:a'≤n):fJ4 l' S' m mt (shV b mt rv) (a+k)=.ok (shD b x) (a'+k):=by
 unfold fJ4
 obtain⟨t,a1,h1,e⟩:=R.aA e
 have q1:=cK h1
 split at e
 ·rename_i hi
  obtain⟨bs,a2,h2,e⟩:=R.aA e
  have q2:=cP (fun _ _ _=>bL) h2
  have q3:=aEv hS e
  rw[h.name h1 (by omega)]
  simp only[R.bind]
  rw[h.is (by omega),hi]
  simp only
  rw[show a1+k+1=a1+1+k by omega,h.aEc (sh:=shP b) (fun _ _ _=>bL) (fun _ _ _=>h.param) h2 (by omega)]
  exact h.j3 hS e ha
 ·rename_i hi
  have q3:=aEv hS e
  rw[h.name h1 (by omega)]
  simp only[R.bind]
  rw[h.is (by omega),hi]
  exact h.j3 hS e ha
theorem SimZ.func(h:SimZ n k b l l' S S')(hS:StmOk l S){m a:Nat}{x:Dx}{a':Nat}(e:gU l S m a=.ok x a')(ha:a'≤n):gU l' S' m (a+k)=.ok (shD b x) (a'+k):=by
 have q:=xZ hS e
 unfold gU at e⊢
 rw[h.is (by omega)]
 split at e
 ·rename_i hi
  obtain⟨p,a1,h1,e⟩:=R.aA e
  obtain⟨_,a2,h2,e⟩:=R.aA e
  have q1:=bL h1
  have q2:=aM (by decide) h2
  have q3:=aMa hS e
  try rw[hi]
  try simp only
  rw[show a+k+1=a+1+k by omega,h.param h1 (by omega)]
  simp only[R.bind]
  rw[h.eW (by decide) h2 (by omega)]
  exact h.j4 hS (mt:=true) e ha
 ·rename_i hi
  try rw[hi]
  exact h.j4 hS (mt:=false) e ha
theorem SimZ.decl(h:SimZ n k b l l' S S')(hS:StmOk l S){m a:Nat}{x:Dx}{a':Nat}(e:fB l S m a=.ok x a')(ha:a'≤n):fB l' S' m (a+k)=.ok (shD b x) (a'+k):=by
 have q:=tY hS e
 unfold fB at e⊢
 rw[h.is (by omega),h.is (by omega)]
 split at e
 ·rename_i hi
  try rw[hi]
  try simp only
  rw[show a+k+1=a+1+k by omega]
  exact h.type e ha
 ·rename_i hi
  try rw[hi]
  split at e
  ·rename_i hj
   try rw[hj]
   try simp only
   rw[show a+k+1=a+1+k by omega]
   exact h.func hS e ha
  ·cases e
end
end Go.VM
end
section
/- Files: fuel; a token that is not passed. -/
set_option maxRecDepth 100000
namespace Go.VM
open Go.RowKit
def Fu{α:Type}(r r':R α):Prop:=r.bA=false→r'=r
theorem Fu.rfl'{α:Type}{r:R α}:Fu r r:=fun _=>rfl
theorem Fu.out{α:Type}{r:R α}:Fu .out r:=fun h=>by cases h
theorem Fu.bind{α β:Type}{r r':R α}{f f':α→Nat→R β}(h:Fu r r')(k:∀v a,Fu (f v a) (f' v a)):Fu (r.bind f) (r'.bind f'):=by
 intro ho
 cases r with
 |out=>cases ho
 |er a d p c=>rw[h rfl];rfl
 |ok v a=>rw[h rfl];exact k v a ho
section
variable{l:List Tz}{S:Nat→R (List Sx)}
theorem aUu{α:Type}{rd:Nat→R α}{to:List Nat}:∀(m m':Nat) (acc:List α) (a:Nat),m≤m'→Fu (gO l rd to m acc a) (gO l rd to m' acc a)
 |0,_,_,_,_=>.out
 |m+1,0,_,_,h=>by omega
 |m+1,m'+1,acc,a,h=>by
  unfold gO
  refine .bind .rfl' fun x a1=>?_
  split
  ·exact aUu m m' _ _ (by omega)
  ·exact .rfl'
theorem rR{α:Type}{rd:Nat→R α}{to:List Nat}{none:Bool}{m m' a:Nat}(h:m≤m'):Fu (bH l rd to none m a) (bH l rd to none m' a):=by
 unfold bH
 split
 ·exact .rfl'
 ·exact aUu _ _ _ _ h
theorem aSe{m m' a:Nat}(h:m≤m'):Fu (dJ l m a) (dJ l m' a):=
 .bind .rfl' fun _ _=>.bind .rfl' fun _ _=>.bind (rR h) fun _ _=>.rfl'
theorem aWb{α:Type}{rd rd':Nat→R α}(hr:∀a,Fu (rd a) (rd' a)):∀(m m':Nat) (acc:List α) (a:Nat),m≤m'→Fu (fTo l rd m acc a) (fTo l rd' m' acc a)
 |0,_,_,_,_=>.out
 |m+1,0,_,_,h=>by omega
 |m+1,m'+1,acc,a,h=>by
  unfold fTo
  split
  ·exact .rfl'
  ·exact .bind (hr a) fun x a1=>aWb hr m m' _ _ (by omega)
theorem bCt{m m' a:Nat}(h:m≤m'):Fu (dK l m a) (dK l m' a):=by
 refine .bind .rfl' fun t a1=>?_
 split
 ·exact .bind .rfl' fun _ _=>.bind (aWb (fun _=>aSe h) _ _ _ _ h) fun _ _=>.rfl'
 ·exact .bind .rfl' fun _ _=>.bind .rfl' fun _ _=>.bind (aWb (fun _=>.rfl') _ _ _ _ h) fun _ _=>.rfl'
theorem bDw{m m':Nat}{p nm mt rv bs a}(h:m≤m'):Fu (fJ3 l S m p nm mt rv bs a) (fJ3 l S m' p nm mt rv bs a):=
 .bind .rfl' fun _ _=>.bind (rR h) fun _ _=>.rfl'
theorem bDn{m m':Nat}{mt rv a}(h:m≤m'):Fu (fJ4 l S m mt rv a) (fJ4 l S m' mt rv a):=by
 refine .bind .rfl' fun t a1=>?_
 split
 ·exact .bind (rR h) fun _ _=>bDw h
 ·exact bDw h
theorem bDg{m m' a:Nat}(h:m≤m'):Fu (gU l S m a) (gU l S m' a):=by
 unfold gU
 split
 ·exact .bind .rfl' fun _ _=>.bind .rfl' fun _ _=>bDn h
 ·exact bDn h
theorem aNg{m m' a:Nat}(h:m≤m'):Fu (fB l S m a) (fB l S m' a):=by
 unfold fB
 split
 ·exact bCt h
 ·split
  ·exact bDg h
  ·exact .rfl'
theorem zR{M M':Nat}(hM:M≤M'):∀(m m':Nat) (acc:List Dx) (a:Nat),m≤m'→Fu (cL l S M m acc a) (cL l S M' m' acc a)
 |0,_,_,_,_=>.out
 |m+1,0,_,_,h=>by omega
 |m+1,m'+1,acc,a,h=>by
  unfold cL
  split
  ·exact .rfl'
  ·exact .bind (aNg hM) fun x a1=>zR hM m m' _ _ (by omega)
theorem aDb:∀(m m':Nat) (acc:List Im) (a:Nat),m≤m'→Fu (fI l m acc a) (fI l m' acc a)
 |0,_,_,_,_=>.out
 |m+1,0,_,_,h=>by omega
 |m+1,m'+1,acc,a,h=>by
  unfold fI
  split
  ·exact .rfl'
  ·exact .bind .rfl' fun _ _=>.bind .rfl' fun _ _=>aDb m m' _ _ (by omega)
theorem bBd{m m':Nat}(h:m≤m'):Fu (iN l S m) (iN l S m'):=
 .bind .rfl' fun _ _=>.bind .rfl' fun _ _=>.bind .rfl' fun _ _=>.bind (aDb _ _ _ _ h) fun _ _=>.bind (zR h _ _ _ _ h) fun _ _=>.rfl'
theorem xU(hl:l.length<19999)(hT:∀t∈l,t.t.length<big){m:Nat}(h:l.length+1≤m):FL l=iN l (ST l) m:=(bBd h (tF hl hT)).symm
end
structure Wall(l:List Tz)(n:Nat):Prop where
 k1:(aB l n).k≠1
 k2:(aB l n).k≠2
 k3:(aB l n).k≠3
 k4:(aB l n).k≠4
 k5:(aB l n).k=5→(aB l n).t=sType∨(aB l n).t=tV
section
variable{l:List Tz}{n:Nat}
theorem Wall.lt4(w:Wall l n){a:Nat}{x:List Nat}(h:isF l a 4 x=true)(ha:a≤n):a<n:=by
 rcases Nat.eq_or_lt_of_le ha with e|e
 ·subst e;exact absurd (aPm h) w.k4
 ·exact e
theorem Wall.lt1(w:Wall l n){a:Nat}(h:(aB l a).k=1)(ha:a≤n):a<n:=by
 rcases Nat.eq_or_lt_of_le ha with e|e
 ·subst e;exact absurd h w.k1
 ·exact e
theorem Wall.lt5(w:Wall l n){a:Nat}{x:List Nat}(h:isF l a 5 x=true)(hx:x≠sType∧x≠tV)(ha:a≤n):a<n:=by
 rcases Nat.eq_or_lt_of_le ha with e|e
 ·subst e
  unfold isF at h
  simp only[Bool.and_eq_true,decide_eq_true_eq]at h
  rcases w.k5 h.1 with q|q
  ·exact absurd (h.2.symm.trans q) hx.1
  ·exact absurd (h.2.symm.trans q) hx.2
 ·exact e
theorem aRw(w:Wall l n):∀(m a:Nat) (ls:List Int) (a':Nat) (ls':List Int),cI l m a ls=.brk a' ls'→a≤n→a'≤n:=by
 intro m
 induction m with
 |zero=>
  intro a ls a' ls' h ha
  unfold cI at h
  split at h
  ·cases h;exact ha
  ·cases h
 |succ m ih=>
  intro a ls a' ls' h ha
  unfold cI at h
  split at h
  ·cases h;exact ha
  ·rename_i h1
   have:=w.lt4 (x:=[91]) h1 ha
   split at h
   ·cases h
   ·rename_i h2
    have:=w.lt4 (x:=[93]) h2 (by omega)
    exact ih _ _ _ _ h (by omega)
theorem aQl(w:Wall l n){a:Nat}{x:Tx}{a':Nat}(h:eY l a=.ok x a')(ha:a≤n):a'<n:=by
 unfold eY at h
 split at h
 ·rename_i h1
  simp only[Bool.and_eq_true,decide_eq_true_eq]at h1
  cases h
  rcases Nat.eq_or_lt_of_le ha with e|e
  ·subst e
   rcases w.k5 h1.1 with q|q
   ·rw[q]at h1;cases h1.2
   ·rw[q]at h1;cases h1.2
  ·exact e
 ·split at h
  ·rename_i h1
   have q1:=w.lt1 (of_decide_eq_true h1) ha
   split at h
   ·rename_i h2
    have q2:=w.lt4 (x:=[46]) h2 (by omega)
    split at h
    ·rename_i h3
     have:=w.lt1 (of_decide_eq_true h3) (by omega)
     cases h
     exact this
    ·cases h
   ·cases h;exact q1
  ·cases h
theorem aMm(w:Wall l n){a:Nat}{x:Tx}{a':Nat}(h:tyF l a=.ok x a')(ha:a≤n):a'≤n:=by
 unfold tyF at h
 split at h
 ·cases h
 ·rename_i h1
  have q:=aRw w _ _ _ _ _ h1 ha
  split at h
  ·rename_i h2
   have:=aQl w h2 q
   cases h
   omega
  ·cases h
  ·cases h
structure WallF(n:Nat)(f:Fns):Prop where
 expr:∀lv a d x a',a≤n→f.expr lv a d=.ok x a'→a'≤n
 oper:∀a d x a',a≤n→f.oper a d=.ok x a'→a'≤n
 prim:∀a d x a',a≤n→f.prim a d=.ok x a'→a'≤n
 list:∀to a d r a',a<n→f.list to a d=.ok r a'→a'≤n
 bin:∀lv x a d y a',a≤n→f.bin lv x a d=.ok y a'→a'≤n
 post:∀x a d y a',a≤n→f.post x a d=.ok y a'→a'≤n
 elts:∀acc a d es a',a≤n→f.elts acc a d=.ok es a'→a'≤n
theorem uV(w:Wall l n){a d:Nat}{x:List Nat}{e:Int}{a':Nat}(h:cN l a d x=.ok e a')(ha:a≤n):a'≤n:=by
 unfold cN at h
 split at h
 ·rename_i h1;cases h;exact w.lt4 h1 ha
 ·cases h
theorem aTn(w:Wall l n){f:Fns}(h:WallF n f):WallF n ⟨eH f,eU l f,eR l f,dQ l f,jA l f,eO l f,eF l f⟩:=by
 refine⟨fun lv a d x a' ha e=>?_,fun a d x a' ha e=>?_,fun a d x a' ha e=>?_,fun to a d r a' ha e=>?_,fun lv x a d y a' ha e=>?_,fun x a d y a' ha e=>?_,fun acc a d es a' ha e=>?_⟩
 ·have e:eH f lv a d=.ok x a':=e
  unfold eH at e
  split at e
  ·exact h.oper _ _ _ _ ha e
  ·obtain⟨y,a1,e1,e2⟩:=aU e
   exact h.bin _ _ _ _ _ _ (h.expr _ _ _ _ _ ha e1) e2
 ·have e:eU l f a d=.ok x a':=e
  unfold eU at e
  split at e
  ·rename_i h1
   obtain⟨y,a1,e1,e2⟩:=aU e
   cases e2
   exact h.oper _ _ _ _ (w.lt4 h1 ha) (bO e1)
  ·obtain⟨y,a1,e1,e2⟩:=aU e
   exact h.post _ _ _ _ _ (h.prim _ _ _ _ ha e1) e2
 ·have e:eR l f a d=.ok x a':=e
  unfold eR at e
  have lt:∀c,(aB l a).k=c→c=2∨c=3→a<n:=by
   intro c hc hcc
   rcases Nat.eq_or_lt_of_le ha with q|q
   ·subst q
    rcases hcc with rfl|rfl
    ·exact absurd hc w.k2
    ·exact absurd hc w.k3
   ·exact q
  split at e
  ·rename_i h1
   have:=lt 2 (of_decide_eq_true h1) (.inl rfl)
   obtain⟨y,a1,e1,e2⟩:=aU e
   cases e2
   exact this
  ·split at e
   ·rename_i h1
    have:=lt 3 (of_decide_eq_true h1) (.inr rfl)
    split at e
    ·cases e;exact this
    ·cases e
   ·split at e
    ·rename_i h1;cases e;exact w.lt5 h1 (by decide) ha
    ·split at e
     ·rename_i h1;cases e;exact w.lt5 h1 (by decide) ha
     ·split at e
      ·rename_i h1;cases e;exact w.lt1 (of_decide_eq_true h1) ha
      ·split at e
       ·rename_i h1
        have hlt:=w.lt4 h1 ha
        obtain⟨y,a1,e1,e2⟩:=aU e
        obtain⟨z,a2,e3,e4⟩:=aU e2
        cases e4
        exact uV w e3 (h.expr _ _ _ _ _ hlt (bO e1))
       ·split at e
        ·rename_i h1
         have hlt:=w.lt5 h1 (by decide) ha
         obtain⟨ty,a1,r,e1,e2,e3,_⟩:=uF e
         exact h.list _ _ _ _ _ (w.lt4 e2 (aMm w e1 hlt)) e3
        ·cases e
 ·have e:dQ l f to a d=.ok r a':=e
  unfold dQ at e
  obtain⟨es,a1,e1,e2⟩:=aU e
  obtain⟨z,a2,e3,e4⟩:=aU e2
  cases e4
  refine uV w e3 ?_
  have e1:=bO e1
  unfold fG at e1
  split at e1
  ·cases e1;exact ha
  ·exact h.elts _ _ _ _ _ ha e1
 ·have e:jA l f lv x a d=.ok y a':=e
  unfold jA at e
  split at e
  ·rename_i h1
   have hlt:a<n:=by
    rcases Nat.eq_or_lt_of_le ha with q|q
    ·subst q
     unfold sB at h1
     simp only[Bool.and_eq_true,decide_eq_true_eq]at h1
     exact absurd h1.1 w.k4
    ·exact q
   obtain⟨z,a1,e1,e2⟩:=aU e
   exact h.bin _ _ _ _ _ _ (h.expr _ _ _ _ _ hlt e1) e2
  ·cases e;exact ha
 ·have e:eO l f x a d=.ok y a':=e
  unfold eO at e
  split at e
  ·rename_i h1
   have hlt:=w.lt4 h1 ha
   split at e
   ·rename_i h2
    exact h.post _ _ _ _ _ (w.lt1 (of_decide_eq_true h2) hlt) e
   ·cases e
  ·split at e
   ·rename_i h1
    have hlt:=w.lt4 h1 ha
    obtain⟨z,a1,e1,e2⟩:=aU e
    exact h.post _ _ _ _ _ (h.list _ _ _ _ _ hlt e1) e2
   ·split at e
    ·rename_i h1
     have hlt:=w.lt4 h1 ha
     obtain⟨z,a1,e1,e2⟩:=aU e
     obtain⟨z2,a2,e3,e4⟩:=aU e2
     exact h.post _ _ _ _ _ (uV w e3 (h.expr _ _ _ _ _ hlt (bO e1))) e4
    ·cases e;exact ha
 ·have e:eF l f acc a d=.ok es a':=e
  unfold eF at e
  obtain⟨z,a1,e1,e2⟩:=aU e
  have q:=h.expr _ _ _ _ _ ha e1
  split at e2
  ·rename_i h1
   exact h.elts _ _ _ _ _ (w.lt4 h1 q) e2
  ·cases e2;exact q
theorem aIp(w:Wall l n):∀m,WallF n (fns l m)
 |0=>⟨fun _ _ _ _ _ _ e=>(by cases e),fun _ _ _ _ _ e=>(by cases e),fun _ _ _ _ _ e=>(by cases e),fun _ _ _ _ _ _ e=>(by cases e),fun _ _ _ _ _ _ _ e=>(by cases e),fun _ _ _ _ _ _ e=>(by cases e),fun _ _ _ _ _ _ e=>(by cases e)⟩
 |m+1=>aTn w (aIp w m)
theorem bBw(w:Wall l n){a:Nat}{x:Ex}{a':Nat}(h:PL l a=.ok x a')(ha:a≤n):a'≤n:=by
 obtain⟨_,N,hN⟩:=jP l (aVe h)
 have e:=hN N (Nat.le_refl _)
 rw[h]at e
 exact(aIp w N).expr 1 a 0 x a' ha e
end
end Go.VM
end
section
/- Files: statements and a wall; a file and what stands behind it. -/
set_option maxRecDepth 100000
namespace Go.VM
open Go.RowKit
section
variable{l:List Tz}{n:Nat}{P:Nat→R Ex}
theorem jS(w:Wall l n){s:Sr}{k:Int}{x:List Nat}(h:isS l s k x=true)(hk:k=4∨(k=5∧x≠sType∧x≠tV))(ha:s.a≤n):s.a<n:=by
 rcases hk with rfl|⟨rfl,hx⟩
 ·exact w.lt4 (aMd h).2 ha
 ·exact w.lt5 (aMd h).2 hx ha
theorem rS{s:Sr}{c:Int}(ha:s.a≤n):(gA l s c).a≤n:=by
 unfold gA
 split<;>exact ha
theorem lF(w:Wall l n){s:Sr}{x:List Nat}(ha:s.a≤n):(bX l s x).a≤n:=by
 unfold bX
 split
 ·rename_i h;exact jS w h (.inl rfl) ha
 ·exact rS ha
theorem kN(hp:∀a x a',P a=.ok x a'→a≤n→a'≤n){s:Sr}(ha:s.a≤n):(aV P s).2.a≤n:=by
 unfold aV
 split
 ·split
  ·rename_i h;exact hp _ _ _ h ha
  ·exact ha
  ·exact ha
 ·exact ha
theorem uT(w:Wall l n)(hp:∀a x a',P a=.ok x a'→a≤n→a'≤n){k:Nat}{p:Int}{nm:List Nat}{s:Sr}(ha:s.a≤n):(mQ l P k p nm s).2.a≤n:=lF w (kN hp (lF w ha))
theorem aTa(w:Wall l n)(hp:∀a x a',P a=.ok x a'→a≤n→a'≤n):∀m,(∀d s v s',(cG l P m).block d s=some (v,s')→s.a≤n→s'.a≤n)∧(∀d acc s v s',(cG l P m).loop d acc s=some (v,s')→s.a≤n→s'.a≤n)∧(∀d s v s',(cG l P m).stmt d s=some (v,s')→s.a≤n→s'.a≤n):=by
 intro m
 induction m with
 |zero=>exact⟨fun _ _ _ _ e=>(by cases e),fun _ _ _ _ _ e=>(by cases e),fun _ _ _ _ e=>(by cases e)⟩
 |succ m ih=>
  obtain⟨ib,il,is⟩:=ih
  refine⟨fun d s v s' e ha=>?_,fun d acc s v s' e ha=>?_,fun d s v s' e ha=>?_⟩
  ·have e:dF l (cG l P m) d s=some (v,s'):=e
   unfold dF at e
   split at e
   ·cases e;exact rS ha
   ·exact il _ _ _ _ _ e (lF w ha)
  ·have e:gB l (cG l P m) d acc s=some (v,s'):=e
   unfold gB at e
   split at e
   ·cases e;exact ha
   ·split at e
    ·rename_i h;cases e;exact jS w h (.inl rfl) ha
    ·split at e
     ·rename_i x s1 hx
      exact il _ _ _ _ _ e (is _ _ _ _ hx ha)
     ·cases e
  ·have e:gZ l P (cG l P m) d s=some (v,s'):=e
   unfold gZ at e
   split at e
   ·rename_i h
    have h1:=jS w h (.inr ⟨rfl,by decide⟩) ha
    split at e
    ·rename_i hk
     have h2:=w.lt1 (of_decide_eq_true hk) h1
     have:=uT w hp (k:=1) (p:=(aB l s.a).a) (nm:=(aB l (s.a+1)).t) (s:=aR (aR s)) h2
     rw[Option.some.inj e]at this
     exact this
    ·have:=uT w hp (k:=1) (p:=(aB l s.a).a) (nm:=[]) (s:=gA l (aR s) 5) (rS (s:=aR s) h1)
     rw[Option.some.inj e]at this
     exact this
   ·split at e
    ·rename_i h
     have h1:=jS w h (.inr ⟨rfl,by decide⟩) ha
     split at e
     ·rename_i h2
      cases e
      exact jS w (s:=aR s) h2 (.inl rfl) h1
     ·cases e
      exact lF w (kN hp (s:=aR s) h1)
    ·split at e
     ·rename_i h
      have h1:=jS w h (.inr ⟨rfl,by decide⟩) ha
      have h2:=kN hp (s:=aR s) h1
      split at e
      ·cases e
      ·rename_i b s1 hb
       have h3:=ib _ _ _ _ hb h2
       split at e
       ·rename_i h4
        have h5:=jS w h4 (.inr ⟨rfl,by decide⟩) h3
        split at e
        ·cases e
        ·rename_i b2 s2 hb2
         cases e
         exact ib _ _ _ _ hb2 (show(aR s1).a≤n from h5)
       ·cases e;exact h3
     ·split at e
      ·rename_i h
       have h1:=jS w h (.inr ⟨rfl,by decide⟩) ha
       have h2:=kN hp (s:=aR s) h1
       split at e
       ·cases e
       ·rename_i b s1 hb
        cases e
        exact ib _ _ _ _ hb h2
      ·split at e
       ·rename_i h
        unfold wP at h
        rw[Bool.and_eq_true]at h
        have h1:=w.lt1 (of_decide_eq_true h.1) ha
        have:=uT w hp (k:=2) (p:=(aB l s.a).a) (nm:=(aB l s.a).t) (s:=aR s) h1
        rw[Option.some.inj e]at this
        exact this
       ·cases e
        exact lF w (kN hp ha)
theorem aMb(w:Wall l n){a:Nat}{v:List Sx}{a':Nat}(h:ST l a=.ok v a')(ha:a≤n):a'≤n:=by
 rcases uH l a with e|⟨_,r,⟨N,hm⟩,e⟩
 ·rw[e]at h;cases h
 ·rw[e]at h
  unfold rO at h
  split at h
  ·cases h
   exact(aTa w (fun _ _ _=>bBw w) N).1 0 ⟨a,0,0⟩ r.1 r.2 (hm N (Nat.le_refl _)) ha
  ·cases h
variable{S:Nat→R (List Sx)}
theorem nL(w:Wall l n){a:Nat}{t:Tz}{a1:Nat}(h:fName l a=.ok t a1)(ha:a≤n):a1≤n:=by
 have q:=cK h
 have:=w.lt1 q.2.2.2 ha
 omega
theorem fY(w:Wall l n){k:Int}{x:List Nat}{a:Nat}{u:Unit}{a1:Nat}(hk:k=4∨(k=5∧x≠sType∧x≠tV))(h:bM l k x a=.ok u a1)(ha:a≤n):a1≤n:=by
 have q:=aM (by rcases hk with rfl|⟨rfl,_⟩<;>decide) h
 rcases hk with rfl|⟨rfl,hx⟩
 ·have:=w.lt4 q.2.2 ha;omega
 ·have:=w.lt5 q.2.2 hx ha;omega
theorem zA(w:Wall l n){a:Nat}{x:Tx}{a1:Nat}(h:cC l a=.ok x a1)(ha:a≤n):a1≤n:=by
 unfold cC at h
 split at h
 ·rename_i h1;cases h;exact aMm w h1 ha
 ·cases h
 ·cases h
theorem tN(w:Wall l n){a:Nat}{x:Pm}{a1:Nat}(h:cZ l a=.ok x a1)(ha:a≤n):a1≤n:=by
 obtain⟨t,a2,h1,h⟩:=R.aA h
 obtain⟨y,a3,h2,h⟩:=R.aA h
 cases h
 exact zA w h2 (nL w h1 ha)
theorem sD(w:Wall l n){α:Type}{rd:Nat→R α}(hr:∀a x a1,rd a=.ok x a1→a≤n→a1≤n){to:List Nat}{none:Bool}{m a:Nat}{xs:List α}{a':Nat}(h:bH l rd to none m a=.ok xs a')(ha:a≤n):a'≤n:=by
 have go:∀(m:Nat) (acc:List α) (a:Nat) (xs:List α) (a':Nat),gO l rd to m acc a=.ok xs a'→a≤n→a'≤n:=by
  intro m
  induction m with
  |zero=>intro acc a xs a' h;cases h
  |succ m ih=>
   intro acc a xs a' h ha
   unfold gO at h
   obtain⟨x,a1,h1,h⟩:=R.aA h
   have q:=hr _ _ _ h1 ha
   split at h
   ·rename_i h2
    exact ih _ _ _ _ h (w.lt4 h2 q)
   ·obtain⟨u,a2,h2,h⟩:=R.aA h
    have:=fY w (.inl rfl) h2 q
    cases h
    exact this
 unfold bH at h
 split at h
 ·rename_i h1
  rw[Bool.and_eq_true]at h1
  cases h
  exact w.lt4 h1.2 ha
 ·exact go _ _ _ _ _ h ha
theorem aYx(w:Wall l n){to:List Nat}{a:Nat}{r:Bool×Tx}{a1:Nat}(h:oO l to a=.ok r a1)(ha:a≤n):a1≤n:=by
 unfold oO at h
 split at h
 ·cases h;exact ha
 ·obtain⟨x,a2,h2,h⟩:=R.aA h
  cases h
  exact zA w h2 ha
theorem aRk(w:Wall l n){m a:Nat}{x:Mx}{a':Nat}(h:dJ l m a=.ok x a')(ha:a≤n):a'≤n:=by
 obtain⟨t,a1,h1,h⟩:=R.aA h
 obtain⟨_,a2,h2,h⟩:=R.aA h
 obtain⟨ps,a3,h3,h⟩:=R.aA h
 obtain⟨r,a4,h4,h⟩:=R.aA h
 obtain⟨_,a5,h5,h⟩:=R.aA h
 cases h
 exact fY w (.inl rfl) h5 (aYx w h4 (sD w (fun _ _ _=>zA w) h3 (fY w (.inl rfl) h2 (nL w h1 ha))))
theorem bDo(w:Wall l n){α:Type}{rd:Nat→R α}(hr:∀a x a1,rd a=.ok x a1→a≤n→a1≤n):∀(m:Nat) (acc:List α) (a:Nat) (xs:List α) (a':Nat),fTo l rd m acc a=.ok xs a'→a≤n→a'≤n:=by
 intro m
 induction m with
 |zero=>intro acc a xs a' h;cases h
 |succ m ih=>
  intro acc a xs a' h ha
  unfold fTo at h
  split at h
  ·rename_i h1;cases h;exact w.lt4 h1 ha
  ·obtain⟨x,a1,h1,h⟩:=R.aA h
   exact ih _ _ _ _ h (hr _ _ _ h1 ha)
theorem aUl(w:Wall l n){a:Nat}{x:Pm}{a1:Nat}(h:iW l a=.ok x a1)(ha:a≤n):a1≤n:=by
 obtain⟨p,b1,h1,h⟩:=R.aA h
 obtain⟨u,b2,h2,h⟩:=R.aA h
 cases h
 exact fY w (.inl rfl) h2 (tN w h1 ha)
theorem bCk(w:Wall l n){m a:Nat}{x:Dx}{a':Nat}(h:dK l m a=.ok x a')(ha:a≤n):a'≤n:=by
 obtain⟨t,a1,h1,h⟩:=R.aA h
 have q1:=nL w h1 ha
 split at h
 ·rename_i hi
  obtain⟨_,a2,h2,h⟩:=R.aA h
  obtain⟨ms,a3,h3,h⟩:=R.aA h
  cases h
  exact bDo w (fun _ _ _=>aRk w) _ _ _ _ _ h3 (fY w (.inl rfl) h2 (w.lt5 hi (by decide) q1))
 ·obtain⟨_,a2,h2,h⟩:=R.aA h
  obtain⟨_,a3,h3,h⟩:=R.aA h
  obtain⟨fs,a4,h4,h⟩:=R.aA h
  cases h
  exact bDo w (fun _ _ _=>aUl w) _ _ _ _ _ h4 (fY w (.inl rfl) h3 (fY w (.inr ⟨rfl,by decide⟩) h2 q1))
theorem bCr(w:Wall l n)(hs:∀a v a',S a=.ok v a'→a≤n→a'≤n){m a:Nat}{x:Dx}{a':Nat}(h:gU l S m a=.ok x a')(ha:a≤n):a'≤n:=by
 have j3:∀{p nm mt rv bs b d a'},fJ3 l S m p nm mt rv bs b=.ok d a'→b≤n→a'≤n:=by
  intro p nm mt rv bs b d a' h hb
  obtain⟨_,a1,h1,h⟩:=R.aA h
  obtain⟨fs,a2,h2,h⟩:=R.aA h
  obtain⟨r,a3,h3,h⟩:=R.aA h
  have q:=aYx w h3 (sD w (fun _ _ _=>tN w) h2 (fY w (.inl rfl) h1 hb))
  unfold lA at h
  split at h
  ·rename_i h4;cases h;exact hs _ _ _ h4 q
  ·cases h
  ·cases h
 have j4:∀{mt rv b d a'},fJ4 l S m mt rv b=.ok d a'→b≤n→a'≤n:=by
  intro mt rv b d a' h hb
  obtain⟨t,a1,h1,h⟩:=R.aA h
  have q1:=nL w h1 hb
  split at h
  ·rename_i hi
   obtain⟨bs,a2,h2,h⟩:=R.aA h
   exact j3 h (sD w (fun _ _ _=>tN w) h2 (w.lt4 hi q1))
  ·exact j3 h q1
 unfold gU at h
 split at h
 ·rename_i hi
  obtain⟨p,a1,h1,h⟩:=R.aA h
  obtain⟨_,a2,h2,h⟩:=R.aA h
  exact j4 h (fY w (.inl rfl) h2 (tN w h1 (w.lt4 hi ha)))
 ·exact j4 h ha
theorem aMl(w:Wall l n)(hs:∀a v a',S a=.ok v a'→a≤n→a'≤n){m a:Nat}{x:Dx}{a':Nat}(h:fB l S m a=.ok x a')(ha:a<n):a'≤n:=by
 unfold fB at h
 split at h
 ·exact bCk w h ha
 ·split at h
  ·exact bCr w hs h ha
  ·cases h
theorem aPf(w:Wall l n):∀(m:Nat) (acc:List Im) (a:Nat) (xs:List Im) (a':Nat),fI l m acc a=.ok xs a'→a≤n→a'≤n∧isF l a' 5 oD=false:=by
 intro m
 induction m with
 |zero=>intro acc a xs a' h;cases h
 |succ m ih=>
  intro acc a xs a' h ha
  unfold fI at h
  split at h
  ·rename_i hi;cases h;exact⟨ha,hi⟩
  ·rename_i hi
   obtain⟨t,a1,h1,h⟩:=R.aA h
   obtain⟨_,a2,h2,h⟩:=R.aA h
   exact ih _ _ _ _ h (fY w (.inl rfl) h2 (nL w h1 (w.lt5 hi (by decide) ha)))
end
theorem aLi{l l':List Tz}(hl:l.length<19999)(hT:∀t∈l,t.t.length<big){n k:Nat}{b:Int}(hn:n≤l.length)(tok:∀i,i<n→aB l' (i+k)=shZ b (aB l i))(els:isF l' (n+k) 5 wA=false)(hlen:n+k≤l'.length){a:Nat}{v:List Sx}{a':Nat}(h:ST l a=.ok v a')(ha:a'≤n):ST l' (a+k)=.ok (hJ b v) (a'+k):=by
 have hP:=aOc l hl hT
 rcases uH l a with e|⟨hal,r,⟨N,hm⟩,e⟩
 ·rw[e]at h;cases h
 ·rw[e]at h
  unfold rO at h
  cases hf:bZ r.2 with
  |false=>rw[hf]at h;cases h
  |true=>
   rw[hf]at h
   cases h
   have t:TokS 0 n k b l l' (PL l) (PL l'):=by
    refine⟨fun i _ hi=>tok i hi,els,fun a x a2 _ e1 ha2 hst=>?_⟩
    have hlt:=(hP.ok a x a2 (aVe e1) e1).1
    refine bGc (fun i _ hi=>tok i (by omega)) ?_ (Nat.zero_le _) e1 (by omega)
    rw[tok a2 ha2]
    exact hst
   have hlt:=(gX hP N).block 0 ⟨a,0,0⟩ r.1 r.2 hal (hm N (Nat.le_refl _))
   have hlt:=hlt.lt (fM.1 hf)
   have hlt:a<r.2.a:=hlt
   have ev:EvR (fun m=>(cG l' (PL l') m).block 0 ⟨a+k,0,0⟩) (hJ b r.1,shS k r.2):=by
    refine⟨N,fun m hmN=>?_⟩
    exact(aHr t hP hn m).block 0 ⟨a,0,0⟩ (Nat.zero_le _) hal r.1 r.2 (hm m hmN) (fM.1 hf) ha
   rw[aOp (by omega) ev]
   unfold rO
   rw[show bZ (shS k r.2)=bZ r.2 from rfl,hf]
   rfl
end Go.VM
end
section
/- Files: one declaration more. -/
set_option maxRecDepth 100000
namespace Go.VM
open Go.RowKit
theorem aPh(t:Tz):shZ 0 t=t:=by simp[shZ]
theorem bDx(p:Pm):shP 0 p=p:=by simp[shP,aIg]
theorem bEw(h:Bool)(x:Tx):shI 0 h x=x:=by cases h<;>simp[shI,aIg]
theorem kP{α:Type}{f:α→α}(h:∀x,f x=x)(l:List α):l.map f=l:=by
 induction l with
 |nil=>rfl
 |cons x l ih=>rw[List.map_cons,h,ih]
theorem bKa(m:Mx):shM 0 m=m:=by simp only[shM,Int.add_zero,kP aIg,bEw]
theorem bLh(h:Bool)(p:Pm):shV 0 h p=p:=by cases h<;>simp[shV,bDx]
theorem bEj(d:Dx):shD 0 d=d:=by simp only[shD,Int.add_zero,kP bDx,kP bKa,bEw,bLh,xJ]
def bCv(b:Int)(i:Im):Im:=⟨i.n,i.a+b⟩
theorem aEm(i:Im):bCv 0 i=i:=by simp[bCv]
section
variable{n k:Nat}{b:Int}{l l':List Tz}{S S':Nat→R (List Sx)}
theorem SimZ.bKg(h:SimZ n k b l l' S S'):∀(m:Nat) (acc:List Im) (a:Nat) (is:List Im) (a':Nat),a≤l.length→fI l m acc a=.ok is a'→a'≤n→isF l' (a'+k) 5 oD=false→fI l' m (acc.map (bCv b)) (a+k)=.ok (is.map (bCv b)) (a'+k):=by
 intro m
 induction m with
 |zero=>intro acc a is a' _ e;cases e
 |succ m ih=>
  intro acc a is a' hl e ha hs
  unfold fI at e⊢
  cases hi:isF l a 5 oD with
  |false=>
   rw[hi]at e
   cases e
   rw[hs]
  |true=>
   rw[hi]at e
   obtain⟨t,a1,h1,e⟩:=R.aA e
   obtain⟨_,a2,h2,e⟩:=R.aA e
   have q1:=cK h1
   have q2:=aM (by decide) h2
   have q3:=tU q2.2.1 e
   rw[h.is (by omega),hi]
   simp only
   rw[show a+k+1=a+1+k by omega,h.name h1 (by omega)]
   simp only[R.bind]
   rw[h.eW (by decide) h2 (by omega)]
   have:=ih _ _ _ _ q2.2.1 e ha hs
   rw[List.map_append,List.map_singleton]at this
   exact this
end
structure MoreT(l l' M0:List Tz)(n n0 m0:Nat)(N:Int)(D0:Dx):Prop where
 hl:l.length<19999
 hT:∀t∈l,t.t.length<big
 hl':l'.length<19999
 hT':∀t∈l',t.t.length<big
 h0:M0.length<19999
 hT0:∀t∈M0,t.t.length<big
 len:l.length=n+1
 len':l'.length=n+n0+1
 len0:M0.length=n0+1
 tok:∀i,i<n→aB l' i=aB l i
 tok0:∀i,i<n0→aB l' (i+n)=shZ N (aB M0 i)
 stop:(aB l n).k=0
 stop':(aB l' (n+n0)).k=0
 nz:∀i,i<n→(aB l i).k≠0
 wall:(aB l' n).k=5∧((aB l' n).t=sType∨(aB l' n).t=tV)
 decl:fB M0 (ST M0) m0 0=.ok D0 n0
section
variable{l l' M0:List Tz}{n n0 m0:Nat}{N:Int}{D0:Dx}
theorem MoreT.w(h:MoreT l l' M0 n n0 m0 N D0):Wall l n:=by
 have:=h.stop
 exact⟨by omega,by omega,by omega,by omega,fun e=>by omega⟩
theorem MoreT.w'(h:MoreT l l' M0 n n0 m0 N D0):Wall l' n:=by
 have:=h.wall.1
 exact⟨by omega,by omega,by omega,by omega,fun _=>h.wall.2⟩
theorem xR{l:List Tz}{a:Nat}{k:Int}{x:List Nat}(h:(aB l a).k≠k∨(aB l a).t≠x):isF l a k x=false:=by
 unfold isF
 rcases h with h|h
 ·rw[decide_eq_false h,Bool.false_and]
 ·rw[decide_eq_false h,Bool.and_false]
theorem MoreT.not'(h:MoreT l l' M0 n n0 m0 N D0){x:List Nat}(hx:x≠sType∧x≠tV):isF l' n 5 x=false:=by
 refine xR (.inr fun e=>?_)
 rcases h.wall.2 with q|q
 ·exact hx.1 (e.symm.trans q)
 ·exact hx.2 (e.symm.trans q)
theorem MoreT.sim(h:MoreT l l' M0 n n0 m0 N D0):SimZ n 0 0 l l' (ST l) (ST l'):=by
 have tk:∀i,i<n→aB l' (i+0)=shZ 0 (aB l i):=fun i hi=>by rw[aPh];exact h.tok i hi
 refine⟨⟨fun i _ hi=>tk i hi,?_⟩,fun a v a' e ha=>?_⟩
 ·unfold kO
  rw[show(aB l' (n+0)).k=5 from h.wall.1]
  rfl
 ·have:=h.len;have:=h.len'
  exact aLi h.hl h.hT (by omega) tk (h.not' (by decide)) (by omega) e ha
theorem MoreT.back(h:MoreT l l' M0 n n0 m0 N D0):SimZ n 0 0 l' l (ST l') (ST l):=by
 have tk:∀i,i<n→aB l (i+0)=shZ 0 (aB l' i):=fun i hi=>by rw[aPh];exact(h.tok i hi).symm
 refine⟨⟨fun i _ hi=>tk i hi,?_⟩,fun a v a' e ha=>?_⟩
 ·unfold kO
  rw[show(aB l (n+0)).k=0 from h.stop]
  rfl
 ·have:=h.len;have:=h.len'
  exact aLi h.hl' h.hT' (by omega) tk (xR (.inl (by rw[show(aB l (n+0)).k=0 from h.stop];decide))) (by omega) e ha
theorem MoreT.bNi(h:MoreT l l' M0 n n0 m0 N D0):SimZ n0 n N M0 l' (ST M0) (ST l'):=by
 refine⟨⟨fun i _ hi=>h.tok0 i hi,?_⟩,fun a v a' e ha=>?_⟩
 ·unfold kO
  rw[show(aB l' (n0+n)).k=0 from by rw[Nat.add_comm];exact h.stop']
  rfl
 ·have:=h.len0;have:=h.len'
  exact aLi h.h0 h.hT0 (by omega) h.tok0 (xR (.inl (by rw[show(aB l' (n0+n)).k=0 from by rw[Nat.add_comm];exact h.stop'];decide))) (by omega) e ha
theorem MoreT.last(h:MoreT l l' M0 n n0 m0 N D0){m:Nat}(hm:m0≤m):fB l' (ST l') m n=.ok (shD N D0) (n+n0):=by
 have e:=aNg (l:=M0) (S:=ST M0) (a:=0) hm (by rw[h.decl];rfl)
 rw[h.decl]at e
 have:=h.bNi.decl (aBi h.h0 h.hT0) e (Nat.le_refl _)
 rw[Nat.zero_add,Nat.add_comm n0 n]at this
 exact this
theorem MoreT.decls(h:MoreT l l' M0 n n0 m0 N D0){M:Nat}(hM:m0≤M):∀(m:Nat) (acc:List Dx) (a:Nat) (ds:List Dx) (a':Nat),a≤n→cL l (ST l) M m acc a=.ok ds a'→cL l' (ST l') M (m+1) acc a=.ok (ds++[shD N D0]) (n+n0):=by
 intro m
 induction m with
 |zero=>intro acc a ds a' _ e;cases e
 |succ m ih=>
  intro acc a ds a' ha e
  unfold cL at e
  show cL l' (ST l') M (m+1+1) acc a=_
  rw[cL]
  rcases Nat.eq_or_lt_of_le ha with q|q
  ·subst q
   rw[decide_eq_true h.stop]at e
   cases e
   rw[show decide ((aB l' a).k=0)=false from decide_eq_false (by rw[h.wall.1];decide)]
   simp only
   rw[h.last hM]
   simp only[R.bind]
   rw[cL,decide_eq_true h.stop']
  ·rw[decide_eq_false (h.nz a q)]at e
   obtain⟨d,a1,h1,e⟩:=R.aA e
   have h2:=aMl h.w (fun _ _ _=>aMb h.w) h1 q
   rw[h.tok a q,decide_eq_false (h.nz a q)]
   simp only
   have:=h.sim.decl (aBi h.hl h.hT) h1 h2
   rw[bEj]at this
   rw[show fB l' (ST l') M a=.ok d a1 from this]
   exact ih _ _ _ _ h2 e
theorem MoreT.ok(h:MoreT l l' M0 n n0 m0 N D0){f:FileX}{a:Nat}(e:FL l=.ok f a):FL l'=.ok ⟨f.n,f.a,f.is,f.ds++[shD N D0]⟩ (n+n0):=by
 obtain⟨M,hM⟩:∃M,M=l.length+l'.length+m0+1:=⟨_,rfl⟩
 rw[xU h.hl h.hT (m:=M) (by omega)]at e
 rw[xU h.hl' h.hT' (m:=M+1) (by omega)]
 obtain⟨_,a1,h1,e⟩:=R.aA e
 obtain⟨t,a2,h2,e⟩:=R.aA e
 obtain⟨_,a3,h3,e⟩:=R.aA e
 obtain⟨is,a4,h4,e⟩:=R.aA e
 obtain⟨ds,a5,h5,e⟩:=R.aA e
 cases e
 have w1:=fY h.w (.inr ⟨rfl,by decide⟩) h1 (Nat.zero_le _)
 have w2:=nL h.w h2 w1
 have w3:=fY h.w (.inl rfl) h3 w2
 have w4:=aPf h.w _ _ _ _ _ h4 w3
 have hn:isF l' (a4+0) 5 oD=false:=by
  rcases Nat.eq_or_lt_of_le w4.1 with q|q
  ·rw[q];exact h.not' (by decide)
  ·rw[h.sim.is q];exact w4.2
 have q3:=aM (by decide) h3
 have i1:=h.sim.bKg _ _ _ _ _ q3.2.1 h4 w4.1 hn
 rw[kP aEm,kP aEm]at i1
 have i1:fI l' M [] a3=.ok is a4:=i1
 have i2:=aDb (l:=l') M (M+1) [] a3 (by omega) (by rw[i1];rfl)
 rw[i1]at i2
 have d1:=h.decls (M:=M) (by omega) _ _ _ _ _ w4.1 h5
 have d2:=zR (l:=l') (S:=ST l') (M:=M) (M':=M+1) (by omega) (M+1) (M+1) [] a4 (by omega) (by rw[d1];rfl)
 rw[d1]at d2
 unfold iN
 rw[show bM l' 5 sG 0=.ok () a1 from h.sim.eW (by decide) h1 w1]
 simp only[R.bind]
 have n1:=h.sim.name h2 w2
 rw[aPh]at n1
 rw[show fName l' a1=.ok t a2 from n1]
 simp only
 rw[show bM l' 4 [59] a2=.ok () a3 from h.sim.eW (by decide) h3 w3]
 simp only
 rw[i2]
 simp only
 rw[d2]
theorem MoreT.aKl(h:MoreT l l' M0 n n0 m0 N D0){M:Nat}:∀(m:Nat) (acc:List Dx) (a:Nat) (ds:List Dx) (a':Nat),a≤n→cL l' (ST l') M m acc a=.ok ds a'→∃ds2 a2,cL l (ST l) M m acc a=.ok ds2 a2:=by
 intro m
 induction m with
 |zero=>intro acc a ds a' _ e;cases e
 |succ m ih=>
  intro acc a ds a' ha e
  unfold cL at e
  rw[cL]
  rcases Nat.eq_or_lt_of_le ha with q|q
  ·subst q
   rw[decide_eq_true h.stop]
   exact⟨_,_,rfl⟩
  ·rw[h.tok a q,decide_eq_false (h.nz a q)]at e
   obtain⟨d,a1,h1,e⟩:=R.aA e
   have h2:=aMl h.w' (fun _ _ _=>aMb h.w') h1 q
   rw[decide_eq_false (h.nz a q)]
   simp only
   have:=h.back.decl (aBi h.hl' h.hT') h1 h2
   rw[bEj]at this
   rw[show fB l (ST l) M a=.ok d a1 from this]
   exact ih _ _ _ _ h2 e
theorem MoreT.of(h:MoreT l l' M0 n n0 m0 N D0){g:FileX}{a:Nat}(e:FL l'=.ok g a):∃f a',FL l=.ok f a':=by
 obtain⟨M,hM⟩:∃M,M=l.length+l'.length+m0+1:=⟨_,rfl⟩
 rw[xU h.hl' h.hT' (m:=M) (by omega)]at e
 rw[xU h.hl h.hT (m:=M) (by omega)]
 obtain⟨_,a1,h1,e⟩:=R.aA e
 obtain⟨t,a2,h2,e⟩:=R.aA e
 obtain⟨_,a3,h3,e⟩:=R.aA e
 obtain⟨is,a4,h4,e⟩:=R.aA e
 obtain⟨ds,a5,h5,e⟩:=R.aA e
 have w1:=fY h.w' (.inr ⟨rfl,by decide⟩) h1 (Nat.zero_le _)
 have w2:=nL h.w' h2 w1
 have w3:=fY h.w' (.inl rfl) h3 w2
 have w4:=aPf h.w' _ _ _ _ _ h4 w3
 have hn:isF l (a4+0) 5 oD=false:=by
  rcases Nat.eq_or_lt_of_le w4.1 with q|q
  ·rw[q];exact xR (.inl (by rw[show(aB l (n+0)).k=0 from h.stop];decide))
  ·rw[h.back.is q];exact w4.2
 have q3:=aM (by decide) h3
 have i1:=h.back.bKg _ _ _ _ _ q3.2.1 h4 w4.1 hn
 rw[kP aEm,kP aEm]at i1
 have i1:fI l M [] a3=.ok is a4:=i1
 obtain⟨ds2,a6,d1⟩:=h.aKl _ _ _ _ _ w4.1 h5
 unfold iN
 rw[show bM l 5 sG 0=.ok () a1 from h.back.eW (by decide) h1 w1]
 simp only[R.bind]
 have n1:=h.back.name h2 w2
 rw[aPh]at n1
 rw[show fName l a1=.ok t a2 from n1]
 simp only
 rw[show bM l 4 [59] a2=.ok () a3 from h.back.eW (by decide) h3 w3]
 simp only
 rw[i1]
 simp only
 rw[d1]
 exact⟨_,_,rfl⟩
end
end Go.VM
end
