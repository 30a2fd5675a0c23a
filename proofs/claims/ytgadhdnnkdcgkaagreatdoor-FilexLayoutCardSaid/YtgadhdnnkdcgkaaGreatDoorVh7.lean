/- laid for this seat: VfM VfN VfO VfP -/
import Derived.Test.YtgadhdnnkdcgkaaGreatDoorVh3
import Derived.Test.YtgadhdnnkdcgkaaGreatDoorVh6
set_option linter.unusedVariables false
set_option linter.unusedSimpArgs false
section
/- Files: the same tokens elsewhere give the same parts, moved. -/
set_option maxRecDepth 100000
namespace Go.VM
open Go.RowKit
def shP(b:Int)(p:Pm):Pm:=⟨p.n,p.a+b,shT b p.t⟩
def shI(b:Int)(has:Bool)(x:Tx):Tx:=match has with
 |true=>shT b x
 |false=>x
def shM(b:Int)(m:Mx):Mx:=⟨m.n,m.a+b,m.ps.map (shT b),m.has,shI b m.has m.res⟩
def shV(b:Int)(mt:Bool)(p:Pm):Pm:=match mt with
 |true=>shP b p
 |false=>p
def shD(b:Int)(d:Dx):Dx:=⟨d.k,d.a+b,d.e+b,d.n,d.mt,shV b d.mt d.rv,d.bs.map (shP b),d.fs.map (shP b),d.ms.map (shM b),d.has,shI b d.has d.res,iV b d.body⟩
structure SimZ(n k:Nat)(b:Int)(l l':List Tz)(S S':Nat→R (List Sx)):Prop where
 sm:Same 0 n k b l l'
 st:∀a v a',S a=.ok v a'→a'≤n→S' (a+k)=.ok (iV b v) (a'+k)
section
variable{n k:Nat}{b:Int}{l l':List Tz}{S S':Nat→R (List Sx)}
theorem SimZ.is(h:SimZ n k b l l' S S'){a:Nat}(ha:a<n)(kk:Int)(x:List Nat):isF l' (a+k) kk x=isF l a kk x:=h.sm.is (Nat.zero_le _) ha kk x
theorem SimZ.name(h:SimZ n k b l l' S S'){a:Nat}{t:Tz}{a1:Nat}(e:fName l a=.ok t a1)(ha:a1≤n):fName l' (a+k)=.ok (shZ b t) (a1+k):=by
 have q:=cI e
 unfold fName
 rw[h.sm.tok a (Nat.zero_le _) (by omega),show(shZ b (aA l a)).k=(aA l a).k from rfl,decide_eq_true q.2.2.2,q.2.2.1,q.1,show a+k+1=a+1+k by omega]
theorem SimZ.dK(h:SimZ n k b l l' S S'){kk:Int}{x:List Nat}{a:Nat}{u:Unit}{a1:Nat}(hk:kk≠0)(e:bM l kk x a=.ok u a1)(ha:a1≤n):bM l' kk x (a+k)=.ok () (a1+k):=by
 have q:=aN hk e
 unfold bM
 rw[h.is (by omega),q.2.2,q.1,show a+k+1=a+1+k by omega]
theorem SimZ.typed(h:SimZ n k b l l' S S'){a:Nat}{x:Tx}{a1:Nat}(e:cB l a=.ok x a1)(ha:a1<n):cB l' (a+k)=.ok (shT b x) (a1+k):=by
 unfold cB at e⊢
 split at e
 ·rename_i h1
  cases e
  rw[h.sm.ty (Nat.zero_le _) h1 ha]
 ·cases e
 ·cases e
theorem SimZ.param(h:SimZ n k b l l' S S'){a:Nat}{x:Pm}{a1:Nat}(e:cK l a=.ok x a1)(ha:a1<n):cK l' (a+k)=.ok (shP b x) (a1+k):=by
 obtain⟨t,a2,h1,e⟩:=R.aB e
 obtain⟨y,a3,h2,e⟩:=R.aB e
 cases e
 have:=eW h2
 unfold cK
 rw[h.name h1 (by omega)]
 simp only[R.bind]
 rw[h.typed h2 ha]
 rfl
theorem SimZ.sev(h:SimZ n k b l l' S S'){α:Type}{rd rd':Nat→R α}{sh:α→α}(hr:∀a x a1,rd a=.ok x a1→a<a1∧a1≤l.length)(hs:∀a x a1,rd a=.ok x a1→a1<n→rd' (a+k)=.ok (sh x) (a1+k)){to:List Nat}:∀(m:Nat) (acc:List α) (a:Nat) (xs:List α) (a':Nat),
  fT l rd to m acc a=.ok xs a'→a'≤n→fT l' rd' to m (acc.map sh) (a+k)=.ok (xs.map sh) (a'+k):=by
 intro m
 induction m with
 |zero=>intro acc a xs a' e;cases e
 |succ m ih=>
  intro acc a xs a' e ha
  unfold fT at e⊢
  obtain⟨x,a1,h1,e⟩:=R.aB e
  cases hi:isF l a1 4 [44]with
  |true=>
   rw[hi]at e
   have q:=aNd hr _ _ _ _ _ e
   rw[hs _ _ _ h1 (by omega)]
   simp only[R.bind]
   rw[h.is (by omega),hi]
   have:=ih _ _ _ _ e ha
   rw[List.map_append,List.map_singleton,show a1+1+k=a1+k+1 by omega]at this
   exact this
  |false=>
   rw[hi]at e
   obtain⟨u,a2,h2,e⟩:=R.aB e
   have q:=aN (by decide) h2
   cases e
   rw[hs _ _ _ h1 (by omega)]
   simp only[R.bind]
   rw[h.is (by omega),hi]
   simp only
   rw[h.dK (by decide) h2 ha,List.map_append,List.map_singleton]
theorem SimZ.aCs(h:SimZ n k b l l' S S'){α:Type}{rd rd':Nat→R α}{sh:α→α}(hr:∀a x a1,rd a=.ok x a1→a<a1∧a1≤l.length)(hs:∀a x a1,rd a=.ok x a1→a1<n→rd' (a+k)=.ok (sh x) (a1+k)){to:List Nat}{none:Bool}{m a:Nat}{xs:List α}{a':Nat}
  (e:bC l rd to none m a=.ok xs a') (ha:a'≤n):bC l' rd' to none m (a+k)=.ok (xs.map sh) (a'+k):=by
 have q:=cM hr e
 unfold bC at e⊢
 rw[h.is (by omega)]
 split at e
 ·rename_i h1
  cases e
  try rw[h1]
  rw[show a+k+1=a+1+k by omega]
  rfl
 ·rename_i h1
  try rw[h1]
  exact h.sev hr hs _ _ _ _ _ e ha
theorem SimZ.res(h:SimZ n k b l l' S S'){to:List Nat}{a:Nat}(hl:a≤l.length){r:Bool×Tx}{a1:Nat}(e:oN l to a=.ok r a1)(ha:a1<n):oN l' to (a+k)=.ok (r.1,shI b r.1 r.2) (a1+k):=by
 have q:=qL hl e
 unfold oN at e⊢
 rw[h.is (by omega)]
 split at e
 ·rename_i h1;cases e;try rw[h1]
  rfl
 ·rename_i h1
  obtain⟨x,a2,h2,e⟩:=R.aB e
  cases e
  try rw[h1]
  try simp only
  rw[h.typed h2 ha]
  rfl
theorem SimZ.method(h:SimZ n k b l l' S S'){m a:Nat}{x:Mx}{a':Nat}(e:cW l m a=.ok x a')(ha:a'≤n):cW l' m (a+k)=.ok (shM b x) (a'+k):=by
 obtain⟨t,a1,h1,e⟩:=R.aB e
 obtain⟨_,a2,h2,e⟩:=R.aB e
 obtain⟨ps,a3,h3,e⟩:=R.aB e
 obtain⟨r,a4,h4,e⟩:=R.aB e
 obtain⟨_,a5,h5,e⟩:=R.aB e
 cases e
 have q1:=cI h1
 have q2:=aN (by decide) h2
 have q3:=cM (fun _ _ _=>eW) h3
 have q4:=qL q3.2 h4
 have q5:=aN (by decide) h5
 unfold cW
 rw[h.name h1 (by omega)]
 simp only[R.bind]
 rw[h.dK (by decide) h2 (by omega)]
 simp only
 rw[h.aCs (sh:=shT b) (fun _ _ _=>eW) (fun _ _ _=>h.typed) h3 (by omega)]
 simp only
 rw[h.res q3.2 h4 (by omega)]
 simp only
 rw[h.dK (by decide) h5 (by omega)]
 rfl
theorem SimZ.to(h:SimZ n k b l l' S S'){α:Type}{rd rd':Nat→R α}{sh:α→α}(hr:∀a x a1,a≤l.length→rd a=.ok x a1→a<a1∧a1≤l.length)(hs:∀a x a1,rd a=.ok x a1→a1≤n→rd' (a+k)=.ok (sh x) (a1+k)):∀(m:Nat) (acc:List α) (a:Nat) (xs:List α) (a':Nat),a≤l.length→
  fTo l rd m acc a=.ok xs a'→a'≤n→fTo l' rd' m (acc.map sh) (a+k)=.ok (xs.map sh) (a'+k):=by
 intro m
 induction m with
 |zero=>intro acc a xs a' _ e;cases e
 |succ m ih=>
  intro acc a xs a' hl e ha
  have q:=kW hr _ _ _ _ _ hl e
  unfold fTo at e⊢
  rw[h.is (by omega)]
  split at e
  ·rename_i h1;cases e;try rw[h1]
   rw[show a+k+1=a+1+k by omega]
  ·rename_i h1
   obtain⟨x,a1,h2,e⟩:=R.aB e
   have q1:=hr _ _ _ hl h2
   have q2:=kW hr _ _ _ _ _ q1.2 e
   try rw[h1]
   try simp only
   rw[hs _ _ _ h2 (by omega)]
   simp only[R.bind]
   have:=ih _ _ _ _ q1.2 e ha
   rw[List.map_append,List.map_singleton]at this
   exact this
theorem SimZ.field(h:SimZ n k b l l' S S'){a:Nat}{x:Pm}{a1:Nat}(e:gP l a=.ok x a1)(ha:a1≤n):gP l' (a+k)=.ok (shP b x) (a1+k):=by
 obtain⟨p,b1,h1,e⟩:=R.aB e
 obtain⟨u,b2,h2,e⟩:=R.aB e
 have q:=aN (by decide) h2
 cases e
 unfold gP
 rw[h.param h1 (by omega)]
 simp only[R.bind]
 rw[h.dK (by decide) h2 ha]
theorem SimZ.end'(h:SimZ n k b l l' S S'){a:Nat}(h1:1≤a)(ha:a≤n):aCx l' (a+k)=aCx l a+b:=by
 unfold aCx
 rw[show a+k-1=a-1+k by omega,h.sm.tok (a-1) (Nat.zero_le _) (by omega)]
 rfl
theorem SimZ.type(h:SimZ n k b l l' S S'){m a:Nat}{x:Dx}{a':Nat}(e:cL l m a=.ok x a')(ha:a'≤n):cL l' m (a+k)=.ok (shD b x) (a'+k):=by
 unfold cL
 obtain⟨t,a1,h1,e⟩:=R.aB e
 have q1:=cI h1
 split at e
 ·rename_i hi
  obtain⟨_,a2,h2,e⟩:=R.aB e
  obtain⟨ms,a3,h3,e⟩:=R.aB e
  have q2:=aN (by decide) h2
  have q3:=kW (fun _ _ _ _=>fH) _ _ _ _ _ q2.2.1 h3
  cases e
  rw[h.name h1 (by omega)]
  simp only[R.bind]
  rw[h.is (by omega),hi]
  simp only
  rw[show a1+k+1=a1+1+k by omega,h.dK (by decide) h2 (by omega)]
  simp only
  have:=h.to (sh:=shM b) (fun _ _ _ _=>fH) (fun _ _ _=>h.method (m:=m)) _ [] _ _ _ q2.2.1 h3 (by omega)
  rw[show([]:List Mx)=List.map (shM b) []from rfl,this]
  simp only
  rw[h.end' (by omega) ha]
  rfl
 ·rename_i hi
  obtain⟨_,a2,h2,e⟩:=R.aB e
  obtain⟨_,a3,h3,e⟩:=R.aB e
  obtain⟨fs,a4,h4,e⟩:=R.aB e
  have q2:=aN (by decide) h2
  have q3:=aN (by decide) h3
  have q4:=kW (fun _ _ _ _=>fS) _ _ _ _ _ q3.2.1 h4
  cases e
  rw[h.name h1 (by omega)]
  simp only[R.bind]
  rw[h.is (by omega),hi]
  simp only
  rw[h.dK (by decide) h2 (by omega)]
  simp only
  rw[h.dK (by decide) h3 (by omega)]
  simp only
  have:=h.to (sh:=shP b) (fun _ _ _ _=>fS) (fun _ _ _=>h.field) _ [] _ _ _ q3.2.1 h4 (by omega)
  rw[show([]:List Pm)=List.map (shP b) []from rfl,this]
  simp only
  rw[h.end' (by omega) ha]
  rfl
theorem SimZ.j3(h:SimZ n k b l l' S S')(hS:StmOk l S){m:Nat}{p:Int}{nm:List Nat}{mt:Bool}{rv:Pm}{bs:List Pm}{a:Nat}{x:Dx}{a':Nat}(e:fJ3 l S m p nm mt rv bs a=.ok x a')(ha:a'≤n):fJ3 l' S' m (p+b) nm mt (shV b mt rv) (bs.map (shP b)) (a+k)=.ok (shD b x) (a'+k):=by
 obtain⟨_,a1,h1,e⟩:=R.aB e
 obtain⟨fs,a2,h2,e⟩:=R.aB e
 obtain⟨r,a3,h3,e⟩:=R.aB e
 have q1:=aN (by decide) h1
 have q2:=cM (fun _ _ _=>bU) h2
 have q3:=qL q2.2 h3
 have q4:=aId hS q3.2 e
 unfold fJ3
 rw[h.dK (by decide) h1 (by omega)]
 simp only[R.bind]
 rw[h.aCs (sh:=shP b) (fun _ _ _=>bU) (fun _ _ _=>h.param) h2 (by omega)]
 simp only
 rw[h.res q2.2 h3 (by omega)]
 simp only
 unfold lR at e⊢
 cases hs:S a3 with
 |out=>rw[hs]at e;cases e
 |er _ _ _ _=>rw[hs]at e;cases e
 |ok v n2=>
  rw[hs]at e
  cases e
  rw[h.st _ _ _ hs ha]
  simp only
  rw[h.end' (by omega) ha]
  rfl
theorem SimZ.j4(h:SimZ n k b l l' S S')(hS:StmOk l S){m:Nat}{mt:Bool}{rv:Pm}{a:Nat}{x:Dx}{a':Nat}(e:fJ4 l S m mt rv a=.ok x a')(ha:a'≤n):fJ4 l' S' m mt (shV b mt rv) (a+k)=.ok (shD b x) (a'+k):=by
 unfold fJ4
 obtain⟨t,a1,h1,e⟩:=R.aB e
 have q1:=cI h1
 split at e
 ·rename_i hi
  obtain⟨bs,a2,h2,e⟩:=R.aB e
  have q2:=cM (fun _ _ _=>bU) h2
  have q3:=aDg hS e
  rw[h.name h1 (by omega)]
  simp only[R.bind]
  rw[h.is (by omega),hi]
  simp only
  rw[show a1+k+1=a1+1+k by omega,h.aCs (sh:=shP b) (fun _ _ _=>bU) (fun _ _ _=>h.param) h2 (by omega)]
  exact h.j3 hS e ha
 ·rename_i hi
  have q3:=aDg hS e
  rw[h.name h1 (by omega)]
  simp only[R.bind]
  rw[h.is (by omega),hi]
  exact h.j3 hS e ha
theorem SimZ.func(h:SimZ n k b l l' S S')(hS:StmOk l S){m a:Nat}{x:Dx}{a':Nat}(e:gN l S m a=.ok x a')(ha:a'≤n):gN l' S' m (a+k)=.ok (shD b x) (a'+k):=by
 have q:=xL hS e
 unfold gN at e⊢
 rw[h.is (by omega)]
 split at e
 ·rename_i hi
  obtain⟨p,a1,h1,e⟩:=R.aB e
  obtain⟨_,a2,h2,e⟩:=R.aB e
  have q1:=bU h1
  have q2:=aN (by decide) h2
  have q3:=aLp hS e
  try rw[hi]
  try simp only
  rw[show a+k+1=a+1+k by omega,h.param h1 (by omega)]
  simp only[R.bind]
  rw[h.dK (by decide) h2 (by omega)]
  exact h.j4 hS (mt:=true) e ha
 ·rename_i hi
  try rw[hi]
  exact h.j4 hS (mt:=false) e ha
theorem SimZ.decl(h:SimZ n k b l l' S S')(hS:StmOk l S){m a:Nat}{x:Dx}{a':Nat}(e:fB l S m a=.ok x a')(ha:a'≤n):fB l' S' m (a+k)=.ok (shD b x) (a'+k):=by
 have q:=uD hS e
 unfold fB at e⊢
 rw[h.is (by omega),h.is (by omega)]
 split at e
 ·rename_i hi
  try rw[hi]
  try simp only
  rw[show a+k+1=a+1+k by omega]
  exact h.type e ha
 ·rename_i hi
  try rw[hi]
  split at e
  ·rename_i hj
   try rw[hj]
   try simp only
   rw[show a+k+1=a+1+k by omega]
   exact h.func hS e ha
  ·cases e
end
end Go.VM
end
section
/- Files: fuel; a token that is not passed. -/
set_option maxRecDepth 100000
namespace Go.VM
open Go.RowKit
def Fu{α:Type}(r r':R α):Prop:=r.aY=false→r'=r
theorem Fu.rfl'{α:Type}{r:R α}:Fu r r:=fun _=>rfl
theorem Fu.out{α:Type}{r:R α}:Fu .out r:=fun h=>by cases h
theorem Fu.bind{α β:Type}{r r':R α}{f f':α→Nat→R β}(h:Fu r r')(k:∀v a,Fu (f v a) (f' v a)):Fu (r.bind f) (r'.bind f'):=by
 intro ho
 cases r with
 |out=>cases ho
 |er a d p c=>rw[h rfl];rfl
 |ok v a=>rw[h rfl];exact k v a ho
section
variable{l:List Tz}{S:Nat→R (List Sx)}
theorem aZo{α:Type}{rd:Nat→R α}{to:List Nat}:∀(m m':Nat) (acc:List α) (a:Nat),m≤m'→Fu (fT l rd to m acc a) (fT l rd to m' acc a)
 |0,_,_,_,_=>.out
 |m+1,0,_,_,h=>by omega
 |m+1,m'+1,acc,a,h=>by
  unfold fT
  refine .bind .rfl' fun x a1=>?_
  split
  ·exact aZo m m' _ _ (by omega)
  ·exact .rfl'
theorem rV{α:Type}{rd:Nat→R α}{to:List Nat}{none:Bool}{m m' a:Nat}(h:m≤m'):Fu (bC l rd to none m a) (bC l rd to none m' a):=by
 unfold bC
 split
 ·exact .rfl'
 ·exact aZo _ _ _ _ h
theorem aTo{m m' a:Nat}(h:m≤m'):Fu (cW l m a) (cW l m' a):=
 .bind .rfl' fun _ _=>.bind .rfl' fun _ _=>.bind (rV h) fun _ _=>.rfl'
theorem aUx{α:Type}{rd rd':Nat→R α}(hr:∀a,Fu (rd a) (rd' a)):∀(m m':Nat) (acc:List α) (a:Nat),m≤m'→Fu (fTo l rd m acc a) (fTo l rd' m' acc a)
 |0,_,_,_,_=>.out
 |m+1,0,_,_,h=>by omega
 |m+1,m'+1,acc,a,h=>by
  unfold fTo
  split
  ·exact .rfl'
  ·exact .bind (hr a) fun x a1=>aUx hr m m' _ _ (by omega)
theorem bAm{m m' a:Nat}(h:m≤m'):Fu (cL l m a) (cL l m' a):=by
 refine .bind .rfl' fun t a1=>?_
 split
 ·exact .bind .rfl' fun _ _=>.bind (aUx (fun _=>aTo h) _ _ _ _ h) fun _ _=>.rfl'
 ·exact .bind .rfl' fun _ _=>.bind .rfl' fun _ _=>.bind (aUx (fun _=>.rfl') _ _ _ _ h) fun _ _=>.rfl'
theorem bFg{m m':Nat}{p nm mt rv bs a}(h:m≤m'):Fu (fJ3 l S m p nm mt rv bs a) (fJ3 l S m' p nm mt rv bs a):=
 .bind .rfl' fun _ _=>.bind (rV h) fun _ _=>.rfl'
theorem bEd{m m':Nat}{mt rv a}(h:m≤m'):Fu (fJ4 l S m mt rv a) (fJ4 l S m' mt rv a):=by
 refine .bind .rfl' fun t a1=>?_
 split
 ·exact .bind (rV h) fun _ _=>bFg h
 ·exact bFg h
theorem bBz{m m' a:Nat}(h:m≤m'):Fu (gN l S m a) (gN l S m' a):=by
 unfold gN
 split
 ·exact .bind .rfl' fun _ _=>.bind .rfl' fun _ _=>bEd h
 ·exact bEd h
theorem aOz{m m' a:Nat}(h:m≤m'):Fu (fB l S m a) (fB l S m' a):=by
 unfold fB
 split
 ·exact bAm h
 ·split
  ·exact bBz h
  ·exact .rfl'
theorem zW{M M':Nat}(hM:M≤M'):∀(m m':Nat) (acc:List Dx) (a:Nat),m≤m'→Fu (cN l S M m acc a) (cN l S M' m' acc a)
 |0,_,_,_,_=>.out
 |m+1,0,_,_,h=>by omega
 |m+1,m'+1,acc,a,h=>by
  unfold cN
  split
  ·exact .rfl'
  ·exact .bind (aOz hM) fun x a1=>zW hM m m' _ _ (by omega)
theorem aFg:∀(m m':Nat) (acc:List Im) (a:Nat),m≤m'→Fu (eC l m acc a) (eC l m' acc a)
 |0,_,_,_,_=>.out
 |m+1,0,_,_,h=>by omega
 |m+1,m'+1,acc,a,h=>by
  unfold eC
  split
  ·exact .rfl'
  ·exact .bind .rfl' fun _ _=>.bind .rfl' fun _ _=>aFg m m' _ _ (by omega)
theorem bAn{m m':Nat}(h:m≤m'):Fu (iT l S m) (iT l S m'):=
 .bind .rfl' fun _ _=>.bind .rfl' fun _ _=>.bind .rfl' fun _ _=>.bind (aFg _ _ _ _ h) fun _ _=>.bind (zW h _ _ _ _ h) fun _ _=>.rfl'
theorem aOk(hl:l.length<19999)(hT:∀t∈l,t.t.length<big){m:Nat}(h:l.length+1≤m):FL l=iT l (ST l) m:=(bAn h (sK hl hT)).symm
end
structure Wall(l:List Tz)(n:Nat):Prop where
 k1:(aA l n).k≠1
 k2:(aA l n).k≠2
 k3:(aA l n).k≠3
 k4:(aA l n).k≠4
 k5:(aA l n).k=5→(aA l n).t=sType∨(aA l n).t=vZ
section
variable{l:List Tz}{n:Nat}
theorem Wall.lt4(w:Wall l n){a:Nat}{x:List Nat}(h:isF l a 4 x=true)(ha:a≤n):a<n:=by
 rcases Nat.eq_or_lt_of_le ha with e|e
 ·subst e;exact absurd (aNk h) w.k4
 ·exact e
theorem Wall.lt1(w:Wall l n){a:Nat}(h:(aA l a).k=1)(ha:a≤n):a<n:=by
 rcases Nat.eq_or_lt_of_le ha with e|e
 ·subst e;exact absurd h w.k1
 ·exact e
theorem Wall.lt5(w:Wall l n){a:Nat}{x:List Nat}(h:isF l a 5 x=true)(hx:x≠sType∧x≠vZ)(ha:a≤n):a<n:=by
 rcases Nat.eq_or_lt_of_le ha with e|e
 ·subst e
  unfold isF at h
  simp only[Bool.and_eq_true,decide_eq_true_eq]at h
  rcases w.k5 h.1 with q|q
  ·exact absurd (h.2.symm.trans q) hx.1
  ·exact absurd (h.2.symm.trans q) hx.2
 ·exact e
theorem aSq(w:Wall l n):∀(m a:Nat) (ls:List Int) (a':Nat) (ls':List Int),bT l m a ls=.brk a' ls'→a≤n→a'≤n:=by
 intro m
 induction m with
 |zero=>
  intro a ls a' ls' h ha
  unfold bT at h
  split at h
  ·cases h;exact ha
  ·cases h
 |succ m ih=>
  intro a ls a' ls' h ha
  unfold bT at h
  split at h
  ·cases h;exact ha
  ·rename_i h1
   have:=w.lt4 (x:=[91]) h1 ha
   split at h
   ·cases h
   ·rename_i h2
    have:=w.lt4 (x:=[93]) h2 (by omega)
    exact ih _ _ _ _ h (by omega)
theorem aSh(w:Wall l n){a:Nat}{x:Tx}{a':Nat}(h:cY l a=.ok x a')(ha:a≤n):a'<n:=by
 unfold cY at h
 split at h
 ·rename_i h1
  simp only[Bool.and_eq_true,decide_eq_true_eq]at h1
  cases h
  rcases Nat.eq_or_lt_of_le ha with e|e
  ·subst e
   rcases w.k5 h1.1 with q|q
   ·rw[q]at h1;cases h1.2
   ·rw[q]at h1;cases h1.2
  ·exact e
 ·split at h
  ·rename_i h1
   have q1:=w.lt1 (of_decide_eq_true h1) ha
   split at h
   ·rename_i h2
    have q2:=w.lt4 (x:=[46]) h2 (by omega)
    split at h
    ·rename_i h3
     have:=w.lt1 (of_decide_eq_true h3) (by omega)
     cases h
     exact this
    ·cases h
   ·cases h;exact q1
  ·cases h
theorem aMp(w:Wall l n){a:Nat}{x:Tx}{a':Nat}(h:tyF l a=.ok x a')(ha:a≤n):a'≤n:=by
 unfold tyF at h
 split at h
 ·cases h
 ·rename_i h1
  have q:=aSq w _ _ _ _ _ h1 ha
  split at h
  ·rename_i h2
   have:=aSh w h2 q
   cases h
   omega
  ·cases h
  ·cases h
structure WallF(n:Nat)(f:Fns):Prop where
 expr:∀lv a d x a',a≤n→f.expr lv a d=.ok x a'→a'≤n
 oper:∀a d x a',a≤n→f.oper a d=.ok x a'→a'≤n
 prim:∀a d x a',a≤n→f.prim a d=.ok x a'→a'≤n
 list:∀to a d r a',a<n→f.list to a d=.ok r a'→a'≤n
 bin:∀lv x a d y a',a≤n→f.bin lv x a d=.ok y a'→a'≤n
 post:∀x a d y a',a≤n→f.post x a d=.ok y a'→a'≤n
 elts:∀acc a d es a',a≤n→f.elts acc a d=.ok es a'→a'≤n
theorem uQ(w:Wall l n){a d:Nat}{x:List Nat}{e:Int}{a':Nat}(h:cH l a d x=.ok e a')(ha:a≤n):a'≤n:=by
 unfold cH at h
 split at h
 ·rename_i h1;cases h;exact w.lt4 h1 ha
 ·cases h
theorem aTf(w:Wall l n){f:Fns}(h:WallF n f):WallF n ⟨cX f,dH l f,dG l f,cR l f,gG l f,dI l f,cZ l f⟩:=by
 refine⟨fun lv a d x a' ha e=>?_,fun a d x a' ha e=>?_,fun a d x a' ha e=>?_,fun to a d r a' ha e=>?_,fun lv x a d y a' ha e=>?_,fun x a d y a' ha e=>?_,fun acc a d es a' ha e=>?_⟩
 ·have e:cX f lv a d=.ok x a':=e
  unfold cX at e
  split at e
  ·exact h.oper _ _ _ _ ha e
  ·obtain⟨y,a1,e1,e2⟩:=aS e
   exact h.bin _ _ _ _ _ _ (h.expr _ _ _ _ _ ha e1) e2
 ·have e:dH l f a d=.ok x a':=e
  unfold dH at e
  split at e
  ·rename_i h1
   obtain⟨y,a1,e1,e2⟩:=aS e
   cases e2
   exact h.oper _ _ _ _ (w.lt4 h1 ha) (bP e1)
  ·obtain⟨y,a1,e1,e2⟩:=aS e
   exact h.post _ _ _ _ _ (h.prim _ _ _ _ ha e1) e2
 ·have e:dG l f a d=.ok x a':=e
  unfold dG at e
  have lt:∀c,(aA l a).k=c→c=2∨c=3→a<n:=by
   intro c hc hcc
   rcases Nat.eq_or_lt_of_le ha with q|q
   ·subst q
    rcases hcc with rfl|rfl
    ·exact absurd hc w.k2
    ·exact absurd hc w.k3
   ·exact q
  split at e
  ·rename_i h1
   have:=lt 2 (of_decide_eq_true h1) (.inl rfl)
   obtain⟨y,a1,e1,e2⟩:=aS e
   cases e2
   exact this
  ·split at e
   ·rename_i h1
    have:=lt 3 (of_decide_eq_true h1) (.inr rfl)
    split at e
    ·cases e;exact this
    ·cases e
   ·split at e
    ·rename_i h1;cases e;exact w.lt5 h1 (by decide) ha
    ·split at e
     ·rename_i h1;cases e;exact w.lt5 h1 (by decide) ha
     ·split at e
      ·rename_i h1;cases e;exact w.lt1 (of_decide_eq_true h1) ha
      ·split at e
       ·rename_i h1
        have hlt:=w.lt4 h1 ha
        obtain⟨y,a1,e1,e2⟩:=aS e
        obtain⟨z,a2,e3,e4⟩:=aS e2
        cases e4
        exact uQ w e3 (h.expr _ _ _ _ _ hlt (bP e1))
       ·split at e
        ·rename_i h1
         have hlt:=w.lt5 h1 (by decide) ha
         obtain⟨ty,a1,r,e1,e2,e3,_⟩:=uC e
         exact h.list _ _ _ _ _ (w.lt4 e2 (aMp w e1 hlt)) e3
        ·cases e
 ·have e:cR l f to a d=.ok r a':=e
  unfold cR at e
  obtain⟨es,a1,e1,e2⟩:=aS e
  obtain⟨z,a2,e3,e4⟩:=aS e2
  cases e4
  refine uQ w e3 ?_
  have e1:=bP e1
  unfold eR at e1
  split at e1
  ·cases e1;exact ha
  ·exact h.elts _ _ _ _ _ ha e1
 ·have e:gG l f lv x a d=.ok y a':=e
  unfold gG at e
  split at e
  ·rename_i h1
   have hlt:a<n:=by
    rcases Nat.eq_or_lt_of_le ha with q|q
    ·subst q
     unfold oM at h1
     simp only[Bool.and_eq_true,decide_eq_true_eq]at h1
     exact absurd h1.1 w.k4
    ·exact q
   obtain⟨z,a1,e1,e2⟩:=aS e
   exact h.bin _ _ _ _ _ _ (h.expr _ _ _ _ _ hlt e1) e2
  ·cases e;exact ha
 ·have e:dI l f x a d=.ok y a':=e
  unfold dI at e
  split at e
  ·rename_i h1
   have hlt:=w.lt4 h1 ha
   split at e
   ·rename_i h2
    exact h.post _ _ _ _ _ (w.lt1 (of_decide_eq_true h2) hlt) e
   ·cases e
  ·split at e
   ·rename_i h1
    have hlt:=w.lt4 h1 ha
    obtain⟨z,a1,e1,e2⟩:=aS e
    exact h.post _ _ _ _ _ (h.list _ _ _ _ _ hlt e1) e2
   ·split at e
    ·rename_i h1
     have hlt:=w.lt4 h1 ha
     obtain⟨z,a1,e1,e2⟩:=aS e
     obtain⟨z2,a2,e3,e4⟩:=aS e2
     exact h.post _ _ _ _ _ (uQ w e3 (h.expr _ _ _ _ _ hlt (bP e1))) e4
    ·cases e;exact ha
 ·have e:cZ l f acc a d=.ok es a':=e
  unfold cZ at e
  obtain⟨z,a1,e1,e2⟩:=aS e
  have q:=h.expr _ _ _ _ _ ha e1
  split at e2
  ·rename_i h1
   exact h.elts _ _ _ _ _ (w.lt4 h1 q) e2
  ·cases e2;exact q
theorem aIs(w:Wall l n):∀m,WallF n (fns l m)
 |0=>⟨fun _ _ _ _ _ _ e=>(by cases e),fun _ _ _ _ _ e=>(by cases e),fun _ _ _ _ _ e=>(by cases e),fun _ _ _ _ _ _ e=>(by cases e),fun _ _ _ _ _ _ _ e=>(by cases e),fun _ _ _ _ _ _ e=>(by cases e),fun _ _ _ _ _ _ e=>(by cases e)⟩
 |m+1=>aTf w (aIs w m)
theorem bBa(w:Wall l n){a:Nat}{x:Ex}{a':Nat}(h:PL l a=.ok x a')(ha:a≤n):a'≤n:=by
 obtain⟨_,N,hN⟩:=iW l (aYx h)
 have e:=hN N (Nat.le_refl _)
 rw[h]at e
 exact(aIs w N).expr 1 a 0 x a' ha e
end
end Go.VM
end
section
/- Files: statements and a wall; a file and what stands behind it. -/
set_option maxRecDepth 100000
namespace Go.VM
open Go.RowKit
section
variable{l:List Tz}{n:Nat}{P:Nat→R Ex}
theorem jR(w:Wall l n){s:Sr}{k:Int}{x:List Nat}(h:isS l s k x=true)(hk:k=4∨(k=5∧x≠sType∧x≠vZ))(ha:s.a≤n):s.a<n:=by
 rcases hk with rfl|⟨rfl,hx⟩
 ·exact w.lt4 (aNa h).2 ha
 ·exact w.lt5 (aNa h).2 hx ha
theorem sF{s:Sr}{c:Int}(ha:s.a≤n):(eO l s c).a≤n:=by
 unfold eO
 split<;>exact ha
theorem lF(w:Wall l n){s:Sr}{x:List Nat}(ha:s.a≤n):(bN l s x).a≤n:=by
 unfold bN
 split
 ·rename_i h;exact jR w h (.inl rfl) ha
 ·exact sF ha
theorem lC(hp:∀a x a',P a=.ok x a'→a≤n→a'≤n){s:Sr}(ha:s.a≤n):(aT P s).2.a≤n:=by
 unfold aT
 split
 ·split
  ·rename_i h;exact hp _ _ _ h ha
  ·exact ha
  ·exact ha
 ·exact ha
theorem uP(w:Wall l n)(hp:∀a x a',P a=.ok x a'→a≤n→a'≤n){k:Nat}{p:Int}{nm:List Nat}{s:Sr}(ha:s.a≤n):(mI l P k p nm s).2.a≤n:=lF w (lC hp (lF w ha))
theorem aSu(w:Wall l n)(hp:∀a x a',P a=.ok x a'→a≤n→a'≤n):∀m,(∀d s v s',(cF l P m).block d s=some (v,s')→s.a≤n→s'.a≤n)∧(∀d acc s v s',(cF l P m).loop d acc s=some (v,s')→s.a≤n→s'.a≤n)∧(∀d s v s',(cF l P m).stmt d s=some (v,s')→s.a≤n→s'.a≤n):=by
 intro m
 induction m with
 |zero=>exact⟨fun _ _ _ _ e=>(by cases e),fun _ _ _ _ _ e=>(by cases e),fun _ _ _ _ e=>(by cases e)⟩
 |succ m ih=>
  obtain⟨ib,il,is⟩:=ih
  refine⟨fun d s v s' e ha=>?_,fun d acc s v s' e ha=>?_,fun d s v s' e ha=>?_⟩
  ·have e:cA l (cF l P m) d s=some (v,s'):=e
   unfold cA at e
   split at e
   ·cases e;exact sF ha
   ·exact il _ _ _ _ _ e (lF w ha)
  ·have e:dX l (cF l P m) d acc s=some (v,s'):=e
   unfold dX at e
   split at e
   ·cases e;exact ha
   ·split at e
    ·rename_i h;cases e;exact jR w h (.inl rfl) ha
    ·split at e
     ·rename_i x s1 hx
      exact il _ _ _ _ _ e (is _ _ _ _ hx ha)
     ·cases e
  ·have e:eP l P (cF l P m) d s=some (v,s'):=e
   unfold eP at e
   split at e
   ·rename_i h
    have h1:=jR w h (.inr ⟨rfl,by decide⟩) ha
    split at e
    ·rename_i hk
     have h2:=w.lt1 (of_decide_eq_true hk) h1
     have:=uP w hp (k:=1) (p:=(aA l s.a).a) (nm:=(aA l (s.a+1)).t) (s:=aK (aK s)) h2
     rw[Option.some.inj e]at this
     exact this
    ·have:=uP w hp (k:=1) (p:=(aA l s.a).a) (nm:=[]) (s:=eO l (aK s) 5) (sF (s:=aK s) h1)
     rw[Option.some.inj e]at this
     exact this
   ·split at e
    ·rename_i h
     have h1:=jR w h (.inr ⟨rfl,by decide⟩) ha
     split at e
     ·rename_i h2
      cases e
      exact jR w (s:=aK s) h2 (.inl rfl) h1
     ·cases e
      exact lF w (lC hp (s:=aK s) h1)
    ·split at e
     ·rename_i h
      have h1:=jR w h (.inr ⟨rfl,by decide⟩) ha
      have h2:=lC hp (s:=aK s) h1
      split at e
      ·cases e
      ·rename_i b s1 hb
       have h3:=ib _ _ _ _ hb h2
       split at e
       ·rename_i h4
        have h5:=jR w h4 (.inr ⟨rfl,by decide⟩) h3
        split at e
        ·cases e
        ·rename_i b2 s2 hb2
         cases e
         exact ib _ _ _ _ hb2 (show(aK s1).a≤n from h5)
       ·cases e;exact h3
     ·split at e
      ·rename_i h
       have h1:=jR w h (.inr ⟨rfl,by decide⟩) ha
       have h2:=lC hp (s:=aK s) h1
       split at e
       ·cases e
       ·rename_i b s1 hb
        cases e
        exact ib _ _ _ _ hb h2
      ·split at e
       ·rename_i h
        unfold rI at h
        rw[Bool.and_eq_true]at h
        have h1:=w.lt1 (of_decide_eq_true h.1) ha
        have:=uP w hp (k:=2) (p:=(aA l s.a).a) (nm:=(aA l s.a).t) (s:=aK s) h1
        rw[Option.some.inj e]at this
        exact this
       ·cases e
        exact lF w (lC hp ha)
theorem bBb(w:Wall l n){a:Nat}{v:List Sx}{a':Nat}(h:ST l a=.ok v a')(ha:a≤n):a'≤n:=by
 rcases kN l a with e|⟨_,r,⟨N,hm⟩,e⟩
 ·rw[e]at h;cases h
 ·rw[e]at h
  unfold oV at h
  split at h
  ·cases h
   exact(aSu w (fun _ _ _=>bBa w) N).1 0 ⟨a,0,0⟩ r.1 r.2 (hm N (Nat.le_refl _)) ha
  ·cases h
variable{S:Nat→R (List Sx)}
theorem qO(w:Wall l n){a:Nat}{t:Tz}{a1:Nat}(h:fName l a=.ok t a1)(ha:a≤n):a1≤n:=by
 have q:=cI h
 have:=w.lt1 q.2.2.2 ha
 omega
theorem hJ(w:Wall l n){k:Int}{x:List Nat}{a:Nat}{u:Unit}{a1:Nat}(hk:k=4∨(k=5∧x≠sType∧x≠vZ))(h:bM l k x a=.ok u a1)(ha:a≤n):a1≤n:=by
 have q:=aN (by rcases hk with rfl|⟨rfl,_⟩<;>decide) h
 rcases hk with rfl|⟨rfl,hx⟩
 ·have:=w.lt4 q.2.2 ha;omega
 ·have:=w.lt5 q.2.2 hx ha;omega
theorem zZ(w:Wall l n){a:Nat}{x:Tx}{a1:Nat}(h:cB l a=.ok x a1)(ha:a≤n):a1≤n:=by
 unfold cB at h
 split at h
 ·rename_i h1;cases h;exact aMp w h1 ha
 ·cases h
 ·cases h
theorem tK(w:Wall l n){a:Nat}{x:Pm}{a1:Nat}(h:cK l a=.ok x a1)(ha:a≤n):a1≤n:=by
 obtain⟨t,a2,h1,h⟩:=R.aB h
 obtain⟨y,a3,h2,h⟩:=R.aB h
 cases h
 exact zZ w h2 (qO w h1 ha)
theorem sG(w:Wall l n){α:Type}{rd:Nat→R α}(hr:∀a x a1,rd a=.ok x a1→a≤n→a1≤n){to:List Nat}{none:Bool}{m a:Nat}{xs:List α}{a':Nat}(h:bC l rd to none m a=.ok xs a')(ha:a≤n):a'≤n:=by
 have go:∀(m:Nat) (acc:List α) (a:Nat) (xs:List α) (a':Nat),fT l rd to m acc a=.ok xs a'→a≤n→a'≤n:=by
  intro m
  induction m with
  |zero=>intro acc a xs a' h;cases h
  |succ m ih=>
   intro acc a xs a' h ha
   unfold fT at h
   obtain⟨x,a1,h1,h⟩:=R.aB h
   have q:=hr _ _ _ h1 ha
   split at h
   ·rename_i h2
    exact ih _ _ _ _ h (w.lt4 h2 q)
   ·obtain⟨u,a2,h2,h⟩:=R.aB h
    have:=hJ w (.inl rfl) h2 q
    cases h
    exact this
 unfold bC at h
 split at h
 ·rename_i h1
  rw[Bool.and_eq_true]at h1
  cases h
  exact w.lt4 h1.2 ha
 ·exact go _ _ _ _ _ h ha
theorem aVv(w:Wall l n){to:List Nat}{a:Nat}{r:Bool×Tx}{a1:Nat}(h:oN l to a=.ok r a1)(ha:a≤n):a1≤n:=by
 unfold oN at h
 split at h
 ·cases h;exact ha
 ·obtain⟨x,a2,h2,h⟩:=R.aB h
  cases h
  exact zZ w h2 ha
theorem aQz(w:Wall l n){m a:Nat}{x:Mx}{a':Nat}(h:cW l m a=.ok x a')(ha:a≤n):a'≤n:=by
 obtain⟨t,a1,h1,h⟩:=R.aB h
 obtain⟨_,a2,h2,h⟩:=R.aB h
 obtain⟨ps,a3,h3,h⟩:=R.aB h
 obtain⟨r,a4,h4,h⟩:=R.aB h
 obtain⟨_,a5,h5,h⟩:=R.aB h
 cases h
 exact hJ w (.inl rfl) h5 (aVv w h4 (sG w (fun _ _ _=>zZ w) h3 (hJ w (.inl rfl) h2 (qO w h1 ha))))
theorem bFb(w:Wall l n){α:Type}{rd:Nat→R α}(hr:∀a x a1,rd a=.ok x a1→a≤n→a1≤n):∀(m:Nat) (acc:List α) (a:Nat) (xs:List α) (a':Nat),fTo l rd m acc a=.ok xs a'→a≤n→a'≤n:=by
 intro m
 induction m with
 |zero=>intro acc a xs a' h;cases h
 |succ m ih=>
  intro acc a xs a' h ha
  unfold fTo at h
  split at h
  ·rename_i h1;cases h;exact w.lt4 h1 ha
  ·obtain⟨x,a1,h1,h⟩:=R.aB h
   exact ih _ _ _ _ h (hr _ _ _ h1 ha)
theorem aWp(w:Wall l n){a:Nat}{x:Pm}{a1:Nat}(h:gP l a=.ok x a1)(ha:a≤n):a1≤n:=by
 obtain⟨p,b1,h1,h⟩:=R.aB h
 obtain⟨u,b2,h2,h⟩:=R.aB h
 cases h
 exact hJ w (.inl rfl) h2 (tK w h1 ha)
theorem bCe(w:Wall l n){m a:Nat}{x:Dx}{a':Nat}(h:cL l m a=.ok x a')(ha:a≤n):a'≤n:=by
 obtain⟨t,a1,h1,h⟩:=R.aB h
 have q1:=qO w h1 ha
 split at h
 ·rename_i hi
  obtain⟨_,a2,h2,h⟩:=R.aB h
  obtain⟨ms,a3,h3,h⟩:=R.aB h
  cases h
  exact bFb w (fun _ _ _=>aQz w) _ _ _ _ _ h3 (hJ w (.inl rfl) h2 (w.lt5 hi (by decide) q1))
 ·obtain⟨_,a2,h2,h⟩:=R.aB h
  obtain⟨_,a3,h3,h⟩:=R.aB h
  obtain⟨fs,a4,h4,h⟩:=R.aB h
  cases h
  exact bFb w (fun _ _ _=>aWp w) _ _ _ _ _ h4 (hJ w (.inl rfl) h3 (hJ w (.inr ⟨rfl,by decide⟩) h2 q1))
theorem bDt(w:Wall l n)(hs:∀a v a',S a=.ok v a'→a≤n→a'≤n){m a:Nat}{x:Dx}{a':Nat}(h:gN l S m a=.ok x a')(ha:a≤n):a'≤n:=by
 have j3:∀{p nm mt rv bs b d a'},fJ3 l S m p nm mt rv bs b=.ok d a'→b≤n→a'≤n:=by
  intro p nm mt rv bs b d a' h hb
  obtain⟨_,a1,h1,h⟩:=R.aB h
  obtain⟨fs,a2,h2,h⟩:=R.aB h
  obtain⟨r,a3,h3,h⟩:=R.aB h
  have q:=aVv w h3 (sG w (fun _ _ _=>tK w) h2 (hJ w (.inl rfl) h1 hb))
  unfold lR at h
  split at h
  ·rename_i h4;cases h;exact hs _ _ _ h4 q
  ·cases h
  ·cases h
 have j4:∀{mt rv b d a'},fJ4 l S m mt rv b=.ok d a'→b≤n→a'≤n:=by
  intro mt rv b d a' h hb
  obtain⟨t,a1,h1,h⟩:=R.aB h
  have q1:=qO w h1 hb
  split at h
  ·rename_i hi
   obtain⟨bs,a2,h2,h⟩:=R.aB h
   exact j3 h (sG w (fun _ _ _=>tK w) h2 (w.lt4 hi q1))
  ·exact j3 h q1
 unfold gN at h
 split at h
 ·rename_i hi
  obtain⟨p,a1,h1,h⟩:=R.aB h
  obtain⟨_,a2,h2,h⟩:=R.aB h
  exact j4 h (hJ w (.inl rfl) h2 (tK w h1 (w.lt4 hi ha)))
 ·exact j4 h ha
theorem bDm(w:Wall l n)(hs:∀a v a',S a=.ok v a'→a≤n→a'≤n){m a:Nat}{x:Dx}{a':Nat}(h:fB l S m a=.ok x a')(ha:a<n):a'≤n:=by
 unfold fB at h
 split at h
 ·exact bCe w h ha
 ·split at h
  ·exact bDt w hs h ha
  ·cases h
theorem bBc(w:Wall l n):∀(m:Nat) (acc:List Im) (a:Nat) (xs:List Im) (a':Nat),eC l m acc a=.ok xs a'→a≤n→a'≤n∧isF l a' 5 qP=false:=by
 intro m
 induction m with
 |zero=>intro acc a xs a' h;cases h
 |succ m ih=>
  intro acc a xs a' h ha
  unfold eC at h
  split at h
  ·rename_i hi;cases h;exact⟨ha,hi⟩
  ·rename_i hi
   obtain⟨t,a1,h1,h⟩:=R.aB h
   obtain⟨_,a2,h2,h⟩:=R.aB h
   exact ih _ _ _ _ h (hJ w (.inl rfl) h2 (qO w h1 (w.lt5 hi (by decide) ha)))
end
theorem aWw{l l':List Tz}(hl:l.length<19999)(hT:∀t∈l,t.t.length<big){n k:Nat}{b:Int}(hn:n≤l.length)(tok:∀i,i<n→aA l' (i+k)=shZ b (aA l i))(els:isF l' (n+k) 5 wA=false)(hlen:n+k≤l'.length){a:Nat}{v:List Sx}{a':Nat}(h:ST l a=.ok v a')(ha:a'≤n):ST l' (a+k)=.ok (iV b v) (a'+k):=by
 have hP:=aBm l hl hT
 rcases kN l a with e|⟨hal,r,⟨N,hm⟩,e⟩
 ·rw[e]at h;cases h
 ·rw[e]at h
  unfold oV at h
  cases hf:bW r.2 with
  |false=>rw[hf]at h;cases h
  |true=>
   rw[hf]at h
   cases h
   have t:TokS 0 n k b l l' (PL l) (PL l'):=by
    refine⟨fun i _ hi=>tok i hi,els,fun a x a2 _ e1 ha2 hst=>?_⟩
    have hlt:=(hP.ok a x a2 (aYx e1) e1).1
    refine bGs (fun i _ hi=>tok i (by omega)) ?_ (Nat.zero_le _) e1 (by omega)
    rw[tok a2 ha2]
    exact hst
   have hlt:=(gW hP N).block 0 ⟨a,0,0⟩ r.1 r.2 hal (hm N (Nat.le_refl _))
   have hlt:=hlt.lt (eT.1 hf)
   have hlt:a<r.2.a:=hlt
   have ev:EvR (fun m=>(cF l' (PL l') m).block 0 ⟨a+k,0,0⟩) (iV b r.1,shS k r.2):=by
    refine⟨N,fun m hmN=>?_⟩
    exact(aHf t hP hn m).block 0 ⟨a,0,0⟩ (Nat.zero_le _) hal r.1 r.2 (hm m hmN) (eT.1 hf) ha
   rw[aGz (by omega) ev]
   unfold oV
   rw[show bW (shS k r.2)=bW r.2 from rfl,hf]
   rfl
end Go.VM
end
section
/- Files: one declaration more. -/
set_option maxRecDepth 100000
namespace Go.VM
open Go.RowKit
theorem bEs(t:Tz):shZ 0 t=t:=by simp[shZ]
theorem bEb(p:Pm):shP 0 p=p:=by simp[shP,aIz]
theorem bDy(h:Bool)(x:Tx):shI 0 h x=x:=by cases h<;>simp[shI,aIz]
theorem pV{α:Type}{f:α→α}(h:∀x,f x=x)(l:List α):l.map f=l:=by
 induction l with
 |nil=>rfl
 |cons x l ih=>rw[List.map_cons,h,ih]
theorem bJs(m:Mx):shM 0 m=m:=by simp only[shM,Int.add_zero,pV aIz,bDy]
theorem bIy(h:Bool)(p:Pm):shV 0 h p=p:=by cases h<;>simp[shV,bEb]
theorem bMi(d:Dx):shD 0 d=d:=by simp only[shD,Int.add_zero,pV bEb,pV bJs,bDy,bIy,wP]
def bCl(b:Int)(i:Im):Im:=⟨i.n,i.a+b⟩
theorem aYy(i:Im):bCl 0 i=i:=by simp[bCl]
section
variable{n k:Nat}{b:Int}{l l':List Tz}{S S':Nat→R (List Sx)}
theorem SimZ.bNh(h:SimZ n k b l l' S S'):∀(m:Nat) (acc:List Im) (a:Nat) (is:List Im) (a':Nat),a≤l.length→eC l m acc a=.ok is a'→a'≤n→isF l' (a'+k) 5 qP=false→eC l' m (acc.map (bCl b)) (a+k)=.ok (is.map (bCl b)) (a'+k):=by
 intro m
 induction m with
 |zero=>intro acc a is a' _ e;cases e
 |succ m ih=>
  intro acc a is a' hl e ha hs
  unfold eC at e⊢
  cases hi:isF l a 5 qP with
  |false=>
   rw[hi]at e
   cases e
   rw[hs]
  |true=>
   rw[hi]at e
   obtain⟨t,a1,h1,e⟩:=R.aB e
   obtain⟨_,a2,h2,e⟩:=R.aB e
   have q1:=cI h1
   have q2:=aN (by decide) h2
   have q3:=sX q2.2.1 e
   rw[h.is (by omega),hi]
   simp only
   rw[show a+k+1=a+1+k by omega,h.name h1 (by omega)]
   simp only[R.bind]
   rw[h.dK (by decide) h2 (by omega)]
   have:=ih _ _ _ _ q2.2.1 e ha hs
   rw[List.map_append,List.map_singleton]at this
   exact this
end
structure MoreT(l l' M0:List Tz)(n n0 m0:Nat)(N:Int)(D0:Dx):Prop where
 hl:l.length<19999
 hT:∀t∈l,t.t.length<big
 hl':l'.length<19999
 hT':∀t∈l',t.t.length<big
 h0:M0.length<19999
 hT0:∀t∈M0,t.t.length<big
 len:l.length=n+1
 len':l'.length=n+n0+1
 len0:M0.length=n0+1
 tok:∀i,i<n→aA l' i=aA l i
 bFw:∀i,i<n0→aA l' (i+n)=shZ N (aA M0 i)
 stop:(aA l n).k=0
 stop':(aA l' (n+n0)).k=0
 nz:∀i,i<n→(aA l i).k≠0
 wall:(aA l' n).k=5∧((aA l' n).t=sType∨(aA l' n).t=vZ)
 decl:fB M0 (ST M0) m0 0=.ok D0 n0
section
variable{l l' M0:List Tz}{n n0 m0:Nat}{N:Int}{D0:Dx}
theorem MoreT.w(h:MoreT l l' M0 n n0 m0 N D0):Wall l n:=by
 have:=h.stop
 exact⟨by omega,by omega,by omega,by omega,fun e=>by omega⟩
theorem aOd{l:List Tz}{a:Nat}{k:Int}{x:List Nat}(h:(aA l a).k≠k∨(aA l a).t≠x):isF l a k x=false:=by
 unfold isF
 rcases h with h|h
 ·rw[decide_eq_false h,Bool.false_and]
 ·rw[decide_eq_false h,Bool.and_false]
theorem MoreT.not'(h:MoreT l l' M0 n n0 m0 N D0){x:List Nat}(hx:x≠sType∧x≠vZ):isF l' n 5 x=false:=by
 refine aOd (.inr fun e=>?_)
 rcases h.wall.2 with q|q
 ·exact hx.1 (e.symm.trans q)
 ·exact hx.2 (e.symm.trans q)
theorem MoreT.sim(h:MoreT l l' M0 n n0 m0 N D0):SimZ n 0 0 l l' (ST l) (ST l'):=by
 have tk:∀i,i<n→aA l' (i+0)=shZ 0 (aA l i):=fun i hi=>by rw[bEs];exact h.tok i hi
 refine⟨⟨fun i _ hi=>tk i hi,?_⟩,fun a v a' e ha=>?_⟩
 ·unfold mD
  rw[show(aA l' (n+0)).k=5 from h.wall.1]
  rfl
 ·have:=h.len;have:=h.len'
  exact aWw h.hl h.hT (by omega) tk (h.not' (by decide)) (by omega) e ha
theorem MoreT.bNi(h:MoreT l l' M0 n n0 m0 N D0):SimZ n0 n N M0 l' (ST M0) (ST l'):=by
 refine⟨⟨fun i _ hi=>h.bFw i hi,?_⟩,fun a v a' e ha=>?_⟩
 ·unfold mD
  rw[show(aA l' (n0+n)).k=0 from by rw[Nat.add_comm];exact h.stop']
  rfl
 ·have:=h.len0;have:=h.len'
  exact aWw h.h0 h.hT0 (by omega) h.bFw (aOd (.inl (by rw[show(aA l' (n0+n)).k=0 from by rw[Nat.add_comm];exact h.stop'];decide))) (by omega) e ha
theorem MoreT.last(h:MoreT l l' M0 n n0 m0 N D0){m:Nat}(hm:m0≤m):fB l' (ST l') m n=.ok (shD N D0) (n+n0):=by
 have e:=aOz (l:=M0) (S:=ST M0) (a:=0) hm (by rw[h.decl];rfl)
 rw[h.decl]at e
 have:=h.bNi.decl (aJa h.h0 h.hT0) e (Nat.le_refl _)
 rw[Nat.zero_add,Nat.add_comm n0 n]at this
 exact this
theorem MoreT.decls(h:MoreT l l' M0 n n0 m0 N D0){M:Nat}(hM:m0≤M):∀(m:Nat) (acc:List Dx) (a:Nat) (ds:List Dx) (a':Nat),a≤n→cN l (ST l) M m acc a=.ok ds a'→cN l' (ST l') M (m+1) acc a=.ok (ds++[shD N D0]) (n+n0):=by
 intro m
 induction m with
 |zero=>intro acc a ds a' _ e;cases e
 |succ m ih=>
  intro acc a ds a' ha e
  unfold cN at e
  show cN l' (ST l') M (m+1+1) acc a=_
  rw[cN]
  rcases Nat.eq_or_lt_of_le ha with q|q
  ·subst q
   rw[decide_eq_true h.stop]at e
   cases e
   rw[show decide ((aA l' a).k=0)=false from decide_eq_false (by rw[h.wall.1];decide)]
   simp only
   rw[h.last hM]
   simp only[R.bind]
   rw[cN,decide_eq_true h.stop']
  ·rw[decide_eq_false (h.nz a q)]at e
   obtain⟨d,a1,h1,e⟩:=R.aB e
   have h2:=bDm h.w (fun _ _ _=>bBb h.w) h1 q
   rw[h.tok a q,decide_eq_false (h.nz a q)]
   simp only
   have:=h.sim.decl (aJa h.hl h.hT) h1 h2
   rw[bMi]at this
   rw[show fB l' (ST l') M a=.ok d a1 from this]
   exact ih _ _ _ _ h2 e
theorem MoreT.ok(h:MoreT l l' M0 n n0 m0 N D0){f:FileX}{a:Nat}(e:FL l=.ok f a):FL l'=.ok ⟨f.n,f.a,f.is,f.ds++[shD N D0]⟩ (n+n0):=by
 obtain⟨M,hM⟩:∃M,M=l.length+l'.length+m0+1:=⟨_,rfl⟩
 rw[aOk h.hl h.hT (m:=M) (by omega)]at e
 rw[aOk h.hl' h.hT' (m:=M+1) (by omega)]
 obtain⟨_,a1,h1,e⟩:=R.aB e
 obtain⟨t,a2,h2,e⟩:=R.aB e
 obtain⟨_,a3,h3,e⟩:=R.aB e
 obtain⟨is,a4,h4,e⟩:=R.aB e
 obtain⟨ds,a5,h5,e⟩:=R.aB e
 cases e
 have w1:=hJ h.w (.inr ⟨rfl,by decide⟩) h1 (Nat.zero_le _)
 have w2:=qO h.w h2 w1
 have w3:=hJ h.w (.inl rfl) h3 w2
 have w4:=bBc h.w _ _ _ _ _ h4 w3
 have hn:isF l' (a4+0) 5 qP=false:=by
  rcases Nat.eq_or_lt_of_le w4.1 with q|q
  ·rw[q];exact h.not' (by decide)
  ·rw[h.sim.is q];exact w4.2
 have q3:=aN (by decide) h3
 have i1:=h.sim.bNh _ _ _ _ _ q3.2.1 h4 w4.1 hn
 rw[pV aYy,pV aYy]at i1
 have i1:eC l' M [] a3=.ok is a4:=i1
 have i2:=aFg (l:=l') M (M+1) [] a3 (by omega) (by rw[i1];rfl)
 rw[i1]at i2
 have d1:=h.decls (M:=M) (by omega) _ _ _ _ _ w4.1 h5
 have d2:=zW (l:=l') (S:=ST l') (M:=M) (M':=M+1) (by omega) (M+1) (M+1) [] a4 (by omega) (by rw[d1];rfl)
 rw[d1]at d2
 unfold iT
 rw[show bM l' 5 yI 0=.ok () a1 from h.sim.dK (by decide) h1 w1]
 simp only[R.bind]
 have n1:=h.sim.name h2 w2
 rw[bEs]at n1
 rw[show fName l' a1=.ok t a2 from n1]
 simp only
 rw[show bM l' 4 [59] a2=.ok () a3 from h.sim.dK (by decide) h3 w3]
 simp only
 rw[i2]
 simp only
 rw[d2]
end
end Go.VM
end
