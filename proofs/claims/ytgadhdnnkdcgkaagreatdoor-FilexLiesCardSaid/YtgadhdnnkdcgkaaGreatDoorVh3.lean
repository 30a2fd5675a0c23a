/- laid for this seat: VzT VzU VzV VzW VzI VzX VfL -/
import Derived.Test.YtgadhdnnkdcgkaaGreatDoorVg9
import Derived.Test.YtgadhdnnkdcgkaaGreatDoorVg7
import Derived.Test.YtgadhdnnkdcgkaaGreatDoorVh2
set_option linter.unusedVariables false
set_option linter.unusedSimpArgs false
section
/- Statements: the same tokens elsewhere give the same statements, moved. -/
set_option maxRecDepth 100000
namespace Go.VM
open Go.RowKit
mutual
def bAb(b:Int):Sx→Sx
 |.mk k a nm has x body els=>.mk k (a+b) nm has (match Nat.beq k 3&&!has with|true=>x|false=>shX b x) (aKx b body) (aKx b els)
def aKx(b:Int):List Sx→List Sx
 |[]=>[]
 |x::l=>bAb b x::aKx b l
end
def shS(k:Nat)(s:Sr):Sr:=⟨s.a+k,s.p,s.c⟩
structure TokS(lo n k:Nat)(b:Int)(l l':List Tz)(P P':Nat→R Ex):Prop where
 tok:∀i,lo≤i→i<n→aB l' (i+k)=shZ b (aB l i)
 els:isF l' (n+k) 5 aEe=false
 expr:∀a x a',lo≤a→P a=.ok x a'→a'<n→xE (aB l a')=true→P' (a+k)=.ok (shX b x) (a'+k)
section
variable{lo n k:Nat}{b:Int}{l l':List Tz}{P P':Nat→R Ex}
theorem TokS.is(t:TokS lo n k b l l' P P'){s:Sr}(h0:lo≤s.a)(h:s.a<n)(kk:Int)(x:List Nat):isS l' (shS k s) kk x=isS l s kk x:=by
 unfold isS isF
 show(cD s&&(decide ((aB l' (s.a+k)).k=kk)&&decide ((aB l' (s.a+k)).t=x)))=_
 rw[t.tok _ h0 h]
 rfl
theorem aUf(s:Sr):aX (shS k s)=shS k (aX s):=by
 unfold aX shS
 simp only
 rw[show s.a+k+1=s.a+1+k by omega]
theorem yO{s:Sr}{x:List Nat}(h:(bR l s x).c=0):isS l s 4 x=true∧bR l s x=aX s∧isF l s.a 4 x=true:=by
 unfold bR at h⊢
 cases hi:isS l s 4 x with
 |true=>exact⟨rfl,rfl,(aQi hi).2⟩
 |false=>
  rw[hi]at h
  exfalso
  unfold gF at h
  cases hf:cD s with
  |true=>
   rw[hf]at h
   have h:(5:Int)=0:=h
   exact absurd h (by decide)
  |false=>
   rw[hf]at h
   exact(of_decide_eq_false hf) h
theorem aLm{s:Sr}{c:Int}(hc:c≠0)(h:(gF l s c).c=0):False:=by
 unfold gF at h
 cases hf:cD s with
 |true=>rw[hf]at h;exact hc h
 |false=>rw[hf]at h;exact(of_decide_eq_false hf) h
theorem TokS.kD(t:TokS lo n k b l l' P P'){s:Sr}(h0:lo≤s.a){x:List Nat}(h:(bR l s x).c=0)(hn:(bR l s x).a≤n):bR l' (shS k s) x=shS k (bR l s x):=by
 obtain⟨h1,h2,h3⟩:=yO h
 rw[h2]at hn⊢
 have hn:s.a+1≤n:=hn
 unfold bR
 rw[t.is h0 (by omega),h1]
 exact aUf s
theorem aOf(hP:ParseOk l P){s:Sr}(hs:s.a≤l.length)(h:(bC P s).2.c=0):s.c=0∧∃x a',P s.a=.ok x a'∧bC P s=(x,⟨a',0,0⟩):=by
 unfold bC at h⊢
 cases hf:cD s with
 |false=>rw[hf]at h;exact absurd h (of_decide_eq_false hf)
 |true=>
  rw[hf]at h
  refine⟨fS.1 hf,?_⟩
  cases hr:P s.a with
  |ok x a'=>exact⟨x,a',rfl,rfl⟩
  |er a d p c=>rw[hr]at h;exact absurd h (hP.er _ _ _ _ _ hr)
  |out=>have:=hP.known _ hs;rw[hr]at this;cases this
theorem TokS.exp(t:TokS lo n k b l l' P P')(hP:ParseOk l P){s:Sr}(h0:lo≤s.a)(hs:s.a≤l.length)(h:(bC P s).2.c=0)(hn:(bC P s).2.a<n)(hst:xE (aB l (bC P s).2.a)=true):bC P' (shS k s)=(shX b (bC P s).1,shS k (bC P s).2):=by
 obtain⟨h1,x,a',h2,h3⟩:=aOf hP hs h
 rw[h3]at hn hst⊢
 have e:=t.expr _ _ _ h0 h2 hn hst
 unfold bC
 rw[show cD (shS k s)=true from decide_eq_true h1]
 show(match P' (s.a+k)with|.ok x n=>(x,(⟨n,0,0⟩:Sr))|.er _ _ p c=>(zX,⟨s.a+k,p,c⟩)|.out=>(zX,shS k s))=_
 rw[e]
 rfl
theorem aVs{a:Nat}{x:List Nat}(h:isF l a 4 x=true)(hx:x=[59]∨x=[123]):xE (aB l a)=true:=by
 unfold isF at h
 simp only[Bool.and_eq_true,decide_eq_true_eq]at h
 unfold xE
 rw[h.1,h.2]
 rcases hx with rfl|rfl<;>rfl
theorem TokS.val(t:TokS lo n k b l l' P P')(hP:ParseOk l P){s:Sr}(h0:lo≤s.a)(hs:s.a≤l.length){kk:Nat}(hk:Nat.beq kk 3=false){p:Int}{nm:List Nat}(h:(nD l P kk p nm s).2.c=0)(hn:(nD l P kk p nm s).2.a≤n):
  nD l' P' kk (p+b) nm (shS k s)=(bAb b (nD l P kk p nm s).1,shS k (nD l P kk p nm s).2):=by
 have m1:=eN hs (x:=[61])
 have m2:=cY hP m1.len
 have m3:=eN m2.len (x:=[59])
 unfold nD at h hn⊢
 have h:(bR l (bC P (bR l s [61])).2 [59]).c=0:=h
 have hn:(bR l (bC P (bR l s [61])).2 [59]).a≤n:=hn
 have c2:=m3.fine h
 have c1:=m2.fine c2
 obtain⟨q1,q2,q3⟩:=yO h
 have a1:(bR l s [61]).a≤n:=by have:=m2.le;have:=m3.le;omega
 have a2:(bC P (bR l s [61])).2.a<n:=by have:=m3.lt h;omega
 rw[t.kD h0 c1 a1,t.exp hP (by have:=m1.le;omega) m1.len c2 a2 (aVs q3 (.inl rfl)),t.kD (by have:=m1.le;have:=m2.le;omega) h hn]
 simp only[bAb,aKx,hk,Bool.false_and]
end
end Go.VM
end
section
/- Statements: how much there is of what was read. -/
set_option maxRecDepth 100000
namespace Go.VM
open Go.RowKit
section
variable{l:List Tz}{P:Nat→R Ex}
end
end Go.VM
end
section
/- Statements: the document's comparing, of what is the same. -/
set_option maxRecDepth 100000
namespace Go.VM
open Go.RowKit
end Go.VM
end
section
/- Statements: the document's comparing, of expressions and statements that are the same. -/
set_option maxRecDepth 100000
namespace Go.VM
open Go.RowKit
end Go.VM
end
section
/- Statements: the calls at the head of the laws. -/
set_option maxRecDepth 100000
namespace Go.VM
open Go.RowKit
def aRi(l:List Tz)(F:Nat):Bool:=(List.range (l.length+1)).all fun a=>!((fns l F).expr 1 a 0).aU
theorem aRj{l:List Tz}{F:Nat}(h:aRi l F=true):∀a,a≤l.length→((fns l F).expr 1 a 0).aU=false:=by
 intro a ha
 have:=List.all_eq_true.1 h a (List.mem_range.2 (by omega))
 simpa using this
end Go.VM
end
section
/- Statements: what stands behind a block. -/
set_option maxRecDepth 100000
namespace Go.VM
open Go.RowKit
noncomputable def PL(l:List Tz)(a:Nat):R Ex:=open Classical in if h:a≤l.length then Classical.choose (Classical.choose_spec (yH l a 1 0 h))else .out
theorem rL(l:List Tz){a:Nat}(h:a≤l.length):(PL l a).aU=false∧∃N,∀n,N≤n→(fns l n).expr 1 a 0=PL l a:=by
 have h2:=Classical.choose_spec (Classical.choose_spec (yH l a 1 0 h))
 unfold PL
 rw[dif_pos h]
 exact⟨h2.1,_,h2.2⟩
theorem aYp(l:List Tz)(hl:l.length<19999)(hT:∀t∈l,t.t.length<big):ParseOk l (PL l):=by
 refine⟨fun a ha h=>?_,fun a ha=>(rL l ha).1,fun a x n ha e=>?_,fun a a1 d p c e=>?_⟩
 ·obtain⟨h1,N,h2⟩:=rL l ha
  have h2:=h2 N (Nat.le_refl _)
  have:=SCall.dZ rfl (xI l hl hT a N ha (by rw[h2];exact h1)) (by exact⟨pX l,trivial,trivial⟩) (by exact aIi _) h
  rw[h2]at this
  exact this
 ·obtain⟨h1,N,h2⟩:=rL l ha
  have h2:=h2 N (Nat.le_refl _)
  rw[e]at h2
  exact⟨(wZ l N).expr 1 a 0 x n h2,((cM l N).expr 1 a 0 x n h2).2 ha⟩
 ·by_cases ha:a≤l.length
  ·obtain⟨h1,N,h2⟩:=rL l ha
   have h2:=h2 N (Nat.le_refl _)
   rw[e]at h2
   exact(vP N).expr 1 a 0 a1 d p c h2
  ·unfold PL at e
   rw[dif_neg ha]at e
   cases e
section
variable{lo n k:Nat}{b:Int}{l l':List Tz}{P P':Nat→R Ex}
end
end Go.VM
end
section
/- Files: what a text is. -/
set_option maxRecDepth 100000
namespace Go.VM
open Go.RowKit
def xW(r:List Sx×Sr):R (List Sx):=match cD r.2 with
 |true=>.ok r.1 r.2.a
 |false=>.er 0 0 r.2.p r.2.c
theorem bDw(r:List Sx×Sr):stV r=stR (xW r):=by
 unfold stV xW
 cases cD r.2<;>rfl
theorem aTo{l:List Tz}{P:Nat→R Ex}(hP:ParseOk l P)(hl:l.length<20000){St:Nat→R (List Sx)}(h:∀a,a≤l.length→∃n r,(cZ l P n).block 0 ⟨a,0,0⟩=some r∧St a=xW r)(h2:∀a,¬a≤l.length→St a=.out):StmOk l St:=by
 refine⟨fun a ha m=>?_,fun a ha=>?_,fun a x n ha e=>?_,fun a a1 d p c e=>?_⟩
 ·obtain⟨n,r,h1,h2⟩:=h a ha
  rw[h2,←bDw]
  exact SCall.dZ rfl (aDv hP hl n a ha h1) (by exact⟨pX l,trivial,trivial⟩) (by exact aRc _) m
 ·obtain⟨n,r,h1,h2⟩:=h a ha
  rw[h2]
  unfold xW
  cases cD r.2<;>rfl
 ·obtain⟨m,r,h1,h2⟩:=h a ha
  rw[h2]at e
  unfold xW at e
  have:=(lI hP m).block 0 ⟨a,0,0⟩ r.1 r.2 ha h1
  cases hf:cD r.2 with
  |false=>rw[hf]at e;cases e
  |true=>
   rw[hf]at e
   cases e
   exact⟨this.lt (fS.1 hf),this.len⟩
 ·by_cases ha:a≤l.length
  ·obtain⟨m,r,h1,h2⟩:=h a ha
   rw[h2]at e
   unfold xW at e
   cases hf:cD r.2 with
   |true=>rw[hf]at e;cases e
   |false=>
    rw[hf]at e
    cases e
    exact fun hc=>by rw[fS.2 hc]at hf;cases hf
  ·rw[h2 a ha]at e;cases e
theorem tB{l:List Tz}{St:Nat→R (List Sx)}(hS:StmOk l St)(hl:l.length<20000)(m:Nat)(ho:(jZ l St m).aU=false)(h:H):SCall Go.Proofs.Tryz.prog [0] 14 [lsV l] none h (.ret (flV (jZ l St m))) none h:=
 SCall.more (SCall.dZ rfl (aDa hS hl m ho) (by exact⟨pX l,trivial⟩) (by exact aPu _) h)
def txV(w c:Nat)(F:R FileX):V:=match c with
 |0=>flV F
 |_+1=>.tup [pB qF,.agg (dgX w c)]
theorem mG(s:List Nat)(h8:∀c∈s,c<256)(hl:s.length<big)(F:R FileX)(ho:(bA s).2.2=0→F.aU=false)(hF:(bA s).2.2=0→∀h,SCall Go.Proofs.Tryz.prog [0] 14 [lsV ((bA s).1.map toZ)] none h (.ret (flV F)) none h):
  SCall Go.Proofs.Tryz.prog [0] 8 [.str s] none ⟨1000,og tOl,[]⟩ (.ret (txV (bA s).2.1 (bA s).2.2 F)) none ⟨1000,og tOl,[]⟩:=by
 have al:=bBz s h8 hl
 unfold aGf at al
 rw[aSr]at al
 have al:SCall Go.Proofs.Tryz.prog [0] 12 [.str s] none ⟨1000,og tOl,[]⟩ (.ret (.tup [lsV ((match(bA s).2.2 with|0=>(bA s).1|_+1=>[]).map toZ),.agg (dg (bA s).2.1 (bA s).2.2)])) none ⟨1000,og tOl,[]⟩:=al
 generalize(bA s).2.2=c at al hF ho⊢
 generalize(bA s).2.1=w at al⊢
 generalize(bA s).1=T at al hF⊢
 cases c with
 |succ c=>
  show SCall Go.Proofs.Tryz.prog [0] 8 [.str s] none ⟨1000,og tOl,[]⟩ (.ret (.tup [pB qF,.agg (dgX w ((c+1:Nat):Int))])) none ⟨1000,og tOl,[]⟩
  refine SCall.listed (fn:=Go.Proofs.Tryz.f8) (by kernel_rfl) bAv (by kernel_rfl) (by kernel_rfl) (Nat.le_refl _) rfl ((by exact⟨iE,trivial⟩)) (by exact⟨mK _,⟨trivial,trivial,trivial⟩,trivial⟩) ?_
  unfold rc8
  repeat apply sQ
  refine WR.q rfl ?_
  repeat apply sQ
  refine WR.m 2 rfl ?_
  refine WQ.c rfl (SCall.eC al _) .base rfl ?_
  refine WQ.q rfl ?_
  repeat apply sQ
  refine WR.m 3 rfl ?_
  rw[show decide (((c+1:Nat):Int)=0)=false from decide_eq_false (by omega)]
  refine WQ.q rfl ?_
  repeat apply sQ
  refine WR.aC rfl ?_
  repeat apply sQ
  refine WR.aL aT (DW.m 1000 rfl ?_)
  refine DW.stS pQ rfl rfl rfl rfl (DW.m 1000 rfl ?_)
  refine DW.stS pQ rfl rfl rfl rfl (DW.m 1000 rfl (DW.bO pQ ?_))
  exact WR.ret ⟨rfl,rfl,⟨_,rfl,by repeat(first|exact VLe.refl _|exact VLe.unk _ _|exact jJ _ _|refine VLe.tup ?_|refine VLe.agg ?_|exact VLL.nil|refine VLL.cons ?_ ?_)⟩,fun _ _=>rfl⟩
 |zero=>
  have hF:=hF rfl
  have ho:=ho rfl
  show SCall Go.Proofs.Tryz.prog [0] 8 [.str s] none ⟨1000,og tOl,[]⟩ (.ret (flV F)) none ⟨1000,og tOl,[]⟩
  cases F with
  |out=>cases ho
  |er a d p c=>
   have hF:∀h,SCall Go.Proofs.Tryz.prog [0] 14 [lsV (T.map toZ)] none h (.ret (.tup [pB qF,.agg (dgX p c)])) none h:=hF
   show SCall Go.Proofs.Tryz.prog [0] 8 [.str s] none ⟨1000,og tOl,[]⟩ (.ret (.tup [pB qF,.agg (dgX p c)])) none ⟨1000,og tOl,[]⟩
   refine SCall.listed (fn:=Go.Proofs.Tryz.f8) (by kernel_rfl) bAv (by kernel_rfl) (by kernel_rfl) (Nat.le_refl _) rfl ((by exact⟨iE,trivial⟩)) (by exact⟨mK _,⟨trivial,trivial,trivial⟩,trivial⟩) ?_
   unfold rc8
   repeat apply sQ
   refine WR.q rfl ?_
   repeat apply sQ
   refine WR.m 2 rfl ?_
   refine WQ.c rfl (SCall.eC al _) .base rfl ?_
   refine WQ.q rfl ?_
   repeat apply sQ
   refine WR.q rfl ?_
   repeat apply sQ
   refine WR.k rfl ?_
   repeat apply sQ
   refine WR.m 2 rfl ?_
   refine WQ.c rfl (hF _) .base rfl ?_
   refine WQ.q rfl ?_
   exact WR.ret ⟨rfl,rfl,⟨_,rfl,by repeat(first|exact VLe.refl _|exact VLe.unk _ _|exact jJ _ _|refine VLe.tup ?_|refine VLe.agg ?_|exact VLL.nil|refine VLL.cons ?_ ?_)⟩,fun _ _=>rfl⟩
  |ok f a=>
   obtain⟨fn,fa,fi,fd⟩:=f
   have hF:∀h,SCall Go.Proofs.Tryz.prog [0] 14 [lsV (T.map toZ)] none h (.ret (.tup [pB ⟨fn,fa,fi,fd⟩,.agg (dgX 0 0)])) none h:=hF
   show SCall Go.Proofs.Tryz.prog [0] 8 [.str s] none ⟨1000,og tOl,[]⟩ (.ret (.tup [pB ⟨fn,fa,fi,fd⟩,.agg (dgX 0 0)])) none ⟨1000,og tOl,[]⟩
   refine SCall.listed (fn:=Go.Proofs.Tryz.f8) (by kernel_rfl) bAv (by kernel_rfl) (by kernel_rfl) (Nat.le_refl _) rfl ((by exact⟨iE,trivial⟩)) (by exact⟨mK _,⟨trivial,trivial,trivial⟩,trivial⟩) ?_
   unfold rc8
   repeat apply sQ
   refine WR.q rfl ?_
   repeat apply sQ
   refine WR.m 2 rfl ?_
   refine WQ.c rfl (SCall.eC al _) .base rfl ?_
   refine WQ.q rfl ?_
   repeat apply sQ
   refine WR.q rfl ?_
   repeat apply sQ
   refine WR.k rfl ?_
   repeat apply sQ
   refine WR.m 2 rfl ?_
   refine WQ.c rfl (hF _) .base rfl ?_
   refine WQ.q rfl ?_
   exact WR.ret ⟨rfl,rfl,⟨_,rfl,by repeat(first|exact VLe.refl _|exact VLe.unk _ _|exact jJ _ _|refine VLe.tup ?_|refine VLe.agg ?_|exact VLL.nil|refine VLL.cons ?_ ?_)⟩,fun _ _=>rfl⟩
noncomputable def ST(l:List Tz)(a:Nat):R (List Sx):=open Classical in if h:a≤l.length∧∃r n,(cZ l (PL l) n).block 0 ⟨a,0,0⟩=some r then xW (Classical.choose h.2)else .out
theorem aJs{l:List Tz}(hl:l.length<19999)(hT:∀t∈l,t.t.length<big):StmOk l (ST l):=by
 refine aTo (aYp l hl hT) (by omega) (fun a ha=>?_) (fun a ha=>?_)
 ·obtain⟨N,r,h⟩:=aIa (aYp l hl hT) a ha
  have e:a≤l.length∧∃r n,(cZ l (PL l) n).block 0 ⟨a,0,0⟩=some r:=⟨ha,r,N,h N (Nat.le_refl _)⟩
  obtain⟨n,hn⟩:=Classical.choose_spec e.2
  refine⟨n,_,hn,?_⟩
  unfold ST
  rw[dif_pos e]
 ·unfold ST
  rw[dif_neg (fun e=>ha e.1)]
noncomputable def FL(l:List Tz):R FileX:=jZ l (ST l) (l.length+1)
theorem vG{l:List Tz}(hl:l.length<19999)(hT:∀t∈l,t.t.length<big):(FL l).aU=false:=aCz (aJs hl hT) (Nat.lt_succ_self _)
theorem bDi{l:List Tz}(hl:l.length<19999)(hT:∀t∈l,t.t.length<big)(h:H):SCall Go.Proofs.Tryz.prog [0] 14 [lsV l] none h (.ret (flV (FL l))) none h:=tB (aJs hl hT) (by omega) _ (vG hl hT) h
noncomputable def aZb(s:List Nat):V:=txV ((bA s).2.1) ((bA s).2.2) (FL ((bA s).1.map toZ))
theorem zJ{s:List Nat}(hl:s.length<big)(hc:(bA s).2.2=0):GoodT s.length ((bA s).1.map toZ)∧((bA s).1.map toZ).length<19999∧∀t∈(bA s).1.map toZ,t.t.length<big:=by
 have e:bA s=((bA s).1,(bA s).2.1,0):=by rw[←hc]
 have g:=aOx e
 have h4:=aTy s _ _ _ _ _ (Nat.zero_le _) e
 exact⟨g,by rw[List.length_map];omega,aSk g hl⟩
theorem aSz(s:List Nat)(h8:∀c∈s,c<256)(hl:s.length<big):SCall Go.Proofs.Tryz.prog [0] 8 [.str s] none ⟨1000,og tOl,[]⟩ (.ret (aZb s)) none ⟨1000,og tOl,[]⟩:=by
 by_cases hc:(bA s).2.2=0
 ·obtain⟨_,h2,h3⟩:=zJ hl hc
  exact mG s h8 hl _ (fun _=>vG h2 h3) (fun _ h=>bDi h2 h3 h)
 ·exact mG s h8 hl _ (fun e=>absurd e hc) (fun e=>absurd e hc)
end Go.VM
end
