/- laid for this seat: VzQ VwA VwB VwC -/
import Derived.Test.YtgadhdnnkdcgkaaGreatDoorVh3
set_option linter.unusedVariables false
set_option linter.unusedSimpArgs false
section
/- Statements: blocks that are deep: the text's tokens. -/
set_option maxRecDepth 100000
namespace Go.VM
open Go.RowKit
def kt(t:Tk):Nat×List Nat:=(t.kind,t.text)
section
variable{s:List Nat}
theorem aIc{i c:Nat}{r:List Nat}(h:s.drop i=c::r):s[i]? =some c:=by
 have:=congrArg (·[0]?) h
 simpa using this
end
end Go.VM
end
section
/- Statements of two blocks in one: the tokens of what stands ahead of a line's end. -/
set_option maxRecDepth 100000
namespace Go.VM
open Go.RowKit
def skD:Nat→List Nat→Nat
 |0,_=>0
 |n+1,d=>if eZ (d.drop (aP aI d)) [47,47]=true then aP aI d+aP cO (d.drop (aP aI d))+skD n (d.drop (aP aI d+aP cO (d.drop (aP aI d))))else aP aI d
def sk(d:List Nat):Nat:=skD (d.length+1) d
theorem aMk(s:List Nat):∀n i,dP s n i=i+skD n (s.drop i)
 |0,i=>rfl
 |n+1,i=>by
  rw[dP,skD,List.drop_drop]
  split
  ·rw[aMk s n,List.drop_drop]
   rw[show i+(aP aI (s.drop i)+aP cO (s.drop (i+aP aI (s.drop i))))=i+aP aI (s.drop i)+aP cO (s.drop (i+aP aI (s.drop i))) by omega]
   omega
  ·rfl
theorem zL:∀n m d,d.length<n→d.length<m→skD n d=skD m d
 |0,m,d,h,_=>by omega
 |n+1,0,d,_,h=>by omega
 |n+1,m+1,d,h1,h2=>by
  rw[skD,skD]
  split
  ·rename_i hp
   have c2:=uG hp
   have c3:=cT aI d
   have c4:=cT cO (d.drop (aP aI d))
   rw[List.length_drop]at c4
   rw[zL n m _ (by rw[List.length_drop];omega) (by rw[List.length_drop];omega)]
  ·rfl
theorem sM(d:List Nat):sk d=if eZ (d.drop (aP aI d)) [47,47]=true then aP aI d+aP cO (d.drop (aP aI d))+sk (d.drop (aP aI d+aP cO (d.drop (aP aI d))))else aP aI d:=by
 conv=>lhs;rw[sk,skD]
 split
 ·rename_i hp
  have c2:=uG hp
  have c3:=cT aI d
  have c4:=cT cO (d.drop (aP aI d))
  rw[List.length_drop]at c4
  rw[sk,zL d.length _ _ (by rw[List.length_drop];omega) (Nat.lt_succ_self _)]
 ·rfl
theorem oF(s:List Nat)(i:Nat):dP s (s.length+1) i=i+sk (s.drop i):=by
 rw[aMk,sk,zL (s.length+1) _ _ (by rw[List.length_drop];omega) (Nat.lt_succ_self _)]
theorem qQ{p:Nat→Bool}(h:p 10=false)(r:List Nat):∀l:List Nat,aP p (l++10::r)=aP p l
 |[]=>by show aP p (10::r)=0;rw[aP,h]
 |c::l=>by rw[List.cons_append,aP,aP,qQ h r l]
theorem lB(r:List Nat):∀l:List Nat,aP aI (l++10::r)=if aP aI l=l.length then l.length+1+aP aI r else aP aI l
 |[]=>by
  show aP aI (10::r)=_
  rw[show aP aI []=0 from rfl,show([]:List Nat).length=0 from rfl,if_pos rfl,aP,show aI 10=true from by decide]
  simp only
  omega
 |c::l=>by
  rw[List.cons_append,aP,aP,lB r l]
  cases aI c with
  |false=>simp
  |true=>
   simp only[List.length_cons]
   split
   ·rename_i e;rw[if_pos (by omega)];omega
   ·rename_i e;rw[if_neg (by omega)]
theorem aEo{x:Nat}(h:x≠10)(r:List Nat):∀l:List Nat,eZ (l++10::r) [x,x]=eZ l [x,x]
 |[]=>by simp[eZ];omega
 |[c]=>by simp[eZ];omega
 |c::d::l=>by simp[eZ]
theorem bEn(N:Nat):∀(u r:List Nat),u.length≤N→(sk (u++10::r)=if sk (u++[10])<u.length then sk (u++[10])else u.length+1+sk r)∧(sk (u++[10])<u.length∨sk (u++[10])=u.length+1):=by
 induction N with
 |zero=>
  intro u r hu
  have:u=[]:=List.eq_nil_of_length_eq_zero (by omega)
  subst this
  have e:∀r,sk ([]++10::r)=1+sk r:=by
   intro r
   rw[List.nil_append,sM,sM r,aP,show aI 10=true from by decide]
   simp only
   rw[show aP aI r+1=1+aP aI r by omega]
   rw[show(10::r).drop (1+aP aI r)=r.drop (aP aI r) by rw[Nat.add_comm];rfl]
   split
   ·rw[show(10::r).drop (1+aP aI r+aP cO (r.drop (aP aI r)))=r.drop (aP aI r+aP cO (r.drop (aP aI r))) by rw[show 1+aP aI r+aP cO (r.drop (aP aI r))=(aP aI r+aP cO (r.drop (aP aI r)))+1 by omega];rfl]
    omega
   ·rfl
  have e0:sk ([]++[10])=1:=e []
  rw[e,e0]
  exact⟨by simp,.inr rfl⟩
 |succ N ih=>
  intro u r hu
  have key:∀r,(aP aI u=u.length→sk (u++10::r)=u.length+1+sk r)∧(aP aI u≠u.length→sk (u++10::r)=if eZ (u.drop (aP aI u)) [47,47]=true then aP aI u+aP cO (u.drop (aP aI u))+sk (u.drop (aP aI u+aP cO (u.drop (aP aI u)))++10::r)else aP aI u):=by
   intro r
   have cl:=cT aI u
   constructor
   ·intro hb
    rw[sM,sM r,lB,if_pos hb]
    have d1:∀q,(u++10::r).drop (u.length+1+q)=r.drop q:=by
     intro q
     rw[show u.length+1+q=u.length+(1+q) by omega,←List.drop_drop,List.drop_left,Nat.add_comm]
     rfl
    rw[d1]
    split
    ·rw[show u.length+1+aP aI r+aP cO (r.drop (aP aI r))=u.length+1+(aP aI r+aP cO (r.drop (aP aI r))) by omega,d1]
     omega
    ·rfl
   ·intro hb
    rw[sM,lB,if_neg hb,List.drop_append_of_le_length cl,aEo (by decide),qQ (p:=cO) (by decide)]
    split
    ·rename_i hp
     have c4:=cT cO (u.drop (aP aI u))
     rw[List.length_drop]at c4
     rw[List.drop_append_of_le_length (by omega)]
    ·rfl
  have cl:=cT aI u
  by_cases hb:aP aI u=u.length
  ·have e0:=(key []).1 hb
   rw[show sk []=0 from rfl]at e0
   rw[(key r).1 hb,e0]
   exact⟨by rw[if_neg (by omega)],.inr rfl⟩
  ·have h1:=(key r).2 hb
   have h2:=(key []).2 hb
   cases hp:eZ (u.drop (aP aI u)) [47,47]with
   |false=>
    rw[hp]at h1 h2
    simp only[Bool.false_eq_true,if_false]at h1 h2
    rw[h1,h2]
    exact⟨by rw[if_pos (by omega)],.inl (by omega)⟩
   |true=>
    rw[hp]at h1 h2
    simp only[if_true]at h1 h2
    have c2:=uG hp
    have c4:=cT cO (u.drop (aP aI u))
    rw[List.length_drop]at c4
    obtain⟨i1,i2⟩:=ih (u.drop (aP aI u+aP cO (u.drop (aP aI u)))) r (by rw[List.length_drop];omega)
    rw[h1,h2,i1]
    rw[List.length_drop]at i2⊢
    rcases i2 with i2|i2
    ·rw[if_pos i2,if_pos (by omega)]
     exact⟨rfl,.inl (by omega)⟩
    ·rw[if_neg (by omega),if_neg (by omega)]
     exact⟨by omega,.inr (by omega)⟩
def shK(k:Nat)(t:Tk):Tk:=⟨t.kind,t.a+k,t.e+k,t.text⟩
end Go.VM
end
section
/- Statements of two blocks in one: the texts' tokens; what is read. -/
set_option maxRecDepth 100000
namespace Go.VM
open Go.RowKit
section
variable{l:List Tz}{P:Nat→R Ex}
end
section
variable{n:Nat}{l l':List Tz}{P P':Nat→R Ex}
end
end Go.VM
end
section
/- Statements of two blocks in one: the plain law. -/
set_option maxRecDepth 100000
namespace Go.VM
open Go.RowKit
theorem aVe{l:List Tz}{a:Nat}{x:Ex}{a':Nat}(e:PL l a=.ok x a'):a≤l.length:=by
 rcases Nat.lt_or_ge l.length a with h|h
 ·unfold PL at e
  rw[dif_neg (by omega)]at e
  cases e
 ·exact h
theorem bGc{lo k a a':Nat}{b:Int}{l l':List Tz}{x:Ex}(tok:∀i,lo≤i→i<a'→aB l' (i+k)=shZ b (aB l i))(hst:kO (aB l' (a'+k))=true)(h0:lo≤a)(e:PL l a=.ok x a')(hle:a+k≤l'.length):PL l' (a+k)=.ok (shX b x) (a'+k):=by
 obtain⟨_,N,hN⟩:=jP l (aVe e)
 obtain⟨_,N',hN'⟩:=jP l' hle
 have sm:Same lo a' k b l l':=⟨tok,hst⟩
 rcases(aPa (dd:=0) sm (max N N')).expr 1 a 0 h0 (Nat.le_refl _) x a' (by rw[hN _ (by omega)];exact e) (Nat.le_refl _)with f|⟨f,_⟩
 ·rw[←hN' (max N N') (by omega)]
  exact f
 ·omega
end Go.VM
end
