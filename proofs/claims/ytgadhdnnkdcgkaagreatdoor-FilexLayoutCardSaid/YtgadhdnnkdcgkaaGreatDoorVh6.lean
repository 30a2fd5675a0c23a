/- laid for this seat: VzQ VwA VwB VwC -/
import Derived.Test.YtgadhdnnkdcgkaaGreatDoorVh3
set_option linter.unusedVariables false
set_option linter.unusedSimpArgs false
section
/- Statements: blocks that are deep: the text's tokens. -/
set_option maxRecDepth 100000
namespace Go.VM
open Go.RowKit
def kt(t:Tk):Nat×List Nat:=(t.kind,t.text)
section
variable{s:List Nat}
theorem aZa{i c:Nat}{r:List Nat}(h:s.drop i=c::r):s[i]? =some c:=by
 have:=congrArg (·[0]?) h
 simpa using this
end
end Go.VM
end
section
/- Statements of two blocks in one: the tokens of what stands ahead of a line's end. -/
set_option maxRecDepth 100000
namespace Go.VM
open Go.RowKit
def skD:Nat→List Nat→Nat
 |0,_=>0
 |n+1,d=>if dZ (d.drop (bE bF d)) [47,47]=true then bE bF d+bE fN (d.drop (bE bF d))+skD n (d.drop (bE bF d+bE fN (d.drop (bE bF d))))else bE bF d
def sk(d:List Nat):Nat:=skD (d.length+1) d
theorem aNp(s:List Nat):∀n i,jH s n i=i+skD n (s.drop i)
 |0,i=>rfl
 |n+1,i=>by
  rw[jH,skD,List.drop_drop]
  split
  ·rw[aNp s n,List.drop_drop]
   rw[show i+(bE bF (s.drop i)+bE fN (s.drop (i+bE bF (s.drop i))))=i+bE bF (s.drop i)+bE fN (s.drop (i+bE bF (s.drop i))) by omega]
   omega
  ·rfl
theorem yQ:∀n m d,d.length<n→d.length<m→skD n d=skD m d
 |0,m,d,h,_=>by omega
 |n+1,0,d,_,h=>by omega
 |n+1,m+1,d,h1,h2=>by
  rw[skD,skD]
  split
  ·rename_i hp
   have c2:=aCy hp
   have c3:=gK bF d
   have c4:=gK fN (d.drop (bE bF d))
   rw[List.length_drop]at c4
   rw[yQ n m _ (by rw[List.length_drop];omega) (by rw[List.length_drop];omega)]
  ·rfl
theorem bEe(d:List Nat):sk d=if dZ (d.drop (bE bF d)) [47,47]=true then bE bF d+bE fN (d.drop (bE bF d))+sk (d.drop (bE bF d+bE fN (d.drop (bE bF d))))else bE bF d:=by
 conv=>lhs;rw[sk,skD]
 split
 ·rename_i hp
  have c2:=aCy hp
  have c3:=gK bF d
  have c4:=gK fN (d.drop (bE bF d))
  rw[List.length_drop]at c4
  rw[sk,yQ d.length _ _ (by rw[List.length_drop];omega) (Nat.lt_succ_self _)]
 ·rfl
theorem aOs(s:List Nat)(i:Nat):jH s (s.length+1) i=i+sk (s.drop i):=by
 rw[aNp,sk,yQ (s.length+1) _ _ (by rw[List.length_drop];omega) (Nat.lt_succ_self _)]
end Go.VM
end
section
/- Statements of two blocks in one: the texts' tokens; what is read. -/
set_option maxRecDepth 100000
namespace Go.VM
open Go.RowKit
section
variable{l:List Tz}{P:Nat→R Ex}
end
section
variable{n:Nat}{l l':List Tz}{P P':Nat→R Ex}
end
end Go.VM
end
section
/- Statements of two blocks in one: the plain law. -/
set_option maxRecDepth 100000
namespace Go.VM
open Go.RowKit
theorem aYx{l:List Tz}{a:Nat}{x:Ex}{a':Nat}(e:PL l a=.ok x a'):a≤l.length:=by
 rcases Nat.lt_or_ge l.length a with h|h
 ·unfold PL at e
  rw[dif_neg (by omega)]at e
  cases e
 ·exact h
theorem bGs{lo k a a':Nat}{b:Int}{l l':List Tz}{x:Ex}(tok:∀i,lo≤i→i<a'→aA l' (i+k)=shZ b (aA l i))(hst:mD (aA l' (a'+k))=true)(h0:lo≤a)(e:PL l a=.ok x a')(hle:a+k≤l'.length):PL l' (a+k)=.ok (shX b x) (a'+k):=by
 obtain⟨_,N,hN⟩:=iW l (aYx e)
 obtain⟨_,N',hN'⟩:=iW l' hle
 have sm:Same lo a' k b l l':=⟨tok,hst⟩
 rcases(aNb (dd:=0) sm (max N N')).expr 1 a 0 h0 (Nat.le_refl _) x a' (by rw[hN _ (by omega)];exact e) (Nat.le_refl _)with f|⟨f,_⟩
 ·rw[←hN' (max N N') (by omega)]
  exact f
 ·omega
end Go.VM
end
