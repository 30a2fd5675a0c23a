/- laid for this seat: VmLight VmLight2 -/
import Derived.Test.YtgadhdnnkdcgkaaGreatDoorVmA
set_option linter.unusedVariables false
set_option linter.unusedSimpArgs false
section
/- The machine of values: operations that change nothing are the model's. -/
namespace Go.VM
open Go.RowKit
variable{P:Program}
theorem vI{E:Env}{n:Nat}(ih:∀x v,cv n x=some v→AR E v x):∀(l:List Value) (r:List V),l.mapM (cv n)=some r→ARs E r l
 |[],r,h=>by
  have:r=[]:=by simpa using h.symm
  subst this;exact .nil
 |x::l,r,h=>by
  rw[List.mapM_cons]at h
  cases hx:cv n x with
  |none=>rw[hx]at h;simp at h
  |some v=>
   cases hl:l.mapM (cv n)with
   |none=>rw[hx,hl]at h;simp at h
   |some vs=>
    rw[hx,hl]at h
    have:r=v::vs:=by simpa using h.symm
    subst this
    exact .cons _ _ _ _ (ih _ _ hx) (vI ih l vs hl)
theorem aGh(E:Env):∀(n:Nat) (x:Value) (v:V),cv n x=some v→AR E v x:=by
 intro n
 induction n with
 |zero=>intro x v h;simp[cv]at h
 |succ n ih=>
  intro x v h
  cases x with
  |bool b=>simp[cv]at h;subst h;exact .bool b
  |int k m=>simp[cv]at h;subst h;exact .int k m
  |string s=>simp only[cv,Option.some.injEq]at h;subst h;exact .str _ s rfl
  |pointer a=>cases a<;>simp[cv]at h;subst h;exact .iR
  |slice a l c=>
   cases a with
   |some a=>simp[cv]at h
   |none=>
    cases l with
    |succ l=>simp[cv]at h
    |zero=>cases c with
     |succ c=>simp[cv]at h
     |zero=>simp[cv]at h;subst h;exact .lst0 _ _ _ rfl
  |map r=>cases r<;>simp[cv]at h;subst h;exact .fX
  |nilFunc=>simp[cv]at h;subst h;exact .hY
  |nilIface=>simp[cv]at h;subst h;exact .fF
  |iface t x=>
   simp only[cv]at h
   cases hx:cv n x with
   |none=>rw[hx]at h;cases h
   |some u=>rw[hx]at h;cases h;exact .iface t u x (ih x u hx)
  |agg cs=>
   simp only[cv]at h
   cases hx:cs.toList.mapM (cv n)with
   |none=>rw[hx]at h;cases h
   |some u=>rw[hx]at h;cases h;exact .agg u cs (vI ih _ _ hx)
  |tuple cs=>
   simp only[cv]at h
   cases hx:cs.toList.mapM (cv n)with
   |none=>rw[hx]at h;cases h
   |some u=>rw[hx]at h;cases h;exact .tup u cs (vI ih _ _ hx)
  |float k b=>simp[cv]at h
  |complex k a b=>simp[cv]at h
  |chan r=>simp[cv]at h
  |func f a c=>simp[cv]at h
def GL(E:Env)(gl:List Nat):Prop:=∀g,gl.contains g=true→∃p,E.ob g=some p∧p.blk=g∧p.off=0
theorem GL.mono{E E':Env}{gl:List Nat}(h:E.le E')(g:GL E gl):GL E' gl:=fun x hx=>let⟨p,a,b⟩:=g x hx;⟨p,h.ob _ _ a,b⟩
section
variable{E:Env}{L:Nat→Option Place}{gl:List Nat}{nt:Nat}{tm:TM}{tmps:Array Value}
theorem dQ(hg:GL E gl)(r:TR E L nt tm tmps){x:Operand}{y:RX}{v:TV}(hx:rx x=some y)(h:rvt gl tm y=some v):TVR E L v (evT tmps x):=by
 cases x with
 |tmp t=>
  cases hx
  obtain⟨v',h1,h2⟩:=r.2 t v h
  simpa [evT,Array.getD_eq_getD_getElem?,h1] using h2
 |const c=>
  simp only[rx]at hx
  cases hc:cv 6 c with
  |none=>rw[hc]at hx;cases hx
  |some u=>rw[hc]at hx;cases hx;cases h;exact .v _ _ (aGh E 6 c u hc)
 |func f=>cases hx;cases h;exact .v _ _ (.fn f [] [] #[] #[] .nil .nil)
 |global g=>
  cases hx
  simp only[rvt]at h
  split at h
  ·rename_i hc
   cases h
   obtain⟨p,hp,rfl,h0⟩:=hg g hc
   have:=AR.ptr (E:=E) p.blk 0 p hp
   exact .v _ _ (by simpa [evT,h0] using this)
  ·cases h
theorem bDg{y:RX}{v:V}(h:rv gl tm y=some v):rvt gl tm y=some (.v v):=by
 unfold rv at h
 split at h
 ·rename_i u hu;cases h;exact hu
 ·cases h
theorem aH(hg:GL E gl)(r:TR E L nt tm tmps){x:Operand}{y:RX}{v:V}(hx:rx x=some y)(h:rv gl tm y=some v):AR E v (evT tmps x):=by
 have:=dQ hg r hx (bDg h)
 cases this with|v _ _ h=>exact h
theorem eE(hg:GL E gl)(r:TR E L nt tm tmps):∀{xs:List Operand} {ys:List RX} {vs:List V},rxs xs=some ys→rvs gl tm ys=some vs→ARs E vs (xs.map (evT tmps))
 |[],ys,vs,hx,h=>by simp[rxs]at hx;subst hx;simp[rvs]at h;subst h;exact .nil
 |x::xs,ys,vs,hx,h=>by
  simp only[rxs]at hx
  split at hx
  ·rename_i a b h1 h2
   cases hx
   simp only[rvs]at h
   split at h
   ·rename_i v l h3 h4
    cases h
    exact .cons _ _ _ _ (aH hg r h1 h3) (eE hg r h2 h4)
   ·cases h
  ·cases hx
inductive OptR(E:Env):Option V→Option Value→Prop where
 |none:OptR E none none
 |some (v:V) (v':Value) (h:AR E v v'):OptR E (some v) (some v')
theorem vA(hg:GL E gl)(r:TR E L nt tm tmps){x:Option Operand}{y:Option RX}{v:Option V}(hx:rxo x=some y)(h:rvo gl tm y=some v):OptR E v (x.map (evT tmps)):=by
 cases x with
 |none=>cases hx;cases h;exact .none
 |some x=>
  simp only[rxo]at hx
  cases h1:rx x with
  |none=>rw[h1]at hx;cases hx
  |some y=>
   rw[h1]at hx;cases hx
   simp only[rvo]at h
   cases h2:rv gl tm y with
   |none=>rw[h2]at h;cases h
   |some u=>rw[h2]at h;cases h;exact .some _ _ (aH hg r h1 h2)
inductive PsR(E:Env):List (Nat×V)→List (Nat×Value)→Prop where
 |nil:PsR E [] []
 |cons (i:Nat) (v:V) (v':Value) (l:List (Nat×V)) (l':List (Nat×Value)) (h:AR E v v') (t:PsR E l l'):PsR E ((i,v)::l) ((i,v')::l')
theorem qF(hg:GL E gl)(r:TR E L nt tm tmps):∀{xs:List (Nat×Operand)} {ys:List (Nat×RX)} {vs:List (Nat×V)},rxp xs=some ys→rvp gl tm ys=some vs→PsR E vs (xs.map fun p=>(p.1,evT tmps p.2))
 |[],ys,vs,hx,h=>by simp[rxp]at hx;subst hx;simp[rvp]at h;subst h;exact .nil
 |(i,x)::xs,ys,vs,hx,h=>by
  simp only[rxp]at hx
  split at hx
  ·rename_i a b h1 h2
   cases hx
   simp only[rvp]at h
   split at h
   ·rename_i v l h3 h4
    cases h
    exact .cons _ _ _ _ _ (aH hg r h1 h3) (qF hg r h2 h4)
   ·cases h
  ·cases hx
end
theorem iL(E:Env){t:TypeId}{z:V}(h:iX P t=some z)(w:World):∃z',(zeroValue t).run P w=.ok z' w∧AR E z z':=by
 unfold iX at h
 cases hi:P.info? t with
 |none=>rw[hi]at h;cases h
 |some i=>
  rw[hi]at h
  simp only[Option.bind_some]at h
  cases hz:i.zero with
  |none=>rw[hz]at h;cases h
  |some z'=>
   rw[hz]at h
   exact⟨z',by simp[zeroValue,mP hi,hz],aGh E 4 z' z h⟩
theorem aBj{t:TypeId}{n:Option Nat}(h:uL P t=some n):(∃k,n=some k∧oR P t=some true∧szT P t=some k)∨(n=none∧oR P t=some false):=by
 unfold uL at h
 split at h
 ·rename_i ha
  cases hs:szT P t with
  |none=>rw[hs]at h;cases h
  |some k=>rw[hs]at h;cases h;exact .inl ⟨k,rfl,ha,rfl⟩
 ·rename_i ha;cases h;exact .inr ⟨rfl,ha⟩
 ·cases h
theorem lU{E:Env}{t:TypeId}{cs:List V}{cs':Array Value}{off:Nat}{n:Option Nat}{v:V}(hn:uL P t=some n)(h:kA cs off n=some v)(r:ARs E cs cs'.toList)(w:World):
  ∃v',(part t cs' off).run P w=.ok v' w∧AR E v v':=by
 rcases aBj hn with⟨k,rfl,ha,hs⟩|⟨rfl,ha⟩
 ·simp only[kA]at h
  cases hr:jS cs off k with
  |none=>rw[hr]at h;cases h
  |some l=>
   rw[hr]at h;cases h
   obtain⟨hle,rfl⟩:=tN hr
   refine⟨.agg (cs'.extract off (off+k)),by simp[part,nP ha,bR hs],.agg _ _ ?_⟩
   have:=(r.drop off).take k
   rw[Array.toList_extract]
   simpa [List.extract] using this
 ·simp only[kA]at h
  obtain⟨v',hv,hr⟩:=r.get off v h
  have hv':cs'[off]? =some v':=by simpa using hv
  exact⟨v',by simp[part,nP ha,hv'],hr⟩
theorem aBa{E:Env}{t:TypeId}{d:ED}{x y:V}{b:Bool}{x' y':Value}(hd:aAg P t=some d)(h:eqB d x y=some b)(hx:AR E x x')(hy:AR E y y')(k:Nat)(w:World):
  (Op.equalIn (k+1) t x' y').run P w=.ok b w:=by
 unfold aAg at hd
 unfold eqB at h
 split at hd<;>cases hd
 all_goals (rename_i hu)
 ·split at h<;>first|(rename_i e1;cases e1;done)|skip
  all_goals first|(cases h;done)|skip
  ·cases hx;cases hy;cases h;simp[Op.equalIn,run_underlying hu]
 ·split at h<;>first|(rename_i e1;cases e1;done)|skip
  all_goals first|(cases h;done)|skip
  ·rename_i e
   cases hx;cases hy
   split at h
   ·rename_i hk
    have:=of_decide_eq_true hk
    subst this
    cases h;simp[Op.equalIn,run_underlying hu];rfl
   ·cases h
 ·split at h<;>first|(rename_i e1;cases e1;done)|skip
  all_goals first|(cases h;done)|skip
  ·rename_i e
   cases hx with
   |str s x' e=>cases hy with
    |str s2 y' e2=>
     cases h
     simp only[Op.equalIn,Sem.run_bind,run_underlying hu,Result.andThen_ok,Sem.run_pure]
     rw[beq_toListBytes,str_inj e e2]
     congr 1
     rw[Bool.eq_iff_iff,tS,decide_eq_true_eq]
 all_goals
  split at h<;>first|(rename_i e1;cases e1;done)|skip
  all_goals first
   |(cases h;done)
   |(cases hx<;>cases hy<;>cases h<;>simp[Op.equalIn,run_underlying hu];done)
theorem yY{E:Env}:∀{fs:List Field} {l:List (Nat×ED)} {xs ys:List V} {b:Bool} {xs' ys':Array Value},uR P fs=some l→aQc l xs ys=some b→ARs E xs xs'.toList→ARs E ys ys'.toList→∀(k:Nat) (w:World),
  (Op.eqFields (k+1) xs' ys' fs).run P w=.ok b w
 |[],l,xs,ys,b,xs',ys',hp,h,hx,hy,k,w=>by simp[uR]at hp;subst hp;simp[aQc]at h;subst h;simp[Op.eqFields]
 |fd::fs,l,xs,ys,b,xs',ys',hp,h,hx,hy,k,w=>by
  simp only[uR]at hp
  split at hp
  ·rename_i d l' hd hl hn
   cases hp
   simp only[aQc]at h
   split at h
   ·rename_i a c ha hc
    split at h
    ·rename_i q r hq hr
     cases h
     have hagg:oR P fd.type=some false:=by
      unfold aAg at hd
      unfold oR
      split at hd<;>cases hd
      all_goals (rename_i hu;rw[hu])
     have hag:uL P fd.type=some none:=by unfold uL;rw[hagg]
     obtain⟨a',ra,rra⟩:=lU (P:=P) hag (by simpa [kA] using ha) hx w
     obtain⟨c',rc,rrc⟩:=lU (P:=P) hag (by simpa [kA] using hc) hy w
     have h1:=aBa hd hq rra rrc k w
     have h2:=yY hl hr hx hy k w
     have hn':fd.name≠ "_" :=by simpa using hn
     cases q with
     |true=>simp[Op.eqFields,hn',ra,rc,h1,h2]
     |false=>simp[Op.eqFields,hn',ra,rc,h1]
    ·cases h
   ·cases h
  ·cases hp
theorem aRn{E:Env}{t:TypeId}{d:ED}{x y:V}{b:Bool}{x' y':Value}(hd:eqD P t=some d)(h:eqV d x y=some b)(hx:AR E x x')(hy:AR E y y')(w:World):
  (Op.equal t x' y').run P w=.ok b w:=by
 unfold eqD at hd
 split at hd
 ·rename_i fields hu
  split at hd
  ·cases hd
  ·rename_i hs
   rw[Bool.or_eq_false_iff]at hs
   cases hf:uR P fields.toList with
   |none=>rw[hf]at hd;cases hd
   |some l=>
    rw[hf]at hd;cases hd
    have key:∀xs ys,x=.agg xs→y=.agg ys→aQc l xs ys=some b→(Op.equal t x' y').run P w=.ok b w:=by
     intro xs ys e1 e2 h
     subst e1;subst e2
     cases hx with
     |agg _ cs hl=>cases hy with
      |agg _ cs2 hl2=>
       have hf':P.fieldsOf t=fields:=by simp[Program.fieldsOf,hu]
       simp only[Op.equal,Op.maxDepth]
       rw[run_equalIn_struct (P:=P) w 9999 t cs cs2 (by rw[hf'];exact hu) hs.1,hf']
       exact yY hf h hl hl2 9998 w
    cases x<;>cases y<;>simp only[eqV,eqB]at h<;>first|(cases h;done)|exact key _ _ rfl rfl h
 ·rename_i hns
  have:eqB d x y=some b:=by
   cases d with
   |st fs=>
    unfold aAg at hd
    split at hd<;>cases hd
   |_=>exact h
  exact aBa hd this hx hy 9999 w
theorem binOp_eql{E:Env}{t:TypeId}{x y:V}{x' y':Value}(hx:AR E x x')(hy:AR E y y')(h1:∀k a k' b,x=.int k a→y=.int k' b→k=k'):
  (∀(w:World) (b:Bool),(Op.equal t x' y').run P w=.ok b w→(∀k a c,x=.int k a→y=.int k c→b=decide (a=c))→(∀a c,x=.str a→y=.str c→b=decide (a=c))→(binOp .eql t x' y').run P w=.ok (.bool b) w∧(binOp .neq t x' y').run P w=.ok (.bool (!b)) w):=by
 intro w b he hi hs
 cases hx with
 |int k a=>cases hy with
  |int k' c=>
   have:=h1 _ _ _ _ rfl rfl
   subst this
   have hb:=hi _ _ _ rfl rfl
   subst hb
   constructor
   ·simp only[binOp,ne_eq,not_true_eq_false,if_false];rfl
   ·simp only[binOp,ne_eq,not_true_eq_false,if_false];rfl
  |_=>constructor<;>simp[binOp,he]
 |str s x' e=>cases hy with
  |str s' y' e'=>
   have hb:=hs _ _ rfl rfl
   subst hb
   have hq:(x'.toList==y'.toList)=decide (s=s'):=by
    rw[str_inj e e',Bool.eq_iff_iff,tS,decide_eq_true_eq]
   constructor
   ·simp[binOp,Op.stringOp,hq]
   ·simp[binOp,Op.stringOp,hq]
  |_=>constructor<;>simp[binOp,he]
 |_=>constructor<;>simp[binOp,he]
theorem aLo{E:Env}{op:BinOp}{t:TypeId}{x y v:V}{x' y':Value}(h:aZy op x y=some v)(hx:AR E x x')(hy:AR E y y')(w:World):
  ∃v',(binOp op t x' y').run P w=.ok v' w∧AR E v v':=by
 unfold aZy at h
 split at h
 ·rename_i k a k2 b
  cases hx;cases hy
  split at h
  ·cases h
  ·rename_i hb
   cases h
   exact⟨_,by simp[binOp,Op.shift,hb],.int _ _⟩
 ·rename_i k a k2 b
  cases hx;cases hy
  split at h
  ·cases h
  ·rename_i hb
   cases h
   exact⟨_,by simp[binOp,Op.shift,hb],.int _ _⟩
 ·rename_i k a k' b h1 h2
  cases hx;cases hy
  split at h
  ·rename_i e
   subst e
   cases op<;>simp only[Option.some.injEq,reduceCtorEq]at h
   case quo=>
    split at h
    ·cases h
    ·rename_i hb;cases h;exact⟨_,by simp[binOp,Op.intDiv,hb],.int _ _⟩
   case rem=>
    split at h
    ·cases h
    ·rename_i hb;cases h;exact⟨_,by simp[binOp,Op.intDiv,hb],.int _ _⟩
   all_goals (subst h;refine⟨_,(by simp only[binOp,ne_eq,not_true_eq_false,if_false];rfl),?_⟩;first|exact .int _ _|exact .bool _)
  ·cases h
 ·rename_i a b
  cases hx with
  |str s x' e=>cases hy with
   |str s2 y' e2=>
    have he:(x'.toList==y'.toList)=seq a b:=str_inj e e2
    have hl:Op.bytesLess x'.toList y'.toList=slt a b:=by rw[ByteArray.toList_eq,ByteArray.toList_eq,aVq,e,e2]
    have hsx:x'.size=a.length:=by rw[←e,List.length_map,Array.length_toList];rfl
    have hsy:y'.size=b.length:=by rw[←e2,List.length_map,Array.length_toList];rfl
    cases op<;>simp only[Option.some.injEq,reduceCtorEq]at h
    case add=>
     split at h
     ·rename_i hlim
      cases h
      refine⟨.string (x'++y'),?_,.str _ _ ?_⟩
      ·have:¬((x'.size+y'.size:Nat):Int)>IntKind.i64.max:=by
        unfold iE at hlim
        simp[IntKind.max,IntKind.signed,IntKind.bits];omega
       simp only[binOp,Op.stringOp]
       rw[if_neg this];rfl
      ·simp[←e,←e2]
     ·cases h
    all_goals (subst h;exact⟨_,by simp[binOp,Op.stringOp,he,hl]<;>rfl,.bool _⟩)
 ·cases h
theorem dP{E:Env}{v:V}{v':Value}{n:Nat}(h:iP v=some n)(r:AR E v v'):∃k,v=.int k n∧v'=.int k (n:Int):=by
 cases v<;>simp[iP]at h
 rename_i k m
 obtain⟨h0,rfl⟩:=h
 cases r
 exact⟨k,by rw[Int.toNat_of_nonneg h0],by rw[Int.toNat_of_nonneg h0]⟩
theorem nX{E:Env}{x:Option V}{x':Option Value}{d n:Nat}(h:nat? x d=some n)(r:OptR E x x'):
  (x'=none∧n=d)∨∃k,x'=some (.int k (n:Int)):=by
 cases r with
 |none=>simp[nat?]at h;exact .inl ⟨rfl,h.symm⟩
 |some v v' hr=>obtain⟨k,_,e⟩:=dP h hr;exact .inr ⟨k,by rw[e]⟩
theorem iA(w:World)(s:Bool)(len cap l h:Nat){E:Env}{lo hi:Option V}{lo' hi':Option Value}(hl:nat? lo 0=some l)(hh:nat? hi len=some h)(rl:OptR E lo lo')(rh:OptR E hi hi')(h1:l≤h)(h2:h≤cap):
  (Instr.sliceBounds s len cap lo' hi' none).run P w=.ok (l,h,cap) w:=by
 rcases nX hl rl with⟨rfl,rfl⟩|⟨k,rfl⟩<;>rcases nX hh rh with⟨rfl,rfl⟩|⟨k2,rfl⟩<;>
  simp[Instr.sliceBounds,pN,h1,h2]
theorem oQ(w:World)(len cap l h m:Nat){E:Env}{lo hi:Option V}{lo' hi':Option Value}{k:IntKind}(hl:nat? lo 0=some l)(hh:nat? hi len=some h)(rl:OptR E lo lo')(rh:OptR E hi hi')(hhi:hi≠none)(h1:l≤h)(h2:h≤m)(h3:m≤cap):
  (Instr.sliceBounds true len cap lo' hi' (some (.int k (m:Int)))).run P w=.ok (l,h,m) w:=by
 rcases nX hh rh with⟨rfl,rfl⟩|⟨k2,rfl⟩
 ·cases rh;exact absurd rfl hhi
 ·rcases nX hl rl with⟨rfl,rfl⟩|⟨k,rfl⟩<;>
   simp[Instr.sliceBounds,pN,h1,h2,h3]
theorem LC.aMq{c c':LC}{l h len cap:Nat}{mx:Option Nat}(e:c.cut l h mx len=some c')(hlen:len≤cap)(hc:∀k,c=.ex k→cap=k)(hm:mx=none∨∃m,mx=some m∧h≤m):
  (match mx with|some m=>m≤cap∧c'=.ex (m-l)|none=>(∀k,c'=.ex k→k=cap-l)∧(∀id,c'≠.tk id)∧c'≠.nl∧c'≠.nn):=by
 cases mx with
 |some m=>
  cases c with
  |ex k=>
   simp only[LC.cut]at e
   split at e
   ·rename_i hk;cases e;exact⟨by rw[hc k rfl];exact hk.2,rfl⟩
   ·cases e
  |_=>
   simp only[LC.cut]at e
   split at e
   ·rename_i hk;cases e;exact⟨by omega,rfl⟩
   ·cases e
 |none=>
  cases c with
  |ex k=>
   simp only[LC.cut]at e
   cases e
   refine⟨fun k' h=>?_,(fun id h=>by cases h),(by intro h;cases h),(by intro h;cases h)⟩
   cases h;rw[hc k rfl]
  |_=>simp only[LC.cut]at e;cases e;exact⟨(by intro k h;cases h),(by intro id h;cases h),(by intro h;cases h),(by intro h;cases h)⟩
theorem LC0.any{c:LC}{a b:Option Addr}{n:Nat}{X:Prop}(h:X∧(∀id,c≠.tk id)∧c≠.nl∧c≠.nn)(e:LC0 c a n):LC0 c b n:=by
 cases c with
 |nl=>exact absurd rfl h.2.2.1
 |nn=>exact absurd rfl h.2.2.2
 |_=>exact e
theorem aNi{E:Env}{es:List (List V)}{c c':LC}{x':Value}{l h sz len' cap':Nat}{A:Option Addr}(rx:AR E (.lst es c) x')(hx':x'=.slice A len' cap')(h1:l≤h)(h2:h≤es.length)(hz:l=0∨∀e∈es,e.length=sz)(capN:Nat)(hcap:h-l≤capN)
  (hc:(∀k,c'=.ex k→k=capN)∧(∀id,c'≠.tk id)∧c'≠.nl∧c'≠.nn):
  AR E (.lst ((es.drop l).take (h-l)) c') (.slice (A.map fun a=>if l=0 then a else a.add (l*sz)) (h-l) capN):=by
 subst hx'
 have hLC:∀a,LC0 c' a capN:=by
  intro a
  cases c' with
  |ex k=>exact(hc.1 k rfl).symm
  |unk=>trivial
  |tk id=>exact absurd rfl (hc.2.1 id)
  |nl=>exact absurd rfl hc.2.2.1
  |nn=>exact absurd rfl hc.2.2.2
 cases rx with
 |lst0 _ _ _ _=>
  have e1:h-l=0:=by simp at h2;omega
  rw[e1]
  simpa using AR.lst0 c' _ capN (hLC _)
 |lst e es' _ blk off n cap z hf hn hle hr=>
  by_cases e1:h-l=0
  ·rw[e1];simpa using AR.lst0 c' _ capN (hLC _)
  ·have hzl:l*z=l*sz:=by
    rcases hz with rfl|hz
    ·simp
    ·have:=(hf.get 0 e rfl).1
     rw[←this,hz e (by simp)]
   have hdr:=(hf.drop l).take (h-l)
   have hlen:(((e::es').drop l).take (h-l)).length=h-l:=by simp at h2⊢;omega
   generalize hg:(((e::es').drop l).take (h-l))=gs at hdr hlen
   cases gs with
   |nil=>simp at hlen;omega
   |cons a as=>
    have hA:((some (⟨blk,off,none⟩:Addr)).map fun a=>if l=0 then a else a.add (l*sz))=some ⟨blk,off+l*z,none⟩:=by
     simp only[Option.map_some]
     congr 1
     split
     ·rename_i e;subst e;simp
     ·rw[add_zero,hzl]
    rw[hA]
    refine .lst a as c' blk (off+l*z) (h-l) capN z hdr (by simpa using hlen.symm) hcap ?_
    cases c' with
    |ex k=>exact(hc.1 k rfl).symm
    |unk=>trivial
    |tk id=>exact absurd rfl (hc.2.1 id)
    |nl=>exact absurd rfl hc.2.2.1
    |nn=>trivial
theorem kG{E:Env}{es:List (List V)}{c:LC}{x':Value}(r:AR E (.lst es c) x'):∃A cap,x'=.slice A es.length cap∧es.length≤cap∧∀k,c=.ex k→cap=k:=by
 cases r with
 |lst0 _ a cap h=>exact⟨a,cap,rfl,Nat.zero_le _,fun k e=>by subst e;exact h⟩
 |lst e es' _ blk off n cap z hf hn hle hr=>exact⟨_,cap,by rw[hn];rfl,by rw[List.length_cons,←hn];exact hle,fun k e=>by subst e;exact hr⟩
theorem oH{t el:TypeId}{sz:Nat}(hu:P.underlying t=some (.slice el))(hz:szT P el=some sz)(w:World){A:Option Addr}{len cap l h m:Nat}{lo' hi' mx':Option Value}
  (hb:(Instr.sliceBounds true len cap lo' hi' mx').run P w=.ok (l,h,m) w):
  ∃A':Option Addr,(Instr.sliceAt t (.slice A len cap) lo' hi' mx').run P w=.ok (.slice A' (h-l) (m-l)) w∧(m≠l→A'=A.map fun a=>if l=0 then a else a.add (l*sz)):=by
 cases A with
 |none=>exact⟨none,by simp[Instr.sliceAt,run_underlying hu,Instr.slice,hb,bR hz],fun _=>rfl⟩
 |some a=>
  by_cases e:m=l
  ·refine⟨some a,?_,fun h=>absurd e h⟩
   subst e
   simp[Instr.sliceAt,run_underlying hu,Instr.slice,hb,bR hz]
  ·refine⟨some (a.add (l*sz)),?_,fun _=>?_⟩
   ·simp[Instr.sliceAt,run_underlying hu,Instr.slice,hb,bR hz,e]
   ·simp only[Option.map_some]
    congr 1
    split
    ·rename_i e0;subst e0
     unfold Addr.add;split<;>simp_all
    ·rfl
theorem vU{t:TypeId}{x:Operand}{lo hi mx:Option Operand}{ro:RO}(h:aKx P t x lo hi mx=some ro):
  ∃x1 lo1 hi1 mx1 k,rx x=some x1∧rxo lo=some lo1∧rxo hi=some hi1∧rxo mx=some mx1∧ro=.slc k x1 lo1 hi1 mx1∧
   (match k with|.str=>P.underlying t=some .string|.slice sz=>∃el,P.underlying t=some (.slice el)∧szT P el=some sz|.arr n sz=>∃el,P.underlying t=some (.array n el)∧szT P el=some sz):=by
 unfold aKx at h
 split at h
 ·rename_i x1 lo1 hi1 mx1 hx hlo hhi hmx
  split at h
  ·rename_i hu;cases h;exact⟨_,_,_,_,.str,hx,hlo,hhi,hmx,rfl,hu⟩
  ·rename_i el hu
   cases hs:szT P el with
   |none=>rw[hs]at h;cases h
   |some sz=>rw[hs]at h;cases h;exact⟨_,_,_,_,.slice sz,hx,hlo,hhi,hmx,rfl,el,hu,hs⟩
  ·rename_i n el hu
   cases hs:szT P el with
   |none=>rw[hs]at h;cases h
   |some sz=>rw[hs]at h;cases h;exact⟨_,_,_,_,.arr n sz,hx,hlo,hhi,hmx,rfl,el,hu,hs⟩
  ·cases h
 ·cases h
theorem aDe{E:Env}{t:TypeId}{kd:Kd}{x:V}{lo hi mx:Option V}{x':Value}{lo' hi' mx':Option Value}{v:V}
  (hk:match kd with|.str=>P.underlying t=some .string|.slice sz=>∃el,P.underlying t=some (.slice el)∧szT P el=some sz|.arr n sz=>∃el,P.underlying t=some (.array n el)∧szT P el=some sz)
  (h:sJ kd x lo hi mx=some v)
  (rx:AR E x x') (rl:OptR E lo lo') (rh:OptR E hi hi') (rm:OptR E mx mx') (w:World):∃v',(Instr.sliceAt t x' lo' hi' mx').run P w=.ok v' w∧AR E v v':=by
 unfold sJ at h
 split at h
 ·rename_i s
  have hu:P.underlying t=some .string:=hk
  cases rx with
  |str _ y e=>
  split at h
  ·cases h
  ·cases rm
   split at h
   ·rename_i l hh hl hhh
    split at h
    ·rename_i hc
     cases h
     have hs:y.size=s.length:=by rw[←e,List.length_map,Array.length_toList];rfl
     refine⟨.string (y.extract l hh),?_,.str _ _ (by rw[aAk,e])⟩
     rw[←hs]at hhh hc
     have:=iA (P:=P) w false y.size y.size l hh hl hhh rl rh hc.1 hc.2
     simp[Instr.sliceAt,run_underlying hu,Instr.slice,this]
    ·cases h
   ·cases h
 ·rename_i sz es c
  obtain⟨el,hu,hz⟩:=hk
  split at h
  ·rename_i l hh m hl hhh hm
   split at h
   ·rename_i hcond
    obtain⟨h1,h2,h3⟩:=hcond
    cases hcut:c.cut l hh m es.length with
    |none=>rw[hcut]at h;cases h
    |some c'=>
     rw[hcut]at h;cases h
     obtain⟨A,cap,rfl,hle,hex⟩:=kG rx
     cases mx with
     |none=>
      cases rm
      cases hm
      have hb:=iA (P:=P) w true es.length cap l hh hl hhh rl rh h1 (by omega)
      obtain⟨A',hrun,hA'⟩:=oH hu hz w (A:=A) hb
      have hc':=LC.aMq hcut hle hex (.inl rfl)
      refine⟨_,hrun,?_⟩
      have:=aNi (sz:=sz) rx rfl h1 h2 h3 (cap-l) (by omega) hc'
      by_cases e:cap=l
      ·have e0:hh-l=0:=by omega
       rw[e0]at this⊢
       cases this with
       |lst0 _ _ _ hh0=>exact .lst0 _ _ _ (LC0.any hc' hh0)
      ·rw[hA' e];exact this
     |some mv=>
      cases rm with
      |some _ mv' hr=>
      cases hi with
      |none=>cases hm
      |some hv=>
       simp only at hm
       cases hmi:iP mv with
       |none=>rw[hmi]at hm;cases hm
       |some mm=>
        rw[hmi]at hm;cases hm
        obtain⟨k,_,rfl⟩:=dP hmi hr
        have hhm:hh≤mm:=by
         unfold LC.cut at hcut
         simp only at hcut
         split at hcut<;>split at hcut<;>first|(cases hcut;done)|(rename_i q;exact q.1)
        have hc':=LC.aMq hcut hle hex (.inr ⟨mm,rfl,hhm⟩)
        simp only at hc'
        obtain⟨hmc,rfl⟩:=hc'
        have hb:=oQ (P:=P) w es.length cap l hh mm (k:=k) hl hhh rl rh (by simp) h1 hhm hmc
        obtain⟨A',hrun,hA'⟩:=oH hu hz w (A:=A) hb
        refine⟨_,hrun,?_⟩
        have:=aNi (sz:=sz) (c':=.ex (mm-l)) rx rfl h1 h2 h3 (mm-l) (by omega) ⟨(fun k h=>by cases h;rfl),(fun id h=>by cases h),(by intro h;cases h),(by intro h;cases h)⟩
        by_cases e:mm=l
        ·have e0:hh-l=0:=by omega
         rw[e0]at this⊢
         cases this with
         |lst0 _ _ _ hh0=>exact .lst0 _ _ _ hh0
        ·rw[hA' e];exact this
   ·cases h
  ·cases h
 ·rename_i sz b o len cap
  obtain⟨el,hu,hz⟩:=hk
  split at h
  ·rename_i l hh hl hhh
   split at h
   ·cases rm
    split at h
    ·rename_i z
     split at h
     ·rename_i hc
      obtain⟨h1,h2,rfl⟩:=hc
      cases h
      cases rx with
      |slo _ _ _ _ p c hE hext hn=>
       have:=iA (P:=P) w true len c l hh hl hhh rl rh h1 (by omega)
       by_cases e:c=l
       ·have e1:hh-l=0:=by omega
        refine⟨.slice (some ⟨p.blk,p.off+o,none⟩) 0 0,?_,by rw[e1];exact .sl0 _ _ _ _ (by simp) p hE (fun z' hz'=>by rw[←hext,e];exact Nat.le_refl _)⟩
        subst e
        simp[Instr.sliceAt,run_underlying hu,Instr.slice,this,bR hz,e1]
       ·refine⟨.slice (some ⟨p.blk,p.off+(o+l*z),none⟩) (hh-l) (c-l),?_,.slo _ _ _ _ p _ hE ?_ (by omega)⟩
        ·simp[Instr.sliceAt,run_underlying hu,Instr.slice,this,bR hz,e,add_zero];omega
        ·rw[←hext,Nat.add_assoc,←Nat.add_mul]
         congr 2;omega
      |sl0 _ _ _ a hq p hE hzz=>
       have:=iA (P:=P) w true 0 0 l hh hl hhh rl rh h1 (by omega)
       have e1:l=0:=by omega
       have e2:hh=0:=by omega
       subst e1;subst e2
       exact⟨.slice (some a) 0 0,by simp[Instr.sliceAt,run_underlying hu,Instr.slice,this,bR hz],.sl0 _ _ _ _ (by simp) p hE (fun z' hz'=>by rw[Nat.zero_mul,Nat.add_zero];exact hzz _ rfl)⟩
     ·cases h
    ·rename_i c
     split at h
     ·rename_i hc
      cases h
      cases rx with
      |sl _ _ _ p c hE hnc=>
       have:=iA (P:=P) w true len c l hh hl hhh rl rh hc.1 hc.2
       by_cases e:c=l
       ·refine⟨.slice (some ⟨p.blk,p.off+o,none⟩) (hh-l) (c-l),?_,by rw[if_pos e];exact .sl _ _ _ p _ hE (by omega)⟩
        subst e
        simp[Instr.sliceAt,run_underlying hu,Instr.slice,this,bR hz]
       ·refine⟨.slice (some ⟨p.blk,p.off+(o+l*sz),none⟩) (hh-l) (c-l),?_,by rw[if_neg e];exact .sl _ _ _ p _ hE (by omega)⟩
        simp[Instr.sliceAt,run_underlying hu,Instr.slice,this,bR hz,e,add_zero];omega
      |sl0 _ _ _ a hq p hE hzz=>
       have e0:=hq c rfl
       subst e0
       have:=iA (P:=P) w true 0 0 l hh hl hhh rl rh hc.1 hc.2
       have e1:l=0:=by omega
       have e2:hh=0:=by omega
       subst e1;subst e2
       refine⟨.slice (some a) 0 0,by simp[Instr.sliceAt,run_underlying hu,Instr.slice,this,bR hz],.sl0 _ _ _ _ (by simp) p hE (by simp)⟩
     ·cases h
   ·rename_i mv
    cases hi with
    |none=>cases h
    |some hv=>
    cases hm:iP mv with
    |none=>simp only[hm]at h;cases h
    |some m=>
     simp only[hm]at h
     by_cases hc:l≤hh∧hh≤m∧m≤cap.most len
     ·rw[if_pos hc]at h
      obtain⟨h1,h2,h3⟩:=hc
      cases h
      cases rm with
      |some _ mv' hr=>
       obtain⟨k,_,rfl⟩:=dP hm hr
       have key:∀(p:Place) (c:Nat),E.ob b=some p→m≤c→∃v',(Instr.sliceAt t (.slice (some ⟨p.blk,p.off+o,none⟩) len c) lo' hi' (some (.int k (m:Int)))).run P w=.ok v' w∧AR E (.sl b (if m=l then o else o+l*sz) (hh-l) (.ex (m-l))) v':=by
        intro p c hE hmc
        have:=oQ (P:=P) w len c l hh m (k:=k) hl hhh rl rh (by simp) h1 h2 hmc
        by_cases e:m=l
        ·refine⟨.slice (some ⟨p.blk,p.off+o,none⟩) (hh-l) (m-l),?_,by rw[if_pos e];exact .sl _ _ _ p _ hE (by omega)⟩
         subst e
         simp[Instr.sliceAt,run_underlying hu,Instr.slice,this,bR hz]
        ·refine⟨.slice (some ⟨p.blk,p.off+(o+l*sz),none⟩) (hh-l) (m-l),?_,by rw[if_neg e];exact .sl _ _ _ p _ hE (by omega)⟩
         simp[Instr.sliceAt,run_underlying hu,Instr.slice,this,bR hz,e,add_zero];omega
       cases rx with
       |sl _ _ _ p c hE hnc=>exact key p c hE h3
       |slo _ _ _ z p c hE hext hn=>exact key p c hE (Nat.le_trans h3 hn)
       |sl0 _ _ cc a hq p hE hzz=>
        have h3':m=0:=by
         cases cap with
         |op z=>simp[Cp.most]at h3;omega
         |ex k=>have:=hq k rfl;simp[Cp.most]at h3;omega
        subst h3'
        have e1:hh=0:=by omega
        have e2:l=0:=by omega
        subst e1;subst e2
        have:=oQ (P:=P) w 0 0 0 0 0 (k:=k) hl hhh rl rh (by simp) (Nat.le_refl _) (Nat.le_refl _) (Nat.le_refl _)
        refine⟨.slice (some a) 0 0,?_,.sl0 _ _ _ _ (by simp) p hE (by simp)⟩
        simp only[Instr.sliceAt,Sem.run_bind,run_underlying hu,Result.andThen_ok,Instr.slice,this,bR hz]
        simp
     ·rw[if_neg hc]at h;cases h
  ·cases h
 ·rename_i n sz b o
  obtain⟨el,hu,hz⟩:=hk
  split at h
  ·rename_i l hh hl hhh
   cases rm
   split at h
   ·rename_i hc
    cases h
    cases rx with
    |ptr _ _ p hE=>
     have:=iA (P:=P) w false n n l hh hl hhh rl rh hc.1 hc.2
     by_cases e:n=l
     ·refine⟨.slice (some ⟨p.blk,p.off+o,none⟩) (hh-l) (n-l),?_,by rw[if_pos e];exact .sl _ _ _ p _ hE (by omega)⟩
      subst e
      simp[Instr.sliceAt,run_underlying hu,Instr.sureAddr,this,bR hz]
     ·refine⟨.slice (some ⟨p.blk,p.off+(o+l*sz),none⟩) (hh-l) (n-l),?_,by rw[if_neg e];exact .sl _ _ _ p _ hE (by omega)⟩
      simp[Instr.sliceAt,run_underlying hu,Instr.sureAddr,this,bR hz,e,add_zero];omega
   ·cases h
  ·cases h
 ·cases h
end Go.VM
end
section
/- The machine of values: operations that change nothing, all of them. -/
namespace Go.VM
open Go.RowKit
variable{P:Program}
def Light(P:Program)(gl:List Nat)(nt:Nat)(tm:TM)(h:H)(o:Oper)(tv:TV):Prop:=
 ∀(E:Env) (F:Fx) (w0 w:World) (tmps:Array Value),MR E F h w0 w→GL E gl→TR E F.loc nt tm tmps→∃v',(execOp (evT tmps) o).run P w=.ok (.value v') w∧TVR E F.loc tv v'
theorem vO{E:Env}{w:World}{blk off o:Nat}{cs:List V}{t:TypeId}{n:Option Nat}{v:V}(s:Seen E w blk off cs)(hn:uL P t=some n)(h:kA cs o n=some v):
  ∃v',(Instr.loadAt t (.pointer (some ⟨blk,off+o,none⟩))).run P w=.ok v' w∧AR E v v':=by
 rcases aBj hn with⟨k,rfl,ha,hs⟩|⟨rfl,ha⟩
 ·simp only[kA]at h
  cases hr:jS cs o k with
  |none=>rw[hr]at h;cases h
  |some l=>
   rw[hr]at h;cases h
   obtain⟨l',h1,h2,h3,h4,h5⟩:=s.read (P:=P) hr
   exact⟨.agg l'.toArray,by simp[Instr.loadAt,Instr.sureAddr,loadVar,nP ha,bR hs,h1],.agg _ _ h2⟩
 ·simp only[kA]at h
  obtain⟨v',h1,h2⟩:=s.one h
  exact⟨v',by simp[Instr.loadAt,Instr.sureAddr,loadVar,nP ha,h1],h2⟩
theorem aBr{E:Env}{F:Fx}{h:H}{w0 w:World}(m:MR E F h w0 w){a:TV}{a':Value}{t:TypeId}{n:Option Nat}{v:V}(r:TVR E F.loc a a')(hn:uL P t=some n)(hl:ldA h a n=some v):
  ∃v',(Instr.loadAt t a').run P w=.ok v' w∧AR E v v':=by
 cases r with
 |v x _ r=>
  cases r with
  |ptr b o p hE=>
   simp only[ldA]at hl
   split at hl
   ·rename_i op cs hb
    exact vO (CellsR.seen (m.obj b _ p hb hE)) hn hl
   ·cases hl
  |_=>simp[ldA]at hl
 |l d o p hd=>
  simp only[ldA]at hl
  split at hl
  ·rename_i cs hc
   obtain⟨a1,a2,cs',a3,a4⟩:=m.loc d p hd
   rw[hc]at a3;cases a3
   exact vO a4.seen hn hl
  ·cases hl
 |e cs blk off hf=>exact vO (m.seen hf) hn (by simpa [ldA] using hl)
theorem aCc{E:Env}{L:Nat→Option Place}{a:TV}{a':Value}{off:Nat}{tv:TV}(r:TVR E L a a')(h:faA a off=some tv):∃A:Addr,a'=.pointer (some A)∧TVR E L tv (.pointer (some (A.add off))):=by
 cases r with
 |v x _ r=>
  cases r with
  |ptr b o p hE=>cases h;exact⟨_,rfl,by rw[add_zero,Nat.add_assoc];exact .v _ _ (.ptr b (o+off) p hE)⟩
  |_=>simp[faA]at h
 |l d o p hd=>cases h;exact⟨_,rfl,by rw[add_zero,Nat.add_assoc];exact .l d (o+off) p hd⟩
 |e cs blk o hf=>cases h;exact⟨_,rfl,by rw[add_zero];exact .e _ _ _ (hf.drop off)⟩
theorem aHh{E:Env}{l:List V}{c:Array Value}{vs:List V}{vs':List Value}{off:Nat}(r:ARs E l c.toList)(rv:ARs E vs vs')(h:off+vs.length≤l.length):
  ARs E (l.take off++vs++l.drop (off+vs.length)) (eI c off vs').toList:=by
 have hl:=r.length
 have hv:=rv.length
 have hcs:c.size=l.length:=by rw[hl];simp
 refine ARs.eY (by rw[show(eI c off vs').toList.length=c.size from by rw[Array.length_toList,eL]];simp;omega) fun i v hi=>?_
 rw[Array.getElem?_toList]
 by_cases h1:i<off
 ·have:l[i]? =some v:=by
   rw[List.append_assoc,List.getElem?_append_left (by simp;omega),List.getElem?_take,if_pos h1]at hi
   exact hi
  obtain⟨v',a,b⟩:=r.get i v this
  exact⟨v',by rw[fE _ _ _ _ (by omega)];simpa using a,b⟩
 ·by_cases h2:i<off+vs.length
  ·have:vs[i-off]? =some v:=by
    rw[List.append_assoc,List.getElem?_append_right (by simp;omega),List.getElem?_append_left (by simp;omega)]at hi
    rwa[show i-(l.take off).length=i-off by simp;omega]at hi
   obtain⟨v',a,b⟩:=rv.get (i-off) v this
   refine⟨v',?_,b⟩
   have:=kS vs' c off (i-off) (by omega) (by omega)
   rw[show off+(i-off)=i by omega]at this
   rw[this,a]
  ·have:l[i]? =some v:=by
    rw[List.getElem?_append_right (by simp;omega),List.getElem?_drop]at hi
    rwa[show off+vs.length+(i-(l.take off++vs).length)=i by simp;omega]at hi
   obtain⟨v',a,b⟩:=r.get i v this
   exact⟨v',by rw[fE _ _ _ _ (by omega)];simpa using a,b⟩
theorem rN{E:Env}{place:Nat→Option (Nat×Nat)}{ps:List (Nat×V)}{ps':List (Nat×Value)}(rp:PsR E ps ps'):∀{cells:List V} {cells':Array Value} {r:List V},oJ place cells ps=some r→ARs E cells cells'.toList→
  ∃r',Instr.fill place cells' ps'=some r'∧ARs E r r'.toList:=by
 induction rp with
 |nil=>intro cells cells' r h rc;simp[oJ]at h;subst h;exact⟨cells',rfl,rc⟩
 |cons i v v' l l' hv t ih=>
  intro cells cells' r h rc
  simp only[oJ]at h
  split at h
  ·cases h
  ·rename_i off size hp
   split at h
   ·cases h
   ·rename_i h1
    have h1:=of_decide_eq_true h1
    split at h
    ·rename_i cells2 hput
     obtain⟨h2,rfl⟩:=aFk hput
     have hvc:=hv.cells
     have e1:v'.cells.size=size:=by rw[←h1,hvc.length];simp
     have e2:cells'.size=cells.length:=by rw[rc.length];simp
     have hcond:¬(v'.cells.size≠size||off+v'.cells.size>cells'.size)=true:=by
      simp only[e1,e2];simp;omega
     have rw':=aHh rc hvc h2
     obtain⟨r',hr,hrr⟩:=ih h rw'
     refine⟨r',?_,hrr⟩
     simp only[Instr.fill,hp]
     rw[if_neg hcond]
     have:=aAj cells' v'.cells.toList off 0
     rw[←Array.foldl_toList,Array.toList_zipIdx,this,Nat.add_zero]
     exact hr
    ·cases h
theorem vJ{kt:TypeId}{d:ED}(h:wK P kt=some d):∃td,P.underlying kt=some td∧((d=.int∧∃k,td=.int k)∨(d=.str∧td=.string)∨(d=.bool∧td=.bool)):=by
 unfold wK at h
 split at h<;>cases h
 ·rename_i k hu;exact⟨_,hu,.inl ⟨rfl,k,rfl⟩⟩
 ·rename_i hu;exact⟨_,hu,.inr (.inl ⟨rfl,rfl⟩)⟩
 ·rename_i hu;exact⟨_,hu,.inr (.inr ⟨rfl,rfl⟩)⟩
theorem iI{E:Env}{k k2:V}{k' k2':Value}{b:Bool}{d:ED}{td:TypeDesc}(hd:(d=.int∧∃k,td=.int k)∨(d=.str∧td=.string)∨(d=.bool∧td=.bool))(hf:fJ d k=true)(h:jE k k2=some b)(r:AR E k k')(r2:AR E k2 k2'):Instr.sameNow td k' k2'=some b:=by
 rcases hd with⟨rfl,kk,rfl⟩|⟨rfl,rfl⟩|⟨rfl,rfl⟩
 ·cases k<;>simp[fJ]at hf
  cases k2<;>simp[jE]at h
  obtain⟨rfl,rfl⟩:=h
  cases r;cases r2;simp[Instr.sameNow];rfl
 ·cases k<;>simp[fJ]at hf
  cases k2<;>simp[jE]at h
  cases r with
  |str _ x e=>cases r2 with
   |str _ y e2=>
    simp only[Instr.sameNow];rw[beq_toListBytes,str_inj e e2,←h]
    congr 1
    rw[Bool.eq_iff_iff,tS,decide_eq_true_eq]
 ·cases k<;>simp[fJ]at hf
  cases k2<;>simp[jE]at h
  cases r;cases r2;simp[Instr.sameNow,h]
theorem run_checkKey{td:TypeDesc}{kt:TypeId}(hu:P.underlying kt=some td){E:Env}{k:V}{k':Value}{d:ED}(hd:(d=.int∧∃k,td=.int k)∨(d=.str∧td=.string)∨(d=.bool∧td=.bool))(hf:fJ d k=true)(r:AR E k k')(w:World)(b:Bool):(Instr.checkKey b 10000 kt k').run P w=.ok () w:=by
 rcases hd with⟨rfl,kk,rfl⟩|⟨rfl,rfl⟩|⟨rfl,rfl⟩<;>cases k<;>simp[fJ]at hf<;>cases r<;>(rw[show(10000:Nat)=9999+1 from rfl,Instr.checkKey];simp[run_underlying hu])
abbrev aEp(E:Env):V×V→MapEntry→Prop:=fun e m=>AR E e.1 m.key∧AR E e.2 m.val
theorem aKz{E:Env}{k:V}{k':Value}{d:ED}{td:TypeDesc}(hd:(d=.int∧∃k,td=.int k)∨(d=.str∧td=.string)∨(d=.bool∧td=.bool))(hf:fJ d k=true)(rk:AR E k k'){es:List (V×V)}{ents:List MapEntry}(rp:All₂ (aEp E) es ents):∀{r:Option V} (i:Nat),lY k es=some r→
  (r=none∧Instr.findNow td k' ents i=some none)∨∃j v v',r=some v∧AR E v v'∧Instr.findNow td k' ents i=some (some (i+j,v'))∧∃e,ents[j]? =some e∧e.val=v':=by
 induction rp with
 |nil=>intro r i h;simp[lY]at h;subst h;exact .inl ⟨rfl,rfl⟩
 | @cons e m es ents hr t ih=>
  intro r i h
  simp only[lY]at h
  split at h
  ·rename_i hq
   cases h
   have:=iI hd hf hq rk hr.1
   exact .inr ⟨0,e.2,m.val,rfl,hr.2,by simp[Instr.findNow,this],m,rfl,rfl⟩
  ·rename_i hq
   have:=iI hd hf hq rk hr.1
   rcases ih (i+1) h with⟨h1,h2⟩|⟨j,v,v',h1,h2,h3,e',h4,h5⟩
   ·exact .inl ⟨h1,by simp[Instr.findNow,this,h2]⟩
   ·exact .inr ⟨j+1,v,v',h1,h2,by simp[Instr.findNow,this,h3];omega,e',by simpa using h4,h5⟩
  ·cases h
theorem rG{E:Env}:∀{l:List V} {bs:List Nat} {l':List Value},bytesOf l=some bs→ARs E l l'→l'=(bs.map fun n:Nat=>(n:Int)).map (Value.int .u8)∧∀n∈bs,n<256
 |[],bs,l',h,r=>by simp[bytesOf]at h;subst h;cases r;simp
 |v::l,bs,l',h,r=>by
  cases r with
  |cons _ v' _ l2 hv t=>
   cases v with
   |int k n=>
    cases k<;>first|(simp[bytesOf]at h;done)|skip
    cases n with
    |negSucc m=>simp[bytesOf]at h
    |ofNat m=>
     simp only[bytesOf]at h
     split at h
     ·rename_i hm
      cases hb:bytesOf l with
      |none=>rw[hb]at h;cases h
      |some bs'=>
       rw[hb]at h;cases h
       obtain⟨e,f⟩:=rG hb t
       cases hv
       refine⟨by rw[e];rfl,?_⟩
       intro n hn
       cases hn with
       |head=>exact hm
       |tail _ hn=>exact f n hn
     ·cases h
   |_=>simp[bytesOf]at h
theorem yJ{E:Env}{w:World}{s d el:TypeId}{cs:List V}{bs:List Nat}{l':List Value}{A:Option Addr}{n c:Nat}(hs:P.underlying s=some (.slice el))(hel:P.underlying el=some (.int .u8))(hd:P.underlying d=some .string)
  (hb:bytesOf cs=some bs) (rl:ARs E cs l') (hl:match A with|some A=>(loadCells A n).run P w=.ok l'.toArray w|none=>n=0∧bs=[]):∃v',(convert s d (.slice A n c)).run P w=.ok v' w∧AR E (.str bs) v':=by
 obtain⟨e,f⟩:=rG hb rl
 cases A with
 |none=>
  obtain⟨rfl,rfl⟩:=hl
  refine⟨.string ByteArray.empty,?_,.str [] ByteArray.empty rfl⟩
  rw[run_convert_bytes_string w s d el _ _ _ hs hel hd];rfl
 |some A=>
  have hl':(loadCells A n).run P w=.ok l'.toArray w:=hl
  rw[e]at hl'
  refine⟨_,by rw[run_convert_bytes_string w s d el _ _ _ hs hel hd,run_bytesToString w A n c _ hl'],.str _ _ ?_⟩
  rw[fold_push _ _ f];simp
theorem aUs{E:Env}{F:Fx}{h:H}{w0 w:World}(m:MR E F h w0 w){b o len:Nat}{cap:Cp}{x':Value}{op:Bool}{cs l:List V}(r:AR E (.sl b o len cap) x')(hb:h.ob b=some (.cells op cs))(hr:jS cs o len=some l):
  ∃A c l',x'=.slice (some A) len c∧(loadCells A len).run P w=.ok l'.toArray w∧ARs E l l':=by
 cases r with
 |sl _ _ _ p c hE hn=>
  obtain⟨l',h1,h2,_⟩:=(CellsR.seen (m.obj b _ p hb hE)).read (P:=P) hr
  exact⟨_,_,l',rfl,h1,h2⟩
 |slo _ _ _ z p c hE hc hn=>
  obtain⟨l',h1,h2,_⟩:=(CellsR.seen (m.obj b _ p hb hE)).read (P:=P) hr
  exact⟨_,_,l',rfl,h1,h2⟩
 |sl0 _ _ _ a hc p hE hz=>
  obtain⟨_,rfl⟩:=tN hr
  exact⟨a,0,[],rfl,rfl,by simpa using ARs.nil⟩
theorem aQx{E:Env}{F:Fx}{h:H}{w0 w:World}(m:MR E F h w0 w){es:List (List V)}{c:LC}{x':Value}(r:AR E (.lst es c) x')(h1:es.flatten.length=es.length):
  ∃A n cap l',x'=.slice A n cap∧ARs E es.flatten l'∧(match A with|some A=>(loadCells A n).run P w=.ok l'.toArray w|none=>n=0∧es=[]):=by
 cases r with
 |lst0 _ a cap hc=>
  cases a with
  |none=>exact⟨none,0,cap,[],rfl,.nil,rfl,rfl⟩
  |some A=>exact⟨some A,0,cap,[],rfl,.nil,by simp[loadCells,loadCellsFrom]⟩
 |lst e es' _ blk off n cap z hf hn hle hr=>
  obtain⟨f1,f2⟩:=hf.flat
  have hn':(e::es').flatten.length=n:=by rw[h1,hn];rfl
  have hread:jS (e::es').flatten 0 n=some (e::es').flatten:=by
   exact qE hn'
  obtain⟨l',g1,g2,_⟩:=(m.seen f1).read (P:=P) hread
  exact⟨_,_,_,l',rfl,g2,by simpa using g1⟩
section
variable{E:Env}{F:Fx}{gl:List Nat}{nt:Nat}{tm:TM}{hh:H}{w0 w:World}{tmps:Array Value}
theorem bJh{L:Nat→Option Place}{v:V}{v':Value}(h:TVR E L (.v v) v'):AR E v v':=by cases h with|v _ _ h=>exact h
def bLq(es:List (List V)):Prop:=∀e∈es,e.length=1
theorem aWa{es:List (List V)}(h:bLq es):es.flatten.length=es.length:=by
 induction es with
 |nil=>rfl
 |cons e es ih=>
  have:=h e (by simp)
  have:=ih (fun x hx=>h x (by simp[hx]))
  simp[*];omega
theorem bCb{n:Int}(h:(Nat.ble 1 n.toNat&&Nat.ble n.toNat 127)=true):(Utf8.encode n).data.toList.map UInt8.toNat=[n.toNat]:=by
 simp only[Bool.and_eq_true,Nat.ble_eq]at h
 have hv:Utf8.valid n=true:=by simp[Utf8.valid];omega
 unfold Utf8.encode
 simp only[hv,if_true]
 rw[if_pos (by omega)]
 simp
 omega
set_option maxHeartbeats 4000000 in
theorem aGw{o:Oper}{ro:RO}{tv:TV}(ho:rop P o=some ro)(h:rl gl tm hh ro=some tv)(hby:∀x es c,ro=.cvb x→rv gl tm x=some (.lst es c)→bLq es):Light P gl nt tm hh o tv:=by
 intro E F w0 w tmps m hg r
 have fin:∀{s:Sem Value} {v':Value},s.run P w=.ok v' w→(do pure (Next.value (←s)):Sem Next).run P w=.ok (.value v') w:=by
  intro s v' hs;simp[hs]
 have wrap:∀{s:Sem Value} {v:V},(∃v',s.run P w=.ok v' w∧AR E v v')→(execOp (evT tmps) o=do pure (Next.value (←s)))→∃v',(execOp (evT tmps) o).run P w=.ok (.value v') w∧TVR E F.loc (.v v) v':=by
  rintro s v ⟨v',h1,h2⟩ e;exact⟨v',by rw[e];exact fin h1,.v _ _ h2⟩
 obtain⟨dst,op,ty,pos,after,guard⟩:=o
 cases op with
 |move x=>
  simp only[rop]at ho
  cases hx:rx x with
  |none=>rw[hx]at ho;cases ho
  |some y=>rw[hx]at ho;cases ho;exact⟨_,rfl,dQ hg r hx h⟩
 |assign x=>
  simp only[rop]at ho
  cases hx:rx x with
  |none=>rw[hx]at ho;cases ho
  |some y=>rw[hx]at ho;cases ho;exact⟨_,rfl,dQ hg r hx h⟩
 |pick c a b=>
  simp only[rop]at ho
  split at ho
  ·rename_i c1 a1 b1 hc ha hb
   cases ho
   simp only[rl]at h
   split at h
   ·rename_i hcc
    have:=aH hg r hc hcc
    cases hcv:evT tmps c<;>rw[hcv]at this<;>cases this
    exact⟨evT tmps a,by simp[execOp,hcv,asBool],dQ hg r ha h⟩
   ·rename_i hcc
    have:=aH hg r hc hcc
    cases hcv:evT tmps c<;>rw[hcv]at this<;>cases this
    exact⟨evT tmps b,by simp[execOp,hcv,asBool],dQ hg r hb h⟩
   ·cases h
  ·cases ho
 |build t parts=>
  simp only[rop]at ho
  split at ho
  ·rename_i z fields ps hz hu hps
   cases hpl:places P fields.toList with
   |none=>rw[hpl]at ho;cases ho
   |some pl=>
    rw[hpl]at ho;cases ho
    simp only[rl]at h
    split at h
    ·rename_i vs hvs
     have rp:=qF hg r hps hvs
     cases hf:oJ (pl[·]?) z.cells vs with
     |none=>rw[hf]at h;cases h
     |some l=>
      rw[hf]at h;cases h
      obtain⟨z',hz',rz⟩:=iL E hz w
      obtain⟨c',hc',rc⟩:=rN rp hf rz.cells
      refine wrap (s:=Instr.build t (parts.map fun p=>(p.1,evT tmps p.2))) ⟨.agg c',?_,.agg _ _ rc⟩ rfl
      have hm:=uH (fs:=[]) (pl:=[]) (P:=P) w hpl
      have hm':(fields.mapM (m:=Sem) fun f=>do pure (f.offset,←sizeOf f.type)).run P w=.ok pl.toArray w:=by
       rw[Array.mapM_eq_mapM_toList,Sem.run_map,hm];rfl
      simp only[Instr.build,Sem.run_bind,hz',Result.andThen_ok,run_underlying hu,hm']
      have e:(fun x:Nat=>pl.toArray[x]?)=(fun x:Nat=>pl[x]?):=by funext x;simp
      simp[e,hc']
    ·cases h
  ·cases ho
 |load t a=>
  simp only[rop]at ho
  split at ho
  ·rename_i a1 n ha hn
   cases ho
   simp only[rl]at h
   split at h
   ·rename_i av hav
    have ra:=dQ hg r ha hav
    cases hl:ldA hh av n with
    |none=>rw[hl]at h;cases h
    |some v=>rw[hl]at h;cases h;exact wrap (s:=Instr.loadAt t (evT tmps a)) (aBr m ra hn hl) rfl
   ·cases h
  ·cases ho
 |nilCheck x=>
  simp only[rop]at ho
  cases hx:rx x with
  |none=>rw[hx]at ho;cases ho
  |some y=>
   rw[hx]at ho;cases ho
   simp only[rl]at h
   split at h
   ·rename_i b o ha
    cases h
    have:=dQ hg r hx ha
    cases this with
    |v _ _ this=>
    cases hcv:evT tmps x<;>rw[hcv]at this<;>cases this
    rename_i p hE
    exact⟨_,by simp[execOp,hcv],.v _ _ (.ptr b o p hE)⟩
   ·rename_i f a c ha
    cases h
    have:=dQ hg r hx ha
    cases this with
    |v _ _ this=>
    cases hcv:evT tmps x<;>rw[hcv]at this<;>cases this
    rename_i a' c' h1 h2
    exact⟨_,by simp[execOp,hcv],.v _ _ (.fn f a c a' c' h1 h2)⟩
   ·rename_i d o ha
    cases h
    have:=dQ hg r hx ha
    cases hcv:evT tmps x<;>rw[hcv]at this<;>cases this
    ·rename_i p hE
     exact⟨_,by simp[execOp,hcv],.l d o p hE⟩
   ·rename_i cs ha
    cases h
    have:=dQ hg r hx ha
    cases hcv:evT tmps x<;>rw[hcv]at this<;>cases this
    ·rename_i blk off hE
     exact⟨_,by simp[execOp,hcv],.e cs _ _ hE⟩
   ·cases h
 |binOp op t x y yt=>
  simp only[rop,bFu]at ho
  have heq:∀neg:Bool,aQg P neg t x y=some ro→(op=if neg then .neq else .eql)→∃v',(execOp (evT tmps) ⟨dst,.binOp op t x y yt,ty,pos,after,guard⟩).run P w=.ok (.value v') w∧TVR E F.loc tv v':=by
   intro neg ho hop
   unfold aQg at ho
   split at ho
   ·rename_i ms hu
    have hnn:∀k,(Op.equalIn (k+1) t .nilIface .nilIface).run P w=.ok true w:=fun k=>by simp[Op.equalIn,run_underlying hu]
    have hin:∀k t0 v0,(Op.equalIn (k+1) t (.iface t0 v0) .nilIface).run P w=.ok false w:=fun k t0 v0=>by simp[Op.equalIn,run_underlying hu]
    split at ho
    ·cases hx:rx x with
     |none=>rw[hx]at ho;cases ho
     |some a=>
      rw[hx]at ho;cases ho
      simp only[rl]at h
      split at h
      ·rename_i hv
       cases h
       have rxx:=aH hg r hx hv
       cases hcv:evT tmps x<;>rw[hcv]at rxx<;>cases rxx
       refine⟨.bool (!neg),?_,.v _ _ (.bool _)⟩
       have he:(Op.equal t .nilIface .nilIface).run P w=.ok true w:=hnn 9999
       have hev:evT tmps (.const .nilIface)=.nilIface:=rfl
       cases neg<;>subst hop<;>cases x<;>simp[execOp,hcv,hev,eqGuard,binOp,he]
      ·rename_i t0 v0 hv
       cases h
       have rxx:=aH hg r hx hv
       cases hcv:evT tmps x<;>rw[hcv]at rxx<;>cases rxx
       rename_i v0' _
       refine⟨.bool neg,?_,.v _ _ (.bool _)⟩
       have he:(Op.equal t (.iface t0 v0') .nilIface).run P w=.ok false w:=hin 9999 _ _
       have hev:evT tmps (.const .nilIface)=.nilIface:=rfl
       cases neg<;>subst hop<;>simp[execOp,hcv,hev,eqGuard,binOp,he]
      ·cases h
    ·cases ho
   ·rename_i el hu
    have key:∀(a:Option Addr) (n c n2 c2:Nat) (q:Bool),a.isNone=q→evT tmps x=.slice a n c→y=.const (.slice none n2 c2)→∃v',(execOp (evT tmps) ⟨dst,.binOp op t x y yt,ty,pos,after,guard⟩).run P w=.ok (.value v') w∧TVR E F.loc (.v (.bool (neg !=q))) v':=by
     intro a n c n2 c2 q hq hcv hy
     subst hy
     refine⟨.bool (neg !=q),?_,.v _ _ (.bool _)⟩
     have hn:∀k,(Op.equalIn (k+1) t (.slice a n c) (.slice none n2 c2)).run P w=.ok q w:=fun k=>by
      subst hq
      cases a with
      |none=>simp[Op.equalIn,run_underlying hu]
      |some a=>simp[Op.equalIn,run_underlying hu]
     have he:(Op.equal t (.slice a n c) (.slice none n2 c2)).run P w=.ok q w:=hn 9999
     have hev:evT tmps (.const (.slice none n2 c2))=.slice none n2 c2:=rfl
     cases neg<;>subst hop<;>simp[execOp,hcv,hev,eqGuard,binOp,he]
    split at ho
    ·rename_i n2 c2 _
     cases hx:rx x with
     |none=>rw[hx]at ho;cases ho
     |some a=>
      rw[hx]at ho;cases ho
      simp only[rl]at h
      split at h
      ·rename_i e es c hv
       cases h
       have rxx:=aH hg r hx hv
       generalize hcv:evT tmps x=xv at rxx
       cases rxx with
       |lst _ _ _ blk off n cap z _ _ _ _=>
        have:=key _ _ _ n2 c2 false rfl hcv rfl
        cases neg<;>exact this
      ·rename_i hv
       cases h
       have rxx:=aH hg r hx hv
       generalize hcv:evT tmps x=xv at rxx
       cases rxx with
       |lst0 _ a cap e=>
        have e:a=none:=e
        subst e
        have:=key _ _ _ n2 c2 true rfl hcv rfl
        cases neg<;>exact this
      ·rename_i hv
       cases h
       have rxx:=aH hg r hx hv
       generalize hcv:evT tmps x=xv at rxx
       cases rxx with
       |lst0 _ a cap e=>
        cases a with
        |none=>cases e
        |some a=>
         have:=key _ _ _ n2 c2 false rfl hcv rfl
         cases neg<;>exact this
      ·rename_i b0 o0 n0 c0 hv
       cases h
       have rxx:=aH hg r hx hv
       generalize hcv:evT tmps x=xv at rxx
       have fin:∀(A:Addr) (n c:Nat),evT tmps x=.slice (some A) n c→∃v',(execOp (evT tmps) ⟨dst,.binOp op t x (.const (.slice none n2 c2)) yt,ty,pos,after,guard⟩).run P w=.ok (.value v') w∧TVR E F.loc (.v (.bool neg)) v':=by
        intro A n c hcv
        have:=key _ _ _ n2 c2 false rfl hcv rfl
        cases neg<;>exact this
       cases rxx<;>exact fin _ _ _ hcv
      ·cases h
    ·cases ho
   ·rename_i hni _
    split at ho
    ·rename_i d a b hd hx hy
     cases ho
     simp only[rl]at h
     split at h
     ·rename_i av bv hav hbv
      cases hq:eqV d av bv with
      |none=>rw[hq]at h;cases h
      |some q=>
       rw[hq]at h;cases h
       have ra:=aH hg r hx hav
       have rb:=aH hg r hy hbv
       have he:=aRn (P:=P) hd hq ra rb w
       have hkk:∀k a k' b,av=.int k a→bv=.int k' b→k=k':=by
        intro k a k' b e1 e2
        subst e1;subst e2
        cases d<;>simp only[eqV,eqB]at hq<;>first|(cases hq;done)|skip
        split at hq
        ·rename_i hk;exact of_decide_eq_true hk
        ·cases hq
       have hii:∀k a c,av=.int k a→bv=.int k c→q=decide (a=c):=by
        intro k a c e1 e2
        subst e1;subst e2
        cases d<;>simp only[eqV,eqB]at hq<;>first|(cases hq;done)|skip
        split at hq
        ·cases hq;rfl
        ·cases hq
       have hss:∀a c,av=.str a→bv=.str c→q=decide (a=c):=by
        intro a c e1 e2
        subst e1;subst e2
        cases d<;>simp only[eqV,eqB]at hq<;>first|(cases hq;done)|(cases hq;rfl)
       obtain⟨b1,b2⟩:=binOp_eql (P:=P) (t:=t) ra rb hkk w q he hii hss
       have hgu:∀op,(op=.eql∨op=.neq)→(eqGuard op t x y (evT tmps x) (evT tmps y)).run P w=.ok () w:=by
        intro op hop
        have hag:∀l l2,av=.agg l→bv=.agg l2→P.eqGuardType P.depth t=false:=by
         intro l l2 e1 e2
         unfold eqD at hd
         split at hd
         ·split at hd
          ·cases hd
          ·rename_i hs
           rw[Bool.or_eq_false_iff]at hs;exact hs.2
         ·exfalso
          subst e1;subst e2
          unfold aAg at hd
          split at hd<;>cases hd<;>simp[eqV,eqB]at hq
        have hni2:av≠.fF:=by
         rintro rfl
         cases d<;>simp[eqV,eqB]at hq
        generalize evT tmps x=xv at ra
        generalize evT tmps y=yv at rb
        rcases hop with rfl|rfl
        all_goals
         cases ra with
         |fF=>exact absurd rfl hni2
         |agg l cs hl=>cases rb with
          |agg l2 cs2 hl2=>simp[eqGuard,hag _ _ rfl rfl]
          |_=>rfl
         |_=>rfl
       cases neg with
       |false=>subst hop;exact⟨.bool q,by simp[execOp,hgu .eql (.inl rfl),b1],.v _ _ (.bool _)⟩
       |true=>subst hop;exact⟨.bool (!q),by simp[execOp,hgu .neq (.inr rfl),b2],.v _ _ (.bool _)⟩
     ·cases h
    ·cases ho
  have hbin:(match rx x,rx y with
    |some a,some b=>some (RO.bin op a b)
    |_,_=>none)=some ro→op≠.eql→op≠.neq→∃v',(execOp (evT tmps) ⟨dst,.binOp op t x y yt,ty,pos,after,guard⟩).run P w=.ok (.value v') w∧TVR E F.loc tv v':=by
   intro ho h1 h2
   split at ho
   ·rename_i a b hx hy
    cases ho
    simp only[rl]at h
    split at h
    ·rename_i av bv hav hbv
     cases hq:aZy op av bv with
     |none=>rw[hq]at h;cases h
     |some q=>
      rw[hq]at h;cases h
      have ra:=aH hg r hx hav
      have rb:=aH hg r hy hbv
      obtain⟨v',h3,h4⟩:=aLo (P:=P) (t:=t) hq ra rb w
      have hgu:(eqGuard op t x y (evT tmps x) (evT tmps y)).run P w=.ok () w:=by
       cases op<;>first|exact absurd rfl h1|exact absurd rfl h2|rfl
      exact⟨v',by simp[execOp,hgu,h3],.v _ _ h4⟩
    ·cases h
   ·cases ho
  cases op with
  |eql=>exact heq false ho rfl
  |neq=>exact heq true ho rfl
  |_=>exact hbin ho (by simp) (by simp)
 |unOp op t x=>
  simp only[rop]at ho
  cases hx:rx x with
  |none=>rw[hx]at ho;cases ho
  |some y=>
   rw[hx]at ho;cases ho
   simp only[rl]at h
   split at h
   ·rename_i b ha
    cases h
    have:=aH hg r hx ha
    cases hcv:evT tmps x<;>rw[hcv]at this<;>cases this
    exact⟨_,by simp[execOp,hcv,Op.unary]<;>rfl,.v _ _ (.bool _)⟩
   ·rename_i k n ha
    cases h
    have:=aH hg r hx ha
    cases hcv:evT tmps x<;>rw[hcv]at this<;>cases this
    exact⟨_,by simp[execOp,hcv,Op.unary,Op.intArith]<;>rfl,.v _ _ (.int _ _)⟩
   ·rename_i k n ha
    cases h
    have:=aH hg r hx ha
    cases hcv:evT tmps x<;>rw[hcv]at this<;>cases this
    exact⟨_,by simp only[execOp,hcv,Op.unary];rfl,.v _ _ (.int _ _)⟩
   ·cases h
 |convert s d x=>
  simp only[rop,aBk]at ho
  split at ho
  ·rename_i k0 k x1 hs hd hx
   cases ho
   simp only[rl]at h
   split at h
   ·rename_i k2 n ha
    cases h
    have:=aH hg r hx ha
    cases hcv:evT tmps x<;>rw[hcv]at this<;>cases this
    exact wrap (s:=convert s d (evT tmps x)) ⟨_,by simp[hcv,convert,run_underlying hs,run_underlying hd,Conv.intToInt]<;>rfl,.int _ _⟩ rfl
   ·cases h
  ·rename_i x1 hs hd hx
   cases ho
   simp only[rl]at h
   split at h
   ·rename_i sv ha
    cases h
    have:=aH hg r hx ha
    cases hcv:evT tmps x<;>rw[hcv]at this<;>cases this
    rename_i e
    refine wrap (s:=convert s d (evT tmps x)) ⟨_,?_,.str _ _ e⟩ rfl
    rw[hcv]
    simp[convert,run_underlying hs,run_underlying hd]
   ·cases h
  ·rename_i k0 x1 hs hd hx
   cases ho
   simp only[rl]at h
   split at h
   ·rename_i k2 n ha
    split at h
    ·rename_i hb
     cases h
     have:=aH hg r hx ha
     cases hcv:evT tmps x<;>rw[hcv]at this<;>cases this
     refine wrap (s:=convert s d (evT tmps x)) ⟨.string (Utf8.encode n),?_,.str _ _ (bCb hb)⟩ rfl
     rw[hcv]
     simp[convert,run_underlying hs,run_underlying hd,Conv.intToString]<;>rfl
    ·cases h
   ·cases h
  ·rename_i el x1 hs hd hx
   split at ho
   ·rename_i hel
    cases ho
    simp only[rl]at h
    split at h
    ·rename_i es c ha
     cases hbo:bytesOf es.flatten with
     |none=>rw[hbo]at h;cases h
     |some bs=>
      rw[hbo]at h;cases h
      have rxx:=aH hg r hx ha
      obtain⟨A,n,cap,l',e1,e2,e3⟩:=aQx (P:=P) m rxx (aWa (hby _ _ _ rfl ha))
      refine wrap (s:=convert s d (evT tmps x)) ?_ rfl
      rw[e1]
      refine yJ hs hel hd hbo e2 ?_
      cases A with
      |none=>
       obtain⟨e4,e5⟩:=e3
       subst e5
       simp[bytesOf]at hbo
       exact⟨e4,hbo⟩
      |some A=>exact e3
    ·rename_i b o len cap ha
     split at h
     ·rename_i op cs hcs
      split at h
      ·rename_i l hl
       cases hbo:bytesOf l with
       |none=>rw[hbo]at h;cases h
       |some bs=>
        rw[hbo]at h;cases h
        have rxx:=aH hg r hx ha
        obtain⟨A,c,l',e1,e2,e3⟩:=aUs (P:=P) m rxx hcs hl
        refine wrap (s:=convert s d (evT tmps x)) ?_ rfl
        rw[e1]
        exact yJ hs hel hd hbo e3 e2
      ·cases h
     ·cases h
    ·cases h
   ·cases ho
  ·split at ho
   ·cases ho;simp[rl]at h
   ·cases ho
  ·cases ho
 |makeInterface t x=>
  simp only[rop]at ho
  split at ho
  ·cases ho
  ·rename_i d hnot hu
   cases hx:rx x with
   |none=>rw[hx]at ho;cases ho
   |some y=>
    rw[hx]at ho;cases ho
    simp only[rl]at h
    cases ha:rv gl tm y with
    |none=>rw[ha]at h;cases h
    |some v1=>
     rw[ha]at h;cases h
     have rxx:=aH hg r hx ha
     refine wrap (s:=Instr.makeInterface t (evT tmps x)) ⟨_,?_,.iface t _ _ rxx⟩ rfl
     cases d<;>first|exact(hnot _ rfl).elim|simp[Instr.makeInterface,run_underlying hu]
  ·cases ho
 |makeFunc fn first cap=>
  cases fn with
  |func g=>
   simp only[rop]at ho
   split at ho
   ·rename_i a1 b1 h1 h2
    cases ho
    simp only[rl]at h
    split at h
    ·rename_i a b ha hb
     cases h
     have r1:=eE hg r h1 ha
     have r2:=eE hg r h2 hb
     exact⟨.func (.func g) (first.map (evT tmps)) (cap.map (evT tmps)),rfl,.v _ _ (.fn _ _ _ _ _ (by simpa using r1) (by simpa using r2))⟩
    ·cases h
   ·cases ho
  |_=>simp[rop]at ho
 |slice t x lo hi mx=>
  simp only[rop]at ho
  obtain⟨x1,lo1,hi1,mx1,k,hx,hlo,hhi,hmx,rfl,hk⟩:=vU ho
  simp only[rl]at h
  split at h
  ·rename_i xv lov hiv mxv h1 h2 h3 h4
   cases ha:sJ k xv lov hiv mxv with
   |none=>rw[ha]at h;cases h
   |some v=>
    rw[ha]at h;cases h
    exact wrap (s:=Instr.sliceAt t (evT tmps x) (lo.map (evT tmps)) (hi.map (evT tmps)) (mx.map (evT tmps))) (aDe hk ha (aH hg r hx h1) (vA hg r hlo h2) (vA hg r hhi h3) (vA hg r hmx h4) w) rfl
  ·cases h
 |fieldAddr s x f=>
  simp only[rop]at ho
  split at ho
  ·rename_i fs x1 hu hx
   cases hf:fs[f]? with
   |none=>rw[hf]at ho;cases ho
   |some fd=>
    rw[hf]at ho
    simp only[Option.bind_some]at ho
    split at ho
    ·rename_i n hn
     cases ho
     simp only[rl]at h
     split at h
     ·rename_i av hav
      obtain⟨A,e1,e2⟩:=aCc (dQ hg r hx hav) h
      refine⟨_,?_,e2⟩
      have:(Instr.fieldAt s (evT tmps x) f).run P w=.ok (.pointer (some (A.add fd.offset))) w:=by
       simp[Instr.fieldAt,run_underlying hu,hf,e1,Instr.sureAddr,fieldPlace,bR hn]
      exact fin this
     ·cases h
    ·cases ho
  ·cases ho
 |field t x f=>
  simp only[rop]at ho
  split at ho
  ·rename_i fs x1 hu hx
   cases hf:fs[f]? with
   |none=>rw[hf]at ho;cases ho
   |some fd=>
    rw[hf]at ho
    simp only[Option.bind_some]at ho
    cases hn:uL P fd.type with
    |none=>rw[hn]at ho;cases ho
    |some n=>
     rw[hn]at ho;cases ho
     simp only[rl]at h
     split at h
     ·rename_i cs ha
      cases hp:kA cs fd.offset n with
      |none=>rw[hp]at h;cases h
      |some v=>
       rw[hp]at h;cases h
       have:=aH hg r hx ha
       cases hcv:evT tmps x<;>rw[hcv]at this<;>cases this
       rename_i cs' hcs
       obtain⟨v',h1,h2⟩:=lU hn hp hcs w
       exact wrap (s:=Instr.field t (evT tmps x) f) ⟨v',by simp[Instr.field,run_underlying hu,hf,hcv,asAgg,h1],h2⟩ rfl
     ·cases h
  ·cases ho
 |extract x i=>
  simp only[rop]at ho
  cases hx:rx x with
  |none=>rw[hx]at ho;cases ho
  |some y=>
   rw[hx]at ho;cases ho
   simp only[rl]at h
   split at h
   ·rename_i vs ha
    cases hi:vs[i]? with
    |none=>rw[hi]at h;cases h
    |some v=>
     rw[hi]at h;cases h
     have:=aH hg r hx ha
     cases hcv:evT tmps x<;>rw[hcv]at this<;>cases this
     rename_i cs' hcs
     obtain⟨v',h1,h2⟩:=hcs.get i v hi
     have h1':cs'[i]? =some v':=by simpa using h1
     exact wrap (s:=Instr.extract (evT tmps x) i) ⟨v',by simp[Instr.extract,hcv,h1'],h2⟩ rfl
   ·cases h
 |indexAddr t x i=>
  simp only[rop]at ho
  split at ho
  ·rename_i len el x1 i1 hu hx hi
   cases hn:szT P el with
   |none=>rw[hn]at ho;cases ho
   |some n=>
    rw[hn]at ho;cases ho
    simp only[rl]at h
    split at h
    ·rename_i av i' hav hiv
     split at h
     ·rename_i hlt
      cases hvi:rv gl tm i1 with
      |none=>rw[hvi]at hiv;cases hiv
      |some iv=>
       rw[hvi]at hiv
       obtain⟨k,_,e⟩:=dP hiv (aH hg r hi hvi)
       obtain⟨A,e1,e2⟩:=aCc (dQ hg r hx hav) h
       refine⟨_,?_,e2⟩
       have:(Instr.indexAt t (evT tmps x) (evT tmps i)).run P w=.ok (.pointer (some (A.add (i'*n)))) w:=by
        simp[Instr.indexAt,e,asIntOf,run_underlying hu,e1,Instr.sureAddr,bR hn,hlt]
       exact fin this
     ·cases h
    ·cases h
  ·rename_i el x1 i1 hu hx hi
   cases hn:szT P el with
   |none=>rw[hn]at ho;cases ho
   |some n=>
    rw[hn]at ho;cases ho
    simp only[rl]at h
    split at h
    ·rename_i es c i' hav hiv
     split at h
     ·rename_i e he
      split at h
      ·rename_i hlen
       cases h
       cases hvi:rv gl tm i1 with
       |none=>rw[hvi]at hiv;cases hiv
       |some iv=>
        rw[hvi]at hiv
        obtain⟨k,_,e1⟩:=dP hiv (aH hg r hi hvi)
        have rxx:=aH hg r hx hav
        have hlt:i'<es.length:=(List.getElem?_eq_some_iff.1 he).1
        generalize hgx:evT tmps x=xv at rxx
        cases rxx with
        |lst0 _ _ _ _=>simp at hlt
        |lst e0 es' _ blk off n0 cap z hf hn0 hle hr=>
         obtain⟨q1,q2⟩:=hf.get i' e he
         have hz:z=n:=by rw[←q1];exact hlen
         subst hz
         refine⟨.pointer (some ⟨blk,off+i'*z,none⟩),?_,.e _ _ _ q2⟩
         have hlt':i'<n0:=by rw[hn0];simpa using hlt
         have:(Instr.indexAt t (evT tmps x) (evT tmps i)).run P w=.ok (.pointer (some ⟨blk,off+i'*z,none⟩)) w:=by
          simp[Instr.indexAt,e1,asIntOf,run_underlying hu,hgx,bR hn,hlt',add_zero]
         exact fin this
      ·cases h
     ·cases h
    ·rename_i b o len c i' hav hiv
     split at h
     ·rename_i hlt
      cases h
      cases hvi:rv gl tm i1 with
      |none=>rw[hvi]at hiv;cases hiv
      |some iv=>
       rw[hvi]at hiv
       obtain⟨k,_,e⟩:=dP hiv (aH hg r hi hvi)
       have:=aH hg r hx hav
       have key:∀(p:Place) (cc:Nat),E.ob b=some p→evT tmps x=.slice (some ⟨p.blk,p.off+o,none⟩) len cc→∃v',(Instr.indexAt t (evT tmps x) (evT tmps i)).run P w=.ok v' w∧AR E (.ptr b (o+i'*n)) v':=by
        intro p cc hE hcv
        refine⟨.pointer (some ⟨p.blk,p.off+(o+i'*n),none⟩),?_,.ptr _ _ p hE⟩
        simp[Instr.indexAt,e,asIntOf,run_underlying hu,hcv,bR hn,hlt,add_zero];omega
       cases hcv:evT tmps x<;>rw[hcv]at this<;>cases this
       ·rename_i p hE hnc;exact wrap (s:=Instr.indexAt t (evT tmps x) (evT tmps i)) (key p _ hE hcv) rfl
       ·rename_i z p hE h1 h2;exact wrap (s:=Instr.indexAt t (evT tmps x) (evT tmps i)) (key p _ hE hcv) rfl
       ·omega
     ·cases h
    ·cases h
  ·cases ho
 |index t x i=>
  simp only[rop]at ho
  split at ho
  ·rename_i len el x1 i1 hu hx hi
   split at ho
   ·rename_i n a hn hagg
    cases ho
    simp only[rl]at h
    split at h
    ·rename_i cs i' ha hiv
     split at h
     ·rename_i hlt
      have hag:uL P el=some (aMs a n):=by
       unfold uL;rw[hagg];cases a<;>simp[hn,aMs]
      cases hp:kA cs (i'*n) (aMs a n)with
      |none=>rw[hp]at h;cases h
      |some v=>
       rw[hp]at h;cases h
       cases hvi:rv gl tm i1 with
       |none=>rw[hvi]at hiv;cases hiv
       |some iv=>
        rw[hvi]at hiv
        obtain⟨k,_,e⟩:=dP hiv (aH hg r hi hvi)
        have:=aH hg r hx ha
        cases hcv:evT tmps x<;>rw[hcv]at this<;>cases this
        rename_i cs' hcs
        obtain⟨v',h1,h2⟩:=lU hag hp hcs w
        refine wrap (s:=Instr.index t (evT tmps x) (evT tmps i)) ⟨v',?_,h2⟩ rfl
        simp[Instr.index,e,asIntOf,run_underlying hu,hcv,bR hn,hlt,h1]
     ·cases h
    ·cases h
   ·cases ho
  ·rename_i x1 i1 hu hx hi
   cases ho
   simp only[rl]at h
   split at h
   ·rename_i s i' ha hiv
    cases hs:s[i']? with
    |none=>rw[hs]at h;cases h
    |some c=>
     rw[hs]at h;cases h
     cases hvi:rv gl tm i1 with
     |none=>rw[hvi]at hiv;cases hiv
     |some iv=>
      rw[hvi]at hiv
      obtain⟨k,_,e⟩:=dP hiv (aH hg r hi hvi)
      have:=aH hg r hx ha
      cases hcv:evT tmps x<;>rw[hcv]at this<;>cases this
      rename_i y he
      have hc:∃u:UInt8,y.data[i']? =some u∧u.toNat=c:=by
       rw[←he,List.getElem?_map]at hs
       cases hy:y.data.toList[i']? with
       |none=>rw[hy]at hs;cases hs
       |some u=>rw[hy]at hs;exact⟨u,by simpa using hy,by simpa using hs⟩
      obtain⟨u,hu1,hu2⟩:=hc
      have hy:y[i']? =some u:=by
       rw[←hu1];rfl
      refine wrap (s:=Instr.index t (evT tmps x) (evT tmps i)) ⟨.int .u8 u.toNat,?_,by rw[hu2];exact .int _ _⟩ rfl
      simp[Instr.index,e,asIntOf,run_underlying hu,hcv,hy]
   ·cases h
  ·cases ho
 |lookup t x k ok=>
  simp only[rop]at ho
  split at ho
  ·rename_i kt et x1 k1 hu hx hk
   split at ho
   ·rename_i d z hkd hz
    cases ho
    obtain⟨td,hd,hdd⟩:=vJ hkd
    simp only[rl]at h
    split at h
    ·rename_i mv kv ha hkv
     split at h
     ·cases h
     ·rename_i hf
      have rk:=aH hg r hk hkv
      have rm:=aH hg r hx ha
      have key:∀(ents:Array MapEntry) (es:List (V×V)) (q:Option V),All₂ (aEp E) es ents.toList→lY kv es=some q→
        (match q with|some v=>some (TV.v (pL ok v true))|none=>some (TV.v (pL ok z false)))=some tv→
        ∃v',TVR E F.loc tv v'∧(Instr.checkKey ents.isEmpty 10000 kt (evT tmps k)).run P w=.ok () w∧
         ((∃j u,(Instr.findKey kt (evT tmps k) ents.toList).run P w=.ok (some (j,u)) w∧v'=if ok then .tuple #[u,.bool true]else u)∨
          ((Instr.findKey kt (evT tmps k) ents.toList).run P w=.ok none w∧∃z',(zeroValue et).run P w=.ok z' w∧v'=if ok then .tuple #[z',.bool false]else z')):=by
       intro ents es q rp hq hv
       have hck:=run_checkKey hd hdd hf rk w ents.isEmpty
       rcases aKz hdd hf rk rp 0 hq with⟨rfl,hn⟩|⟨j,u,u',rfl,hu',hn,_⟩
       ·obtain⟨z',hz',rz⟩:=iL E hz w
        have hfk:(Instr.findKey kt (evT tmps k) ents.toList).run P w=.ok none w:=by
         simp[Instr.findKey,run_underlying hd,hn]
        cases ok with
        |true=>cases hv;exact⟨.tuple #[z',.bool false],.v _ _ (.tup _ _ (.cons _ _ _ _ rz (.cons _ _ _ _ (.bool false) .nil))),hck,.inr ⟨hfk,z',hz',rfl⟩⟩
        |false=>cases hv;exact⟨z',.v _ _ rz,hck,.inr ⟨hfk,z',hz',rfl⟩⟩
       ·have hfk:(Instr.findKey kt (evT tmps k) ents.toList).run P w=.ok (some (0+j,u')) w:=by
         simp[Instr.findKey,run_underlying hd,hn]
        cases ok with
        |true=>cases hv;exact⟨.tuple #[u',.bool true],.v _ _ (.tup _ _ (.cons _ _ _ _ hu' (.cons _ _ _ _ (.bool true) .nil))),hck,.inl ⟨_,_,hfk,rfl⟩⟩
        |false=>cases hv;exact⟨u',.v _ _ hu',hck,.inl ⟨_,_,hfk,rfl⟩⟩
      have fin2:(∃v',(Instr.lookup t (evT tmps x) (evT tmps k) ok).run P w=.ok v' w∧TVR E F.loc tv v')→∃v',(execOp (evT tmps) ⟨dst,.lookup t x k ok,ty,pos,after,guard⟩).run P w=.ok (.value v') w∧TVR E F.loc tv v':=by
       rintro⟨v',h1,h2⟩;exact⟨v',fin h1,h2⟩
      refine fin2 ?_
      cases mv with
      |fX=>
       cases hcv:evT tmps x<;>rw[hcv]at rm<;>cases rm
       obtain⟨v',h2,h1,h3⟩:=key #[] [] none .nil rfl h
       refine⟨v',?_,h2⟩
       have h1':(Instr.checkKey true 10000 kt (evT tmps k)).run P w=.ok () w:=h1
       rcases h3 with⟨j,u,h3,rfl⟩|⟨h3,z',hz',rfl⟩
       ·simp at h3;cases ok<;>simp[Instr.lookup,run_underlying hu,h1',h3]
       ·simp at h3;cases ok<;>simp[Instr.lookup,run_underlying hu,h1',h3,hz']
      |map b=>
       cases hcv:evT tmps x<;>rw[hcv]at rm<;>cases rm
       rename_i p hE
       cases hb:hh.ob b with
       |none=>simp[hb]at h
       |some ob=>
        cases ob with
        |map es=>
         obtain⟨ents,clock,h1,h2⟩:=m.obj b _ p hb hE
         have hgo:(getObj p.blk).run P w=.ok (.map ents clock) w:=by simp[getObj,Sem.run,h1]
         cases hq:lY kv es with
         |none=>simp[hb,hq]at h
         |some q=>
          obtain⟨v',h4,h5,h6⟩:=key ents es q h2 hq (by cases q<;>simpa [hb,hq] using h)
          refine⟨v',?_,h4⟩
          rcases h6 with⟨j,u,h3,rfl⟩|⟨h3,z',hz',rfl⟩
          ·cases ok<;>simp[Instr.lookup,run_underlying hu,hgo,h5,h3]
          ·cases ok<;>simp[Instr.lookup,run_underlying hu,hgo,h5,h3,hz']
        |_=>simp[hb]at h
      |_=>simp at h
    ·cases h
   ·cases ho
  ·cases ho
 |typeAssert x xt asserted ok=>
  simp only[rop]at ho
  split at ho
  ·rename_i x1 d hx hd
   split at ho
   ·cases ho
   ·rename_i hnot
    cases hz:iX P asserted with
    |none=>rw[hz]at ho;cases ho
    |some z=>
     rw[hz]at ho;cases ho
     obtain⟨z',hz',rz⟩:=iL E hz w
     simp only[rl]at h
     have fin2:(∃v',(Instr.typeAssert (evT tmps x) xt asserted ok).run P w=.ok v' w∧TVR E F.loc tv v')→∃v',(execOp (evT tmps) ⟨dst,.typeAssert x xt asserted ok,ty,pos,after,guard⟩).run P w=.ok (.value v') w∧TVR E F.loc tv v':=by
      rintro⟨v',h1,h2⟩;exact⟨v',fin h1,h2⟩
     refine fin2 ?_
     split at h
     ·rename_i ti vi ha
      have rxx:=aH hg r hx ha
      cases hcv:evT tmps x<;>rw[hcv]at rxx<;>cases rxx
      rename_i vi' rv'
      split at h
      ·rename_i e
       have e:=Nat.eq_of_beq_eq_true e
       subst e
       cases ok with
       |true=>cases h;exact⟨.tuple #[vi',.bool true],by cases d<;>first|exact absurd rfl (hnot _)|simp[Instr.typeAssert,run_underlying hd],.v _ _ (.tup _ _ (.cons _ _ _ _ rv' (.cons _ _ _ _ (.bool true) .nil)))⟩
       |false=>cases h;exact⟨vi',by cases d<;>first|exact absurd rfl (hnot _)|simp[Instr.typeAssert,run_underlying hd],.v _ _ rv'⟩
      ·rename_i e
       have e:ti≠asserted:=by rintro rfl;rw[Nat.beq_refl]at e;cases e
       cases ok with
       |false=>cases h
       |true=>cases h;exact⟨.tuple #[z',.bool false],by cases d<;>first|exact absurd rfl (hnot _)|simp[Instr.typeAssert,run_underlying hd,e,hz'],.v _ _ (.tup _ _ (.cons _ _ _ _ rz (.cons _ _ _ _ (.bool false) .nil)))⟩
     ·rename_i ha
      have rxx:=aH hg r hx ha
      cases hcv:evT tmps x<;>rw[hcv]at rxx<;>cases rxx
      cases ok with
      |false=>cases h
      |true=>cases h;exact⟨.tuple #[z',.bool false],by cases d<;>simp[Instr.typeAssert,run_underlying hd,hz'],.v _ _ (.tup _ _ (.cons _ _ _ _ rz (.cons _ _ _ _ (.bool false) .nil)))⟩
     ·cases h
  ·cases ho
 |call c=>
  obtain⟨callee,args,argTypes⟩:=c
  cases callee with
  |builtin b=>
   simp only[rop]at ho
   have hexe:∀(s:Sem Value),builtin b argTypes ty (args.map fun|.const _=>true|_=>false) (args.map (evT tmps))=(do pure (Next.value (←s)):Sem Next)→
     execOp (evT tmps) ⟨dst,.call ⟨.builtin b,args,argTypes⟩,ty,pos,after,guard⟩=(do pure (Next.value (←s)):Sem Next):=by
    intro s hs;rw[←hs];rfl
   have hty:∀d,(argTypes[0]?).bind P.underlying=some d→∃t,argTypes[0]? =some t∧P.underlying t=some d:=by
    intro d hd
    cases ht:argTypes[0]? with
    |none=>rw[ht]at hd;cases hd
    |some t=>rw[ht]at hd;exact⟨t,rfl,hd⟩
   have one:∀{x:RX} {v0:V},rxs args.toList=some [x]→rv gl tm x=some v0→∃v0',args.map (evT tmps)= #[v0']∧AR E v0 v0':=by
    intro x v0 h1 h2
    have:=eE hg r h1 (show rvs gl tm [x]=some [v0] by simp[rvs,h2])
    generalize hq:args.toList.map (evT tmps)=l at this
    cases this with|cons _ v' _ _ h1 t=>cases t;exact⟨v',by apply Array.toList_inj.1;simpa using hq,h1⟩
   have two:∀{x y:RX} {v0 v1:V},rxs args.toList=some [x,y]→rv gl tm x=some v0→rv gl tm y=some v1→∃a b,args.map (evT tmps)= #[a,b]∧AR E v0 a∧AR E v1 b:=by
    intro x y v0 v1 h1 h2 h3
    have:=eE hg r h1 (show rvs gl tm [x,y]=some [v0,v1] by simp[rvs,h2,h3])
    generalize hq:args.toList.map (evT tmps)=l at this
    cases this with|cons _ v' _ _ h1 t=>cases t with|cons _ v'' _ _ h2 t=>cases t;exact⟨v',v'',by apply Array.toList_inj.1;simpa using hq,h1,h2⟩
   unfold jB at ho
   split at ho
   ·split at ho<;>cases ho
    ·rename_i x hxs hd
     obtain⟨t,ht,hu⟩:=hty _ hd
     simp only[rl]at h
     split at h
     ·rename_i s ha
      cases h
      obtain⟨a,harr,ra⟩:=one hxs ha
      cases ra with
      |str _ y e=>
       have hs:y.size=s.length:=by rw[←e,List.length_map,Array.length_toList];rfl
       refine wrap (s:=Builtin.len_ argTypes ty (args.map (evT tmps))) ⟨.int .i64 s.length,?_,.int _ _⟩ (hexe _ rfl)
       rw[harr];simp[Builtin.len_,ht,run_underlying hu,goInt,hs]
     ·cases h
    ·rename_i x el hxs hd
     obtain⟨t,ht,hu⟩:=hty _ hd
     simp only[rl]at h
     split at h
     ·rename_i es c ha
      cases h
      obtain⟨a,harr,ra⟩:=one hxs ha
      obtain⟨A,cap,rfl,_⟩:=kG ra
      refine wrap (s:=Builtin.len_ argTypes ty (args.map (evT tmps))) ⟨.int .i64 es.length,?_,.int _ _⟩ (hexe _ rfl)
      rw[harr];simp[Builtin.len_,ht,run_underlying hu,goInt]
     ·rename_i b0 o0 n c ha
      cases h
      obtain⟨a,harr,ra⟩:=one hxs ha
      refine wrap (s:=Builtin.len_ argTypes ty (args.map (evT tmps))) ⟨.int .i64 n,?_,.int _ _⟩ (hexe _ rfl)
      rw[harr];cases ra<;>simp[Builtin.len_,ht,run_underlying hu,goInt]
     ·cases h
    ·rename_i x kt0 et0 hxs hd
     obtain⟨t,ht,hu⟩:=hty _ hd
     simp only[rl]at h
     split at h
     ·rename_i ha
      cases h
      obtain⟨a,harr,ra⟩:=one hxs ha
      cases ra
      refine wrap (s:=Builtin.len_ argTypes ty (args.map (evT tmps))) ⟨_,?_,.int _ _⟩ (hexe _ rfl)
      rw[harr];simp[Builtin.len_,ht,run_underlying hu,goInt]
     ·rename_i b0 ha
      split at h
      ·rename_i es hb
       cases h
       obtain⟨a,harr,ra⟩:=one hxs ha
       cases ra with
       |map _ p hE=>
        obtain⟨ents,clock,h1,h2⟩:=m.obj b0 _ p hb hE
        have hgo:(getObj p.blk).run P w=.ok (.map ents clock) w:=by simp[getObj,Sem.run,h1]
        have hlen:ents.size=es.length:=by rw[h2.length];simp
        refine wrap (s:=Builtin.len_ argTypes ty (args.map (evT tmps))) ⟨.int .i64 es.length,?_,.int _ _⟩ (hexe _ rfl)
        rw[harr];simp[Builtin.len_,ht,run_underlying hu,goInt,hgo,hlen]
      ·cases h
     ·cases h
   ·split at ho<;>cases ho
    rename_i x el hxs hd
    obtain⟨t,ht,hu⟩:=hty _ hd
    simp only[rl]at h
    split at h
    ·rename_i es c ha
     cases h
     obtain⟨a,harr,ra⟩:=one hxs ha
     obtain⟨A,cap,rfl,_,hc⟩:=kG ra
     have:=hc c rfl
     subst this
     refine wrap (s:=Builtin.cap_ argTypes ty (args.map (evT tmps))) ⟨.int .i64 cap,?_,.int _ _⟩ (hexe _ rfl)
     rw[harr];simp[Builtin.cap_,ht,run_underlying hu,goInt]
    ·rename_i b0 o0 n c ha
     cases h
     obtain⟨a,harr,ra⟩:=one hxs ha
     refine wrap (s:=Builtin.cap_ argTypes ty (args.map (evT tmps))) ⟨.int .i64 c,?_,.int _ _⟩ (hexe _ rfl)
     rw[harr]
     cases ra with
     |sl _ _ _ p _ hE hnc=>simp[Builtin.cap_,ht,run_underlying hu,goInt]
     |sl0 _ _ _ A hq p hE hzz=>have:=hq c rfl;subst this;simp[Builtin.cap_,ht,run_underlying hu,goInt]
    ·cases h
   ·split at ho<;>cases ho
    rename_i x y hxs
    simp only[rl]at h
    split at h
    ·rename_i k a k' b ha hb
     split at h
     ·rename_i e
      subst e;cases h
      obtain⟨a',b',harr,ra,rb⟩:=two hxs ha hb
      cases ra;cases rb
      refine wrap (s:=Builtin.max_ argTypes ty (args.map (evT tmps))) ⟨_,?_,.int _ _⟩ (hexe _ rfl)
      rw[harr];simp[Builtin.max_,Builtin.max2]
     ·cases h
    ·cases h
   ·split at ho<;>cases ho
    rename_i x y hxs
    simp only[rl]at h
    split at h
    ·rename_i k a k' b ha hb
     split at h
     ·rename_i e
      subst e;cases h
      obtain⟨a',b',harr,ra,rb⟩:=two hxs ha hb
      cases ra;cases rb
      refine wrap (s:=Builtin.min_ argTypes ty (args.map (evT tmps))) ⟨_,?_,.int _ _⟩ (hexe _ rfl)
      rw[harr];simp[Builtin.min_,Builtin.min2]
     ·cases h
    ·cases h
   ·split at ho
    ·split at ho
     ·split at ho
      ·cases ho
      ·split at ho
       ·split at ho
        ·cases ho;simp[rl]at h
        ·cases ho
       ·cases ho
     ·cases ho
    ·cases ho
   ·split at ho<;>cases ho;simp[rl]at h
   ·split at ho
    ·simp only[Option.map_eq_some_iff]at ho;obtain⟨_,_,rfl⟩:=ho;simp[rl]at h
    ·cases ho
   ·split at ho
    ·simp only[Option.map_eq_some_iff]at ho;obtain⟨_,_,rfl⟩:=ho;simp[rl]at h
    ·cases ho
   ·cases ho
  |value f=>
   simp only[rop]at ho
   split at ho
   ·cases ho;simp[rl]at h
   ·cases ho
  |invoke f n=>simp[rop]at ho
 |alloc t=>
  simp only[rop]at ho
  cases hz:iX P t with
  |none=>rw[hz]at ho;cases ho
  |some z=>rw[hz]at ho;cases ho;simp[rl]at h
 |box t x=>
  simp only[rop]at ho
  cases hz:rx x with
  |none=>rw[hz]at ho;cases ho
  |some z=>rw[hz]at ho;cases ho;simp[rl]at h
 |buildSlice t len parts=>
  simp only[rop]at ho
  split at ho
  ·split at ho
   ·split at ho
    ·cases ho;simp[rl]at h
    ·cases ho
   ·cases ho
  ·cases ho
 |makeMap t res=>
  simp only[rop]at ho
  split at ho
  ·cases ho;simp[rl]at h
  ·split at ho
   ·cases ho;simp[rl]at h
   ·cases ho
 |makeSlice t l c=>
  simp only[rop]at ho
  split at ho
  ·split at ho
   ·split at ho
    ·cases ho;simp[rl]at h
    ·cases ho
   ·cases ho
  ·cases ho
 |store t a x=>
  simp only[rop]at ho
  split at ho
  ·cases ho;simp[rl]at h
  ·cases ho
 |defer c=>
  obtain⟨callee,args,argTypes⟩:=c
  cases callee with
  |value f=>
   simp only[rop]at ho
   split at ho
   ·cases ho;simp[rl]at h
   ·cases ho
  |invoke f n=>simp[rop]at ho
  |builtin b=>simp[rop]at ho
 |panic x=>
  simp only[rop]at ho
  cases hz:rx x with
  |none=>rw[hz]at ho;cases ho
  |some z=>rw[hz]at ho;cases ho;simp[rl]at h
 |mapUpdate t m0 k x=>
  simp only[rop]at ho
  split at ho
  ·rename_i kt et m1 k1 x1 _ _ _ _
   cases hz:wK P kt with
   |none=>rw[hz]at ho;cases ho
   |some z=>rw[hz]at ho;cases ho;simp[rl]at h
  ·cases ho
 |insert t m0 k x=>
  simp only[rop]at ho
  split at ho
  ·rename_i kt et m1 k1 x1 _ _ _ _
   cases hz:wK P kt with
   |none=>rw[hz]at ho;cases ho
   |some z=>rw[hz]at ho;cases ho;simp[rl]at h
  ·cases ho
 |_=>simp[rop]at ho
end
end Go.VM
end
