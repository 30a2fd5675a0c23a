/- laid for this seat: VmBase VmRel VmMem VmOps -/
import GoSem.Claims
import Derived.Calls
import Derived.Below
import Derived.Laws.IdiomCopy
import Derived.Laws.Cells
import Derived.Laws.StructEq
import Derived.ChangeKeysEq
import Derived.Laws.BytesString
import Derived.Recover
import Derived.Defers
import Derived.Orders
set_option linter.unusedVariables false
set_option linter.unusedSimpArgs false
section
/- The machine of values: what is used of the model itself. -/
namespace Go.VM
open Go.RowKit
inductive Cp where
 |ex (c:Nat)
 |op (z:Nat)
 deriving DecidableEq,Inhabited
def Cp.most(len:Nat):Cp→Nat
 |.op _=>len
 |.ex c=>c
def lim:Nat:=4294967296
def aC:Nat:=1000
def slt:List Nat→List Nat→Bool
 |_,[]=>false
 |[],_::_=>true
 |a::x,b::y=>Nat.blt a b||(Nat.beq a b&&slt x y)
def seq:List Nat→List Nat→Bool
 |[],[]=>true
 |a::x,b::y=>Nat.beq a b&&seq x y
 |_,_=>false
theorem tS:∀(a b:List Nat),seq a b=true↔a=b
 |[],[]=>by simp[seq]
 |a::x,b::y=>by
  simp only[seq,Bool.and_eq_true,tS x y,List.cons.injEq]
  exact⟨fun⟨h,k⟩=>⟨Nat.eq_of_beq_eq_true h,k⟩,fun⟨h,k⟩=>⟨by rw[h];exact Nat.beq_refl b,k⟩⟩
 |[],_::_=>by simp[seq]
 |_::_,[]=>by simp[seq]
structure Place where
 blk:Nat
 off:Nat
 ext:Nat
inductive All₂{α β:Type}(R:α→β→Prop):List α→List β→Prop where
 |nil:All₂ R [] []
 |cons {a:α} {b:β} {l:List α} {m:List β} (h:R a b) (t:All₂ R l m):All₂ R (a::l) (b::m)
theorem All₂.mono{α β:Type}{R S:α→β→Prop}(h:∀a b,R a b→S a b):∀{l:List α} {m:List β},All₂ R l m→All₂ S l m
 |_,_,.nil=>.nil
 |_,_,.cons r t=>.cons (h _ _ r) (All₂.mono h t)
theorem All₂.length{α β:Type}{R:α→β→Prop}:∀{l:List α} {m:List β},All₂ R l m→l.length=m.length
 |_,_,.nil=>rfl
 |_,_,.cons r t=>by simp[All₂.length t]
theorem All₂.append{α β:Type}{R:α→β→Prop}:∀{l l':List α} {m m':List β},All₂ R l m→All₂ R l' m'→All₂ R (l++l') (m++m')
 |_,_,_,_,.nil,h=>h
 |_,_,_,_,.cons r t,h=>.cons r (All₂.append t h)
section
variable(P:Program)
def oR(t:TypeId):Option Bool:=
 match P.underlying t with
 |some (.struct _)|some (.array _ _)=>some true
 |some _=>some false
 |none=>none
def szT(t:TypeId):Option Nat:=(P.info? t).map (·.size)
def places:List Field→Option (List (Nat×Nat))
 |[]=>some []
 |f::fs=>match szT P f.type,places fs with
  |some n,some l=>some ((f.offset,n)::l)
  |_,_=>none
end
section
variable{P:Program}
theorem add_zero(B O i:Nat):(⟨B,O,none⟩:Addr).add i=⟨B,O+i,none⟩:=by
 unfold Addr.add;split<;>simp_all
theorem tW{w:World}{B:Nat}{c:Array Value}{el:TypeId}{fz:Nat×Nat}(h:w.heap[B]? =some (.cells c el fz))(i:Nat):
  w.cell? ⟨B,i,none⟩=c[i]?:=by simp[World.cell?,h]
theorem vR{w:World}{B:Nat}{c:Array Value}{el:TypeId}{lo hi:Nat}(h:w.heap[B]? =some (.cells c el (lo,hi)))(hf:∀i,i<c.size→¬(lo≤i∧i<hi))(i:Nat)(hi':i<c.size):
  w.frozen? ⟨B,i,none⟩=false:=by
 have:=hf i hi'
 simp only[World.frozen?,h]
 rw[Bool.eq_false_iff]
 intro hc
 simp only[Bool.and_eq_true,decide_eq_true_eq]at hc
 exact this hc
def eI(c:Array Value):Nat→List Value→Array Value
 |_,[]=>c
 |o,v::r=>eI (c.setIfInBounds o v) (o+1) r
theorem eL:∀(vs:List Value) (c:Array Value) (o:Nat),(eI c o vs).size=c.size
 |[],_,_=>rfl
 |v::r,c,o=>by rw[eI,eL r];simp
theorem fE:∀(vs:List Value) (c:Array Value) (o i:Nat),(i<o∨o+vs.length≤i)→(eI c o vs)[i]? =c[i]?
 |[],_,_,_,_=>rfl
 |v::r,c,o,i,h=>by
  rw[eI,fE r _ _ _ (by simp at h;omega),Array.getElem?_setIfInBounds]
  rw[if_neg (by simp at h;omega)]
theorem kS:∀(vs:List Value) (c:Array Value) (o j:Nat),j<vs.length→o+j<c.size→(eI c o vs)[o+j]? =vs[j]?
 |v::r,c,o,0,h,hs=>by
  rw[eI,fE r _ _ _ (by omega),Array.getElem?_setIfInBounds]
  simp at hs
  simp[hs]
 |v::r,c,o,j+1,h,hs=>by
  rw[eI,show o+(j+1)=o+1+j from by omega,kS r _ _ j (by simpa using h) (by simp;omega)]
  simp
theorem aEr{w:World}{B:Nat}{c:Array Value}{el:TypeId}{fz:Nat×Nat}(h:w.heap[B]? =some (.cells c el fz))(o:Nat)(v:Value):
  (w.setCell ⟨B,o,none⟩ v).heap[B]? =some (.cells (c.setIfInBounds o v) el fz):=by
 simp[World.setCell,Array.getElem?_modify,h]
theorem jP(B:Nat):∀(vs:List Value) (w:World) (c:Array Value) (el:TypeId) (fz:Nat×Nat) (o:Nat),w.heap[B]? =some (.cells c el fz)→
  (w.setCells B o vs).heap[B]? =some (.cells (eI c o vs) el fz)
 |[],_,_,_,_,_,h=>h
 |v::r,w,c,el,fz,o,h=>by
  rw[World.setCells,eI]
  exact jP B r _ _ _ _ _ (aEr h o v)
theorem pH(B:Nat):∀(vs:List Value) (w:World) (o k:Nat),k≠B→(w.setCells B o vs).heap[k]? =w.heap[k]?
 |[],_,_,_,_=>rfl
 |v::r,w,o,k,h=>by
  rw[World.setCells,pH B r _ _ _ h]
  simp[World.setCell,Array.getElem?_modify]
  intro e;exact absurd e.symm h
theorem rD(B:Nat):∀(vs:List Value) (w:World) (o:Nat),(w.setCells B o vs).heap.size=w.heap.size∧(w.setCells B o vs).os=w.os∧(w.setCells B o vs).tape=w.tape∧(w.setCells B o vs).output=w.output
 |[],_,_=>⟨rfl,rfl,rfl,rfl⟩
 |v::r,w,o=>by
  obtain⟨a,b,c,d⟩:=rD B r (w.setCell ⟨B,o,none⟩ v) (o+1)
  rw[World.setCells]
  refine⟨a.trans ?_,b,c,d⟩
  simp[World.setCell]
def evT(tmps:Array Value):Operand→Value
 |.tmp t=>tmps.getD t undef
 |.const v=>v
 |.global g=>.pointer (some ⟨g,0,none⟩)
 |.func f=>.func (.func f) #[] #[]
theorem mP{t:TypeId}{i:TypeInfo}(h:P.info? t=some i)(w:World):(typeInfo t).run P w=.ok i w:=run_typeInfo w h
theorem bR{t:TypeId}{n:Nat}(h:szT P t=some n)(w:World):(sizeOf t).run P w=.ok n w:=by
 unfold szT at h
 cases hi:P.info? t with
 |none=>rw[hi]at h;cases h
 |some i=>rw[hi]at h;cases h;simp[sizeOf,mP hi]
theorem nP{t:TypeId}{b:Bool}(h:oR P t=some b)(w:World):(isAgg t).run P w=.ok b w:=by
 unfold oR at h
 cases hu:P.underlying t with
 |none=>rw[hu]at h;cases h
 |some d=>rw[hu]at h;cases d<;>cases h<;>simp[isAgg,run_underlying hu]
theorem str_inj{s t:List Nat}{x y:ByteArray}(hx:x.data.toList.map UInt8.toNat=s)(hy:y.data.toList.map UInt8.toNat=t):(x.toList==y.toList)=seq s t:=by
 rw[ByteArray.toList_eq,ByteArray.toList_eq,Bool.eq_iff_iff,tS,beq_iff_eq,←hx,←hy]
 constructor
 ·intro e;rw[e]
 ·intro e
  exact(List.map_inj_right (fun a b h=>UInt8.toNat_inj.1 h)).1 e
theorem aVq:∀(x y:List UInt8),Op.bytesLess x y=slt (x.map UInt8.toNat) (y.map UInt8.toNat)
 |x,[]=>by cases x<;>rfl
 |[],b::y=>rfl
 |a::x,b::y=>by
  simp only[Op.bytesLess,List.map_cons,slt,aVq x y]
  have e1:decide (a<b)=Nat.blt a.toNat b.toNat:=by
   rw[Bool.eq_iff_iff,decide_eq_true_eq,UInt8.lt_iff_toNat_lt,Nat.blt_eq]
  have e2:(a==b)=Nat.beq a.toNat b.toNat:=by
   rw[Bool.eq_iff_iff,beq_iff_eq,←UInt8.toNat_inj,Nat.beq_eq]
  rw[e1,e2]
theorem pN(w:World)(k:IntKind)(n y:Nat)(c:BoundsCode)(h:n≤y):(Instr.sliceBound (.int k (n:Int)) y c).run P w=.ok n w:=by
 have:(0:Int)≤n∧(n:Int)≤y:=by omega
 simp[Instr.sliceBound,asIntOf,this]
theorem aAk(x:ByteArray)(l h:Nat):(x.extract l h).data.toList.map UInt8.toNat=((x.data.toList.map UInt8.toNat).drop l).take (h-l):=by
 rw[ByteArray.data_extract,Array.toList_extract]
 simp[List.extract,List.map_take,List.map_drop]
theorem aAj(cs:Array Value):∀(l:List Value) (off n:Nat),(l.zipIdx n).foldl (fun(cs:Array Value) (p:Value×Nat)=>cs.setIfInBounds (off+p.2) p.1) cs=eI cs (off+n) l:=by
 intro l
 induction l generalizing cs with
 |nil=>intro off n;rfl
 |cons v l ih=>
  intro off n
  simp only[List.zipIdx_cons,List.foldl_cons,eI]
  rw[ih,Nat.add_assoc]
theorem uH{fs:List Field}{pl:List (Nat×Nat)}(w:World):∀{fs:List Field} {pl:List (Nat×Nat)},places P fs=some pl→
  (fs.mapM (m:=Sem) fun f=>do pure (f.offset,←sizeOf f.type)).run P w=.ok pl w
 |[],pl,h=>by simp[places]at h;subst h;rfl
 |f::fs,pl,h=>by
  simp only[places]at h
  split at h
  ·rename_i n l h1 h2
   cases h
   have ih:=uH (fs:=fs) (pl:=l) w h2
   rw[List.mapM_cons]
   simp only[Sem.run_bind,bR h1,Result.andThen_ok,Sem.run_pure]
   rw[ih];rfl
  ·cases h
theorem fold_push:∀(bs:List Nat) (s:ByteArray),(∀n∈bs,n<256)→((bs.map fun n:Nat=>(n:Int)).foldl (fun(r:ByteArray) (n:Int)=>r.push (UInt8.ofNat n.toNat)) s).data.toList.map UInt8.toNat=s.data.toList.map UInt8.toNat++bs:=by
 intro bs
 induction bs with
 |nil=>intro s _;simp
 |cons n bs ih=>
  intro s h
  simp only[List.map_cons,List.foldl_cons]
  rw[ih _ (fun m hm=>h m (List.mem_cons_of_mem _ hm))]
  have:n<256:=h n (List.mem_cons_self ..)
  simp[ByteArray.push,UInt8.toNat_ofNat',Nat.mod_eq_of_lt this]
theorem yL{n:Nat}(h:n≤65536):IntKind.i64.wrap (n:Int)=n:=by
 simp[IntKind.wrap,IntKind.bits,IntKind.signed];omega
theorem aBh:∀(r c nl:Nat),256≤c→Builtin.growBy nl r c≤c*2^r
 |0,c,nl,h=>by simp[Builtin.growBy]
 |r+1,c,nl,h=>by
  simp only[Builtin.growBy]
  split
  ·exact Nat.le_mul_of_pos_right _ (Nat.two_pow_pos _)
  ·refine Nat.le_trans (aBh r _ nl (by omega)) ?_
   rw[Nat.pow_succ,Nat.mul_comm (2^r) 2,←Nat.mul_assoc]
   exact Nat.mul_le_mul_right _ (by omega)
theorem aLl{need cap:Nat}(h:cap<need):Builtin.nextslicecap need cap≤16*need:=by
 unfold Builtin.nextslicecap
 split
 ·omega
 ·split
  ·omega
  ·have:=aBh 4 cap need (by omega);omega
theorem aUa{tx:TypeDesc}(h:∀k,tx≠.int k):(tx matches .int _)=false:=by cases tx<;>first|rfl|exact absurd rfl (h _)
theorem oC{w:World}{B:Nat}{ents:Array MapEntry}{clock:Nat}(h:w.heap[B]? =some (.map ents clock)):(getObj B).run P w=.ok (.map ents clock) w:=by
 simp[getObj,Sem.run,h]
theorem oG{w:World}{B:Nat}{ents:Array MapEntry}{clock:Nat}(h:w.heap[B]? =some (.map ents clock))(o:Go.Obj):(setObj B o).run P w=.ok () {w with heap:=w.heap.setIfInBounds B o}:=by
 simp[setObj,Sem.run,h]
end
section
variable{P:Program}
def mkF(b:Frame)(tmps:Array Value)(todo:List Item)(df:List Deferred):Frame:=
 {fn:=b.fn,tmps,todo,defers:=df,mode:=.run,kind:=b.kind,roundOf:=b.roundOf}
def jV(tmps:Array Value):Option Nat→Value→Array Value
 |none,_=>tmps
 |some d,v=>tmps.setIfInBounds d v
theorem aAe(b:Frame)(tmps:Array Value)(todo:List Item)(df:List Deferred):(mkF b tmps todo df).eval=evT tmps:=by
 funext x;cases x<;>rfl
section
variable{b:Frame}{tmps:Array Value}{df:List Deferred}{k:List Item}{cs:List Frame}{w:World}{ops:Array Oper}
theorem bDa:step P (lone (mkF b tmps (.code .skip::k) df) cs w)=.next (lone (mkF b tmps k df) cs w):=
 step_lone_go (by simp[stepG,stepG.exec,mkF])
theorem aYo{l:Nat}:step P (lone (mkF b tmps (.code (.label l)::k) df) cs w)=.next (lone (mkF b tmps k df) cs w):=
 step_lone_go (by simp[stepG,stepG.exec,mkF])
theorem aLy{id:Nat}:step P (lone (mkF b tmps (.inBlock id::k) df) cs w)=.next (lone (mkF b tmps k df) cs w):=
 step_lone_go (by simp[stepG,stepG.exec,mkF])
theorem aKt{c:Code}:step P (lone (mkF b tmps (.inScope c::k) df) cs w)=.next (lone (mkF b tmps k df) cs w):=
 step_lone_go (by simp[stepG,stepG.exec,mkF])
theorem aMn{x y:Code}:step P (lone (mkF b tmps (.code (.seq x y)::k) df) cs w)=.next (lone (mkF b tmps (.code x::.code y::k) df) cs w):=
 step_lone_go (by simp[stepG,stepG.exec,mkF])
theorem aZz{id:Nat}{c:Code}:step P (lone (mkF b tmps (.code (.block id c)::k) df) cs w)=.next (lone (mkF b tmps (.code c::.inBlock id::k) df) cs w):=
 step_lone_go (by simp[stepG,stepG.exec,mkF])
theorem aUg{c:Code}:step P (lone (mkF b tmps (.code (.scope c)::k) df) cs w)=.next (lone (mkF b tmps (.code c::.inScope c::k) df) cs w):=
 step_lone_go (by simp[stepG,stepG.exec,mkF])
theorem bAq{c:Code}:step P (lone (mkF b tmps (.code (.loop c)::k) df) cs w)=.next (lone (mkF b tmps (.code c::.inLoop c::k) df) cs w):=
 step_lone_go (by simp[stepG,stepG.exec,mkF])
theorem aRf{c:Code}:step P (lone (mkF b tmps (.inLoop c::k) df) cs w)=.next (lone (mkF b tmps (.code c::.inLoop c::k) df) cs w):=
 step_lone_go (by simp[stepG,stepG.exec,mkF])
theorem bAx{x:Operand}{c d:Code}{t:Bool}(h:evT tmps x=.bool t):
  step P (lone (mkF b tmps (.code (.cond x c d)::k) df) cs w)=.next (lone (mkF b tmps (.code (if t then c else d)::k) df) cs w):=
 step_lone_go (by
  have:=congrFun (aAe b tmps (.code (.cond x c d)::k) df) x
  simp only[mkF]at this
  simp[stepG,stepG.exec,mkF,this,h])
theorem bDr{id:Nat}{k':List Item}(h:exitTo id k=some k'):
  step P (lone (mkF b tmps (.code (.exit id)::k) df) cs w)=.next (lone (mkF b tmps k' df) cs w):=
 step_lone_go (by simp[stepG,stepG.exec,mkF,h])
theorem aRe{id:Nat}:step P (lone (mkF b tmps (.code (.region id ops false)::k) df) cs w)=.next (lone (mkF b tmps (.inRegion ops (List.range ops.size)::k) df) cs w):=
 step_lone_go (by simp[stepG,stepG.exec,mkF])
theorem aOj{id:Nat}:step P (lone (mkF b tmps (.code (.region id ops true)::k) df) cs w)=
  .next (lone (mkF b tmps (.inRegion ops (Region.schedule (P.follows .mixedOrders) ops (w.tape w.drawn (.order b.fn id)))::k) df) cs {w with drawn:=w.drawn+1}):=
 step_lone_go (by simp[stepG,stepG.exec,mkF,choose,Sem.run,Question.forced,Question.cut])
theorem aYp:step P (lone (mkF b tmps (.inRegion ops []::k) df) cs w)=.next (lone (mkF b tmps k df) cs w):=
 step_lone_go (by simp[stepG,stepG.exec,mkF])
theorem iB(i:Nat)(rest:List Nat)(v:Value):(mkF b tmps (.inRegion ops (i::rest)::k) df).finish v=mkF b (jV tmps ((ops[i]?).bind (·.dst)) v) (.inRegion ops rest::k) df:=by
 cases h:(ops[i]?).bind (·.dst)<;>simp[Frame.finish,mkF,jV,h]
theorem vM(todo:List Item)(ch:List PanicEntry):(mkF b tmps todo df).raise ch={mkF b tmps todo df with mode:=.panicking ch}:=rfl
theorem oE{i:Nat}{rest:List Nat}{o:Oper}(ho:ops[i]? =some o)(h:Region.wanted o (yielded ops tmps)=false):
  step P (lone (mkF b tmps (.inRegion ops (i::rest)::k) df) cs w)=.next (lone (mkF b (jV tmps o.dst undef) (.inRegion ops rest::k) df) cs w):=by
 have:=iB (b:=b) (tmps:=tmps) (ops:=ops) (k:=k) (df:=df) i rest undef
 rw[ho]at this
 simp only[Option.bind_some]at this
 rw[←this]
 exact step_lone_go (by simp only[mkF]at*;simp[stepG,stepG.exec,ho,h])
theorem iJ{i:Nat}{rest:List Nat}{o:Oper}(ho:ops[i]? =some o)(hw:Region.wanted o (yielded ops tmps)=true)(hd:b.roundOf=none∨∀c,o.op≠.defer c):
  stepG P true {frame:=mkF b tmps (.inRegion ops (i::rest)::k) df,callers:=cs,status:=.running,dying:=none} w=
   stepG.apply P true (mkF b tmps (.inRegion ops (i::rest)::k) df) cs none (execOp (evT tmps) o) w:=by
 have he:=aAe b tmps (.inRegion ops (i::rest)::k) df
 simp only[mkF]at he
 rcases hd with hd|hd
 ·rw[hd]at he
  simp[stepG,stepG.exec,stepG.oper,Frame.oper?,mkF,ho,hw,he,hd]
 ·have:∀(r:Option Nat),(match r,o.op with
   |some l,.defer c=>stepG.apply P true (mkF b tmps (.inRegion ops (i::rest)::k) df) cs none (do Instr.deferInRound l (←resolve (evT tmps) c o.type);pure .skip) w
   |_,_=>stepG.apply P true (mkF b tmps (.inRegion ops (i::rest)::k) df) cs none (execOp (evT tmps) o) w)=stepG.apply P true (mkF b tmps (.inRegion ops (i::rest)::k) df) cs none (execOp (evT tmps) o) w:=by
   intro r
   cases r with
   |none=>rfl
   |some l=>
    cases hop:o.op<;>first|rfl|exact absurd hop (hd _)
  have:=this b.roundOf
  simp only[mkF]at this
  simp[stepG,stepG.exec,stepG.oper,Frame.oper?,mkF,ho,hw,he]
  exact this
theorem zP{i:Nat}{rest:List Nat}{o:Oper}{v:Value}{w':World}(ho:ops[i]? =some o)(hw:Region.wanted o (yielded ops tmps)=true)(hd:b.roundOf=none∨∀c,o.op≠.defer c)
  (hr:(execOp (evT tmps) o).run P w=.ok (.value v) w'):
  step P (lone (mkF b tmps (.inRegion ops (i::rest)::k) df) cs w)=.next (lone (mkF b (jV tmps o.dst v) (.inRegion ops rest::k) df) cs w'):=by
 have:=iB (b:=b) (tmps:=tmps) (ops:=ops) (k:=k) (df:=df) i rest v
 rw[ho]at this
 simp only[Option.bind_some]at this
 rw[←this]
 exact step_lone_go (by rw[iJ ho hw hd];simp[stepG.apply,hr,mkF])
theorem aXc{i:Nat}{rest:List Nat}{o:Oper}{w':World}(ho:ops[i]? =some o)(hw:Region.wanted o (yielded ops tmps)=true)(hd:b.roundOf=none∨∀c,o.op≠.defer c)
  (hr:(execOp (evT tmps) o).run P w=.ok .skip w'):
  step P (lone (mkF b tmps (.inRegion ops (i::rest)::k) df) cs w)=.next (lone (mkF b (jV tmps o.dst undef) (.inRegion ops rest::k) df) cs w'):=by
 have:=iB (b:=b) (tmps:=tmps) (ops:=ops) (k:=k) (df:=df) i rest undef
 rw[ho]at this
 simp only[Option.bind_some]at this
 rw[←this]
 exact step_lone_go (by rw[iJ ho hw hd];simp[stepG.apply,hr,mkF])
theorem bHw{i:Nat}{rest:List Nat}{o:Oper}{v:Value}{w':World}(ho:ops[i]? =some o)(hw:Region.wanted o (yielded ops tmps)=true)(hd:b.roundOf=none∨∀c,o.op≠.defer c)
  (hr:(execOp (evT tmps) o).run P w=.halt (.panic v) w'):
  step P (lone (mkF b tmps (.inRegion ops (i::rest)::k) df) cs w)=.next (lone {mkF b tmps (.inRegion ops (i::rest)::k) df with mode:=.panicking [{v,recovered:=false}]} cs w'):=by
 rw[←vM]
 exact step_lone_go (by rw[iJ ho hw hd];simp[stepG.apply,hr,mkF])
theorem aHq{i:Nat}{rest:List Nat}{o:Oper}{f:FuncId}{args:Array Value}{w':World}(ho:ops[i]? =some o)(hw:Region.wanted o (yielded ops tmps)=true)(hd:b.roundOf=none∨∀c,o.op≠.defer c)
  (hr:(execOp (evT tmps) o).run P w=.ok (.enter f args) w'):
  step P (lone (mkF b tmps (.inRegion ops (i::rest)::k) df) cs w)=.next (lone (Frame.enter P f args .normal) (mkF b tmps (.inRegion ops (i::rest)::k) df::cs) w'):=
 step_lone_go (by rw[iJ ho hw hd];simp[stepG.apply,hr,mkF])
theorem aZu{i:Nat}{rest:List Nat}{o:Oper}{l:Nat}{f:FuncId}{ts:Array Value}{as bd:Code}{w':World}(ho:ops[i]? =some o)(hw:Region.wanted o (yielded ops tmps)=true)(hd:b.roundOf=none∨∀c,o.op≠.defer c)
  (hr:(execOp (evT tmps) o).run P w=.ok (.round l f ts as bd) w'):
  step P (lone (mkF b tmps (.inRegion ops (i::rest)::k) df) cs w)=.next (lone (Frame.round l f ts as bd .normal) (mkF b tmps (.inRegion ops (i::rest)::k) df::cs) w'):=
 step_lone_go (by rw[iJ ho hw hd];simp[stepG.apply,hr,mkF])
theorem aWr{i:Nat}{rest:List Nat}{o:Oper}{d:Deferred}{w':World}(ho:ops[i]? =some o)(hw:Region.wanted o (yielded ops tmps)=true)(hd:b.roundOf=none)
  (hr:(execOp (evT tmps) o).run P w=.ok (.defer d) w'):
  step P (lone (mkF b tmps (.inRegion ops (i::rest)::k) df) cs w)=.next (lone (mkF b (jV tmps o.dst undef) (.inRegion ops rest::k) (d::df)) cs w'):=by
 have:=iB (b:=b) (tmps:=tmps) (ops:=ops) (k:=k) (df:=d::df) i rest undef
 rw[ho]at this
 simp only[Option.bind_some]at this
 rw[←this]
 exact step_lone_go (by rw[iJ ho hw (.inl hd)];simp[stepG.apply,hr,mkF])
theorem yP{i:Nat}{rest:List Nat}{o:Oper}{w':World}(ho:ops[i]? =some o)(hw:Region.wanted o (yielded ops tmps)=true)(hd:b.roundOf=none)
  (hr:(execOp (evT tmps) o).run P w=.ok .recover w'):
  step P (lone (mkF b tmps (.inRegion ops (i::rest)::k) df) cs w)=
   match tryRecover (mkF b tmps (.inRegion ops (i::rest)::k) df) cs with
   |some (v,cs')=>.next (lone (mkF b (jV tmps o.dst v) (.inRegion ops rest::k) df) cs' w')
   |none=>.next (lone (mkF b (jV tmps o.dst .nilIface) (.inRegion ops rest::k) df) cs w'):=by
 have h1:=fun v=>iB (b:=b) (tmps:=tmps) (ops:=ops) (k:=k) (df:=df) i rest v
 rw[ho]at h1
 simp only[Option.bind_some]at h1
 split
 ·rename_i v cs' htr
  rw[←h1]
  refine step_lone_go ?_
  rw[iJ ho hw (.inl hd)]
  simp only[mkF]at htr
  simp[stepG.apply,hr,mkF,hd]
  rw[hd]at htr
  simp[htr]
 ·rename_i htr
  rw[←h1]
  refine step_lone_go ?_
  rw[iJ ho hw (.inl hd)]
  simp only[mkF]at htr
  simp[stepG.apply,hr,mkF,hd]
  rw[hd]at htr
  simp[htr]
end
theorem nT{P:Program}{f:FuncId}{fn:Func}(hf:P.funcs[f]? =some fn)(hb:fn.body.isSome=true)(hn:(fn.name== "runtime.NumGoroutine")=false)(args:Array Value)(w:World):
  (callFunc f args).run P w=.ok (.enter f args) w:=by
 have hb':fn.body.isNone=false:=by rw[←Option.not_isSome,hb];rfl
 simp only[callFunc,Sem.run_bind,run_program,Result.andThen_ok,hf,hn,Bool.false_eq_true,if_false,hb',Sem.run_pure]
theorem vS{P:Program}{dst:Option Tmp}{c:Go.Call}{f:Operand}{ty:TypeId}{pos:String}{after:Array Edge}{guard:Option (Nat×Bool)}{args:Array Operand}{argTypes:Array TypeId}{ρ:Operand→Value}{fv:Fn}{fi cp:Array Value}(h:ρ f=.func fv fi cp)(w:World):
  (execOp ρ ⟨dst,.call ⟨.value f,args,argTypes⟩,ty,pos,after,guard⟩).run P w=(invoke (.fn fv cp) (fi++args.map ρ)).run P w:=by
 simp only[execOp,resolve,h,Deferred.ofValue,Sem.run_bind,Sem.run_pure,Result.andThen_ok]
def aTs(c:Nat):List Nat→Nat→Option Nat
 |[],_=>none
 |b::r,i=>match Nat.beq b c with
  |true=>some i
  |false=>aTs c r (i+1)
theorem aIq{c:Nat}(hc:c<256):∀(l:List UInt8) (s:Nat) (f:Nat→UInt8),(∀(i:Nat) (h:i<l.length),f (s+i)=l[i])→
  (List.range' s l.length).find? (fun i=>f i==UInt8.ofNat c)=aTs c (l.map UInt8.toNat) s
 |[],s,f,h=>rfl
 |a::l,s,f,h=>by
  have h0:f s=a:=h 0 (by simp)
  have hb:(a==UInt8.ofNat c)=Nat.beq a.toNat c:=by
   rw[Bool.eq_iff_iff,beq_iff_eq,←UInt8.toNat_inj,Nat.beq_eq,UInt8.toNat_ofNat',Nat.mod_eq_of_lt hc]
  have ih:=aIq hc l (s+1) f (fun i hi=>by
   have:=h (i+1) (by simpa using hi)
   simpa [Nat.add_assoc,Nat.add_comm 1 i] using this)
  simp only[List.length_cons,List.range'_succ,List.find?_cons,List.map_cons,aTs,h0,hb]
  cases Nat.beq a.toNat c
  ·exact ih
  ·rfl
theorem bX{P:Program}{dst:Option Tmp}{bi:Builtin}{ty:TypeId}{pos:String}{after:Array Edge}{guard:Option (Nat×Bool)}{args:Array Operand}{argTypes:Array TypeId}{ρ:Operand→Value}(w:World):
  (execOp ρ ⟨dst,.call ⟨.builtin bi,args,argTypes⟩,ty,pos,after,guard⟩).run P w=(builtin bi argTypes ty (args.map fun|.const _=>true|_=>false) (args.map ρ)).run P w:=by
 simp only[execOp,resolve,Sem.run_bind,Sem.run_pure,Result.andThen_ok,invoke]
 rfl
theorem hC{P:Program}{s:Sem Value}{v:Value}{w w':World}(h:s.run P w=.ok v w'):(do pure (Next.value (←s)):Sem Next).run P w=.ok (.value v) w':=by simp[h]
theorem oT(id i:Nat)(k:List Item):exitTo id (.inBlock i::k)=if i==id then some k else exitTo id k:=rfl
end
section
variable{P:Program}
section
variable{b:Frame}{tmps:Array Value}{df:List Deferred}{k:List Item}{cs:List Frame}{w:World}
theorem aDk{f:Operand}{ps:Array Tmp}{as bd:Code}{g:FuncId}{fi cp:Array Value}{fn:Func}(hro:b.roundOf=none)(hf:evT tmps f=.func (.func g) fi cp)(hfn:P.funcs[g]? =some fn)(hb:fn.body.isSome=true)(hn:(fn.name== "runtime.NumGoroutine")=false):
  step P (lone (mkF b tmps (.code (.rangeFunc f ps as bd)::k) df) cs w)=
   .next (lone (Frame.enter P g ((fi++ #[.func (.yield (w.heap.size+1)) #[] #[]])++cp) .normal) (mkF b tmps (.inRangeFunc (w.heap.size+1)::k) ({target:=.collected w.heap.size,args:= #[]}::df)::cs)
    {w with heap:=(w.heap.push (.deferred (some []))).push (.loop {state:=.ready,pending:=none,fn:=b.fn,tmps,params:=ps,assign:=as,body:=bd,defers:=w.heap.size})}):=by
 have he:=aAe b tmps (.inRangeFunc (w.heap.size+1)::k) ({target:=.collected w.heap.size,args:= #[]}::df)
 have hcf:=nT (P:=P) hfn hb hn
 have hrs:∀w':World,(resolve (evT tmps) {callee:=.value f,args:= #[.const (.func (.yield (w.heap.size+1)) #[] #[])],argTypes:= #[]} 0).run P w'=.ok {target:=.fn (.func g) cp,args:=fi++ #[.func (.yield (w.heap.size+1)) #[] #[]]} w':=by
  intro w'
  simp only[resolve,hf,Deferred.ofValue,Sem.run_pure]
  congr 2
  congr 1
  simp[evT]
 have hinv:∀w':World,(invoke (.fn (.func g) cp) (fi++ #[.func (.yield (w.heap.size+1)) #[] #[]])).run P w'=.ok (.enter g ((fi++ #[.func (.yield (w.heap.size+1)) #[] #[]])++cp)) w':=by
  intro w'
  simp only[invoke];exact hcf _ _
 simp only[mkF,hro]at he
 refine step_lone_go ?_
 simp[stepG,stepG.exec,mkF,hro,Instr.enterLoop,stepG.apply,he,hrs,hinv,-Array.append_singleton,-Array.push_append]
 rfl
theorem aHi{l:Nat}{jump:Option Code}{w':World}(h:(Instr.endLoop l).run P w=.ok jump w'):
  step P (lone (mkF b tmps (.endRangeFunc l::k) df) cs w)=.next (lone (mkF b tmps ((jump.map Item.code).toList++k) df) cs w'):=
 step_lone_go (by simp[stepG,stepG.exec,mkF,h])
end
theorem lT{w:World}{B:Nat}{L:Loop}(h:w.heap[B]? =some (.loop L)):(getObj B).run P w=.ok (.loop L) w:=by simp[getObj,Sem.run,h]
theorem oF{w:World}{B:Nat}{ob:Go.Obj}(h:w.heap[B]? =some ob)(hc:∀c e f,ob≠.cells c e f)(o:Go.Obj):(setObj B o).run P w=.ok () {w with heap:=w.heap.setIfInBounds B o}:=by
 cases ob<;>first|exact absurd rfl (hc _ _ _)|simp[setObj,Sem.run,h]
theorem sO{w:World}{B:Nat}{co co':Go.Obj}(h:w.heap[B]? =some co):(w.heap.setIfInBounds B co')[B]? =some co':=by
 have:B<w.heap.size:=(Array.getElem?_eq_some_iff.1 h).1
 simp[this]
theorem aRt(h:Array Go.Obj)(x:Go.Obj):(h.push x)[h.size]? =some x:=by simp
section
variable{b:Frame}{tmps:Array Value}{df:List Deferred}{k:List Item}{cs:List Frame}{w:World}
theorem bBo(hro:b.roundOf=none):step P (lone (mkF b tmps [] df) cs w)=.next (lone {mkF b tmps [] df with mode:=.returning} cs w):=
 step_lone_go (by simp[stepG,stepG.exec,mkF,hro])
theorem bGk(hro:b.roundOf=none):step P (lone (mkF b tmps (.code .ret::k) df) cs w)=.next (lone {mkF b tmps (.code .ret::k) df with mode:=.returning} cs w):=
 step_lone_go (by simp[stepG,stepG.exec,mkF,hro])
end
def aSy(tmps:Array Value):ResultVar→Sem Value
 |.tmp t=>pure (tmps.getD t undef)
 |.cell a t=>do loadVar t (←asAddr (tmps.getD a undef))
theorem aUf(tmps:Array Value)(t:Nat)(w:World):(aSy tmps (.tmp t)).run P w=.ok (tmps.getD t undef) w:=rfl
theorem aRk{tmps:Array Value}{a:Nat}{t:TypeId}{A:Addr}(h:tmps.getD a undef=.pointer (some A))(w:World):(aSy tmps (.cell a t)).run P w=(loadVar t A).run P w:=by
 simp only[aSy,h,asAddr,Sem.run_bind,Sem.run_pure,Result.andThen_ok]
theorem aCu{fr:Frame}{cs:List Frame}{w w':World}{blk:Nat}{args:Array Value}{ds calls:List Deferred}(hm:fr.mode≠.run)(hd:fr.defers={target:=.collected blk,args}::ds)(h:(Instr.takeDeferred blk).run P w=.ok calls w'):
  step P (lone fr cs w)=.next (lone {fr with defers:=calls++ds} cs w'):=by
 refine step_lone_go ?_
 cases hmode:fr.mode with
 |run=>exact absurd hmode hm
 |returning=>simp[stepG,unwind,hmode,hd,h]
 |panicking chain=>simp[stepG,unwind,hmode,hd,h]
section
variable{b:Frame}{tmps:Array Value}{k:List Item}{c:Frame}{cs:List Frame}{w w':World}{L:Nat}
theorem aWd(hro:b.roundOf=some L)(h:(Instr.beginRound L).run P w=.ok () w'):step P (lone (mkF b tmps (.beginRound::k) []) cs w)=.next (lone (mkF b tmps k []) cs w'):=
 step_lone_go (by simp[stepG,stepG.exec,mkF,hro,stepG.apply,h,Frame.finish])
theorem bAl{j:Option Code}{v:Value}{todo:List Item}(hro:b.roundOf=some L)(hk:b.kind=.normal)(h:(Instr.endRound L j).run P w=.ok v w')
  (ht:(j=none∧todo=[])∨(j=some .ret∧∃k,todo=.code .ret::k)∨∃id k,j=some (.exit id)∧todo=.code (.exit id)::k∧exitTo id k=none):
  step P (lone (mkF b tmps todo []) (c::cs) w)=.next (lone (c.finish v) cs w'):=by
 refine step_lone_go ?_
 rcases ht with⟨rfl,rfl⟩|⟨rfl,k,rfl⟩|⟨id,k,rfl,rfl,he⟩
 ·simp[stepG,stepG.exec,mkF,hro,hk,h,doReturn]
 ·simp[stepG,stepG.exec,mkF,hro,hk,h,doReturn]
 ·simp[stepG,stepG.exec,mkF,hro,hk,h,doReturn,he]
end
end
section
variable{P:Program}
def cls(P:Program)(o:Oper):Nat:=
 match o.op with
 |.move _|.assign _|.pick _ _ _|.build _ _|.nilCheck _|.binOp _ _ _ _ _|.unOp _ _ _|.makeInterface _ _|.makeFunc _ _ _
 |.slice _ _ _ _ _|.fieldAddr _ _ _|.field _ _ _|.indexAddr _ _ _|.index _ _ _|.typeAssert _ _ _ _|.extract _ _=>0
 |.load _ _|.lookup _ _ _ _=>1
 |.convert s d _=>match P.underlying d with
  |some (.slice _)=>2
  |_=>match P.underlying s with
   |some (.slice _)=>1
   |_=>0
 |.call {callee:=.builtin b,..}=>match b with
  |.len=>1
  |.cap|.max|.min=>0
  |_=>4
 |.alloc _|.box _ _|.buildSlice _ _ _|.makeMap _ _|.makeSlice _ _ _=>2
 |.store _ _ _=>3
 |_=>4
def sP(acc:List Nat)(es:List Edge):Nat:=
 match es with
 |[]=>0
 |e::es=>if Region.binds .any e then 2^e.on|||acc.getD e.on 0|||sP acc es else sP acc es
def mN:List Oper→List Nat→List Nat
 |[],acc=>acc
 |o::os,acc=>mN os (acc++[sP acc o.after.toList])
structure It where
 i:Nat
 o:Oper
 c:Nat
 anc:Nat
 lo:Nat
def qJ(P:Program):List Oper→Nat→List Nat
 |[],_=>[]
 |o::os,i=>match Nat.ble 3 (cls P o)with
  |true=>i::qJ P os (i+1)
  |false=>qJ P os (i+1)
def qI(an:Nat):List Nat→Nat
 |[]=>0
 |h::hs=>match an.testBit h with
  |true=>qI an hs+1
  |false=>qI an hs
def tM(P:Program)(hs:List Nat):List Oper→List Nat→Nat→List It
 |o::os,an::as,i=>⟨i,o,cls P o,an,qI an hs⟩::tM P hs os as (i+1)
 |_,_,_=>[]
def items(P:Program)(ops:List Oper):List It:=
 tM P (qJ P ops 0) ops (mN ops []) 0
def bIw(x y:It):Bool:=x.anc.testBit y.i||y.anc.testBit x.i
def tmpsOf(ops:Array Oper)(o:Oper):List Nat:=
 o.op.operands.toList.filterMap (fun|.tmp t=>some t|_=>none)++
 (match o.guard with|some (j,_)=>((ops[j]?).bind (·.dst)).toList|none=>[])
def jK(ops:Array Oper)(its:List It):Bool:=
 its.all fun x=>its.all fun y=>Nat.beq x.i y.i||bIw x y||
  !(match y.o.dst with|some d=>(tmpsOf ops x.o).contains d||x.o.dst==some d|none=>false)
def aAi(its:List It):Bool:=its.all fun x=>x.o.after.toList.all fun e=>!Region.binds .any e||Nat.blt e.on x.i
theorem uW{acc:List Nat}{j:Nat}:∀{es:List Edge},(sP acc es).testBit j=true→∃e∈es,Region.binds .any e=true∧(j=e.on∨(acc.getD e.on 0).testBit j=true)
 |[],h=>by simp[sP]at h
 |e::es,h=>by
  simp only[sP]at h
  split at h
  ·rename_i hb
   rw[Nat.testBit_or,Nat.testBit_or,Bool.or_eq_true,Bool.or_eq_true]at h
   rcases h with(h|h)|h
   ·rw[Nat.testBit_two_pow]at h
    exact⟨e,List.mem_cons_self ..,hb,.inl (of_decide_eq_true h).symm⟩
   ·exact⟨e,List.mem_cons_self ..,hb,.inr h⟩
   ·obtain⟨e',h1,h2,h3⟩:=uW h
    exact⟨e',List.mem_cons_of_mem _ h1,h2,h3⟩
  ·obtain⟨e',h1,h2,h3⟩:=uW h
   exact⟨e',List.mem_cons_of_mem _ h1,h2,h3⟩
theorem aCe:∀(os:List Oper) (acc:List Nat),∃A,mN os acc=acc++A∧A.length=os.length∧∀(k:Nat) (o:Oper),os[k]? =some o→A[k]? =some (sP (acc++A.take k) o.after.toList)
 |[],acc=>⟨[],by simp[mN],rfl,by simp⟩
 |o::os,acc=>by
  obtain⟨A,h1,h2,h3⟩:=aCe os (acc++[sP acc o.after.toList])
  refine⟨sP acc o.after.toList::A,by simp[mN,h1],by simp[h2],fun k o' hk=>?_⟩
  cases k with
  |zero=>simp at hk;subst hk;simp
  |succ k=>simpa using h3 k o' (by simpa using hk)
theorem sD(hs:List Nat):∀(os:List Oper) (as:List Nat) (i:Nat),os.length=as.length→
  ∀(k:Nat) (o:Oper) (an:Nat),os[k]? =some o→as[k]? =some an→(tM P hs os as i)[k]? =some ⟨i+k,o,cls P o,an,qI an hs⟩
 |[],_,_,_,k,o,an,h,_=>by simp at h
 |o::os,[],_,hl,_,_,_,_,_=>by simp at hl
 |o::os,a::as,i,hl,0,o',an,h,g=>by simp at h g;subst h;subst g;simp[tM]
 |o::os,a::as,i,hl,k+1,o',an,h,g=>by
  have:=sD hs os as (i+1) (by simpa using hl) k o' an (by simpa using h) (by simpa using g)
  simp only[tM,List.getElem?_cons_succ,this]
  congr 2;omega
theorem aBu(hs:List Nat):∀(os:List Oper) (as:List Nat) (i:Nat) (it:It),it∈tM P hs os as i→∃k,os[k]? =some it.o∧as[k]? =some it.anc∧it.i=i+k∧it.c=cls P it.o
 |[],_,_,it,h=>by simp[tM]at h
 |o::os,[],_,it,h=>by simp[tM]at h
 |o::os,a::as,i,it,h=>by
  simp only[tM,List.mem_cons]at h
  rcases h with rfl|h
  ·exact⟨0,rfl,rfl,rfl,rfl⟩
  ·obtain⟨k,h1,h2,h3,h4⟩:=aBu hs os as (i+1) it h
   exact⟨k+1,by simpa using h1,by simpa using h2,by omega,h4⟩
structure ItsOk(P:Program)(ops:Array Oper)(its:List It):Prop where
 op:∀it∈its,ops[it.i]? =some it.o
 cl:∀it∈its,it.c=cls P it.o
 all:∀i,i<ops.size→∃it∈its,it.i=i
 uniq:∀a∈its,∀b∈its,a.i=b.i→a=b∨(a.o=b.o∧a.anc=b.anc∧a.c=b.c)
 anc:∀it∈its,∀j,it.anc.testBit j=true→∃e∈it.o.after.toList,Region.binds .any e=true∧(j=e.on∨∃it2∈its,it2.i=e.on∧it2.i<it.i∧it2.anc.testBit j=true)
theorem aJj(ops:Array Oper):ItsOk P ops (items P ops.toList):=by
 obtain⟨A,h1,h2,h3⟩:=aCe ops.toList []
 have hA:mN ops.toList []=A:=by simpa using h1
 have hl:ops.toList.length=A.length:=h2.symm
 unfold items
 rw[hA]
 generalize qJ P ops.toList 0=hs
 have mem:=aBu (P:=P) hs ops.toList A 0
 refine⟨fun it hit=>?_,fun it hit=>?_,fun i hi=>?_,fun a ha b hb hab=>?_,fun it hit j hj=>?_⟩
 ·obtain⟨k,g1,g2,g3,g4⟩:=mem it hit
  rw[g3,Nat.zero_add];simpa using g1
 ·obtain⟨k,g1,g2,g3,g4⟩:=mem it hit;exact g4
 ·obtain⟨o,ho⟩:∃o,ops.toList[i]? =some o:=⟨ops.toList[i]'(by simpa using hi),by simp[hi]⟩
  have:=sD (P:=P) hs ops.toList A 0 hl i o _ ho (h3 i o ho)
  exact⟨_,List.mem_of_getElem? this,by simp⟩
 ·obtain⟨k,g1,g2,g3,g4⟩:=mem a ha
  obtain⟨k',g1',g2',g3',g4'⟩:=mem b hb
  have:k=k':=by omega
  subst this
  rw[g1]at g1';rw[g2]at g2'
  have e1:=Option.some.inj g1'
  have e2:=Option.some.inj g2'
  exact .inr ⟨e1,e2,by rw[g4,g4',e1]⟩
 ·obtain⟨k,g1,g2,g3,g4⟩:=mem it hit
  have:=h3 k it.o g1
  rw[g2]at this
  have e:=Option.some.inj this
  rw[e]at hj
  obtain⟨ed,q1,q2,q3⟩:=uW hj
  refine⟨ed,q1,q2,?_⟩
  rcases q3 with q3|q3
  ·exact .inl q3
  ·refine .inr ?_
   rw[List.nil_append,List.getD_eq_getElem?_getD,List.getElem?_take]at q3
   split at q3
   ·rename_i hlt
    cases hA2:A[ed.on]? with
    |none=>rw[hA2]at q3;simp at q3
    |some an=>
     rw[hA2]at q3
     have hlt2:ed.on<A.length:=(List.getElem?_eq_some_iff.1 hA2).1
     obtain⟨o2,ho2⟩:∃o,ops.toList[ed.on]? =some o:=⟨ops.toList[ed.on]'(by omega),by simp⟩
     have:=sD (P:=P) hs ops.toList A 0 hl ed.on o2 an ho2 hA2
     exact⟨_,List.mem_of_getElem? this,by simp,by simp;omega,by simpa using q3⟩
   ·simp at q3
theorem aLf{ops:Array Oper}{its:List It}(ok:ItsOk P ops its){I:Nat→Bool}(dc:∀it∈its,I it.i=true→∀e∈it.o.after.toList,Region.binds .any e=true→I e.on=true):
  ∀(n:Nat) (it:It),it.i<n→it∈its→(∀e∈it.o.after.toList,Region.binds .any e=true→I e.on=true)→∀j,it.anc.testBit j=true→I j=true:=by
 intro n
 induction n with
 |zero=>intro it h;omega
 |succ n ih=>
  intro it hn hit he j hj
  obtain⟨e,h1,h2,h3⟩:=ok.anc it hit j hj
  rcases h3 with rfl|⟨it2,q1,q2,q3,q4⟩
  ·exact he e h1 h2
  ·exact ih it2 (by omega) q1 (dc it2 q1 (by rw[q2];exact he e h1 h2)) j q4
theorem vN{ops:Array Oper}{its:List It}(h:jK ops its=true){x y:It}(hx:x∈its)(hy:y∈its)(hne:x.i≠y.i){t:Nat}(hd:y.o.dst=some t)(hr:t∈tmpsOf ops x.o∨x.o.dst=some t):
  x.anc.testBit y.i=true∨y.anc.testBit x.i=true:=by
 unfold jK at h
 have:=List.all_eq_true.1 (List.all_eq_true.1 h x hx) y hy
 simp only[hd,Bool.or_eq_true,Bool.not_eq_true',bIw]at this
 rcases this with(h1|h1)|h1
 ·exact absurd h1 (by first|(intro q;exact hne (Nat.eq_of_beq_eq_true q))|(intro q;exact hne (Nat.eq_of_beq_eq_true q).symm)|(intro q;exact hne (eq_of_beq q))|(intro q;exact hne (eq_of_beq q).symm)|(simpa using hne)|(intro q;exact hne (by simpa using q)))
 ·exact h1
 ·exfalso
  rw[Bool.or_eq_false_iff]at h1
  rcases hr with hr|hr
  ·have:=h1.1;rw[List.contains_iff_mem.2 hr]at this;cases this
  ·have:=h1.2;rw[hr]at this;simp at this
def mK(its:List It)(I:Nat→Bool):Prop:=∀it∈its,I it.i=true→∀e∈it.o.after.toList,Region.binds .any e=true→I e.on=true
def IxR(ops:Array Oper):Nat→Oper→Prop:=fun i o=>ops[i]? =some o
theorem aXf(ops:Array Oper):All₂ (IxR ops) (List.range ops.size) ops.toList:=by
 have key:∀(l:List Oper) (n:Nat) (ops:Array Oper),(∀j o,l[j]? =some o→ops[n+j]? =some o)→All₂ (IxR ops) (List.range' n l.length) l:=by
  intro l
  induction l with
  |nil=>intro n ops h;exact .nil
  |cons a l ih=>
   intro n ops h
   rw[List.length_cons,List.range'_succ]
   refine .cons (h 0 a rfl) (ih (n+1) ops fun j o hj=>?_)
   have:=h (j+1) o (by simpa using hj)
   rwa[show n+1+j=n+(j+1) by omega]
 rw[List.range_eq_range',←Array.length_toList]
 exact key ops.toList 0 ops fun j o hj=>by rw[Nat.zero_add];simpa using hj
def jL:List It→Bool
 |[]=>true
 |x::xs=>xs.all (fun y=>y.anc.testBit x.i)&&jL xs
theorem rL{x:It}{xs:List It}(h:jL (x::xs)=true):(∀y∈xs,y.anc.testBit x.i=true)∧jL xs=true:=by
 simp only[jL,Bool.and_eq_true,List.all_eq_true]at h
 exact h
theorem bAy{n i:Nat}(h:i<n):(2^n-1).testBit i=true:=by rw[Nat.testBit_two_pow_sub_one];exact decide_eq_true h
end
end Go.VM
end
section
/- The machine of values: its values, its memory, and how they stand to the model's. -/
namespace Go.VM
open Go.RowKit
inductive LC where
 |ex (c:Nat)
 |unk
 |tk (id:Nat)
 |nl
 |nn
 deriving Inhabited
inductive V where
 |bool (b:Bool)
 |int (k:IntKind) (n:Int)
 |str (s:List Nat)
 |iR
 |ptr (b o:Nat)
 |lst (es:List (List V)) (c:LC)
 |sl (b o len:Nat) (cap:Cp)
 |fX
 |map (r:Nat)
 |fn (f:Fn) (first cap:List V)
 |hY
 |iface (t:Nat) (v:V)
 |fF
 |agg (l:List V)
 |tup (l:List V)
 deriving Inhabited
def V.cells:V→List V
 |.agg l=>l
 |v=>[v]
def V.aW:V→Bool
 |.agg _|.tup _=>false
 |_=>true
def bG:V:=.tup []
def V.bV:V→V
 |.lst es _=>.lst es .unk
 |v=>v
inductive TV where
 |v (x:V)
 |l (d o:Nat)
 |e (cs:List V)
 deriving Inhabited
abbrev TM:=List (Nat×TV)
def tg:TM→Nat→Option TV
 |[],_=>none
 |(k,v)::r,n=>match Nat.beq k n with
  |true=>some v
  |false=>tg r n
def bFr(tm:TM)(d:Nat):TM:=tm.filter fun e=>!Nat.beq e.1 d
abbrev LM:=List (Nat×List V)
def lg:LM→Nat→Option (List V)
 |[],_=>none
 |(k,v)::r,n=>match Nat.beq k n with
  |true=>some v
  |false=>lg r n
structure ADef where
 fn:Fn
 cap:List V
 args:List V
inductive AD where
 |call (d:ADef)
 |collected (r:Nat)
structure ALoop where
 state:LoopState
 pending:Option Code
 fn:FuncId
 blk:Bool
 tmps:TM
 nt:Nat
 params:List Tmp
 assign:Code
 body:Code
inductive Obj where
 |cells (opn:Bool) (cs:List V)
 |map (es:List (V×V))
 |loop (l:ALoop)
 |dfr (calls:Option (List AD))
 |siter (s:List Nat) (pos:Nat)
 |tok (n:Nat)
structure H where
 nxt:Nat
 ob:Nat→Option Obj
 lc:LM
def H.put(h:H)(b:Nat)(o:Obj):H:={h with ob:=fun k=>if k=b then some o else h.ob k}
def H.kill(h:H)(b:Nat):H:={h with ob:=fun k=>if k=b then none else h.ob k}
def H.new(h:H)(o:Obj):H:={h with nxt:=h.nxt+1,ob:=fun k=>if k=h.nxt then some o else h.ob k}
structure Env where
 ob:Nat→Option Place
 fz:Nat→Nat→Option Value
 tk:Nat→Nat→Option Place
structure Env.le(E E':Env):Prop where
 ob:∀b p,E.ob b=some p→E'.ob b=some p
 fz:∀B i v,E.fz B i=some v→E'.fz B i=some v
 tk:∀b n p,E.tk b n=some p→E'.tk b n=some p
theorem Env.le_refl(E:Env):E.le E:=⟨fun _ _ h=>h,fun _ _ _ h=>h,fun _ _ _ h=>h⟩
theorem Env.le.trans{E E' E'':Env}(h:E.le E')(k:E'.le E''):E.le E'':=⟨fun b p hb=>k.ob b p (h.ob b p hb),fun b i v hb=>k.fz b i v (h.fz b i v hb),fun b n p hb=>k.tk b n p (h.tk b n p hb)⟩
def LC0:LC→Option Addr→Nat→Prop
 |.ex k,_,cap=>cap=k
 |.unk,_,_=>True
 |.tk _,_,cap=>cap=0
 |.nl,a,_=>a=none
 |.nn,a,_=>a.isSome=true
def CapR(E:Env)(c:LC)(blk off z n cap:Nat):Prop:=
 match c with
 |.ex k=>cap=k
 |.unk=>True
 |.tk id=>E.tk id n=some ⟨blk,off+n*z,(cap-n)*z⟩
 |.nl=>False
 |.nn=>True
theorem CapR.mono{E E':Env}(h:E.le E'){c:LC}{blk off z n cap:Nat}(r:CapR E c blk off z n cap):CapR E' c blk off z n cap:=by
 cases c with
 |ex k=>exact r
 |tk id=>exact h.tk _ _ _ r
 |_=>exact r
mutual
inductive AR(E:Env):V→Value→Prop where
 |bool (b:Bool):AR E (.bool b) (.bool b)
 |int (k:IntKind) (n:Int):AR E (.int k n) (.int k n)
 |str (s:List Nat) (x:ByteArray) (h:x.data.toList.map UInt8.toNat=s):AR E (.str s) (.string x)
 |iR:AR E .iR (.pointer none)
 |ptr (b o:Nat) (p:Place) (h:E.ob b=some p):AR E (.ptr b o) (.pointer (some ⟨p.blk,p.off+o,none⟩))
 |lst0 (c:LC) (a:Option Addr) (cap:Nat) (h:LC0 c a cap):AR E (.lst [] c) (.slice a 0 cap)
 |lst (e:List V) (es:List (List V)) (c:LC) (blk off n cap z:Nat) (h:FZs E blk off z (e::es)) (hn:n=es.length+1) (hc:n≤cap) (hr:CapR E c blk off z n cap):AR E (.lst (e::es) c) (.slice (some ⟨blk,off,none⟩) n cap)
 |sl (b o n:Nat) (p:Place) (c:Nat) (h:E.ob b=some p) (hn:n≤c):AR E (.sl b o n (.ex c)) (.slice (some ⟨p.blk,p.off+o,none⟩) n c)
 |slo (b o n z:Nat) (p:Place) (c:Nat) (h:E.ob b=some p) (hc:o+c*z=p.ext) (hn:n≤c):AR E (.sl b o n (.op z)) (.slice (some ⟨p.blk,p.off+o,none⟩) n c)
 |sl0 (b o:Nat) (c:Cp) (a:Addr) (hc:∀k,c=.ex k→k=0) (p:Place) (h:E.ob b=some p) (hz:∀z,c=.op z→p.ext≤o):AR E (.sl b o 0 c) (.slice (some a) 0 0)
 |fX:AR E .fX (.map none)
 |map (r:Nat) (p:Place) (h:E.ob r=some p):AR E (.map r) (.map (some p.blk))
 |fn (f:FuncId) (a c:List V) (a' c':Array Value) (ha:ARs E a a'.toList) (hc:ARs E c c'.toList):AR E (.fn (.func f) a c) (.func (.func f) a' c')
 |yld (l:Nat) (p:Place) (h:E.ob l=some p):AR E (.fn (.yield l) [] []) (.func (.yield p.blk) #[] #[])
 |hY:AR E .hY .nilFunc
 |iface (t:Nat) (v:V) (v':Value) (h:AR E v v'):AR E (.iface t v) (.iface t v')
 |fF:AR E .fF .nilIface
 |agg (l:List V) (cs:Array Value) (h:ARs E l cs.toList):AR E (.agg l) (.agg cs)
 |tup (l:List V) (cs:Array Value) (h:ARs E l cs.toList):AR E (.tup l) (.tuple cs)
inductive ARs(E:Env):List V→List Value→Prop where
 |nil:ARs E [] []
 |cons (v:V) (v':Value) (l:List V) (l':List Value) (h:AR E v v') (t:ARs E l l'):ARs E (v::l) (v'::l')
inductive FZ(E:Env):Nat→Nat→List V→Prop where
 |nil (blk off:Nat):FZ E blk off []
 |cons (blk off:Nat) (v:V) (v':Value) (l:List V) (hf:E.fz blk off=some v') (hc:v.aW=true) (h:AR E v v') (t:FZ E blk (off+1) l):FZ E blk off (v::l)
inductive FZs(E:Env):Nat→Nat→Nat→List (List V)→Prop where
 |nil (blk off z:Nat):FZs E blk off z []
 |cons (blk off z:Nat) (e:List V) (es:List (List V)) (hz:e.length=z) (h:FZ E blk off e) (t:FZs E blk (off+z) z es):FZs E blk off z (e::es)
end
mutual
theorem AR.mono{E E':Env}(h:E.le E'):∀{v:V} {v':Value},AR E v v'→AR E' v v'
 |_,_,.bool b=>.bool b
 |_,_,.int k n=>.int k n
 |_,_,.str s x e=>.str s x e
 |_,_,.iR=>.iR
 |_,_,.ptr b o p e=>.ptr b o p (h.ob _ _ e)
 |_,_,.lst0 c a cap e=>.lst0 c a cap e
 |_,_,.lst e es c blk off n cap z r hn hc hr=>.lst e es c blk off n cap z (FZs.mono h r) hn hc (hr.mono h)
 |_,_,.sl b o n p c e hn=>.sl b o n p c (h.ob _ _ e) hn
 |_,_,.slo b o n z p c e hc hn=>.slo b o n z p c (h.ob _ _ e) hc hn
 |_,_,.sl0 b o c a hc p e hz=>.sl0 b o c a hc p (h.ob _ _ e) hz
 |_,_,.fX=>.fX
 |_,_,.map r p e=>.map r p (h.ob _ _ e)
 |_,_,.fn f a c a' c' ha hc=>.fn f a c a' c' (ARs.mono h ha) (ARs.mono h hc)
 |_,_,.yld l p e=>.yld l p (h.ob _ _ e)
 |_,_,.hY=>.hY
 |_,_,.iface t v v' e=>.iface t v v' (AR.mono h e)
 |_,_,.fF=>.fF
 |_,_,.agg l cs e=>.agg l cs (ARs.mono h e)
 |_,_,.tup l cs e=>.tup l cs (ARs.mono h e)
theorem ARs.mono{E E':Env}(h:E.le E'):∀{l:List V} {l':List Value},ARs E l l'→ARs E' l l'
 |_,_,.nil=>.nil
 |_,_,.cons v v' l l' e t=>.cons v v' l l' (AR.mono h e) (ARs.mono h t)
theorem FZ.mono{E E':Env}(h:E.le E'):∀{blk off:Nat} {l:List V},FZ E blk off l→FZ E' blk off l
 |_,_,_,.nil _ _=>.nil _ _
 |_,_,_,.cons blk off v v' l hf hc hr t=>.cons blk off v v' l (h.fz _ _ _ hf) hc (AR.mono h hr) (FZ.mono h t)
theorem FZs.mono{E E':Env}(h:E.le E'):∀{blk off z:Nat} {l:List (List V)},FZs E blk off z l→FZs E' blk off z l
 |_,_,_,_,.nil _ _ _=>.nil _ _ _
 |_,_,_,_,.cons blk off z e es hz hr t=>.cons blk off z e es hz (FZ.mono h hr) (FZs.mono h t)
end
theorem ARs.length{E:Env}:∀{l:List V} {l':List Value},ARs E l l'→l.length=l'.length
 |_,_,.nil=>rfl
 |_,_,.cons v v' l l' e t=>by simp[ARs.length t]
theorem ARs.get{E:Env}:∀{l:List V} {l':List Value},ARs E l l'→∀(i:Nat) (v:V),l[i]? =some v→∃v',l'[i]? =some v'∧AR E v v'
 |_,_,.nil,i,v,h=>by simp at h
 |_,_,.cons a a' l l' e t,0,v,h=>by simp at h;subst h;exact⟨a',rfl,e⟩
 |_,_,.cons a a' l l' e t,i+1,v,h=>by simpa using ARs.get t i v (by simpa using h)
theorem ARs.append{E:Env}:∀{l m:List V} {l' m':List Value},ARs E l l'→ARs E m m'→ARs E (l++m) (l'++m')
 |_,_,_,_,.nil,h=>h
 |_,_,_,_,.cons v v' l l' e t,h=>.cons v v' _ _ e (ARs.append t h)
theorem ARs.take{E:Env}:∀(n:Nat) {l:List V} {l':List Value},ARs E l l'→ARs E (l.take n) (l'.take n)
 |0,_,_,_=>by simpa using .nil
 |n+1,_,_,.nil=>.nil
 |n+1,_,_,.cons v v' l l' e t=>.cons v v' _ _ e (ARs.take n t)
theorem ARs.drop{E:Env}:∀(n:Nat) {l:List V} {l':List Value},ARs E l l'→ARs E (l.drop n) (l'.drop n)
 |0,_,_,h=>h
 |n+1,_,_,.nil=>.nil
 |n+1,_,_,.cons v v' l l' e t=>ARs.drop n t
theorem ARs.eY{E:Env}:∀{l:List V} {l':List Value},l.length=l'.length→(∀(i:Nat) (v:V),l[i]? =some v→∃v',l'[i]? =some v'∧AR E v v')→ARs E l l'
 |[],[],_,_=>.nil
 |v::l,v'::l',h,g=>by
  obtain⟨u,hu,hr⟩:=g 0 v rfl
  simp at hu;subst hu
  exact .cons v v' l l' hr (ARs.eY (by simpa using h) fun i x hx=>by simpa using g (i+1) x (by simpa using hx))
theorem AR.aW{E:Env}{v:V}{v':Value}(h:AR E v v')(hc:v.aW=true):(∀l,v'≠.agg l)∧∀l,v'≠.tuple l:=by
 cases h<;>simp[V.aW]at hc<;>exact⟨(fun _ e=>by cases e),(fun _ e=>by cases e)⟩
theorem AR.aEv{E:Env}{v:V}{v':Value}(h:AR E v v')(hc:v.aW=true):v'.oneCell'=true:=by
 obtain⟨n1,n2⟩:=h.aW hc
 cases v'<;>first|rfl|exact absurd rfl (n1 _)|exact absurd rfl (n2 _)
theorem AR.cells{E:Env}{v:V}{v':Value}(h:AR E v v'):ARs E v.cells v'.cells.toList:=by
 cases h with
 |agg l cs h=>exact h
 |_=>exact .cons _ _ _ _ (by constructor<;>assumption) .nil
theorem AR.bV{E:Env}{v:V}{v':Value}(h:AR E v v'):AR E v.bV v':=by
 cases h with
 |lst0 c a cap e=>exact .lst0 .unk a cap trivial
 |lst e es c blk off n cap z r hn hc hr=>exact .lst e es .unk blk off n cap z r hn hc trivial
 |_=>constructor<;>assumption
theorem ARs.bV{E:Env}:∀{l:List V} {l':List Value},ARs E l l'→ARs E (l.map V.bV) l'
 |_,_,.nil=>.nil
 |_,_,.cons v v' l l' e t=>.cons _ _ _ _ e.bV (ARs.bV t)
theorem aAs(v:V):v.bV.aW=v.aW:=by cases v<;>rfl
theorem FZ.get{E:Env}:∀{blk off:Nat} {l:List V},FZ E blk off l→∀(i:Nat) (v:V),l[i]? =some v→v.aW=true∧∃v',E.fz blk (off+i)=some v'∧AR E v v'
 |_,_,_,.nil _ _,i,v,h=>by simp at h
 |_,_,_,.cons blk off v v' l hf hc hr t,0,u,h=>by simp at h;subst h;exact⟨hc,v',hf,hr⟩
 |_,_,_,.cons blk off v v' l hf hc hr t,i+1,u,h=>by
  have:=FZ.get t i u (by simpa using h)
  rwa[show off+1+i=off+(i+1) by omega]at this
theorem FZ.eY{E:Env}{blk:Nat}:∀{off:Nat} {l:List V},(∀(i:Nat) (v:V),l[i]? =some v→v.aW=true∧∃v',E.fz blk (off+i)=some v'∧AR E v v')→FZ E blk off l
 |off,[],_=>.nil _ _
 |off,v::l,h=>by
  obtain⟨a,v',b,c⟩:=h 0 v rfl
  refine .cons blk off v v' l b a c (FZ.eY fun i u hu=>?_)
  have:=h (i+1) u (by simpa using hu)
  rwa[show off+(i+1)=off+1+i by omega]at this
theorem FZ.drop{E:Env}{blk off:Nat}{l:List V}(h:FZ E blk off l)(n:Nat):FZ E blk (off+n) (l.drop n):=
 FZ.eY fun i v hv=>by
  rw[List.getElem?_drop]at hv
  rw[Nat.add_assoc];exact h.get _ _ hv
theorem FZ.take{E:Env}{blk off:Nat}{l:List V}(h:FZ E blk off l)(n:Nat):FZ E blk off (l.take n):=
 FZ.eY fun i v hv=>by
  rw[List.getElem?_take]at hv
  split at hv
  ·exact h.get _ _ hv
  ·cases hv
theorem FZ.append{E:Env}{blk off:Nat}{l m:List V}(h:FZ E blk off l)(k:FZ E blk (off+l.length) m):FZ E blk off (l++m):=
 FZ.eY fun i v hv=>by
  by_cases hi:i<l.length
  ·rw[List.getElem?_append_left hi]at hv;exact h.get _ _ hv
  ·rw[List.getElem?_append_right (by omega)]at hv
   have:=k.get _ _ hv
   rwa[show off+l.length+(i-l.length)=off+i by omega]at this
theorem FZs.get{E:Env}:∀{blk off z:Nat} {es:List (List V)},FZs E blk off z es→∀(i:Nat) (e:List V),es[i]? =some e→e.length=z∧FZ E blk (off+i*z) e
 |_,_,_,_,.nil _ _ _,i,e,h=>by simp at h
 |_,_,_,_,.cons blk off z e es hz hr t,0,u,h=>by simp at h;subst h;exact⟨hz,by simpa using hr⟩
 |_,_,_,_,.cons blk off z e es hz hr t,i+1,u,h=>by
  have:=FZs.get t i u (by simpa using h)
  rwa[show off+z+i*z=off+(i+1)*z by rw[Nat.add_mul];omega]at this
theorem FZs.eY{E:Env}{blk z:Nat}:∀{off:Nat} {es:List (List V)},(∀(i:Nat) (e:List V),es[i]? =some e→e.length=z∧FZ E blk (off+i*z) e)→FZs E blk off z es
 |off,[],_=>.nil _ _ _
 |off,e::es,h=>by
  obtain⟨a,b⟩:=h 0 e rfl
  refine .cons blk off z e es a (by simpa using b) (FZs.eY fun i u hu=>?_)
  have:=h (i+1) u (by simpa using hu)
  rwa[show off+(i+1)*z=off+z+i*z by rw[Nat.add_mul];omega]at this
theorem FZs.drop{E:Env}{blk off z:Nat}{es:List (List V)}(h:FZs E blk off z es)(n:Nat):FZs E blk (off+n*z) z (es.drop n):=
 FZs.eY fun i e he=>by
  rw[List.getElem?_drop]at he
  rw[Nat.add_assoc,←Nat.add_mul];exact h.get _ _ he
theorem FZs.take{E:Env}{blk off z:Nat}{es:List (List V)}(h:FZs E blk off z es)(n:Nat):FZs E blk off z (es.take n):=
 FZs.eY fun i e he=>by
  rw[List.getElem?_take]at he
  split at he
  ·exact h.get _ _ he
  ·cases he
theorem FZs.append{E:Env}{blk off z:Nat}{es fs:List (List V)}(h:FZs E blk off z es)(k:FZs E blk (off+es.length*z) z fs):FZs E blk off z (es++fs):=
 FZs.eY fun i e he=>by
  by_cases hi:i<es.length
  ·rw[List.getElem?_append_left hi]at he;exact h.get _ _ he
  ·rw[List.getElem?_append_right (by omega)]at he
   have:=k.get _ _ he
   rwa[show off+es.length*z+(i-es.length)*z=off+i*z by rw[Nat.add_assoc,←Nat.add_mul];congr 2;omega]at this
theorem FZs.flat{E:Env}:∀{blk off z:Nat} {es:List (List V)},FZs E blk off z es→FZ E blk off es.flatten∧es.flatten.length=es.length*z
 |_,_,_,_,.nil _ _ _=>⟨.nil _ _,by simp⟩
 |_,_,_,_,.cons blk off z e es hz hr t=>by
  obtain⟨a,b⟩:=FZs.flat t
  refine⟨?_,by simp[b,hz,Nat.add_mul];omega⟩
  rw[List.flatten_cons]
  exact hr.append (by rw[hz];exact a)
theorem FZs.of_flat{E:Env}{blk z:Nat}:∀{off:Nat} {es:List (List V)},(∀e∈es,e.length=z)→FZ E blk off es.flatten→FZs E blk off z es
 |off,[],_,_=>.nil _ _ _
 |off,e::es,hz,h=>by
  have h0:=hz e (by simp)
  rw[List.flatten_cons]at h
  have h1:=h.take e.length
  have h2:=h.drop e.length
  rw[List.take_left' rfl]at h1
  rw[List.drop_left' rfl,h0]at h2
  exact .cons blk off z e es h0 h1 (FZs.of_flat (fun x hx=>hz x (by simp[hx])) h2)
inductive TVR(E:Env)(L:Nat→Option Place):TV→Value→Prop where
 |v (x:V) (x':Value) (h:AR E x x'):TVR E L (.v x) x'
 |l (d o:Nat) (p:Place) (h:L d=some p):TVR E L (.l d o) (.pointer (some ⟨p.blk,p.off+o,none⟩))
 |e (cs:List V) (blk off:Nat) (h:FZ E blk off cs):TVR E L (.e cs) (.pointer (some ⟨blk,off,none⟩))
def Lle(L L':Nat→Option Place):Prop:=∀d p,L d=some p→L' d=some p
theorem TVR.mono{E E':Env}{L L':Nat→Option Place}(h:E.le E')(k:Lle L L'){t:TV}{v:Value}(r:TVR E L t v):TVR E' L' t v:=by
 cases r with
 |v x _ r=>exact .v _ _ (r.mono h)
 |l d o p e=>exact .l d o p (k d p e)
 |e cs blk off r=>exact .e cs blk off (r.mono h)
def TR(E:Env)(L:Nat→Option Place)(nt:Nat)(tm:TM)(tmps:Array Value):Prop:=
 tmps.size=nt∧∀t v,tg tm t=some v→∃v',tmps[t]? =some v'∧TVR E L v v'
theorem TR.mono{E E':Env}{L L':Nat→Option Place}{nt:Nat}{tm:TM}{tmps:Array Value}(h:E.le E')(k:Lle L L')(r:TR E L nt tm tmps):TR E' L' nt tm tmps:=
 ⟨r.1,fun t v ht=>let⟨v',a,b⟩:=r.2 t v ht;⟨v',a,b.mono h k⟩⟩
theorem lW(d:Nat)(v:TV)(tm:TM)(t:Nat):tg ((d,v)::tm) t=if t=d then some v else tg tm t:=by
 simp only[tg]
 cases hb:Nat.beq d t with
 |true=>rw[if_pos (Nat.eq_of_beq_eq_true hb).symm]
 |false=>rw[if_neg];rintro rfl;rw[Nat.beq_refl]at hb;cases hb
theorem mM{p:Nat×TV→Bool}:∀{tm:TM} {t:Nat} {v:TV},tg (tm.filter p) t=some v→(∀x y,p (t,x)=p (t,y))→tg tm t=some v∧p (t,v)=true
 |[],t,v,h,_=>by simp[tg]at h
 |(d,x)::tm,t,v,h,hp=>by
  simp only[List.filter]at h
  rw[lW]
  by_cases e:t=d
  ·subst e
   rw[if_pos rfl]
   cases hq:p (t,x)with
   |true=>rw[hq]at h;simp only[lW,if_true]at h;cases h;exact⟨rfl,hq⟩
   |false=>
    rw[hq]at h
    obtain⟨a,b⟩:=mM h hp
    rw[hp v x,hq]at b;cases b
  ·rw[if_neg e]
   cases hq:p (d,x)with
   |true=>rw[hq]at h;simp only[lW,if_neg e]at h;exact mM h hp
   |false=>rw[hq]at h;exact mM h hp
theorem bHg{tm:TM}{d t:Nat}{v:TV}(h:tg (bFr tm d) t=some v):tg tm t=some v∧t≠d:=by
 obtain⟨a,b⟩:=mM h (fun _ _=>rfl)
 refine⟨a,?_⟩
 rintro rfl
 simp[Nat.beq_refl]at b
theorem aEm{e:Nat×TV}{tm:TM}{t:Nat}{v:TV}(h:tg (e::tm) t=some v):(e.1=t∧e.2=v)∨(e.1≠t∧tg tm t=some v):=by
 obtain⟨d,x⟩:=e
 rw[lW]at h
 split at h
 ·rename_i e;cases h;exact .inl ⟨e.symm,rfl⟩
 ·rename_i e;exact .inr ⟨fun z=>e z.symm,h⟩
theorem jM(d:Nat)(v:List V)(lc:LM)(t:Nat):lg ((d,v)::lc) t=if t=d then some v else lg lc t:=by
 simp only[lg]
 cases hb:Nat.beq d t with
 |true=>rw[if_pos (Nat.eq_of_beq_eq_true hb).symm]
 |false=>rw[if_neg];rintro rfl;rw[Nat.beq_refl]at hb;cases hb
inductive ADR(E:Env):AD→Deferred→Prop where
 |call (f:FuncId) (c a:List V) (c' a':Array Value) (hc:ARs E c c'.toList) (ha:ARs E a a'.toList):ADR E (.call ⟨.func f,c,a⟩) {target:=.fn (.func f) c',args:=a'}
 |collected (r:Nat) (p:Place) (h:E.ob r=some p):ADR E (.collected r) {target:=.collected p.blk,args:= #[]}
theorem ADR.mono{E E':Env}{d:AD}{d':Deferred}(h:E.le E')(r:ADR E d d'):ADR E' d d':=by
 cases r with
 |call f c a c' a' hc ha=>exact .call f c a c' a' (hc.mono h) (ha.mono h)
 |collected r p e=>exact .collected r p (h.ob _ _ e)
def CellsR(E:Env)(cs:List V)(p:Place)(w:World):Prop:=
 ∃c el lo hi,w.heap[p.blk]? =some (.cells c el (lo,hi))∧(∀i,i<c.size→¬(lo≤i∧i<hi))∧p.off+p.ext≤c.size∧cs.length≤p.ext∧
   ∀(i:Nat) (v:V),cs[i]? =some v→v.aW=true∧∃v',c[p.off+i]? =some v'∧AR E v v'
theorem CellsR.mono{E E':Env}{cs:List V}{p:Place}{w:World}(h:E.le E')(r:CellsR E cs p w):CellsR E' cs p w:=by
 obtain⟨c,el,lo,hi,h1,h2,h3,h4,h5⟩:=r
 exact⟨c,el,lo,hi,h1,h2,h3,h4,fun i v hv=>let⟨a,v',b,c⟩:=h5 i v hv;⟨a,v',b,c.mono h⟩⟩
theorem CellsR.world{E:Env}{cs:List V}{p:Place}{w w':World}(h:w'.heap[p.blk]? =w.heap[p.blk]?)(r:CellsR E cs p w):CellsR E cs p w':=by
 simpa only[CellsR,h] using r
def noL:Nat→Option Place:=fun _=>none
def ObjR(E:Env)(o:Obj)(p:Place)(w:World):Prop:=
 match o with
 |.cells _ cs=>CellsR E cs p w
 |.map es=>∃ents clock,w.heap[p.blk]? =some (.map ents clock)∧All₂ (fun(e:V×V) (m:MapEntry)=>AR E e.1 m.key∧AR E e.2 m.val) es ents.toList
 |.loop l=>∃L,w.heap[p.blk]? =some (.loop L)∧L.state=l.state∧L.pending=l.pending∧L.fn=l.fn∧L.params.toList=l.params∧L.assign=l.assign∧L.body=l.body∧TR E noL l.nt l.tmps L.tmps
 |.dfr none=>∃c,w.heap[p.blk]? =some (.deferred c)
 |.dfr (some ds)=>∃c,w.heap[p.blk]? =some (.deferred (some c))∧All₂ (ADR E) ds c
 |.siter s pos=>∃x,w.heap[p.blk]? =some (.stringIter x pos)∧x.data.toList.map UInt8.toNat=s
 |.tok _=>False
theorem ObjR.mono{E E':Env}{o:Obj}{p:Place}{w:World}(h:E.le E')(r:ObjR E o p w):ObjR E' o p w:=by
 cases o with
 |cells opn cs=>exact CellsR.mono h r
 |map es=>
  obtain⟨ents,clock,h1,h2⟩:=r
  exact⟨ents,clock,h1,h2.mono fun _ _ ⟨a,b⟩=>⟨a.mono h,b.mono h⟩⟩
 |loop l=>
  obtain⟨L,h1,h2,h3,h4,h5,h6,h7,h8⟩:=r
  exact⟨L,h1,h2,h3,h4,h5,h6,h7,h8.mono h fun _ _ e=>e⟩
 |dfr c=>
  cases c with
  |none=>exact r
  |some ds=>obtain⟨c,h1,h2⟩:=r;exact⟨c,h1,h2.mono fun _ _=>ADR.mono h⟩
 |siter s pos=>exact r
 |tok n=>exact r
theorem ObjR.world{E:Env}{o:Obj}{p:Place}{w w':World}(h:w'.heap[p.blk]? =w.heap[p.blk]?)(r:ObjR E o p w):ObjR E o p w':=by
 cases o with
 |cells opn cs=>exact CellsR.world h r
 |map es=>simpa only[ObjR,h] using r
 |loop l=>simpa only[ObjR,h] using r
 |dfr c=>cases c<;>simpa only[ObjR,h] using r
 |siter s pos=>simpa only[ObjR,h] using r
 |tok n=>exact r
inductive Own where
 |no
 |ob (b:Nat)
 |tk (b:Nat)
 |lc (d:Nat)
 |pr (z:Option Nat)
 |fz
 deriving DecidableEq
structure Fx where
 loc:Nat→Option Place
 prot:Nat→Option (Go.Obj×Option Nat)
 own:Nat→Own
def TokR(p:Place)(w:World):Prop:=∃c el lo hi,w.heap[p.blk]? =some (.cells c el (lo,hi))∧(∀i,i<c.size→¬(lo≤i∧i<hi))∧p.off+p.ext≤c.size
structure MR(E:Env)(F:Fx)(h:H)(w0 w:World):Prop where
 below:Below w0.heap.size w0 w
 fresh:∀b,h.nxt≤b→E.ob b=none∧h.ob b=none∧∀n,E.tk b n=none
 glo:aC≤h.nxt
 glb:∀b o,b<aC→h.ob b=some o→∃op cs,o=.cells op cs
 gbl:∀b p,b<aC→E.ob b=some p→p.blk<w0.heap.size
 lto:∀B,F.own B≠.no→B<w.heap.size
 obj:∀b o p,h.ob b=some o→E.ob b=some p→ObjR E o p w
 oOb:∀b o p,aC≤b→h.ob b=some o→E.ob b=some p→F.own p.blk=.ob b∧w0.heap.size≤p.blk
 fz:∀B i v,E.fz B i=some v→∃c el q,w.heap[B]? =some (.cells c el q)∧c[i]? =some v
 oFz:∀B i v,E.fz B i=some v→w0.heap.size≤B→F.own B=.fz∨(∃b,F.own B=.tk b)∨∃k,F.own B=.pr (some k)∧i<k
 tok:∀b n p,h.ob b=some (.tok n)→E.tk b n=some p→F.own p.blk=.tk b∧w0.heap.size≤p.blk∧TokR p w∧∀i,p.off≤i→E.fz p.blk i=none
 tokn:∀b n m,h.ob b=some (.tok n)→n<m→E.tk b m=none
 toko:∀b n,h.ob b=some (.tok n)→E.ob b=none
 loc:∀d p,F.loc d=some p→F.own p.blk=.lc d∧w0.heap.size≤p.blk∧∃cs,lg h.lc d=some cs∧CellsR E cs p w
 prot:∀B x,F.prot B=some x→w.heap[B]? =some x.1∧F.own B=.pr x.2
theorem ObjR.lt{E:Env}{o:Obj}{p:Place}{w:World}(r:ObjR E o p w):p.blk<w.heap.size:=by
 have key:∀x,w.heap[p.blk]? =some x→p.blk<w.heap.size:=fun x h=>(Array.getElem?_eq_some_iff.1 h).1
 cases o with
 |cells opn cs=>obtain⟨_,_,_,_,h,_⟩:=r;exact key _ h
 |map es=>obtain⟨_,_,h,_⟩:=r;exact key _ h
 |loop l=>obtain⟨_,h,_⟩:=r;exact key _ h
 |dfr c=>cases c with
  |none=>obtain⟨_,h⟩:=r;exact key _ h
  |some ds=>obtain⟨_,h,_⟩:=r;exact key _ h
 |siter s pos=>obtain⟨_,h,_⟩:=r;exact key _ h
 |tok n=>exact r.elim
theorem MR.lt{E:Env}{F:Fx}{h:H}{w0 w:World}(m:MR E F h w0 w){b:Nat}{o:Obj}{p:Place}(hb:h.ob b=some o)(hE:E.ob b=some p):p.blk<w.heap.size:=(m.obj b o p hb hE).lt
theorem MR.mH{E:Env}{F:Fx}{h:H}{w0 w:World}(m:MR E F h w0 w){b:Nat}{o:Obj}(hb:h.ob b=some o):b<h.nxt:=by
 rcases Nat.lt_or_ge b h.nxt with g|g
 ·exact g
 ·have:=(m.fresh b g).2.1;rw[this]at hb;cases hb
theorem MR.bHj{E:Env}{F:Fx}{h:H}{w0 w:World}(m:MR E F h w0 w){b:Nat}{p:Place}(hb:E.ob b=some p):b<h.nxt:=by
 rcases Nat.lt_or_ge b h.nxt with g|g
 ·exact g
 ·have:=(m.fresh b g).1;rw[this]at hb;cases hb
theorem MR.aLw{E:Env}{F:Fx}{h:H}{w0 w:World}(m:MR E F h w0 w){B i:Nat}{v:Value}(hb:E.fz B i=some v):B<w.heap.size:=by
 obtain⟨c,el,q,h1,_⟩:=m.fz B i v hb
 exact(Array.getElem?_eq_some_iff.1 h1).1
structure Ext(E:Env)(h:H)(E':Env)(h':H):Prop where
 le:E.le E'
 old:∀b,b<h.nxt→E'.ob b=E.ob b
 nxt:h.nxt≤h'.nxt
 ghost:∀b o,b<h.nxt→E.ob b=none→h.ob b=some o→(∀n,o≠.tok n)→h'.ob b=some o
theorem Ext.refl(E:Env)(h:H):Ext E h E h:=⟨Env.le_refl E,fun _ _=>rfl,Nat.le_refl _,fun _ _ _ _ h _=>h⟩
theorem Ext.trans{E E' E'':Env}{h h' h'':H}(x:Ext E h E' h')(y:Ext E' h' E'' h''):Ext E h E'' h'':=
 ⟨x.le.trans y.le,fun b hb=>(y.old b (Nat.lt_of_lt_of_le hb x.nxt)).trans (x.old b hb),Nat.le_trans x.nxt y.nxt,
  fun b o hb he ho hn=>y.ghost b o (Nat.lt_of_lt_of_le hb x.nxt) ((x.old b hb).trans he) (x.ghost b o hb he ho hn) hn⟩
end Go.VM
end
section
/- The machine of values: what loads, stores and new memory do to the relation. -/
namespace Go.VM
open Go.RowKit
variable{P:Program}
def takeN:List V→Nat→Option (List V)
 |_,0=>some []
 |[],_+1=>none
 |c::cs,n+1=>match takeN cs n with
  |some r=>some (c::r)
  |none=>none
theorem aHw:∀{cs l:List V} {n:Nat},takeN cs n=some l→n≤cs.length∧l=cs.take n
 |cs,l,0,h=>by simp[takeN]at h;subst h;simp
 |[],l,n+1,h=>by simp[takeN]at h
 |c::cs,l,n+1,h=>by
  simp only[takeN]at h
  split at h
  ·rename_i r hr
   cases h
   obtain⟨a,b⟩:=aHw hr
   exact⟨by simpa using a,by simp[b]⟩
  ·cases h
theorem aHo:∀{cs:List V} {n:Nat},n≤cs.length→takeN cs n=some (cs.take n)
 |cs,0,_=>by simp[takeN]
 |[],n+1,h=>by simp at h
 |c::cs,n+1,h=>by simp only[takeN,aHo (cs:=cs) (n:=n) (by simpa using h)];simp
def jS:List V→Nat→Nat→Option (List V)
 |cs,0,n=>takeN cs n
 |[],_+1,_=>none
 |_::cs,o+1,n=>jS cs o n
theorem tN:∀{cs l:List V} {o n:Nat},jS cs o n=some l→o+n≤cs.length∧l=(cs.drop o).take n
 |cs,l,0,n,h=>by
  simp only[jS]at h
  obtain⟨a,b⟩:=aHw h
  exact⟨by omega,by simpa using b⟩
 |[],l,o+1,n,h=>by simp[jS]at h
 |c::cs,l,o+1,n,h=>by
  simp only[jS]at h
  obtain⟨a,b⟩:=tN h
  exact⟨by simp;omega,by simpa using b⟩
theorem qE{cs:List V}{n:Nat}(h:cs.length=n):jS cs 0 n=some cs:=by
 simp only[jS];rw[aHo (by omega),←h,List.take_length]
def Seen(E:Env)(w:World)(blk off:Nat)(cs:List V):Prop:=∀(i:Nat) (v:V),cs[i]? =some v→v.aW=true∧∃v',w.cell? ⟨blk,off+i,none⟩=some v'∧AR E v v'
theorem CellsR.seen{E:Env}{cs:List V}{p:Place}{w:World}(r:CellsR E cs p w):Seen E w p.blk p.off cs:=by
 obtain⟨c,el,lo,hi,h1,h2,h3,h4,h5⟩:=r
 intro i v hv
 obtain⟨a,v',b,d⟩:=h5 i v hv
 exact⟨a,v',by rw[tW h1];exact b,d⟩
theorem MR.seen{E:Env}{F:Fx}{h:H}{w0 w:World}(m:MR E F h w0 w){blk off:Nat}{cs:List V}(r:FZ E blk off cs):Seen E w blk off cs:=by
 intro i v hv
 obtain⟨a,v',b,d⟩:=r.get i v hv
 obtain⟨c,el,⟨lo,hi⟩,h1,h2⟩:=m.fz _ _ _ b
 exact⟨a,v',by rw[tW h1];exact h2,d⟩
theorem Seen.one{E:Env}{w:World}{blk off o:Nat}{cs:List V}{v:V}(s:Seen E w blk off cs)(h:cs[o]? =some v):∃v',w.cell? ⟨blk,off+o,none⟩=some v'∧AR E v v':=(s o v h).2
theorem Seen.read{E:Env}{w:World}{blk off o n:Nat}{cs l:List V}(s:Seen E w blk off cs)(h:jS cs o n=some l):
  ∃l':List Value,(loadCells ⟨blk,off+o,none⟩ n).run P w=.ok l'.toArray w∧ARs E l l'∧l.length=n∧l.all V.aW=true∧∀(j:Nat) (v:Value),l'[j]? =some v→w.cell? ⟨blk,off+o+j,none⟩=some v:=by
 obtain⟨hle,rfl⟩:=tN h
 have hlen:((cs.drop o).take n).length=n:=by simp;omega
 let l':List Value:=(List.range n).map fun j=>(w.cell? ⟨blk,off+(o+j),none⟩).getD undef
 have hg:∀j,j<n→∃v',w.cell? ⟨blk,off+(o+j),none⟩=some v':=by
  intro j hj
  obtain⟨v,hv⟩:∃v,cs[o+j]? =some v:=⟨cs[o+j],by simp⟩
  obtain⟨_,v',hv',_⟩:=s (o+j) v hv
  exact⟨v',hv'⟩
 have hl':∀(j:Nat) (v:Value),l'[j]? =some v→w.cell? ⟨blk,off+o+j,none⟩=some v:=by
  intro j v hv
  have hj:j<n:=by
   rcases Nat.lt_or_ge j n with g|g
   ·exact g
   ·simp[l',g]at hv
  obtain⟨v',hv'⟩:=hg j hj
  simp[l',hj,hv']at hv
  rw[Nat.add_assoc,hv',hv]
 have hlen':l'.length=n:=by simp[l']
 refine⟨l',?_,?_,hlen,?_,hl'⟩
 ·have:=run_loadCells_list (P:=P) w ⟨blk,off+o,none⟩ l' (fun j v hv=>by rw[add_zero];exact hl' j v hv)
  rwa[hlen']at this
 ·refine ARs.eY (by rw[hlen,hlen']) fun i v hv=>?_
  have hi':i<n:=by
   rcases Nat.lt_or_ge i n with g|g
   ·exact g
   ·rw[List.getElem?_eq_none (by omega)]at hv;cases hv
  rw[List.getElem?_take,if_pos hi',List.getElem?_drop]at hv
  obtain⟨_,v',hv',ha⟩:=s (o+i) v hv
  exact⟨v',by simp[l',hi',hv'],ha⟩
 ·rw[List.all_eq_true]
  intro x hx
  obtain⟨i,hi⟩:=List.mem_iff_getElem?.1 (List.mem_of_mem_drop (List.mem_of_mem_take hx))
  exact(s i x hi).1
def rB:List V→List V→Option (List V)
 |cs,[]=>some cs
 |[],_::_=>none
 |_::cs,v::vs=>match rB cs vs with
  |some r=>some (v::r)
  |none=>none
theorem aHn:∀{cs vs l:List V},rB cs vs=some l→vs.length≤cs.length∧l=vs++cs.drop vs.length
 |cs,[],l,h=>by simp[rB]at h;subst h;simp
 |[],_::_,l,h=>by simp[rB]at h
 |c::cs,v::vs,l,h=>by
  simp only[rB]at h
  split at h
  ·rename_i r hr
   cases h
   obtain⟨a,b⟩:=aHn hr
   exact⟨by simpa using a,by simp[b]⟩
  ·cases h
theorem zV:∀{cs vs:List V},vs.length≤cs.length→rB cs vs=some (vs++cs.drop vs.length)
 |cs,[],h=>by simp[rB]
 |[],_::_,h=>by simp at h
 |c::cs,v::vs,h=>by simp only[rB,zV (cs:=cs) (vs:=vs) (by simpa using h)];simp
def lM:List V→Nat→List V→Option (List V)
 |cs,0,vs=>rB cs vs
 |[],_+1,_=>none
 |c::cs,o+1,vs=>match lM cs o vs with
  |some r=>some (c::r)
  |none=>none
theorem aFk:∀{cs vs l:List V} {o:Nat},lM cs o vs=some l→o+vs.length≤cs.length∧l=cs.take o++vs++cs.drop (o+vs.length)
 |cs,vs,l,0,h=>by
  simp only[lM]at h
  obtain⟨a,b⟩:=aHn h
  exact⟨by omega,by simpa using b⟩
 |[],vs,l,o+1,h=>by simp[lM]at h
 |c::cs,vs,l,o+1,h=>by
  simp only[lM]at h
  split at h
  ·rename_i r hr
   cases h
   obtain⟨a,b⟩:=aFk hr
   refine⟨by simp;omega,?_⟩
   rw[b,show o+1+vs.length=(o+vs.length)+1 by omega]
   simp
  ·cases h
theorem aNm:∀{cs vs:List V} {o:Nat},o+vs.length≤cs.length→lM cs o vs=some (cs.take o++vs++cs.drop (o+vs.length))
 |cs,vs,0,h=>by simp only[lM];rw[zV (by omega)];simp
 |[],vs,o+1,h=>by simp at h
 |c::cs,vs,o+1,h=>by
  simp only[lM,aNm (cs:=cs) (vs:=vs) (o:=o) (by simp at h;omega)]
  rw[show o+1+vs.length=(o+vs.length)+1 by omega]
  simp
structure Turn(B:Nat)(w w1:World):Prop where
 os:w1.os=w.os
 tape:w1.tape=w.tape
 out:w1.output=w.output
 size:w1.heap.size=w.heap.size
 other:∀k,k≠B→w1.heap[k]? =w.heap[k]?
theorem Turn.setCells(B:Nat)(vs:List Value)(w:World)(o:Nat):Turn B w (w.setCells B o vs):=by
 obtain⟨r1,r2,r3,r4⟩:=rD B vs w o
 exact⟨r2,r3,r4,r1,fun k hk=>pH _ _ _ _ _ hk⟩
theorem Turn.set(B:Nat)(o:Go.Obj)(w:World):Turn B w {w with heap:=w.heap.setIfInBounds B o}:=
 ⟨rfl,rfl,rfl,by simp,fun k hk=>by rw[Array.getElem?_setIfInBounds,if_neg (fun e=>hk e.symm)]⟩
theorem CellsR.write{E:Env}{cs cs' vs:List V}{vs':List Value}{p:Place}{w:World}{o:Nat}(r:CellsR E cs p w)(h:lM cs o vs=some cs')(hall:vs.all V.aW=true)(hv:ARs E vs vs'):
  (storeCells ⟨p.blk,p.off+o,none⟩ vs').run P w=.ok () (w.setCells p.blk (p.off+o) vs')∧CellsR E cs' p (w.setCells p.blk (p.off+o) vs'):=by
 obtain⟨hle,rfl⟩:=aFk h
 obtain⟨c,el,lo,hi,h1,h2,h3,h4,h5⟩:=r
 have hlen:=hv.length
 have hone:∀v∈vs',v.oneCell'=true:=by
  intro v hmem
  obtain⟨i,hi⟩:=List.mem_iff_getElem?.1 hmem
  have hilt:i<vs.length:=by rw[hlen];exact(List.getElem?_eq_some_iff.1 hi).1
  obtain⟨v',hv',ha⟩:=hv.get i vs[i] (by simp)
  rw[hi]at hv';cases hv'
  exact ha.aEv ((List.all_eq_true.1 hall) vs[i] (List.getElem_mem _))
 have hin:∀j,j<vs'.length→p.off+o+j<c.size:=by intro j hj;omega
 have hcell:∀j,j<vs'.length→(w.cell? ⟨p.blk,p.off+o+0+j,none⟩).isSome=true:=by
  intro j hj;rw[tW h1];have:=hin j hj;simp;omega
 have hfr:∀j,j<vs'.length→w.frozen? ⟨p.blk,p.off+o+0+j,none⟩=false:=by
  intro j hj;exact vR h1 h2 _ (by have:=hin j hj;omega)
 have hrun:=run_storeCells_cells (P:=P) p.blk (p.off+o) vs' 0 w hcell hfr hone
 refine⟨hrun,?_⟩
 refine⟨eI c (p.off+o) vs',el,lo,hi,jP _ _ _ _ _ _ _ h1,fun i hi=>h2 i (by rwa[eL]at hi),by rw[eL];exact h3,by simp;omega,fun i v hv'=>?_⟩
 by_cases hi1:i<o
 ·have:cs[i]? =some v:=by
   rw[List.append_assoc,List.getElem?_append_left (by simp;omega),List.getElem?_take,if_pos hi1]at hv'
   exact hv'
  obtain⟨a1,v',a2,a3⟩:=h5 i v this
  exact⟨a1,v',by rw[fE _ _ _ _ (by omega)];exact a2,a3⟩
 ·by_cases hi2:i<o+vs.length
  ·have hvi:vs[i-o]? =some v:=by
    rw[List.append_assoc,List.getElem?_append_right (by simp;omega),List.getElem?_append_left (by simp;omega)]at hv'
    rwa[show i-(cs.take o).length=i-o by simp;omega]at hv'
   obtain⟨v',b1,b2⟩:=hv.get (i-o) v hvi
   refine⟨(List.all_eq_true.1 hall) v (List.mem_of_getElem? hvi),v',?_,b2⟩
   have:=kS vs' c (p.off+o) (i-o) (by omega) (hin _ (by omega))
   rw[show p.off+o+(i-o)=p.off+i by omega]at this
   rw[this,b1]
  ·have:cs[i]? =some v:=by
    rw[List.getElem?_append_right (by simp;omega),List.getElem?_drop]at hv'
    rwa[show o+vs.length+(i-(cs.take o++vs).length)=i by simp;omega]at hv'
   obtain⟨a1,v',a2,a3⟩:=h5 i v this
   exact⟨a1,v',by rw[fE _ _ _ _ (by omega)];exact a2,a3⟩
section
variable{E:Env}{F:Fx}{h:H}{w0 w w1:World}
theorem MR.aXm(m:MR E F h w0 w){b:Nat}{o:Obj}{p:Place}(hb:h.ob b=some o)(hp:E.ob b=some p){B:Nat}(hB:w0.heap.size≤B)(ho:∀b',F.own B=.ob b'→b'≠b):p.blk≠B:=by
 rintro rfl
 rcases Nat.lt_or_ge b aC with g|g
 ·have:=m.gbl b p g hp;omega
 ·exact ho b (m.oOb b o p g hb hp).1 rfl
theorem MR.bEh(m:MR E F h w0 w){B' i:Nat}{v:Value}(hf:E.fz B' i=some v){B:Nat}(hB:w0.heap.size≤B)(ho:F.own B≠.fz)(ho':∀b,F.own B≠.tk b)(ho2:∀k,F.own B≠.pr (some k)):B'≠B:=by
 rintro rfl
 rcases m.oFz _ _ _ hf hB with g|⟨b,g⟩|⟨k,g,_⟩
 ·exact ho g
 ·exact ho' b g
 ·exact ho2 k g
theorem Below.turn{B:Nat}{a:World}(h:Below w0.heap.size a w)(t:Turn B w w1)(hB:w0.heap.size≤B):Below w0.heap.size a w1:=
 ⟨t.os.trans h.os,t.tape.trans h.tape,t.out.trans h.output,by rw[t.size];exact h.size,fun k hk=>by rw[t.other k (by omega)];exact h.block k hk⟩
theorem MR.put(m:MR E F h w0 w){b:Nat}{old new:Obj}{p:Place}(hb:h.ob b=some old)(hp:E.ob b=some p)(hg:aC≤b)(hnt:∀n,new≠.tok n)(t:Turn p.blk w w1)(hobj:ObjR E new p w1):
  MR E F (h.put b new) w0 w1∧Ext E h E (h.put b new):=by
 have hbn:=m.mH hb
 obtain⟨hown,hw0⟩:=m.oOb b old p hg hb hp
 have hob:∀k o,(h.put b new).ob k=some o→(k=b∧o=new)∨(k≠b∧h.ob k=some o):=by
  intro k o hk
  simp only[H.put]at hk
  split at hk
  ·rename_i e;cases hk;exact .inl ⟨e,rfl⟩
  ·rename_i e;exact .inr ⟨e,hk⟩
 have hne:∀k o q,k≠b→h.ob k=some o→E.ob k=some q→q.blk≠p.blk:=fun k o q e hk hq=>m.aXm hk hq hw0 (fun b' hb'=>by rw[hown]at hb';cases hb';exact fun z=>e z.symm)
 refine⟨⟨Below.turn m.below t hw0,fun k hk=>?_,m.glo,fun k o hk ho=>?_,m.gbl,fun B hB=>by rw[t.size];exact m.lto B hB,fun k o q hk hq=>?_,fun k o q hk' hk hq=>?_,fun B i v hf=>?_,m.oFz,fun k n q hk hq=>?_,fun k n n' hk hn=>?_,fun k n hk=>?_,fun d q hq=>?_,fun B x hx=>?_⟩,
  Env.le_refl E,fun _ _=>rfl,Nat.le_refl _,fun k o hk he ho hn=>?_⟩
 ·obtain⟨a1,a2,a3⟩:=m.fresh k hk
  refine⟨a1,?_,a3⟩
  simp only[H.put];rw[if_neg (by have:h.nxt≤k:=hk;omega)];exact a2
 ·rcases hob k o ho with⟨rfl,rfl⟩|⟨_,h2⟩
  ·omega
  ·exact m.glb k o hk h2
 ·rcases hob k o hk with⟨rfl,rfl⟩|⟨e,h2⟩
  ·rw[hp]at hq;cases hq;exact hobj
  ·exact(m.obj k o q h2 hq).world (t.other _ (hne k o q e h2 hq))
 ·rcases hob k o hk with⟨rfl,rfl⟩|⟨e,h2⟩
  ·rw[hp]at hq;cases hq;exact⟨hown,hw0⟩
  ·exact m.oOb k o q hk' h2 hq
 ·rw[t.other B (m.bEh hf hw0 (by rw[hown];simp) (by rw[hown];simp) (by rw[hown];simp))];exact m.fz B i v hf
 ·rcases hob k _ hk with⟨rfl,e⟩|⟨e,h2⟩
  ·exact absurd e.symm (hnt n)
  ·obtain⟨a1,a2,a3,a4⟩:=m.tok k n q h2 hq
   have:q.blk≠p.blk:=by intro z;rw[z,hown]at a1;cases a1
   exact⟨a1,a2,by simpa only[TokR,t.other _ this] using a3,a4⟩
 ·rcases hob k _ hk with⟨rfl,e⟩|⟨e,h2⟩
  ·exact absurd e.symm (hnt n)
  ·exact m.tokn k n n' h2 hn
 ·rcases hob k _ hk with⟨rfl,e⟩|⟨e,h2⟩
  ·exact absurd e.symm (hnt n)
  ·exact m.toko k n h2
 ·obtain⟨a1,a2,cs,a3,a4⟩:=m.loc d q hq
  have:q.blk≠p.blk:=by intro z;rw[z,hown]at a1;cases a1
  exact⟨a1,a2,cs,a3,a4.world (t.other _ this)⟩
 ·obtain⟨a1,a2⟩:=m.prot B x hx
  have:B≠p.blk:=by rintro rfl;rw[hown]at a2;cases a2
  exact⟨by rw[t.other _ this];exact a1,a2⟩
 ·simp only[H.put];rw[if_neg]; · exact ho
  rintro rfl;rw[hp]at he;cases he
theorem MR.bJq(m:MR E F h w0 w){d:Nat}{cs:List V}{p:Place}(hp:F.loc d=some p)(t:Turn p.blk w w1)(hc:CellsR E cs p w1):MR E F {h with lc:=(d,cs)::h.lc} w0 w1:=by
 obtain⟨hown,hw0,cs0,hl,hc0⟩:=m.loc d p hp
 refine⟨Below.turn m.below t hw0,m.fresh,m.glo,m.glb,m.gbl,fun B hB=>by rw[t.size];exact m.lto B hB,fun k o q hk hq=>?_,m.oOb,fun B i v hf=>?_,m.oFz,fun k n q hk hq=>?_,m.tokn,m.toko,fun d' q hq=>?_,fun B x hx=>?_⟩
 ·exact(m.obj k o q hk hq).world (t.other _ (m.aXm hk hq hw0 (fun b' hb'=>by rw[hown]at hb';cases hb')))
 ·rw[t.other B (m.bEh hf hw0 (by rw[hown];simp) (by rw[hown];simp) (by rw[hown];simp))];exact m.fz B i v hf
 ·obtain⟨a1,a2,a3,a4⟩:=m.tok k n q hk hq
  have:q.blk≠p.blk:=by intro z;rw[z,hown]at a1;cases a1
  exact⟨a1,a2,by simpa only[TokR,t.other _ this] using a3,a4⟩
 ·by_cases e:d'=d
  ·subst e
   rw[hp]at hq;cases hq
   exact⟨hown,hw0,cs,by simp[jM],hc⟩
  ·obtain⟨a1,a2,cs',a3,a4⟩:=m.loc d' q hq
   have:q.blk≠p.blk:=by intro z;rw[z,hown]at a1;cases a1;exact e rfl
   exact⟨a1,a2,cs',by rw[jM,if_neg e];exact a3,a4.world (t.other _ this)⟩
 ·obtain⟨a1,a2⟩:=m.prot B x hx
  have:B≠p.blk:=by rintro rfl;rw[hown]at a2;cases a2
  exact⟨by rw[t.other _ this];exact a1,a2⟩
theorem MR.drawn(m:MR E F h w0 w)(n:Nat):MR E F h w0 {w with drawn:=n}:=
 ⟨⟨m.below.os,m.below.tape,m.below.output,m.below.size,m.below.block⟩,m.fresh,m.glo,m.glb,m.gbl,m.lto,fun b o p hb hp=>(m.obj b o p hb hp).world rfl,m.oOb,m.fz,m.oFz,m.tok,m.tokn,m.toko,m.loc,m.prot⟩
theorem H.aDc(h:H)(o:Obj)(k:Nat):(h.new o).ob k=if k=h.nxt then some o else h.ob k:=rfl
theorem MR.ghost(m:MR E F h w0 w)(o:Obj)(hnt:∀n,o=.tok n→n=0):MR E F (h.new o) w0 w∧Ext E h E (h.new o)∧E.ob h.nxt=none∧(h.new o).ob h.nxt=some o:=by
 obtain⟨f1,f2,f3⟩:=m.fresh h.nxt (Nat.le_refl _)
 have hob:∀k o',(h.new o).ob k=some o'→(k=h.nxt∧o'=o)∨(k≠h.nxt∧h.ob k=some o'):=by
  intro k o' hk
  rw[H.aDc]at hk
  split at hk
  ·rename_i e;cases hk;exact .inl ⟨e,rfl⟩
  ·rename_i e;exact .inr ⟨e,hk⟩
 refine⟨⟨m.below,fun k hk=>?_,Nat.le_succ_of_le m.glo,fun k o' hk ho=>?_,m.gbl,m.lto,fun k o' q hk hq=>?_,fun k o' q hk' hk hq=>?_,m.fz,m.oFz,fun k n q hk hq=>?_,fun k n n' hk hn=>?_,fun k n hk=>?_,m.loc,m.prot⟩,
  ⟨Env.le_refl E,fun _ _=>rfl,Nat.le_succ _,fun k o' hk _ ho _=>by rw[H.aDc,if_neg (by omega)];exact ho⟩,f1,by rw[H.aDc,if_pos rfl]⟩
 ·have hk':h.nxt+1≤k:=hk
  obtain⟨a1,a2,a3⟩:=m.fresh k (by omega)
  exact⟨a1,by rw[H.aDc,if_neg (by omega)];exact a2,a3⟩
 ·rcases hob k o' ho with⟨rfl,rfl⟩|⟨_,h2⟩
  ·have:=m.glo;omega
  ·exact m.glb k o' hk h2
 ·rcases hob k o' hk with⟨rfl,rfl⟩|⟨_,h2⟩
  ·rw[f1]at hq;cases hq
  ·exact m.obj k o' q h2 hq
 ·rcases hob k o' hk with⟨rfl,rfl⟩|⟨_,h2⟩
  ·rw[f1]at hq;cases hq
  ·exact m.oOb k o' q hk' h2 hq
 ·rcases hob k _ hk with⟨rfl,e⟩|⟨_,h2⟩
  ·rw[f3]at hq;cases hq
  ·exact m.tok k n q h2 hq
 ·rcases hob k _ hk with⟨rfl,e⟩|⟨_,h2⟩
  ·exact f3 _
  ·exact m.tokn k n n' h2 hn
 ·rcases hob k _ hk with⟨rfl,e⟩|⟨_,h2⟩
  ·exact f1
  ·exact m.toko k n h2
def bQ(f:Nat→Own)(B:Nat)(x:Own):Nat→Own:=fun k=>if k=B then x else f k
theorem cT{ob:Go.Obj}{k:Nat}(hk:k<w.heap.size):(w.heap.push ob)[k]? =w.heap[k]?:=by rw[Array.getElem?_push,if_neg (by omega)]
theorem MR.uJ(m:MR E F h w0 w):F.own w.heap.size=.no:=by
 cases hq:F.own w.heap.size with
 |no=>rfl
 |_=>exact absurd (m.lto w.heap.size (by rw[hq];simp)) (Nat.lt_irrefl _)
def gS(E:Env)(b:Nat)(p:Place):Env:={E with ob:=fun k=>if k=b then some p else E.ob k}
theorem qG{b:Nat}{p:Place}(h:E.ob b=none):E.le (gS E b p):=by
 refine⟨fun k q hk=>?_,fun _ _ _ h=>h,fun _ _ _ h=>h⟩
 simp only[gS]
 rw[if_neg]
 ·exact hk
 ·rintro rfl;rw[h]at hk;cases hk
theorem MR.place(m:MR E F h w0 w){b:Nat}{p:Place}{o:Obj}(hb:h.ob b=some o)(hE:E.ob b=none)(hg:aC≤b)(hnt:∀n,o≠.tok n)(ob:Go.Obj)(hblk:p.blk=w.heap.size)
  (hobj:ObjR (gS E b p) o p {w with heap:=w.heap.push ob}):
  MR (gS E b p) {F with own:=bQ F.own w.heap.size (.ob b)} h w0 {w with heap:=w.heap.push ob}:=by
 have hle:=qG (p:=p) hE
 have hown:=m.uJ
 have hup:∀k q,(gS E b p).ob k=some q→(k=b∧q=p)∨(k≠b∧E.ob k=some q):=by
  intro k q hk
  simp only[gS]at hk
  split at hk
  ·rename_i e;cases hk;exact .inl ⟨e,rfl⟩
  ·rename_i e;exact .inr ⟨e,hk⟩
 have howne:∀B,B<w.heap.size→bQ F.own w.heap.size (.ob b) B=F.own B:=fun B hB=>by unfold bQ;rw[if_neg (by omega)]
 refine⟨⟨m.below.os,m.below.tape,m.below.output,by simpa using Nat.le_succ_of_le m.below.size,fun k hk=>?_⟩,fun k hk=>?_,m.glo,m.glb,fun k q hk hq=>?_,fun B hB=>?_,fun k o' q hk hq=>?_,fun k o' q hk' hk hq=>?_,fun B i v hf=>?_,fun B i v hf hB=>?_,fun k n q hk hq=>?_,m.tokn,fun k n hk=>?_,fun d q hq=>?_,fun B x hx=>?_⟩
 ·exact(cT (Nat.lt_of_lt_of_le hk m.below.size)).trans (m.below.block k hk)
 ·obtain⟨a1,a2,a3⟩:=m.fresh k hk
  refine⟨?_,a2,a3⟩
  simp only[gS];rw[if_neg (by have:=m.mH hb;omega)];exact a1
 ·rcases hup k q hq with⟨rfl,rfl⟩|⟨_,h2⟩
  ·omega
  ·exact m.gbl k q hk h2
 ·simp only[bQ]at hB
  simp only[Array.size_push]
  split at hB
  ·omega
  ·have:=m.lto B hB;omega
 ·rcases hup k q hq with⟨rfl,rfl⟩|⟨_,h2⟩
  ·rw[hb]at hk;cases hk;exact hobj
  ·exact((m.obj k o' q hk h2).mono hle).world (cT (m.lt hk h2))
 ·rcases hup k q hq with⟨rfl,rfl⟩|⟨_,h2⟩
  ·rw[hblk];exact⟨by simp[bQ],m.below.size⟩
  ·obtain⟨a1,a2⟩:=m.oOb k o' q hk' hk h2
   exact⟨by show bQ F.own w.heap.size (.ob b) q.blk=_;rw[howne _ (m.lt hk h2)];exact a1,a2⟩
 ·have hlt:=m.aLw hf
  show ∃c el q,(w.heap.push ob)[B]? =_∧_
  rw[cT hlt];exact m.fz B i v hf
 ·show bQ F.own w.heap.size (.ob b) B=.fz∨(∃b',bQ F.own w.heap.size (.ob b) B=.tk b')∨∃k',bQ F.own w.heap.size (.ob b) B=.pr (some k')∧i<k'
  rw[howne _ (m.aLw hf)];exact m.oFz B i v hf hB
 ·obtain⟨a1,a2,a3,a4⟩:=m.tok k n q hk hq
  have hlt:q.blk<w.heap.size:=m.lto _ (by rw[a1];simp)
  refine⟨by show bQ F.own w.heap.size (.ob b) q.blk=_;rw[howne _ hlt];exact a1,a2,?_,a4⟩
  show ∃c el lo hi,(w.heap.push ob)[q.blk]? =_∧_
  rw[cT hlt];exact a3
 ·have:=m.toko k n hk
  simp only[gS]
  rw[if_neg]; · exact this
  rintro rfl;rw[hb]at hk;cases hk;exact hnt n rfl
 ·obtain⟨a1,a2,cs,a3,a4⟩:=m.loc d q hq
  have hlt:q.blk<w.heap.size:=m.lto _ (by rw[a1];simp)
  exact⟨by show bQ F.own w.heap.size (.ob b) q.blk=_;rw[howne _ hlt];exact a1,a2,cs,a3,(a4.mono hle).world (cT hlt)⟩
 ·obtain⟨a1,a2⟩:=m.prot B x hx
  have hlt:B<w.heap.size:=m.lto _ (by rw[a2];simp)
  exact⟨(cT hlt).trans a1,by show bQ F.own w.heap.size (.ob b) B=_;rw[howne _ hlt];exact a2⟩
theorem MR.local(m:MR E F h w0 w){d:Nat}{cs:List V}(ob:Go.Obj){p:Place}(hblk:p.blk=w.heap.size)(hc:CellsR E cs p {w with heap:=w.heap.push ob}):
  MR E {F with loc:=fun k=>if k=d then some p else F.loc k,own:=bQ F.own w.heap.size (.lc d)} {h with lc:=(d,cs)::h.lc} w0 {w with heap:=w.heap.push ob}:=by
 have hown:=m.uJ
 have howne:∀B,B<w.heap.size→bQ F.own w.heap.size (.lc d) B=F.own B:=fun B hB=>by unfold bQ;rw[if_neg (by omega)]
 refine⟨⟨m.below.os,m.below.tape,m.below.output,by simpa using Nat.le_succ_of_le m.below.size,fun k hk=>?_⟩,m.fresh,m.glo,m.glb,m.gbl,fun B hB=>?_,fun k o' q hk hq=>?_,fun k o' q hk' hk hq=>?_,fun B i v hf=>?_,fun B i v hf hB=>?_,fun k n q hk hq=>?_,m.tokn,m.toko,fun d' q hq=>?_,fun B x hx=>?_⟩
 ·exact(cT (Nat.lt_of_lt_of_le hk m.below.size)).trans (m.below.block k hk)
 ·simp only[bQ]at hB
  simp only[Array.size_push]
  split at hB
  ·omega
  ·have:=m.lto B hB;omega
 ·exact(m.obj k o' q hk hq).world (cT (m.lt hk hq))
 ·obtain⟨a1,a2⟩:=m.oOb k o' q hk' hk hq
  exact⟨by show bQ F.own w.heap.size (.lc d) q.blk=_;rw[howne _ (m.lt hk hq)];exact a1,a2⟩
 ·have hlt:=m.aLw hf
  show ∃c el q,(w.heap.push ob)[B]? =_∧_
  rw[cT hlt];exact m.fz B i v hf
 ·show bQ F.own w.heap.size (.lc d) B=.fz∨(∃b',bQ F.own w.heap.size (.lc d) B=.tk b')∨∃k',bQ F.own w.heap.size (.lc d) B=.pr (some k')∧i<k'
  rw[howne _ (m.aLw hf)];exact m.oFz B i v hf hB
 ·obtain⟨a1,a2,a3,a4⟩:=m.tok k n q hk hq
  have hlt:q.blk<w.heap.size:=m.lto _ (by rw[a1];simp)
  refine⟨by show bQ F.own w.heap.size (.lc d) q.blk=_;rw[howne _ hlt];exact a1,a2,?_,a4⟩
  show ∃c el lo hi,(w.heap.push ob)[q.blk]? =_∧_
  rw[cT hlt];exact a3
 ·have hq':(if d'=d then some p else F.loc d')=some q:=hq
  split at hq'
  ·rename_i e
   cases hq';subst e
   exact⟨by rw[hblk];simp[bQ],by rw[hblk];exact m.below.size,cs,by simp[jM],hc⟩
  ·rename_i e
   obtain⟨a1,a2,cs',a3,a4⟩:=m.loc d' q hq'
   have hlt:q.blk<w.heap.size:=m.lto _ (by rw[a1];simp)
   exact⟨by show bQ F.own w.heap.size (.lc d) q.blk=_;rw[howne _ hlt];exact a1,a2,cs',by rw[jM,if_neg e];exact a3,a4.world (cT hlt)⟩
 ·obtain⟨a1,a2⟩:=m.prot B x hx
  have hlt:B<w.heap.size:=m.lto _ (by rw[a2];simp)
  exact⟨(cT hlt).trans a1,by show bQ F.own w.heap.size (.lc d) B=_;rw[howne _ hlt];exact a2⟩
def lB(E:Env)(B n:Nat)(c:Array Value):Env:={E with fz:=fun k i=>if k=B then(if i<n then c[i]? else none)else E.fz k i}
theorem MR.qT(m:MR E F h w0 w)(n:Nat)(c:Array Value):E.le (lB E w.heap.size n c):=by
 refine⟨fun _ _ h=>h,fun B i v hf=>?_,fun _ _ _ h=>h⟩
 simp only[lB]
 rw[if_neg]
 ·exact hf
 ·rintro rfl;exact absurd (m.aLw hf) (Nat.lt_irrefl _)
theorem MR.frozen(m:MR E F h w0 w)(n:Nat)(c:Array Value)(el:TypeId)(q:Nat×Nat)(x:Own)(hx:x=.fz∨∃b,x=.tk b):
  MR (lB E w.heap.size n c) {F with own:=bQ F.own w.heap.size x} h w0 {w with heap:=w.heap.push (.cells c el q)}:=by
 have hle:=m.qT n c
 have hown:=m.uJ
 have hx0:x≠.no:=by rcases hx with rfl|⟨b,rfl⟩<;>simp
 have howne:∀B,B<w.heap.size→bQ F.own w.heap.size x B=F.own B:=fun B hB=>by unfold bQ;rw[if_neg (by omega)]
 have hfe:∀B i v,(lB E w.heap.size n c).fz B i=some v→(B=w.heap.size∧c[i]? =some v)∨(B≠w.heap.size∧E.fz B i=some v):=by
  intro B i v hf
  simp only[lB]at hf
  split at hf
  ·rename_i e
   split at hf
   ·exact .inl ⟨e,hf⟩
   ·cases hf
  ·rename_i e;exact .inr ⟨e,hf⟩
 refine⟨⟨m.below.os,m.below.tape,m.below.output,by simpa using Nat.le_succ_of_le m.below.size,fun k hk=>?_⟩,m.fresh,m.glo,m.glb,m.gbl,fun B hB=>?_,fun k o' q hk hq=>?_,fun k o' q hk' hk hq=>?_,fun B i v hf=>?_,fun B i v hf hB=>?_,fun k n' q hk hq=>?_,m.tokn,m.toko,fun d' q hq=>?_,fun B x hx=>?_⟩
 ·exact(cT (Nat.lt_of_lt_of_le hk m.below.size)).trans (m.below.block k hk)
 ·simp only[bQ]at hB
  simp only[Array.size_push]
  split at hB
  ·omega
  ·have:=m.lto B hB;omega
 ·exact((m.obj k o' q hk hq).mono hle).world (cT (m.lt hk hq))
 ·obtain⟨a1,a2⟩:=m.oOb k o' q hk' hk hq
  exact⟨by show bQ F.own w.heap.size x q.blk=_;rw[howne _ (m.lt hk hq)];exact a1,a2⟩
 ·rcases hfe B i v hf with⟨rfl,h2⟩|⟨_,h2⟩
  ·exact⟨c,el,q,by simp,h2⟩
  ·have hlt:=m.aLw h2
   show ∃c el q,(w.heap.push _)[B]? =_∧_
   rw[cT hlt];exact m.fz B i v h2
 ·rcases hfe B i v hf with⟨rfl,h2⟩|⟨_,h2⟩
  ·show bQ F.own w.heap.size x w.heap.size=.fz∨(∃b',bQ F.own w.heap.size x w.heap.size=.tk b')∨∃k',bQ F.own w.heap.size x w.heap.size=.pr (some k')∧i<k'
   simp only[bQ,if_true];exact hx.elim .inl (fun z=>.inr (.inl z))
  ·show bQ F.own w.heap.size x B=.fz∨(∃b',bQ F.own w.heap.size x B=.tk b')∨∃k',bQ F.own w.heap.size x B=.pr (some k')∧i<k'
   rw[howne _ (m.aLw h2)];exact m.oFz B i v h2 hB
 ·obtain⟨a1,a2,a3,a4⟩:=m.tok k n' q hk hq
  have hlt:q.blk<w.heap.size:=m.lto _ (by rw[a1];simp)
  refine⟨by show bQ F.own w.heap.size x q.blk=_;rw[howne _ hlt];exact a1,a2,?_,fun i hi=>?_⟩
  ·show ∃c el lo hi,(w.heap.push _)[q.blk]? =_∧_
   rw[cT hlt];exact a3
  ·simp only[lB];rw[if_neg (by omega)];exact a4 i hi
 ·obtain⟨a1,a2,cs,a3,a4⟩:=m.loc d' q hq
  have hlt:q.blk<w.heap.size:=m.lto _ (by rw[a1];simp)
  exact⟨by show bQ F.own w.heap.size x q.blk=_;rw[howne _ hlt];exact a1,a2,cs,a3,(a4.mono hle).world (cT hlt)⟩
 ·obtain⟨a1,a2⟩:=m.prot B x hx
  have hlt:B<w.heap.size:=m.lto _ (by rw[a2];simp)
  exact⟨(cT hlt).trans a1,by show bQ F.own w.heap.size _ B=_;rw[howne _ hlt];exact a2⟩
theorem MR.forget(m:MR E F h w0 w){h':H}(hn:h'.nxt=h.nxt)(ho:∀b o,h'.ob b=some o→h.ob b=some o)(hl:∀d p cs,F.loc d=some p→lg h.lc d=some cs→lg h'.lc d=some cs):MR E F h' w0 w:=by
 refine⟨m.below,fun b hb=>?_,by rw[hn];exact m.glo,fun b o hb h=>m.glb b o hb (ho b o h),m.gbl,m.lto,fun b o p hb hp=>m.obj b o p (ho b o hb) hp,fun b o p hg hb hp=>m.oOb b o p hg (ho b o hb) hp,m.fz,m.oFz,
  fun b n p hb hp=>m.tok b n p (ho _ _ hb) hp,fun b n n' hb hn=>m.tokn b n n' (ho _ _ hb) hn,fun b n hb=>m.toko b n (ho _ _ hb),fun d p hp=>?_,m.prot⟩
 ·obtain⟨a1,a2,a3⟩:=m.fresh b (by rw[←hn];exact hb)
  refine⟨a1,?_,a3⟩
  cases hq:h'.ob b with
  |none=>rfl
  |some o=>have:=ho b o hq;rw[a2]at this;cases this
 ·obtain⟨a1,a2,cs,a3,a4⟩:=m.loc d p hp
  exact⟨a1,a2,cs,hl d p cs hp a3,a4⟩
theorem MR.qH(m:MR E F h w0 w){L:Nat→Option Place}(hL:Lle L F.loc):MR E {F with loc:=L} h w0 w:=
 ⟨m.below,m.fresh,m.glo,m.glb,m.gbl,m.lto,m.obj,m.oOb,m.fz,m.oFz,m.tok,m.tokn,m.toko,fun d p hp=>m.loc d p (hL d p hp),m.prot⟩
theorem aJg(m:MR E F h w0 w){b:Nat}(hb:(∃p,E.ob b=some p)∨(∃n,h.ob b=some (.tok n))∨h.ob b=none):Ext E h E (h.kill b):=by
 refine⟨Env.le_refl E,fun _ _=>rfl,Nat.le_refl _,fun k o hk he ho hn=>?_⟩
 simp only[H.kill]
 rw[if_neg]
 ·exact ho
 ·rintro rfl
  rcases hb with⟨p,hp⟩|⟨n,hq⟩|hq
  ·rw[he]at hp;cases hp
  ·rw[ho]at hq;cases hq;exact hn n rfl
  ·rw[ho]at hq;cases hq
theorem MR.aUb(m:MR E F h w0 w)(b:Nat):MR E F (h.kill b) w0 w:=by
 refine m.forget rfl (fun k o hk=>?_) (fun _ _ _ _ h=>h)
 simp only[H.kill]at hk
 split at hk
 ·cases hk
 ·exact hk
end
end Go.VM
end
section
/- The machine of values: operations, with all that hangs on types told. -/
namespace Go.VM
open Go.RowKit
def cv:Nat→Value→Option V
 |0,_=>none
 |f+1,x=>match x with
  |.bool b=>some (.bool b)
  |.int k n=>some (.int k n)
  |.string s=>some (.str (s.data.toList.map UInt8.toNat))
  |.pointer none=>some .iR
  |.slice none 0 0=>some (.lst [] (.ex 0))
  |.map none=>some .fX
  |.nilFunc=>some .hY
  |.nilIface=>some .fF
  |.iface t v=>(cv f v).map (.iface t)
  |.agg cs=>(cs.toList.mapM (cv f)).map .agg
  |.tuple cs=>(cs.toList.mapM (cv f)).map .tup
  |_=>none
inductive RX where
 |t (n:Nat)
 |c (v:V)
 |g (n:Nat)
def rx:Operand→Option RX
 |.tmp t=>some (.t t)
 |.const v=>(cv 6 v).map .c
 |.func f=>some (.c (.fn (.func f) [] []))
 |.global g=>some (.g g)
def rxs:List Operand→Option (List RX)
 |[]=>some []
 |x::xs=>match rx x,rxs xs with
  |some r,some rs=>some (r::rs)
  |_,_=>none
def rxo:Option Operand→Option (Option RX)
 |none=>some none
 |some x=>(rx x).map some
def rxp:List (Nat×Operand)→Option (List (Nat×RX))
 |[]=>some []
 |(i,x)::xs=>match rx x,rxp xs with
  |some r,some rs=>some ((i,r)::rs)
  |_,_=>none
section
variable(gl:List Nat)(tm:TM)
def rvt:RX→Option TV
 |.t n=>tg tm n
 |.c v=>some (.v v)
 |.g g=>match gl.contains g with
  |true=>some (.v (.ptr g 0))
  |false=>none
def rv(x:RX):Option V:=
 match rvt gl tm x with
 |some (.v v)=>some v
 |_=>none
def rvs:List RX→Option (List V)
 |[]=>some []
 |x::xs=>match rv gl tm x,rvs xs with
  |some v,some vs=>some (v::vs)
  |_,_=>none
def rvo:Option RX→Option (Option V)
 |none=>some none
 |some x=>(rv gl tm x).map some
def rvp:List (Nat×RX)→Option (List (Nat×V))
 |[]=>some []
 |(i,x)::xs=>match rv gl tm x,rvp xs with
  |some v,some vs=>some ((i,v)::vs)
  |_,_=>none
end
def iE:Nat:=9223372036854775807
inductive ED where
 |int
 |bool
 |str
 |ptr
 |map
 |func
 |st (fs:List (Nat×ED))
inductive Kd where
 |str
 |slice (sz:Nat)
 |arr (n sz:Nat)
inductive RO where
 |mv (x:RX)
 |pick (c a b:RX)
 |ld (x:RX) (n:Option Nat)
 |nc (x:RX)
 |fa (x:RX) (off:Nat)
 |ia (x i:RX) (sz:Nat)
 |iaa (x i:RX) (len sz:Nat)
 |bin (op:BinOp) (x y:RX)
 |eq (d:ED) (neg:Bool) (x y:RX)
 |inil (neg:Bool) (x:RX)
 |snil (neg:Bool) (x:RX)
 |un (op:UnOp) (x:RX)
 |cvi (k:IntKind) (x:RX)
 |cvs (x:RX)
 |cvr (x:RX)
 |cvb (x:RX)
 |mkI (t:Nat) (x:RX)
 |mkF (g:Nat) (first cap:List RX)
 |slc (k:Kd) (x:RX) (lo hi mx:Option RX)
 |fld (x:RX) (off:Nat) (n:Option Nat)
 |idx (x i:RX) (len sz:Nat) (agg:Bool)
 |idxs (x i:RX)
 |lk (x k:RX) (ok:Bool) (z:V) (d:ED)
 |ta (x:RX) (t:Nat) (ok:Bool) (z:V)
 |ext (x:RX) (i:Nat)
 |lenS (x:RX)
 |lenL (x:RX)
 |lenM (x:RX)
 |cap (x:RX)
 |max (x y:RX)
 |min (x y:RX)
 |bld (z:List V) (pl:List (Nat×Nat)) (parts:List (Nat×RX))
 |al (z:List V)
 |bx (x:RX)
 |bs (sz len:Nat) (z:List V) (parts:List (Nat×RX))
 |mm (res:Option RX)
 |ms (l c:RX) (sz:Nat) (z:List V)
 |csb (x:RX)
 |st (a x:RX) (n:Nat)
 |call (f:RX) (args:List RX)
 |app (x y:RX) (sz bytes:Nat) (z:List V)
 |reco
 |del (m k:RX) (d:ED)
 |clr (x:RX) (z:List V)
 |dfr (f:RX) (args:List RX)
 |pan (x:RX)
 |mu (m k x:RX) (d:ED)
section
variable(P:Program)
def iX(t:TypeId):Option V:=(P.info? t).bind fun i=>i.zero.bind (cv 4)
def aAg(t:TypeId):Option ED:=
 match P.underlying t with
 |some .bool=>some .bool
 |some (.int _)=>some .int
 |some .string=>some .str
 |some (.pointer _)=>some .ptr
 |some (.map _ _)=>some .map
 |some (.func _ _ _)=>some .func
 |_=>none
def uR:List Field→Option (List (Nat×ED))
 |[]=>some []
 |f::fs=>match aAg P f.type,uR fs,f.name != "_" with
  |some d,some l,true=>some ((f.offset,d)::l)
  |_,_,_=>none
def eqD(t:TypeId):Option ED:=
 match P.underlying t with
 |some (.struct fields)=>match P.stoodInHeld t||P.eqGuardType P.depth t with
  |true=>none
  |false=>(uR P fields.toList).map .st
 |_=>aAg P t
def wK(t:TypeId):Option ED:=
 match P.underlying t with
 |some (.int _)=>some .int
 |some .string=>some .str
 |some .bool=>some .bool
 |_=>none
def uL(t:TypeId):Option (Option Nat):=
 match oR P t with
 |some true=>(szT P t).map some
 |some false=>some none
 |none=>none
def aQg(neg:Bool)(t:TypeId)(x y:Operand):Option RO:=
 match P.underlying t with
 |some (.interface _)=>match y with
  |.const .nilIface=>(rx x).map (.inil neg)
  |_=>none
 |some (.slice _)=>match y with
  |.const (.slice none _ _)=>(rx x).map (.snil neg)
  |_=>none
 |_=>match eqD P t,rx x,rx y with
  |some d,some a,some b=>some (.eq d neg a b)
  |_,_,_=>none
def bFu(op:BinOp)(t:TypeId)(x y:Operand):Option RO:=
 match op with
 |.eql=>aQg P false t x y
 |.neq=>aQg P true t x y
 |_=>match rx x,rx y with
  |some a,some b=>some (.bin op a b)
  |_,_=>none
def aBk(s d:TypeId)(x:Operand):Option RO:=
 match P.underlying s,P.underlying d,rx x with
 |some (.int _),some (.int k),some x=>some (.cvi k x)
 |some .string,some .string,some x=>some (.cvs x)
 |some (.int _),some .string,some x=>some (.cvr x)
 |some (.slice el),some .string,some x=>match P.underlying el with
  |some (.int .u8)=>some (.cvb x)
  |_=>none
 |some .string,some (.slice el),some x=>match P.underlying el with
  |some (.int .u8)=>some (.csb x)
  |_=>none
 |_,_,_=>none
def aKx(t:TypeId)(x:Operand)(lo hi mx:Option Operand):Option RO:=
 match rx x,rxo lo,rxo hi,rxo mx with
 |some x,some lo,some hi,some mx=>match P.underlying t with
  |some .string=>some (.slc .str x lo hi mx)
  |some (.slice el)=>(szT P el).map fun sz=>.slc (.slice sz) x lo hi mx
  |some (.array n el)=>(szT P el).map fun sz=>.slc (.arr n sz) x lo hi mx
  |_=>none
 |_,_,_,_=>none
def jB(b:Builtin)(args:List Operand)(argTypes:Array TypeId):Option RO:=
 match b with
 |.len=>match rxs args,(argTypes[0]?).bind P.underlying with
  |some [x],some .string=>some (.lenS x)
  |some [x],some (.slice _)=>some (.lenL x)
  |some [x],some (.map _ _)=>some (.lenM x)
  |_,_=>none
 |.cap=>match rxs args,(argTypes[0]?).bind P.underlying with
  |some [x],some (.slice _)=>some (.cap x)
  |_,_=>none
 |.max=>match rxs args with
  |some [x,y]=>some (.max x y)
  |_=>none
 |.min=>match rxs args with
  |some [x,y]=>some (.min x y)
  |_=>none
 |.append=>match rxs args with
  |some [x,y]=>match(argTypes[0]?).bind P.underlying,(argTypes[1]?).bind P.underlying with
   |some (.slice el),some tx=>match tx with
    |.int _=>none
    |_=>match P.info? el,iX P el with
     |some i,some z=>match Nat.blt 0 i.size&&Nat.blt 0 i.bytes&&Nat.beq z.cells.length i.size&&Nat.ble i.bytes 65536 with
      |true=>some (.app x y i.size i.bytes z.cells)
      |false=>none
     |_,_=>none
   |_,_=>none
  |_=>none
 |.recover=>match rxs args with
  |some []=>some .reco
  |_=>none
 |.delete=>match rxs args,(argTypes[0]?).bind P.underlying with
  |some [m,k],some (.map kt _)=>(wK P kt).map (.del m k)
  |_,_=>none
 |.clear=>match rxs args,(argTypes[0]?).bind P.underlying with
  |some [x],some (.slice el)=>(iX P el).map fun z=>.clr x z.cells
  |_,_=>none
 |_=>none
def rop(o:Oper):Option RO:=
 match o.op with
 |.move x|.assign x=>(rx x).map .mv
 |.pick c a b=>match rx c,rx a,rx b with
  |some c,some a,some b=>some (.pick c a b)
  |_,_,_=>none
 |.build t parts=>match iX P t,P.underlying t,rxp parts.toList with
  |some z,some (.struct fields),some ps=>(places P fields.toList).map fun pl=>.bld z.cells pl ps
  |_,_,_=>none
 |.load t a=>match rx a,uL P t with
  |some a,some n=>some (.ld a n)
  |_,_=>none
 |.nilCheck x=>(rx x).map .nc
 |.binOp op t x y _=>bFu P op t x y
 |.unOp op _ x=>(rx x).map (.un op)
 |.convert s d x=>aBk P s d x
 |.makeInterface t x=>match P.underlying t with
  |some (.interface _)=>none
  |some _=>(rx x).map (.mkI t)
  |none=>none
 |.makeFunc (.func g) first cap=>match rxs first.toList,rxs cap.toList with
  |some a,some b=>some (.mkF g a b)
  |_,_=>none
 |.slice t x lo hi mx=>aKx P t x lo hi mx
 |.fieldAddr s x f=>match P.underlying s,rx x with
  |some (.struct fs),some x=>(fs[f]?).bind fun fd=>match szT P fd.type with
   |some (_+1)=>some (.fa x fd.offset)
   |_=>none
  |_,_=>none
 |.field t x f=>match P.underlying t,rx x with
  |some (.struct fs),some x=>(fs[f]?).bind fun fd=>(uL P fd.type).map fun n=>.fld x fd.offset n
  |_,_=>none
 |.indexAddr t x i=>match P.underlying t,rx x,rx i with
  |some (.array len el),some x,some i=>(szT P el).map fun n=>.iaa x i len n
  |some (.slice el),some x,some i=>(szT P el).map fun n=>.ia x i n
  |_,_,_=>none
 |.index t x i=>match P.underlying t,rx x,rx i with
  |some (.array len el),some x,some i=>match szT P el,oR P el with
   |some n,some a=>some (.idx x i len n a)
   |_,_=>none
  |some .string,some x,some i=>some (.idxs x i)
  |_,_,_=>none
 |.lookup t x k ok=>match P.underlying t,rx x,rx k with
  |some (.map kt et),some x,some k=>match wK P kt,iX P et with
   |some d,some z=>some (.lk x k ok z d)
   |_,_=>none
  |_,_,_=>none
 |.typeAssert x _ asserted ok=>match rx x,P.underlying asserted with
  |some x,some d=>match d with
   |.interface _=>none
   |_=>(iX P asserted).map fun z=>.ta x asserted ok z
  |_,_=>none
 |.extract x i=>(rx x).map fun x=>.ext x i
 |.alloc t=>(iX P t).map fun z=>.al z.cells
 |.box _ x=>(rx x).map .bx
 |.buildSlice t len parts=>match P.underlying t,rxp parts.toList with
  |some (.slice el),some ps=>match szT P el,iX P el with
   |some n,some z=>match Nat.ble (len*n) 65536&&Nat.beq z.cells.length n with
    |true=>some (.bs n len z.cells ps)
    |false=>none
   |_,_=>none
  |_,_=>none
 |.makeMap t r=>match r with
  |none=>some (.mm none)
  |some x=>match P.underlying t,rx x with
   |some (.map _ _),some x=>some (.mm (some x))
   |_,_=>none
 |.makeSlice t l c=>match P.underlying t,rx l,rx c with
  |some (.slice el),some l,some c=>match P.info? el,iX P el with
   |some i,some z=>match Nat.ble i.bytes 65536&&Nat.beq z.cells.length i.size with
    |true=>some (.ms l c i.size z.cells)
    |false=>none
   |_,_=>none
  |_,_,_=>none
 |.store t a x=>match rx a,rx x,szT P t with
  |some a,some x,some n=>some (.st a x n)
  |_,_,_=>none
 |.call {callee:=.value f,args,..}=>match rx f,rxs args.toList with
  |some f,some as=>some (.call f as)
  |_,_=>none
 |.call {callee:=.builtin b,args,argTypes}=>jB P b args.toList argTypes
 |.defer {callee:=.value f,args,..}=>match rx f,rxs args.toList with
  |some f,some as=>some (.dfr f as)
  |_,_=>none
 |.panic x=>(rx x).map .pan
 |.mapUpdate t m k x|.insert t m k x=>match P.underlying t,rx m,rx k,rx x with
  |some (.map kt _),some m,some k,some x=>(wK P kt).map (.mu m k x)
  |_,_,_,_=>none
 |_=>none
end
def eqB:ED→V→V→Option Bool
 |.int,.int k a,.int k' b=>match decide (k=k')with
  |true=>some (decide (a=b))
  |false=>none
 |.bool,.bool a,.bool b=>some (a==b)
 |.str,.str a,.str b=>some (decide (a=b))
 |.ptr,.iR,.iR=>some true
 |.ptr,.iR,.ptr _ _=>some false
 |.ptr,.ptr _ _,.iR=>some false
 |.map,.fX,.fX=>some true
 |.map,.fX,.map _=>some false
 |.map,.map _,.fX=>some false
 |.func,.hY,.hY=>some true
 |.func,.hY,.fn _ _ _=>some false
 |.func,.fn _ _ _,.hY=>some false
 |_,_,_=>none
def aQc:List (Nat×ED)→List V→List V→Option Bool
 |[],_,_=>some true
 |(o,d)::fs,xs,ys=>match xs[o]?,ys[o]? with
  |some a,some b=>match eqB d a b,aQc fs xs ys with
   |some c,some r=>some (c&&r)
   |_,_=>none
  |_,_=>none
def eqV:ED→V→V→Option Bool
 |.st fs,.agg xs,.agg ys=>aQc fs xs ys
 |d,x,y=>eqB d x y
def aZy(op:BinOp)(x y:V):Option V:=
 match op,x,y with
 |.shl,.int k a,.int _ b=>if b<0 then none else some (.int k (k.wrap (a*2^min b.toNat k.bits)))
 |.shr,.int k a,.int _ b=>if b<0 then none else some (.int k (a.fdiv (2^min b.toNat k.bits)))
 |op,.int k a,.int k' b=>
  if k=k' then
   match op with
   |.add=>some (.int k (k.wrap (a+b)))
   |.sub=>some (.int k (k.wrap (a-b)))
   |.mul=>some (.int k (k.wrap (a*b)))
   |.quo=>if b=0 then none else some (.int k (k.wrap (a.tdiv b)))
   |.rem=>if b=0 then none else some (.int k (a.tmod b))
   |.and=>some (.int k (k.wrap (BitVec.ofInt k.bits a&&&BitVec.ofInt k.bits b).toNat))
   |.or=>some (.int k (k.wrap (BitVec.ofInt k.bits a|||BitVec.ofInt k.bits b).toNat))
   |.xor=>some (.int k (k.wrap (BitVec.ofInt k.bits a^^^BitVec.ofInt k.bits b).toNat))
   |.andNot=>some (.int k (k.wrap (BitVec.ofInt k.bits a&&& ~~~(BitVec.ofInt k.bits b)).toNat))
   |.lss=>some (.bool (a<b))
   |.leq=>some (.bool (a≤b))
   |.gtr=>some (.bool (a>b))
   |.geq=>some (.bool (a≥b))
   |_=>none
  else none
 |op,.str a,.str b=>
  match op with
  |.add=>if a.length+b.length≤iE then some (.str (a++b))else none
  |.lss=>some (.bool (slt a b))
  |.leq=>some (.bool (slt a b||seq a b))
  |.gtr=>some (.bool (!(slt a b||seq a b)))
  |.geq=>some (.bool (!slt a b))
  |_=>none
 |_,_,_=>none
def iP:V→Option Nat
 |.int _ n=>if 0≤n then some n.toNat else none
 |_=>none
def nat?(x:Option V)(d:Nat):Option Nat:=
 match x with
 |none=>some d
 |some v=>iP v
def LC.cut(c:LC)(lo hi:Nat)(mx:Option Nat)(len:Nat):Option LC:=
 match mx with
 |some m=>match c with
  |.ex k=>if hi≤m∧m≤k then some (.ex (m-lo))else none
  |_=>if hi≤m∧m≤len then some (.ex (m-lo))else none
 |none=>match c with
  |.ex k=>some (.ex (k-lo))
  |_=>some .unk
def sJ(k:Kd)(x:V)(lo hi mx:Option V):Option V:=
 match k,x with
 |.str,.str s=>
  match mx with
  |some _=>none
  |none=>match nat? lo 0,nat? hi s.length with
   |some l,some h=>if l≤h∧h≤s.length then some (.str ((s.drop l).take (h-l)))else none
   |_,_=>none
 |.slice sz,.lst es c=>
  match nat? lo 0,nat? hi es.length,(match mx with|none=>some none|some m=>match hi with|none=>none|some _=>(iP m).map some)with
  |some l,some h,some m=>if l≤h∧h≤es.length∧(l=0∨∀e∈es,e.length=sz)then(c.cut l h m es.length).map fun c=>.lst ((es.drop l).take (h-l)) c else none
  |_,_,_=>none
 |.slice sz,.sl b o len cap=>
  match nat? lo 0,nat? hi len with
  |some l,some h=>
   match mx with
   |none=>
    match cap with
    |.op z=>if l≤h∧h≤len∧z=sz then some (.sl b (o+l*sz) (h-l) (.op z))else none
    |.ex c=>if l≤h∧h≤c then some (.sl b (if c=l then o else o+l*sz) (h-l) (.ex (c-l)))else none
   |some mv=>match hi,iP mv with
    |none,_=>none
    |_,none=>none
    |some _,some m=>if l≤h∧h≤m∧m≤cap.most len then some (.sl b (if m=l then o else o+l*sz) (h-l) (.ex (m-l)))else none
  |_,_=>none
 |.arr n sz,.ptr b o=>
  match nat? lo 0,nat? hi n,mx with
  |some l,some h,none=>if l≤h∧h≤n then some (.sl b (if n=l then o else o+l*sz) (h-l) (.ex (n-l)))else none
  |_,_,_=>none
 |_,_=>none
def oJ(place:Nat→Option (Nat×Nat))(cells:List V):List (Nat×V)→Option (List V)
 |[]=>some cells
 |(i,v)::rest=>
  match place i with
  |none=>none
  |some (off,size)=>
   match decide (v.cells.length=size)with
   |false=>none
   |true=>match lM cells off v.cells with
    |some cells=>oJ place cells rest
    |none=>none
def kA(cs:List V)(off:Nat):Option Nat→Option V
 |none=>cs[off]?
 |some n=>(jS cs off n).map .agg
def jE:V→V→Option Bool
 |.int k a,.int k' b=>if k=k' then some (decide (a=b))else none
 |.str a,.str b=>some (decide (a=b))
 |.bool a,.bool b=>some (a==b)
 |_,_=>none
def fJ(d:ED)(k:V):Bool:=
 match d,k with
 |.int,.int _ _=>true
 |.str,.str _=>true
 |.bool,.bool _=>true
 |_,_=>false
def lY(k:V):List (V×V)→Option (Option V)
 |[]=>some none
 |e::es=>match jE k e.1 with
  |some true=>some (some e.2)
  |some false=>lY k es
  |none=>none
def aFf(k v:V):List (V×V)→Option (List (V×V))
 |[]=>some [(k,v)]
 |e::es=>match jE k e.1 with
  |some true=>some ((k,v)::es)
  |some false=>(aFf k v es).map (e:: ·)
  |none=>none
def aIw(k:V):List (V×V)→Option (List (V×V))
 |[]=>some []
 |e::es=>match jE k e.1 with
  |some true=>some es
  |some false=>(aIw k es).map (e:: ·)
  |none=>none
def bytesOf:List V→Option (List Nat)
 |[]=>some []
 |.int .u8 (.ofNat n)::r=>if n<256 then(bytesOf r).map (n:: ·)else none
 |_=>none
def pL:Bool→V→Bool→V
 |true,v,b=>.tup [v,.bool b]
 |false,v,_=>v
def aMs:Bool→Nat→Option Nat
 |true,n=>some n
 |false,_=>none
section
variable(gl:List Nat)(tm:TM)(h:H)
def ldA(a:TV)(n:Option Nat):Option V:=
 match a with
 |.v (.ptr b o)=>match h.ob b with
  |some (.cells _ cs)=>kA cs o n
  |_=>none
 |.l d o=>match lg h.lc d with
  |some cs=>kA cs o n
  |none=>none
 |.e cs=>kA cs 0 n
 |_=>none
def faA(a:TV)(off:Nat):Option TV:=
 match a with
 |.v (.ptr b o)=>some (.v (.ptr b (o+off)))
 |.l d o=>some (.l d (o+off))
 |.e cs=>some (.e (cs.drop off))
 |_=>none
def rl(o:RO):Option TV:=
 let e:=rv gl tm
 match o with
 |.mv x=>rvt gl tm x
 |.pick c a b=>match e c with
  |some (.bool true)=>rvt gl tm a
  |some (.bool false)=>rvt gl tm b
  |_=>none
 |.ld x n=>match rvt gl tm x with
  |some a=>(ldA h a n).map .v
  |none=>none
 |.nc x=>match rvt gl tm x with
  |some (.v (.ptr b o))=>some (.v (.ptr b o))
  |some (.v (.fn (.func f) a c))=>some (.v (.fn (.func f) a c))
  |some (.l d o)=>some (.l d o)
  |some (.e cs)=>some (.e cs)
  |_=>none
 |.fa x off=>match rvt gl tm x with
  |some a=>faA a off
  |none=>none
 |.ia x i sz=>match e x,(e i).bind iP with
  |some (.lst es _),some i=>match es[i]? with
   |some c=>if c.length=sz then some (.e c)else none
   |none=>none
  |some (.sl b o len _),some i=>if i<len then some (.v (.ptr b (o+i*sz)))else none
  |_,_=>none
 |.iaa x i len sz=>match rvt gl tm x,(e i).bind iP with
  |some a,some i=>if i<len then faA a (i*sz)else none
  |_,_=>none
 |.bin op x y=>match e x,e y with
  |some a,some b=>(aZy op a b).map .v
  |_,_=>none
 |.eq d neg x y=>match e x,e y with
  |some a,some b=>(eqV d a b).map fun q=>.v (.bool (match neg with|true=>!q|false=>q))
  |_,_=>none
 |.inil neg x=>match e x with
  |some .fF=>some (.v (.bool (!neg)))
  |some (.iface _ _)=>some (.v (.bool neg))
  |_=>none
 |.snil neg x=>match e x with
  |some (.lst (_::_) _)=>some (.v (.bool neg))
  |some (.lst [] .nl)=>some (.v (.bool (!neg)))
  |some (.lst [] .nn)=>some (.v (.bool neg))
  |some (.sl _ _ _ _)=>some (.v (.bool neg))
  |_=>none
 |.un op x=>match op,e x with
  |.not,some (.bool b)=>some (.v (.bool !b))
  |.neg,some (.int k n)=>some (.v (.int k (k.wrap (0-n))))
  |.xor,some (.int k n)=>some (.v (.int k (k.wrap (BitVec.ofInt k.bits (if k.signed then-1 else k.max)^^^BitVec.ofInt k.bits n).toNat)))
  |_,_=>none
 |.cvi k x=>match e x with
  |some (.int _ n)=>some (.v (.int k (k.wrap n)))
  |_=>none
 |.cvs x=>match e x with
  |some (.str s)=>some (.v (.str s))
  |_=>none
 |.cvr x=>match e x with
  |some (.int _ n)=>match Nat.ble 1 n.toNat&&Nat.ble n.toNat 127 with
   |true=>some (.v (.str [n.toNat]))
   |false=>none
  |_=>none
 |.cvb x=>match e x with
  |some (.lst es _)=>(bytesOf es.flatten).map fun s=>.v (.str s)
  |some (.sl b o len _)=>match h.ob b with
   |some (.cells _ cs)=>match jS cs o len with
    |some l=>(bytesOf l).map fun s=>.v (.str s)
    |none=>none
   |_=>none
  |_=>none
 |.mkI t x=>(e x).map fun v=>.v (.iface t v)
 |.mkF g first cap=>match rvs gl tm first,rvs gl tm cap with
  |some a,some b=>some (.v (.fn (.func g) a b))
  |_,_=>none
 |.slc k x lo hi mx=>match e x,rvo gl tm lo,rvo gl tm hi,rvo gl tm mx with
  |some x,some lo,some hi,some mx=>(sJ k x lo hi mx).map .v
  |_,_,_,_=>none
 |.fld x off n=>match e x with
  |some (.agg cs)=>(kA cs off n).map .v
  |_=>none
 |.idx x i len sz agg=>match e x,(e i).bind iP with
  |some (.agg cs),some i=>if i<len then(kA cs (i*sz) (aMs agg sz)).map .v else none
  |_,_=>none
 |.idxs x i=>match e x,(e i).bind iP with
  |some (.str s),some i=>(s[i]?).map fun b=>.v (.int .u8 b)
  |_,_=>none
 |.lk x k ok z d=>match e x,e k with
  |some m,some k=>match fJ d k with
   |false=>none
   |true=>match(match m with
     |.fX=>some none
     |.map r=>match h.ob r with
      |some (.map es)=>lY k es
      |_=>none
     |_=>none)with
    |some (some v)=>some (.v (pL ok v true))
    |some none=>some (.v (pL ok z false))
    |none=>none
  |_,_=>none
 |.ta x t ok z=>match e x with
  |some (.iface t' v)=>match Nat.beq t' t with
   |true=>some (.v (pL ok v true))
   |false=>match ok with
    |true=>some (.v (.tup [z,.bool false]))
    |false=>none
  |some .fF=>match ok with
   |true=>some (.v (.tup [z,.bool false]))
   |false=>none
  |_=>none
 |.ext x i=>match e x with
  |some (.tup vs)=>(vs[i]?).map .v
  |_=>none
 |.lenS x=>match e x with
  |some (.str s)=>some (.v (.int .i64 s.length))
  |_=>none
 |.lenL x=>match e x with
  |some (.lst es _)=>some (.v (.int .i64 es.length))
  |some (.sl _ _ n _)=>some (.v (.int .i64 n))
  |_=>none
 |.lenM x=>match e x with
  |some .fX=>some (.v (.int .i64 0))
  |some (.map r)=>match h.ob r with
   |some (.map es)=>some (.v (.int .i64 es.length))
   |_=>none
  |_=>none
 |.cap x=>match e x with
  |some (.lst _ (.ex c))=>some (.v (.int .i64 c))
  |some (.sl _ _ _ (.ex c))=>some (.v (.int .i64 c))
  |_=>none
 |.max x y=>match e x,e y with
  |some (.int k a),some (.int k' b)=>if k=k' then some (.v (.int k (if b>a then b else a)))else none
  |_,_=>none
 |.min x y=>match e x,e y with
  |some (.int k a),some (.int k' b)=>if k=k' then some (.v (.int k (if b<a then b else a)))else none
  |_,_=>none
 |.bld z pl parts=>match rvp gl tm parts with
  |some ps=>(oJ (pl[·]?) z ps).map fun l=>.v (.agg l)
  |none=>none
 |_=>none
end
end Go.VM
end
