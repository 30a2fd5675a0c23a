/- laid for this seat: VmAlloc VmStore VmAppend VmExec -/
import Derived.Test.YtgadhdnnkdcgkaaGreatDoorVmB
set_option linter.unusedVariables false
set_option linter.unusedSimpArgs false
section
/- The machine of values: operations that make memory. -/
namespace Go.VM
open Go.RowKit
variable{P:Program}
def gV(z:List V):Nat→List V
 |0=>[]
 |n+1=>z++gV z n
theorem gI(z:List V):∀k,(gV z k).length=k*z.length
 |0=>by simp[gV]
 |k+1=>by simp[gV,gI z k,Nat.add_mul];omega
theorem aAv(z:List V):∀(k i:Nat),i<k*z.length→(gV z k)[i]? =z[i%z.length]?
 |0,i,h=>by simp at h
 |k+1,i,h=>by
  rw[gV]
  by_cases hi:i<z.length
  ·rw[List.getElem?_append_left hi,Nat.mod_eq_of_lt hi]
  ·rw[List.getElem?_append_right (by omega),aAv z k _ (by rw[Nat.add_mul]at h;omega)]
   congr 1
   exact(Nat.mod_eq_sub_mod (by omega)).symm
theorem oX{E:Env}{z:List V}{z':Array Value}(r:ARs E z z'.toList)(k n:Nat)(hn:z.length=n):
  ARs E (gV z k) ((Array.range (k*n)).map (z'[· %z'.size]!)).toList:=by
 have hz:z'.size=n:=by have:=r.length;simp at this;omega
 refine ARs.eY (by rw[gI,hn];simp) fun i v hi=>?_
 have hlt:i<k*n:=by
  rcases Nat.lt_or_ge i (k*n)with g|g
  ·exact g
  ·rw[List.getElem?_eq_none (by rw[gI,hn];exact g)]at hi;cases hi
 rw[aAv z k i (by rw[hn];exact hlt),hn]at hi
 obtain⟨v',h1,h2⟩:=r.get _ _ hi
 refine⟨v',?_,h2⟩
 have h1':z'[i%n]? =some v':=by simpa using h1
 have hlt2:i%n<z'.size:=by
  rcases Nat.lt_or_ge (i%n) z'.size with g|g
  ·exact g
  ·rw[Array.getElem?_eq_none g]at h1';cases h1'
 rw[Array.getElem?_toList,Array.getElem?_map,Array.getElem?_range,if_pos hlt,Option.map_some,hz,getElem!_pos z' (i%n) hlt2]
 rw[Array.getElem?_eq_getElem hlt2]at h1'
 exact h1'
theorem qX{z:List V}(h:z.all V.aW=true):∀k,(gV z k).all V.aW=true
 |0=>rfl
 |k+1=>by rw[gV,List.all_append,h,qX h k];rfl
def lP(sz:Nat):Nat→List (Nat×V)→Option (List (List V))
 |_,[]=>some []
 |i,(j,v)::r=>match Nat.beq i j&&Nat.beq v.cells.length sz&&v.cells.all V.aW with
  |true=>(lP sz (i+1) r).map (v.cells:: ·)
  |false=>none
def rah(gl:List Nat)(tm:TM)(b:Nat):RO→Option (V×Obj)
 |.al z=>match z.all V.aW with
  |true=>some (.ptr b 0,.cells false z)
  |false=>none
 |.bx x=>match rv gl tm x with
  |some v=>match v.cells.all V.aW with
   |true=>some (.ptr b 0,.cells false v.cells)
   |false=>none
  |none=>none
 |.mm none=>some (.map b,.map [])
 |.mm (some x)=>match rv gl tm x with
  |some (.int _ _)=>some (.map b,.map [])
  |_=>none
 |.ms l c sz z=>match(rv gl tm l).bind iP,(rv gl tm c).bind iP with
  |some l,some c=>if l≤c∧c*sz≤65536∧c≤65536∧z.all V.aW=true then some (.sl b 0 l (.ex c),.cells false (gV z c))else none
  |_,_=>none
 |.bs sz len z parts=>match rvp gl tm parts with
  |some ps=>match oJ (fun i=>some (i*sz,sz)) (gV z len) ps with
   |some cs=>match cs.all V.aW with
    |true=>some (.sl b 0 len (.ex len),.cells false cs)
    |false=>none
   |none=>none
  |none=>none
 |.csb x=>match rv gl tm x with
  |some (.str bs)=>some (.sl b 0 bs.length (.op 1),.cells true (bs.map fun(n:Nat)=>V.int .u8 n))
  |_=>none
 |_=>none
def raf(gl:List Nat)(tm:TM):RO→Option V
 |.bs sz len z parts=>match rvp gl tm parts with
  |some ps=>match lP sz 0 ps with
   |some es=>match Nat.beq es.length len with
    |true=>some (.lst (es.map (·.map V.bV)) (.ex len))
    |false=>none
   |none=>none
  |none=>none
 |.csb x=>match rv gl tm x with
  |some (.str bs)=>some (.lst (bs.map fun(n:Nat)=>[V.int .u8 n]) .unk)
  |_=>none
 |_=>none
def ral(gl:List Nat)(tm:TM):RO→Option (List V)
 |.al z=>match z.all V.aW with
  |true=>some z
  |false=>none
 |.bx x=>match rv gl tm x with
  |some v=>match v.cells.all V.aW with
   |true=>some v.cells
   |false=>none
  |none=>none
 |_=>none
theorem gB{E:Env}{w:World}{l:List V}{c:Array Value}(r:ARs E l c.toList)(hc:l.all V.aW=true)(t:TypeId)(ext:Nat)(h1:l.length≤ext)(c2:Array Value)(h2:ext≤c2.size)
  (h3:∀i,i<l.length→c2[i]? =c[i]?) (lo hi:Nat) (h4:∀i,i<c2.size→¬(lo≤i∧i<hi)):
  CellsR E l ⟨w.heap.size,0,ext⟩ {w with heap:=w.heap.push (.cells c2 t (lo,hi))}:=by
 refine⟨c2,t,lo,hi,by simp,h4,by simpa using h2,h1,fun i v hv=>?_⟩
 have hi':i<l.length:=(List.getElem?_eq_some_iff.1 hv).1
 obtain⟨v',a,b⟩:=r.get i v hv
 refine⟨List.all_eq_true.1 hc v (List.mem_of_getElem? hv),v',?_,b⟩
 rw[Nat.zero_add,h3 i hi'];simpa using a
def AllocO(P:Program)(gl:List Nat)(nt:Nat)(tm:TM)(o:Oper)(b:Nat)(ob:Obj)(v:V):Prop:=
 ∀(E:Env) (L:Nat→Option Place) (w:World) (tmps:Array Value),GL E gl→TR E L nt tm tmps→
  ∃v' cob n p,(execOp (evT tmps) o).run P w=.ok (.value v') {w with heap:=w.heap.push cob,drawn:=n}∧p.blk=w.heap.size∧
   ObjR E ob p {w with heap:=w.heap.push cob}∧∀E':Env,E'.ob b=some p→AR E' v v'
def AllocF(P:Program)(gl:List Nat)(nt:Nat)(tm:TM)(o:Oper)(v:V):Prop:=
 ∀(E:Env) (L:Nat→Option Place) (w:World) (tmps:Array Value),GL E gl→TR E L nt tm tmps→
  ∃v' c el q n cnt,(execOp (evT tmps) o).run P w=.ok (.value v') {w with heap:=w.heap.push (.cells c el q),drawn:=n}∧
   ∀E':Env,E.le E'→(∀i x,i<cnt→c[i]? =some x→E'.fz w.heap.size i=some x)→AR E' v v'
def aJx(P:Program)(gl:List Nat)(nt:Nat)(tm:TM)(o:Oper)(cs:List V):Prop:=
 ∀(E:Env) (L:Nat→Option Place) (w:World) (tmps:Array Value),GL E gl→TR E L nt tm tmps→
  ∃cob p,(execOp (evT tmps) o).run P w=.ok (.value (.pointer (some ⟨w.heap.size,0,none⟩))) {w with heap:=w.heap.push cob}∧p.blk=w.heap.size∧p.off=0∧CellsR E cs p {w with heap:=w.heap.push cob}
theorem sW{sz:Nat}:∀{i:Nat} {ps:List (Nat×V)} {es:List (List V)},lP sz i ps=some es→(∀e∈es,e.length=sz∧e.all V.aW=true)∧
  ∀(pre:List V) (z:List V),z.length=sz→pre.length=i*sz→oJ (fun i=>some (i*sz,sz)) (pre++gV z es.length) ps=some (pre++es.flatten)
 |i,[],es,h=>by
  simp[lP]at h;subst h
  exact⟨by simp,fun pre z hz hp=>by simp[oJ,gV]⟩
 |i,(j,v)::r,es,h=>by
  simp only[lP]at h
  split at h
  ·rename_i hc
   simp only[Bool.and_eq_true]at hc
   obtain⟨⟨h1,h2⟩,h3⟩:=hc
   have h1:=Nat.eq_of_beq_eq_true h1
   have h2:=Nat.eq_of_beq_eq_true h2
   subst h1
   cases hr:lP sz (i+1) r with
   |none=>rw[hr]at h;cases h
   |some es'=>
    rw[hr]at h;cases h
    obtain⟨a,b⟩:=sW hr
    refine⟨fun e he=>?_,fun pre z hz hp=>?_⟩
    ·cases he with
     |head=>exact⟨h2,h3⟩
     |tail _ he=>exact a e he
    ·have hb:=b (pre++v.cells) z hz (by simp[hp,h2,Nat.add_mul])
     simp only[oJ]
     rw[h2]
     simp only[decide_true]
     rw[aNm (by simp[gI,hp,h2,hz,Nat.add_mul])]
     have e1:(pre++gV z (es'.length+1)).take (i*sz)=pre:=by rw[←hp];simp
     have e2:(pre++gV z (es'.length+1)).drop (i*sz+v.cells.length)=gV z es'.length:=by
      rw[←hp,List.drop_append,h2]
      simp[gV,←hz]
     simp only[List.length_cons]
     rw[e1,e2,hb];simp
  ·cases h
theorem tA{s:Sem Value}{v':Value}{w w':World}(hs:s.run P w=.ok v' w'):(do pure (Next.value (←s)):Sem Next).run P w=.ok (.value v') w':=by simp[hs]
def cU:RO→Nat
 |.al _|.bx _|.bs .. |.mm _|.ms .. |.csb _=>1
 |.st .. =>2
 |.app .. =>4
 |.call .. |.reco|.del .. |.clr .. |.dfr .. |.pan _|.mu .. =>3
 |_=>0
def dY:Op→Nat→Bool
 |.alloc _,k|.box _ _,k|.buildSlice ..,k|.makeMap ..,k|.makeSlice ..,k=>k==1
 |.convert ..,k=>k==0||k==1
 |.store ..,k=>k==2
 |.call c,k=>match c.callee with
  |.builtin b=>(match b with|.len|.cap|.max|.min=>k==0|.append=>k==4|_=>k==3)
  |_=>k==3
 |.defer _,k|.panic _,k|.mapUpdate ..,k|.insert ..,k=>k==3
 |_,k=>k==0
theorem dS{o:Oper}{ro:RO}(h:rop P o=some ro):dY o.op (cU ro)=true:=by
 obtain⟨dst,op,ty,pos,after,guard⟩:=o
 cases op with
 |call c=>
  obtain⟨callee,args,argTypes⟩:=c
  cases callee with
  |value f=>
   simp only[rop]at h
   split at h<;>cases h;rfl
  |invoke f n=>simp[rop]at h
  |builtin b=>
   simp only[rop]at h
   unfold jB at h
   split at h
   ·split at h<;>cases h<;>rfl
   ·split at h<;>cases h;rfl
   ·split at h<;>cases h;rfl
   ·split at h<;>cases h;rfl
   ·split at h
    ·split at h
     ·split at h
      ·cases h
      ·split at h
       ·split at h<;>cases h;rfl
       ·cases h
     ·cases h
    ·cases h
   ·split at h<;>cases h;rfl
   ·split at h
    ·simp only[Option.map_eq_some_iff]at h;obtain⟨_,_,rfl⟩:=h;rfl
    ·cases h
   ·split at h
    ·simp only[Option.map_eq_some_iff]at h;obtain⟨_,_,rfl⟩:=h;rfl
    ·cases h
   ·cases h
 |defer c=>
  obtain⟨callee,args,argTypes⟩:=c
  cases callee with
  |value f=>simp only[rop]at h;split at h<;>cases h;rfl
  |invoke f n=>simp[rop]at h
  |builtin b=>simp[rop]at h
 |binOp op t x y yt=>
  have h1:∀neg,aQg P neg t x y=some ro→cU ro=0:=by
   intro neg h
   unfold aQg at h
   split at h
   ·split at h
    ·simp only[Option.map_eq_some_iff]at h;obtain⟨_,_,rfl⟩:=h;rfl
    ·cases h
   ·split at h
    ·simp only[Option.map_eq_some_iff]at h;obtain⟨_,_,rfl⟩:=h;rfl
    ·cases h
   ·split at h<;>cases h;rfl
  have h2:cU ro=0:=by
   simp only[rop,bFu]at h
   split at h
   ·exact h1 _ h
   ·exact h1 _ h
   ·split at h<;>cases h;rfl
  simp[dY,h2]
 |convert s d x=>
  simp only[rop,aBk]at h
  split at h
  ·cases h;rfl
  ·cases h;rfl
  ·cases h;rfl
  ·split at h<;>cases h;rfl
  ·split at h<;>cases h;rfl
  ·cases h
 |slice t x lo hi mx=>
  simp only[rop]at h
  obtain⟨_,_,_,_,_,_,_,_,_,rfl,_⟩:=vU h;rfl
 |makeFunc fn first cap=>
  cases fn with
  |func g=>simp only[rop]at h;split at h<;>cases h;rfl
  |_=>simp[rop]at h
 |_=>
  simp only[rop]at h
  first
   |(cases h;done)
   |(simp only[Option.map_eq_some_iff]at h;obtain⟨_,_,rfl⟩:=h;rfl)
   |(split at h<;>first|(cases h;done)|(cases h;rfl)|(simp only[Option.map_eq_some_iff,Option.bind_eq_some_iff]at h;obtain⟨_,_,rfl⟩:=h;rfl)|
     (simp only[Option.map_eq_some_iff,Option.bind_eq_some_iff]at h;obtain⟨_,_,h⟩:=h;first|(obtain⟨_,_,rfl⟩:=h;rfl)|(split at h<;>cases h;rfl))|
     (split at h<;>first|(cases h;done)|(cases h;rfl)|(simp only[Option.map_eq_some_iff]at h;obtain⟨_,_,rfl⟩:=h;rfl)|(split at h<;>cases h;rfl)))
theorem aGe{gl:List Nat}{tm:TM}{b:Nat}{ro:RO}{r:V×Obj}(h:rah gl tm b ro=some r):cU ro=1:=by
 unfold rah at h
 split at h<;>first|rfl|cases h
section
variable{gl:List Nat}{nt:Nat}{tm:TM}
theorem aBp{E:Env}{t:TypeId}{z:V}{ρ:Operand→Value}{dst:Option Tmp}{ty:TypeId}{pos:String}{after:Array Edge}{guard:Option (Nat×Bool)}(hz:iX P t=some z)(w:World):
  ∃z':Array Value,ARs E z.cells z'.toList∧(execOp ρ ⟨dst,.alloc t,ty,pos,after,guard⟩).run P w=.ok (.value (.pointer (some ⟨w.heap.size,0,none⟩))) {w with heap:=w.heap.push (.cells z' t)}:=by
 obtain⟨z',hz',rz⟩:=iL E hz w
 refine⟨z'.cells,rz.cells,tA ?_⟩
 simp[Instr.alloc,hz',newVar,newRow]
theorem aNt{t:TypeId}{x:Operand}{ρ:Operand→Value}{dst:Option Tmp}{ty:TypeId}{pos:String}{after:Array Edge}{guard:Option (Nat×Bool)}(w:World):
  (execOp ρ ⟨dst,.box t x,ty,pos,after,guard⟩).run P w=.ok (.value (.pointer (some ⟨w.heap.size,0,none⟩))) {w with heap:=w.heap.push (.cells (ρ x).cells t)}:=by
 refine tA ?_
 simp[Instr.box,newVar,newRow]
theorem pE{E:Env}{t el:TypeId}{len n:Nat}{parts:Array (Nat×Value)}{ps:List (Nat×V)}{z:V}{cs:List V}(hu:P.underlying t=some (.slice el))(hn:szT P el=some n)(hz:iX P el=some z)(hl:len*n≤65536)(hzl:z.cells.length=n)
  (rp:PsR E ps parts.toList) (hf:oJ (fun i=>some (i*n,n)) (gV z.cells len) ps=some cs) (w:World):
  ∃c':Array Value,ARs E cs c'.toList∧(Instr.buildSlice t len parts).run P w=.ok (.slice (some ⟨w.heap.size,0,none⟩) len len) {w with heap:=w.heap.push (.cells c' el)}:=by
 obtain⟨z',hz',rz⟩:=iL E hz w
 have rzz:=oX rz.cells len n hzl
 have hl24:¬len*n>2^24:=by omega
 by_cases h0:len*n=0
 ·have e:(Array.range (len*n)).map ((z'.cells)[· %z'.cells.size]!)= #[]:=by rw[h0];simp
  rw[e]at rzz
  obtain⟨c',hf',rc⟩:=rN rp hf rzz
  refine⟨c',rc,?_⟩
  have hf2:Instr.fill (fun i=>some (i*n,n)) #[] parts.toList=some c':=by simpa using hf'
  have e2:(Array.range (len*n)).map ((#[]:Array Value)[· % (#[]:Array Value).size]!)= #[]:=by rw[h0];simp
  simp only[Instr.buildSlice,Sem.run_bind,run_underlying hu,bR hn,Result.andThen_ok,if_neg hl24,Sem.run_ite,if_pos h0,Sem.run_pure,e2,hf2]
  simp[newRow]
 ·obtain⟨c',hf',rc⟩:=rN rp hf rzz
  refine⟨c',rc,?_⟩
  have hf2:Instr.fill (fun i=>some (i*n,n)) ((Array.range (len*n)).map ((z'.cells)[· %z'.cells.size]!)) parts.toList=some c':=by simpa using hf'
  simp only[Instr.buildSlice,Sem.run_bind,run_underlying hu,bR hn,Result.andThen_ok,if_neg hl24,Sem.run_ite,if_neg h0,hz',Sem.run_pure,hf2]
  simp[newRow]
theorem aPo{s d el:TypeId}{y:ByteArray}(hs:P.underlying s=some .string)(hd:P.underlying d=some (.slice el))(hel:P.underlying el=some (.int .u8))(w:World):
  ∃cap c2 n,y.size≤cap∧c2.size=cap∧(∀i,i<y.size→c2[i]? =(y.data.map fun b=>Value.int .u8 b.toNat)[i]?)∧(convert s d (.string y)).run P w=.ok (.slice (some ⟨w.heap.size,0,none⟩) y.size cap) {w with heap:=w.heap.push (.cells c2 el (cap,cap+1)),drawn:=n}:=by
 let c:Array Value:=(y.data.map fun b=>Value.int .u8 b.toNat)
 let cap:Nat:=(Question.appendCap y.size 0 el).cut (w.tape w.drawn (.appendCap y.size 0 el))
 have hcap:y.size≤cap:=Nat.le_add_right _ _
 have hcs:c.size=y.size:=by simp[c]
 let c2:Array Value:=c++Array.replicate (cap-y.size) (.int .u8 0)
 have hc2:c2.size=cap:=by simp[c2,hcs];omega
 refine⟨cap,c2,w.drawn+1,hcap,hc2,fun i hi=>by simp only[c2];rw[Array.getElem?_append_left (by rw[hcs];exact hi)],?_⟩
 have hconv:(convert s d (.string y)).run P w=(Conv.stringToBytes el y).run P w:=by
  simp[convert,run_underlying hs,run_underlying hd,run_underlying hel]
 rw[hconv]
 have hsh:({w with heap:=w.heap.push (.cells c2 el),drawn:=w.drawn+1}:World).shape? w.heap.size=some (el,cap):=by
  simp[World.shape?,hc2]
 have hfz:({w with heap:=w.heap.push (.cells c2 el),drawn:=w.drawn+1}:World).freeze ⟨w.heap.size,cap,none⟩ 1={w with heap:=w.heap.push (.cells c2 el (cap,cap+1)),drawn:=w.drawn+1}:=by
  simp only[World.freeze,Nat.one_ne_zero,if_false]
  congr 1
  apply Array.ext_getElem?
  intro k
  rw[Array.getElem?_modify]
  by_cases hk:w.heap.size=k
  ·subst hk;simp
  ·rw[if_neg hk]
   simp only[Array.getElem?_push]
   rw[if_neg (fun e=>hk e.symm),if_neg (fun e=>hk e.symm)]
 have hq:(Question.appendCap y.size 0 el).forced=false:=rfl
 have hrun:(newRow el (c++Array.replicate (cap-y.size) (Value.int .u8 0))).run P {w with drawn:=w.drawn+1}=.ok ⟨w.heap.size,0,none⟩ {w with heap:=w.heap.push (.cells c2 el),drawn:=w.drawn+1}:=by
  rfl
 have hmk:(markStringish ⟨w.heap.size,0,none⟩).run P {w with heap:=w.heap.push (.cells c2 el),drawn:=w.drawn+1}=.ok () {w with heap:=w.heap.push (.cells c2 el (cap,cap+1)),drawn:=w.drawn+1}:=by
  simp only[markStringish,Sem.run_bind,run_shape,Result.andThen_ok,hsh,run_freeze,hfz]
 simp only[Conv.stringToBytes,Sem.run_bind,run_choose,hq,Bool.false_eq_true,if_false,Result.andThen_ok]
 rw[show(Array.map (fun b:UInt8=>Value.int .u8 (b.toNat:Int)) y.data++Array.replicate (cap-y.size) (Value.int .u8 0))=c++Array.replicate (cap-y.size) (Value.int .u8 0)from rfl,hrun]
 simp only[Result.andThen_ok,hmk,Sem.run_pure]
 rfl
theorem aAx{E:Env}{bs:List Nat}{y:ByteArray}(e:y.data.toList.map UInt8.toNat=bs):ARs E (bs.map fun n:Nat=>V.int .u8 n) (y.data.map fun b=>Value.int .u8 b.toNat).toList:=by
 refine ARs.eY (by rw[←e];simp) fun i v hv=>?_
 rw[List.getElem?_map]at hv
 cases hbi:bs[i]? with
 |none=>rw[hbi]at hv;cases hv
 |some nb=>
  rw[hbi]at hv;cases hv
  rw[←e,List.getElem?_map]at hbi
  cases hyi:y.data.toList[i]? with
  |none=>rw[hyi]at hbi;cases hbi
  |some u=>
   rw[hyi]at hbi
   have:u.toNat=nb:=by simpa using hbi
   refine⟨.int .u8 u.toNat,by simp;exact⟨u,by simpa using hyi,rfl⟩,by rw[this];exact .int _ _⟩
set_option maxHeartbeats 1000000 in
theorem aRc{o:Oper}{ro:RO}{b:Nat}{v:V}{ob:Obj}(ho:rop P o=some ro)(ha:rah gl tm b ro=some (v,ob)):AllocO P gl nt tm o b ob v∧∀n,ob≠.tok n:=by
 obtain⟨dst,op,ty,pos,after,guard⟩:=o
 cases op with
 |alloc t=>
  simp only[rop]at ho
  cases hz:iX P t with
  |none=>rw[hz]at ho;cases ho
  |some z=>
   rw[hz]at ho;cases ho
   simp only[rah]at ha
   split at ha
   ·rename_i hall
    cases ha
    refine⟨fun E L w tmps hg r=>?_,by simp⟩
    obtain⟨z',rz,hrun⟩:=aBp (P:=P) (E:=E) hz w
    exact⟨_,_,w.drawn,⟨w.heap.size,0,z'.size⟩,hrun,rfl,gB rz hall _ _ (by rw[rz.length];simp) _ (Nat.le_refl _) (fun _ _=>rfl) 0 0 (by omega),fun E' hE=>.ptr b 0 _ hE⟩
   ·cases ha
 |box t x=>
  simp only[rop]at ho
  cases hx:rx x with
  |none=>rw[hx]at ho;cases ho
  |some y=>
   rw[hx]at ho;cases ho
   simp only[rah]at ha
   split at ha
   ·rename_i u hu
    split at ha
    ·rename_i hall
     cases ha
     refine⟨fun E L w tmps hg r=>?_,by simp⟩
     have rc:=(aH hg r hx hu).cells
     exact⟨_,_,w.drawn,⟨w.heap.size,0,(evT tmps x).cells.size⟩,aNt w,rfl,gB rc hall _ _ (by rw[rc.length];simp) _ (Nat.le_refl _) (fun _ _=>rfl) 0 0 (by omega),fun E' hE=>.ptr b 0 _ hE⟩
    ·cases ha
   ·cases ha
 |buildSlice t len parts=>
  simp only[rop]at ho
  split at ho
  ·rename_i el ps hu hps
   split at ho
   ·rename_i n z hn hz
    split at ho
    ·rename_i hc
     simp only[Bool.and_eq_true]at hc
     have h1:=Nat.le_of_ble_eq_true hc.1
     have h2:=Nat.eq_of_beq_eq_true hc.2
     cases ho
     simp only[rah]at ha
     split at ha
     ·rename_i vs hvs
      split at ha
      ·rename_i cs hcs
       split at ha
       ·rename_i hall
        cases ha
        refine⟨fun E L w tmps hg r=>?_,by simp⟩
        have rp:=qF hg r hps hvs
        have hpa:(parts.map fun p=>(p.1,evT tmps p.2)).toList=parts.toList.map fun p=>(p.1,evT tmps p.2):=by simp
        obtain⟨c',rc,hrun⟩:=pE (parts:=parts.map fun p=>(p.1,evT tmps p.2)) hu hn hz h1 h2 (by rw[hpa];exact rp) hcs w
        exact⟨_,_,w.drawn,⟨w.heap.size,0,c'.size⟩,tA hrun,rfl,gB rc hall _ _ (by rw[rc.length];simp) _ (Nat.le_refl _) (fun _ _=>rfl) 0 0 (by omega),fun E' hE=>.sl b 0 len _ len hE (Nat.le_refl _)⟩
       ·cases ha
      ·cases ha
     ·cases ha
    ·cases ho
   ·cases ho
  ·cases ho
 |makeMap t res=>
  have key:v=.map b→ob=.map []→(∀(E:Env) (L:Nat→Option Place) (w:World) (tmps:Array Value),GL E gl→TR E L nt tm tmps→(Instr.makeMap t (res.map (evT tmps))).run P w=.ok (.map (some w.heap.size)) {w with heap:=w.heap.push (.map #[] 0)})→
    AllocO P gl nt tm ⟨dst,.makeMap t res,ty,pos,after,guard⟩ b ob v∧∀n,ob≠.tok n:=by
   rintro rfl rfl hrun
   refine⟨fun E L w tmps hg r=>?_,by simp⟩
   exact⟨_,.map #[] 0,w.drawn,⟨w.heap.size,0,0⟩,tA (hrun E L w tmps hg r),rfl,⟨#[],0,by simp,.nil⟩,fun E' hE=>.map b _ hE⟩
  simp only[rop]at ho
  split at ho
  ·cases ho
   simp only[rah]at ha
   cases ha
   exact key rfl rfl fun E L w tmps hg r=>by simp[Instr.makeMap]
  ·rename_i x
   split at ho
   ·rename_i k el y hu hx
    cases ho
    simp only[rah]at ha
    split at ha
    ·rename_i kk nn hv
     cases ha
     refine key rfl rfl fun E L w tmps hg r=>?_
     have:=aH hg r hx hv
     cases hcv:evT tmps x<;>rw[hcv]at this<;>cases this
     simp[Instr.makeMap,run_underlying hu,hcv,asInt,asIntOf]
    ·cases ha
   ·cases ho
 |makeSlice t l c=>
  simp only[rop]at ho
  split at ho
  ·rename_i el l1 c1 hu hl hc
   split at ho
   ·rename_i i z hi hz
    split at ho
    ·rename_i hcond
     simp only[Bool.and_eq_true]at hcond
     have q4:=Nat.le_of_ble_eq_true hcond.1
     have q5:=Nat.eq_of_beq_eq_true hcond.2
     cases ho
     have hn:szT P el=some i.size:=by simp[szT,hi]
     simp only[rah]at ha
     split at ha
     ·rename_i l' c' hlv hcv
      split at ha
      ·rename_i hcond
       obtain⟨q1,q2,q3,q6⟩:=hcond
       cases ha
       refine⟨fun E L w tmps hg r=>?_,by simp⟩
       cases hlv':rv gl tm l1 with
       |none=>rw[hlv']at hlv;cases hlv
       |some lv=>
       cases hcv':rv gl tm c1 with
       |none=>rw[hcv']at hcv;cases hcv
       |some cv=>
       rw[hlv']at hlv;rw[hcv']at hcv
       obtain⟨k1,_,e1⟩:=dP hlv (aH hg r hl hlv')
       obtain⟨k2,_,e2⟩:=dP hcv (aH hg r hc hcv')
       obtain⟨z',hz',rz⟩:=iL E hz w
       have rzz:=oX rz.cells c' i.size q5
       have w1:=yL q3
       have w2:=yL (show l'≤65536 by omega)
       have hb:¬(i.bytes:Int)*(c':Int)>2^48:=by
        have:i.bytes*c'≤65536*65536:=Nat.mul_le_mul q4 q3
        have e3:((i.bytes*c':Nat):Int)=(i.bytes:Int)*(c':Int):=Int.natCast_mul ..
        rw[←e3]
        generalize i.bytes*c'=mm at*
        omega
       have hb':¬(281474976710656:Int)<(i.bytes:Int)*(c':Int):=hb
       have er:Array.range 0= #[]:=by simp
       have hlc:¬((l':Int)>(c':Int)):=by omega
       have hl0:¬((l':Int)<0):=by omega
       have hc0:¬((c':Int)<0):=by omega
       by_cases h0:c'*i.size=0
       ·have e:(Array.range (c'*i.size)).map ((z'.cells)[· %z'.cells.size]!)= #[]:=by rw[h0];simp
        rw[e]at rzz
        refine⟨.slice (some ⟨w.heap.size,0,none⟩) l' c',.cells #[] el,w.drawn,⟨w.heap.size,0,0⟩,?_,rfl,?_,fun E' hE=>.sl b 0 l' _ c' hE q1⟩
        ·refine tA ?_
         simp[Instr.makeSlice,run_underlying hu,e1,e2,asInt,asIntOf,mP hi,w1,w2,hb',er,hlc,hl0,hc0,bR hn,h0,newRow]
        ·exact gB rzz (qX q6 _) _ _ (by rw[gI,q5,h0];omega) _ (by simp) (fun _ _=>rfl) 0 0 (by omega)
       ·refine⟨.slice (some ⟨w.heap.size,0,none⟩) l' c',.cells ((Array.range (c'*i.size)).map ((z'.cells)[· %z'.cells.size]!)) el,w.drawn,⟨w.heap.size,0,c'*i.size⟩,?_,rfl,?_,fun E' hE=>.sl b 0 l' _ c' hE q1⟩
        ·refine tA ?_
         simp[Instr.makeSlice,run_underlying hu,e1,e2,asInt,asIntOf,mP hi,w1,w2,hb',er,hlc,hl0,hc0,bR hn,h0,newRow,hz']
        ·exact gB rzz (qX q6 _) _ _ (by rw[gI,q5];omega) _ (by simp) (fun _ _=>rfl) 0 0 (by omega)
      ·cases ha
     ·cases ha
    ·cases ho
   ·cases ho
  ·cases ho
 |convert s d x=>
  simp only[rop,aBk]at ho
  split at ho
  ·cases ho;simp[rah]at ha
  ·cases ho;simp[rah]at ha
  ·cases ho;simp[rah]at ha
  ·split at ho
   ·cases ho;simp[rah]at ha
   ·cases ho
  ·rename_i el x1 hs hd hx
   split at ho
   ·rename_i hel
    cases ho
    simp only[rah]at ha
    split at ha
    ·rename_i bs hv
     cases ha
     refine⟨fun E L w tmps hg r=>?_,by simp⟩
     have:=aH hg r hx hv
     cases hcv:evT tmps x<;>rw[hcv]at this<;>cases this
     rename_i y e
     have hy:y.size=bs.length:=by rw[←e,List.length_map,Array.length_toList];rfl
     obtain⟨cap,c2,n,h1,h2,h3,hrun⟩:=aPo (P:=P) (y:=y) hs hd hel w
     refine⟨.slice (some ⟨w.heap.size,0,none⟩) y.size cap,.cells c2 el (cap,cap+1),n,⟨w.heap.size,0,cap⟩,?_,rfl,?_,fun E' hE=>by rw[hy];exact .slo b 0 bs.length 1 _ cap hE (by simp) (by omega)⟩
     ·rw[←hcv]at hrun;exact tA hrun
     ·exact gB (aAx e) (by simp[V.aW]) _ _ (by simp;omega) _ (by rw[h2];exact Nat.le_refl _) (fun i hi=>h3 i (by rw[hy];simpa using hi)) _ _ (by omega)
    ·cases ha
   ·cases ho
  ·cases ho
 |call c=>
  exfalso
  have h1:=dS ho
  rw[aGe ha]at h1
  obtain⟨callee,args,argTypes⟩:=c
  cases callee with
  |builtin bi=>cases bi<;>simp[dY]at h1
  |_=>simp[dY]at h1
 |_=>
  exfalso
  have h1:=dS ho
  rw[aGe ha]at h1
  simp[dY]at h1
theorem aIx{ro:RO}{v:V}(h:raf gl tm ro=some v):cU ro=1:=by
 unfold raf at h
 split at h<;>first|rfl|cases h
theorem xW{ro:RO}{v:List V}(h:ral gl tm ro=some v):cU ro=1:=by
 unfold ral at h
 split at h<;>first|rfl|cases h
theorem fR:∀es:List (List V),(es.map (·.map V.bV)).flatten=es.flatten.map V.bV
 |[]=>rfl
 |e::es=>by rw[List.map_cons,List.flatten_cons,fR es,List.flatten_cons,List.map_append]
theorem fW{sz:Nat}:∀{es:List (List V)},(∀e∈es,e.length=sz)→es.flatten.length=es.length*sz
 |[],_=>by simp
 |e::es,h=>by
  have:=h e (by simp)
  have:=fW (es:=es) (fun x hx=>h x (by simp[hx]))
  simp[*,Nat.add_mul];omega
theorem vD{l:List V}(h:l.all V.aW=true):(l.map V.bV).all V.aW=true:=by
 rw[List.all_eq_true]at h⊢
 intro x hx
 obtain⟨y,hy,rfl⟩:=List.mem_map.1 hx
 rw[aAs];exact h y hy
theorem zF{E E':Env}{es:List (List V)}{c:Array Value}{sz B len cap cnt:Nat}{lc:LC}(hle:E.le E')(r:ARs E es.flatten c.toList)(hz:∀e∈es,e.length=sz)(hall:es.flatten.all V.aW=true)(hlen:es.length=len)
  (hcnt:len*sz≤cnt) (c2:Array Value) (hc2:∀i,i<len*sz→c2[i]? =c[i]?) (hf:∀i x,i<cnt→c2[i]? =some x→E'.fz B i=some x) (hcap:len≤cap) (hlc:match lc with|.ex k=>cap=k|.unk=>True|.nl=>False|.nn=>False|.tk id=>E'.tk id len=some ⟨B,len*sz,(cap-len)*sz⟩∧0<len):
  AR E' (.lst es lc) (.slice (some ⟨B,0,none⟩) len cap):=by
 subst hlen
 have hfl:=fW hz
 have hFZ:FZ E' B 0 es.flatten:=FZ.eY fun i v hv=>by
  obtain⟨v',a,b⟩:=r.get i v hv
  have hi:i<es.flatten.length:=(List.getElem?_eq_some_iff.1 hv).1
  refine⟨List.all_eq_true.1 hall v (List.mem_of_getElem? hv),v',?_,b.mono hle⟩
  rw[Nat.zero_add]
  exact hf i v' (by omega) (by rw[hc2 i (by omega)];simpa using a)
 cases es with
 |nil=>
  refine .lst0 lc _ cap ?_
  cases lc with
  |ex k=>exact hlc
  |unk=>trivial
  |tk id=>simp at hlc
  |nl=>exact hlc.elim
  |nn=>exact hlc.elim
 |cons e es=>
  refine .lst e es lc B 0 _ cap sz (FZs.of_flat hz hFZ) rfl hcap ?_
  cases lc with
  |ex k=>exact hlc
  |unk=>trivial
  |tk id=>simpa [CapR] using hlc.1
  |nl=>exact hlc.elim
  |nn=>exact hlc.elim
set_option maxHeartbeats 1000000 in
theorem aQh{o:Oper}{ro:RO}{v:V}(ho:rop P o=some ro)(ha:raf gl tm ro=some v):AllocF P gl nt tm o v:=by
 obtain⟨dst,op,ty,pos,after,guard⟩:=o
 cases op with
 |alloc t=>
  simp only[rop,Option.map_eq_some_iff]at ho
  obtain⟨_,_,rfl⟩:=ho;simp[raf]at ha
 |box t x=>
  simp only[rop,Option.map_eq_some_iff]at ho
  obtain⟨_,_,rfl⟩:=ho;simp[raf]at ha
 |makeMap t res=>
  simp only[rop]at ho
  split at ho
  ·cases ho;simp[raf]at ha
  ·split at ho<;>cases ho;simp[raf]at ha
 |makeSlice t l c=>
  simp only[rop]at ho
  split at ho
  ·split at ho
   ·split at ho<;>cases ho;simp[raf]at ha
   ·cases ho
  ·cases ho
 |buildSlice t len parts=>
  simp only[rop]at ho
  split at ho
  ·rename_i el ps hu hps
   split at ho
   ·rename_i n z hn hz
    split at ho
    ·rename_i hc
     simp only[Bool.and_eq_true]at hc
     have h1:=Nat.le_of_ble_eq_true hc.1
     have h2:=Nat.eq_of_beq_eq_true hc.2
     cases ho
     simp only[raf]at ha
     split at ha
     ·rename_i vs hvs
      split at ha
      ·rename_i es hes
       split at ha
       ·rename_i hlen
        have hlen:=Nat.eq_of_beq_eq_true hlen
        cases ha
        intro E L w tmps hg r
        obtain⟨a1,a2⟩:=sW hes
        have hf:=a2 [] z.cells h2 (by simp)
        simp only[List.nil_append]at hf
        rw[hlen]at hf
        have rp:=qF hg r hps hvs
        have hpa:(parts.map fun p=>(p.1,evT tmps p.2)).toList=parts.toList.map fun p=>(p.1,evT tmps p.2):=by simp
        obtain⟨c',rc,hrun⟩:=pE (parts:=parts.map fun p=>(p.1,evT tmps p.2)) hu hn hz h1 h2 (by rw[hpa];exact rp) hf w
        refine⟨_,c',el,(0,0),w.drawn,c'.size,tA hrun,fun E' hle hfz=>?_⟩
        have hcl:c'.size=len*n:=by
         have:=rc.length
         rw[fW (fun e he=>(a1 e he).1),hlen,Array.length_toList]at this
         exact this.symm
        refine zF (sz:=n) (c:=c') hle (by rw[fR];exact rc.bV) ?_ ?_ (by simpa using hlen) (by omega) c' (fun _ _=>rfl) hfz (Nat.le_refl _) rfl
        ·intro e he
         obtain⟨e0,he0,rfl⟩:=List.mem_map.1 he
         simpa using(a1 e0 he0).1
        ·rw[fR]
         refine vD ?_
         rw[List.all_eq_true]
         intro x hx
         obtain⟨e,he,hxe⟩:=List.mem_flatten.1 hx
         exact List.all_eq_true.1 (a1 e he).2 x hxe
       ·cases ha
      ·cases ha
     ·cases ha
    ·cases ho
   ·cases ho
  ·cases ho
 |convert s d x=>
  simp only[rop,aBk]at ho
  split at ho
  ·cases ho;simp[raf]at ha
  ·cases ho;simp[raf]at ha
  ·cases ho;simp[raf]at ha
  ·split at ho
   ·cases ho;simp[raf]at ha
   ·cases ho
  ·rename_i el x1 hs hd hx
   split at ho
   ·rename_i hel
    cases ho
    simp only[raf]at ha
    split at ha
    ·rename_i bs hv
     cases ha
     intro E L w tmps hg r
     have:=aH hg r hx hv
     cases hcv:evT tmps x<;>rw[hcv]at this<;>cases this
     rename_i y e
     have hy:y.size=bs.length:=by rw[←e,List.length_map,Array.length_toList];rfl
     obtain⟨cap,c2,n,h1,h2,h3,hrun⟩:=aPo (P:=P) (y:=y) hs hd hel w
     rw[←hcv]at hrun
     refine⟨_,c2,el,_,n,y.size,tA hrun,fun E' hle hfz=>?_⟩
     have hfl:(bs.map fun n:Nat=>[V.int .u8 n]).flatten=bs.map fun n:Nat=>V.int .u8 n:=by
      clear hrun h3 hy e hx hv hcv
      induction bs with
      |nil=>rfl
      |cons b bs ih=>simp[ih]
     refine zF (sz:=1) (c:=(y.data.map fun b=>Value.int .u8 b.toNat)) hle (by rw[hfl];exact aAx e) (by simp) (by rw[hfl];simp[V.aW]) (by simp[hy]) (by simp) c2 (fun i hi=>h3 i (by simpa using hi)) hfz h1 trivial
    ·cases ha
   ·cases ho
  ·cases ho
 |call c=>
  exfalso
  have h1:=dS ho
  rw[aIx ha]at h1
  obtain⟨callee,args,argTypes⟩:=c
  cases callee with
  |builtin bi=>cases bi<;>simp[dY]at h1
  |_=>simp[dY]at h1
 |_=>
  exfalso
  have h1:=dS ho
  rw[aIx ha]at h1
  simp[dY]at h1
theorem aSc{o:Oper}{ro:RO}{cs:List V}(ho:rop P o=some ro)(ha:ral gl tm ro=some cs):aJx P gl nt tm o cs:=by
 obtain⟨dst,op,ty,pos,after,guard⟩:=o
 cases op with
 |alloc t=>
  simp only[rop]at ho
  cases hz:iX P t with
  |none=>rw[hz]at ho;cases ho
  |some z=>
   rw[hz]at ho;cases ho
   simp only[ral]at ha
   split at ha
   ·rename_i hall
    cases ha
    intro E L w tmps hg r
    obtain⟨z',rz,hrun⟩:=aBp (P:=P) (E:=E) hz w
    exact⟨_,⟨w.heap.size,0,z'.size⟩,hrun,rfl,rfl,gB rz hall _ _ (by rw[rz.length];simp) _ (Nat.le_refl _) (fun _ _=>rfl) 0 0 (by omega)⟩
   ·cases ha
 |box t x=>
  simp only[rop]at ho
  cases hx:rx x with
  |none=>rw[hx]at ho;cases ho
  |some y=>
   rw[hx]at ho;cases ho
   simp only[ral]at ha
   split at ha
   ·rename_i u hu
    split at ha
    ·rename_i hall
     cases ha
     intro E L w tmps hg r
     have rc:=(aH hg r hx hu).cells
     exact⟨_,⟨w.heap.size,0,(evT tmps x).cells.size⟩,aNt w,rfl,rfl,gB rc hall _ _ (by rw[rc.length];simp) _ (Nat.le_refl _) (fun _ _=>rfl) 0 0 (by omega)⟩
    ·cases ha
   ·cases ha
 |buildSlice t len parts=>
  simp only[rop]at ho
  split at ho
  ·split at ho
   ·split at ho<;>cases ho;simp[ral]at ha
   ·cases ho
  ·cases ho
 |makeMap t res=>
  simp only[rop]at ho
  split at ho
  ·cases ho;simp[ral]at ha
  ·split at ho<;>cases ho;simp[ral]at ha
 |makeSlice t l c=>
  simp only[rop]at ho
  split at ho
  ·split at ho
   ·split at ho<;>cases ho;simp[ral]at ha
   ·cases ho
  ·cases ho
 |convert s d x=>
  simp only[rop,aBk]at ho
  split at ho
  ·cases ho;simp[ral]at ha
  ·cases ho;simp[ral]at ha
  ·cases ho;simp[ral]at ha
  ·split at ho<;>cases ho;simp[ral]at ha
  ·split at ho<;>cases ho;simp[ral]at ha
  ·cases ho
 |call c=>
  exfalso
  have h1:=dS ho
  rw[xW ha]at h1
  obtain⟨callee,args,argTypes⟩:=c
  cases callee with
  |builtin bi=>cases bi<;>simp[dY]at h1
  |_=>simp[dY]at h1
 |_=>
  exfalso
  have h1:=dS ho
  rw[xW ha]at h1
  simp[dY]at h1
end
end Go.VM
end
section
/- The machine of values: what operations do that change memory. -/
namespace Go.VM
open Go.RowKit
variable{P:Program}
def Does(P:Program)(gl:List Nat)(nt:Nat)(tm:TM)(h:H)(o:Oper)(tv:TV)(h':H):Prop:=
 ∀(E:Env) (F:Fx) (w0 w:World) (tmps:Array Value),MR E F h w0 w→GL E gl→TR E F.loc nt tm tmps→
  ∃E' F' w' n v',(execOp (evT tmps) o).run P w=.ok n w'∧(n=.value v'∨n=.skip∧v'=undef)∧Ext E h E' h'∧F'.loc=F.loc∧F'.prot=F.prot∧MR E' F' h' w0 w'∧TVR E' F'.loc tv v'
section
variable{gl:List Nat}{nt:Nat}{tm:TM}{h:H}
theorem Light.tT{o:Oper}{tv:TV}(l:Light P gl nt tm h o tv):Does P gl nt tm h o tv h:=by
 intro E F w0 w tmps m hg r
 obtain⟨v',h1,h2⟩:=l E F w0 w tmps m hg r
 exact⟨E,F,w,_,v',h1,.inl rfl,Ext.refl _ _,rfl,rfl,m,h2⟩
theorem AllocO.tT{o:Oper}{v:V}{ob:Obj}(a:AllocO P gl nt tm o h.nxt ob v)(hnt:∀n,ob≠.tok n):Does P gl nt tm h o (.v v) (h.new ob):=by
 intro E F w0 w tmps m hg r
 obtain⟨v',cob,n,p,h1,h2,h3,h4⟩:=a E F.loc w tmps hg r
 obtain⟨m1,x1,hEb,hget⟩:=m.ghost ob (fun n e=>absurd e (hnt n))
 have hle:=qG (p:=p) hEb
 have m2:=(m1.drawn n).place hget hEb m.glo hnt cob h2 (h3.mono hle)
 refine⟨gS E h.nxt p,{F with own:=bQ F.own w.heap.size (.ob h.nxt)},_,_,v',h1,.inl rfl,⟨hle,fun k hk=>?_,x1.nxt,fun k o hk he ho hn=>x1.ghost k o hk he ho hn⟩,rfl,rfl,m2,.v _ _ (h4 _ (by simp[gS]))⟩
 simp only[gS];rw[if_neg (by omega)]
theorem AllocF.tT{o:Oper}{v:V}(a:AllocF P gl nt tm o v):Does P gl nt tm h o (.v v) h:=by
 intro E F w0 w tmps m hg r
 obtain⟨v',c,el,q,n,cnt,h1,h2⟩:=a E F.loc w tmps hg r
 have md:=m.drawn n
 have hle:=md.qT cnt c
 have m2:=md.frozen cnt c el q .fz (.inl rfl)
 refine⟨_,{F with own:=bQ F.own w.heap.size .fz},_,_,v',h1,.inl rfl,⟨hle,fun _ _=>rfl,Nat.le_refl _,fun _ _ _ _ h _=>h⟩,rfl,rfl,m2,.v _ _ (h2 _ hle fun i x hi hx=>?_)⟩
 simp only[lB,if_true];rw[if_pos hi];exact hx
def ras(gl:List Nat)(tm:TM)(h:H):RO→Option H
 |.st a x n=>match rvt gl tm a,rv gl tm x with
  |some a,some v=>match decide (v.cells.length=n)&&v.cells.all V.aW with
   |true=>match a with
    |.v (.ptr b o)=>match h.ob b,Nat.ble aC b with
     |some (.cells opn cs),true=>(lM cs o v.cells).map fun cs=>h.put b (.cells opn cs)
     |_,_=>none
    |.l d o=>match lg h.lc d with
     |some cs=>(lM cs o v.cells).map fun cs=>{h with lc:=(d,cs)::h.lc}
     |none=>none
    |_=>none
   |false=>none
  |_,_=>none
 |_=>none
theorem run_store{t:TypeId}{a x:Operand}{ρ:Operand→Value}{n:Nat}{A:Addr}{dst:Option Tmp}{ty:TypeId}{pos:String}{after:Array Edge}{guard:Option (Nat×Bool)}{w w':World}
  (hn:szT P t=some n) (ha:ρ a=.pointer (some A)) (hs:(ρ x).cells.size=n) (h1:(storeCells A (ρ x).cells.toList).run P w=.ok () w'):(execOp ρ ⟨dst,.store t a x,ty,pos,after,guard⟩).run P w=.ok .skip w':=by
 have e1:Sem.run P (Instr.storeAt t (ρ a) (ρ x)) w=.ok () w':=by
  rw[ha]
  simp only[Instr.storeAt,Instr.sureAddr,Sem.run_bind,Sem.run_pure,Result.andThen_ok,storeVar,bR hn,hs,ne_eq,not_true,if_false,h1]
 simp only[execOp,Sem.run_bind,e1,Result.andThen_ok,Sem.run_pure]
theorem aIn{ro:RO}{h':H}(hs:ras gl tm h ro=some h'):cU ro=2:=by
 unfold ras at hs
 split at hs<;>first|rfl|cases hs
theorem aGb{o:Oper}{ro:RO}{h':H}(ho:rop P o=some ro)(hs:ras gl tm h ro=some h'):Does P gl nt tm h o (.v bG) h':=by
 obtain⟨dst,op,ty,pos,after,guard⟩:=o
 cases op with
 |store t a x=>
  simp only[rop]at ho
  split at ho
  ·rename_i a1 x1 n ha hx hn
   cases ho
   intro E F w0 w tmps m hg r
   simp only[ras]at hs
   split at hs
   ·rename_i av v hav hv
    split at hs
    ·rename_i hc
     simp only[Bool.and_eq_true,decide_eq_true_eq]at hc
     obtain⟨hlen,hall⟩:=hc
     have rxx:=(aH hg r hx hv).cells
     have hsz:(evT tmps x).cells.size=n:=by rw[←hlen,rxx.length];simp
     have raa:=dQ hg r ha hav
     split at hs
     ·rename_i b o
      split at hs
      ·rename_i opn cs hb hgb
       have hgb:=Nat.le_of_ble_eq_true hgb
       cases hp:lM cs o v.cells with
       |none=>rw[hp]at hs;cases hs
       |some cs'=>
        rw[hp]at hs;cases hs
        cases raa with
        |v _ _ raa=>
        generalize hgen:evT tmps a=A at raa
        cases raa with
        |ptr _ _ p hE=>
         obtain⟨h1,h2⟩:=CellsR.write (P:=P) (m.obj b _ p hb hE) hp hall rxx
         obtain⟨m2,x2⟩:=m.put (new:=.cells opn cs') hb hE hgb (by simp) (Turn.setCells _ _ _ _) h2
         exact⟨E,F,_,_,undef,run_store hn hgen hsz h1,.inr ⟨rfl,rfl⟩,x2,rfl,rfl,m2,.v _ _ (.tup [] #[] .nil)⟩
      ·cases hs
     ·rename_i d o
      split at hs
      ·rename_i cs hb
       cases hp:lM cs o v.cells with
       |none=>rw[hp]at hs;cases hs
       |some cs'=>
        rw[hp]at hs;cases hs
        generalize hgen:evT tmps a=A at raa
        cases raa with
        |l _ _ p hd=>
         obtain⟨a1,a2,cs0,a3,a4⟩:=m.loc d p hd
         rw[hb]at a3;cases a3
         obtain⟨h1,h2⟩:=CellsR.write (P:=P) a4 hp hall rxx
         have m2:=m.bJq hd (Turn.setCells _ _ _ _) h2
         exact⟨E,F,_,_,undef,run_store hn hgen hsz h1,.inr ⟨rfl,rfl⟩,⟨Env.le_refl E,fun _ _=>rfl,Nat.le_refl _,fun _ _ _ _ h _=>h⟩,rfl,rfl,m2,.v _ _ (.tup [] #[] .nil)⟩
      ·cases hs
     ·cases hs
    ·cases hs
   ·cases hs
  ·cases ho
 |call c=>
  exfalso
  have h1:=dS ho
  rw[aIn hs]at h1
  obtain⟨callee,args,argTypes⟩:=c
  cases callee with
  |builtin bi=>cases bi<;>simp[dY]at h1
  |_=>simp[dY]at h1
 |_=>
  exfalso
  have h1:=dS ho
  rw[aIn hs]at h1
  simp[dY]at h1
theorem xD{E:Env}{F:Fx}{w0 w:World}(m:MR E F h w0 w){b:Nat}{es es':List (V×V)}{p:Place}{ents ents':Array MapEntry}{clock clock':Nat}(hb:h.ob b=some (.map es))(hE:E.ob b=some p)
  (hw:w.heap[p.blk]? =some (.map ents clock)) (hr:All₂ (aEp E) es' ents'.toList):
  MR E F (h.put b (.map es')) w0 {w with heap:=w.heap.setIfInBounds p.blk (.map ents' clock')}∧Ext E h E (h.put b (.map es')):=by
 have hlt:p.blk<w.heap.size:=m.lt hb hE
 have hg:aC≤b:=by
  rcases Nat.lt_or_ge b aC with g|g
  ·obtain⟨op,cs,e⟩:=m.glb b _ g hb;cases e
  ·exact g
 exact m.put hb hE hg (by simp) (Turn.set _ _ _) ⟨ents',clock',by simp[hlt],hr⟩
theorem aGs{E:Env}{k k2:V}{k' k2':Value}(h:jE k k2=some true)(r:AR E k k')(r2:AR E k2 k2'):Instr.sameBits 10000 k2' k'=true:=by
 cases k<;>cases k2<;>simp[jE]at h
 ·cases r;cases r2;simp[Instr.sameBits,h]
 ·obtain⟨rfl,rfl⟩:=h;cases r;cases r2;simp[Instr.sameBits]
 ·rename_i s s2
  subst h
  cases r with|str _ x e=>cases r2 with|str _ y e2=>
  have:y=x:=by
   have:y.data.toList.map UInt8.toNat=x.data.toList.map UInt8.toNat:=by rw[e,e2]
   have h2:=(List.map_inj_right (fun a b h=>UInt8.toNat_inj.1 h)).1 this
   exact ByteArray.ext (Array.toList_inj.1 h2)
  subst this
  simp only[Instr.sameBits]
  rw[beq_toListBytes];simp
theorem aWn{E:Env}{k v:V}{k' v':Value}{d:ED}{td:TypeDesc}(hd:(d=.int∧∃k,td=.int k)∨(d=.str∧td=.string)∨(d=.bool∧td=.bool))(hf:fJ d k=true)(rk:AR E k k')(rv:AR E v v'){es:List (V×V)}{ents:List MapEntry}(rp:All₂ (aEp E) es ents):∀{es':List (V×V)} (i:Nat),aFf k v es=some es'→
  (Instr.findNow td k' ents i=some none∧∀born,All₂ (aEp E) es' (ents++[{key:=k',val:=v',born}]))∨
  ∃j u,Instr.findNow td k' ents i=some (some (i+j,u))∧(∃e,ents[j]? =some e∧Instr.sameBits 10000 e.key k'=true)∧All₂ (aEp E) es' (ents.modify j fun e=>{e with key:=k',val:=v'}):=by
 induction rp with
 |nil=>intro es' i h;simp[aFf]at h;subst h;exact .inl ⟨rfl,fun born=>.cons ⟨rk,rv⟩ .nil⟩
 | @cons e m es ents hr t ih=>
  intro es' i h
  simp only[aFf]at h
  split at h
  ·rename_i hq
   cases h
   have:=iI hd hf hq rk hr.1
   exact .inr ⟨0,m.val,by simp[Instr.findNow,this],⟨m,rfl,aGs hq rk hr.1⟩,by simpa [List.modify] using All₂.cons ⟨rk,rv⟩ t⟩
  ·rename_i hq
   have:=iI hd hf hq rk hr.1
   cases hu:aFf k v es with
   |none=>rw[hu]at h;cases h
   |some l=>
    rw[hu]at h;cases h
    rcases ih (i+1) hu with⟨h1,h2⟩|⟨j,u,h1,⟨e',h2,h3⟩,h4⟩
    ·exact .inl ⟨by simp[Instr.findNow,this,h1],fun born=>.cons hr (h2 born)⟩
    ·refine .inr ⟨j+1,u,by simp[Instr.findNow,this,h1];omega,⟨e',by simpa using h2,h3⟩,?_⟩
     simpa [List.modify] using All₂.cons hr h4
  ·cases h
theorem wH{E:Env}{F:Fx}{w0 w:World}(m:MR E F h w0 w){t kt et:TypeId}{b:Nat}{k v:V}{m' k' v':Value}{d:ED}{es es':List (V×V)}(hu:P.underlying t=some (.map kt et))(hk:wK P kt=some d)(hf:fJ d k=true)(hb:h.ob b=some (.map es))(hes:aFf k v es=some es')
  (rm:AR E (.map b) m') (rk:AR E k k') (rv:AR E v v'):
  ∃w',(Instr.mapUpdate t m' k' v').run P w=.ok () w'∧MR E F (h.put b (.map es')) w0 w'∧Ext E h E (h.put b (.map es')):=by
 obtain⟨td,hd,hdd⟩:=vJ hk
 cases rm with
 |map _ p hE=>
  obtain⟨ents,clock,h1,h2⟩:=m.obj b _ p hb hE
  have hck:=run_checkKey hd hdd hf rk w false
  rcases aWn hdd hf rk rv h2 0 hes with⟨g1,g2⟩|⟨j,u,g1,⟨e,g2,g3⟩,g4⟩
  ·have hfk:(Instr.findKey kt k' ents.toList).run P w=.ok none w:=by simp[Instr.findKey,run_underlying hd,g1]
   obtain⟨q1,q2⟩:=xD m (ents':=ents.push {key:=k',val:=v',born:=clock}) (clock':=clock+1) hb hE h1 (by simpa using g2 clock)
   refine⟨_,?_,q1,q2⟩
   simp[Instr.mapUpdate,run_underlying hu,oC h1,hck,hfk,oG h1]
  ·have hfk:(Instr.findKey kt k' ents.toList).run P w=.ok (some (0+j,u)) w:=by simp[Instr.findKey,run_underlying hd,g1]
   rw[Nat.zero_add]at hfk
   have he:ents[j]? =some e:=by simpa using g2
   obtain⟨q1,q2⟩:=xD m (ents':=ents.modify j fun e=>{e with key:=k',val:=v'}) (clock':=clock) hb hE h1 (by simpa using g4)
   refine⟨_,?_,q1,q2⟩
   simp[Instr.mapUpdate,run_underlying hu,oC h1,hck,hfk,he,Instr.keyThatStays,g3,oG h1]
theorem aWb{E:Env}{k:V}{k':Value}{d:ED}{td:TypeDesc}(hd:(d=.int∧∃k,td=.int k)∨(d=.str∧td=.string)∨(d=.bool∧td=.bool))(hf:fJ d k=true)(rk:AR E k k'){es:List (V×V)}{ents:List MapEntry}(rp:All₂ (aEp E) es ents):∀{es':List (V×V)} (i:Nat),aIw k es=some es'→
  (Instr.findNow td k' ents i=some none∧All₂ (aEp E) es' ents)∨
  ∃j u,Instr.findNow td k' ents i=some (some (i+j,u))∧All₂ (aEp E) es' (ents.eraseIdx j):=by
 induction rp with
 |nil=>intro es' i h;simp[aIw]at h;subst h;exact .inl ⟨rfl,.nil⟩
 | @cons e m es ents hr t ih=>
  intro es' i h
  simp only[aIw]at h
  split at h
  ·rename_i hq
   cases h
   have:=iI hd hf hq rk hr.1
   exact .inr ⟨0,m.val,by simp[Instr.findNow,this],by simpa using t⟩
  ·rename_i hq
   have:=iI hd hf hq rk hr.1
   cases hu:aIw k es with
   |none=>rw[hu]at h;cases h
   |some l=>
    rw[hu]at h;cases h
    rcases ih (i+1) hu with⟨h1,h2⟩|⟨j,u,h1,h4⟩
    ·exact .inl ⟨by simp[Instr.findNow,this,h1],.cons hr h2⟩
    ·refine .inr ⟨j+1,u,by simp[Instr.findNow,this,h1];omega,?_⟩
     simpa using All₂.cons hr h4
  ·cases h
theorem aEe{E:Env}{F:Fx}{w0 w:World}(m:MR E F h w0 w){argTypes:Array TypeId}{ty kt et:TypeId}{b:Nat}{k:V}{m' k':Value}{d:ED}{es es':List (V×V)}(hu:(argTypes[0]?).bind P.underlying=some (.map kt et))(hk:wK P kt=some d)(hf:fJ d k=true)(hb:h.ob b=some (.map es))(hes:aIw k es=some es')
  (rm:AR E (.map b) m') (rk:AR E k k'):
  ∃w',(Builtin.delete_ argTypes ty #[m',k']).run P w=.ok undef w'∧MR E F (h.put b (.map es')) w0 w'∧Ext E h E (h.put b (.map es')):=by
 obtain⟨td,hd,hdd⟩:=vJ hk
 obtain⟨t,ht,hu'⟩:∃t,argTypes[0]? =some t∧P.underlying t=some (.map kt et):=by
  cases hx:argTypes[0]? with
  |none=>rw[hx]at hu;cases hu
  |some t=>rw[hx]at hu;exact⟨t,rfl,hu⟩
 cases rm with
 |map _ p hE=>
  obtain⟨ents,clock,h1,h2⟩:=m.obj b _ p hb hE
  have hck:=run_checkKey hd hdd hf rk w ents.isEmpty
  rcases aWb hdd hf rk h2 0 hes with⟨g1,g2⟩|⟨j,u,g1,g4⟩
  ·have hfk:(Instr.findKey kt k' ents.toList).run P w=.ok none w:=by simp[Instr.findKey,run_underlying hd,g1]
   obtain⟨q1,q2⟩:=xD m (ents':=ents) (clock':=clock) hb hE h1 g2
   refine⟨_,?_,q1,q2⟩
   simp[Builtin.delete_,ht,run_underlying hu',oC h1,hck,hfk,oG h1];rfl
  ·have hfk:(Instr.findKey kt k' ents.toList).run P w=.ok (some (0+j,u)) w:=by simp[Instr.findKey,run_underlying hd,g1]
   rw[Nat.zero_add]at hfk
   obtain⟨q1,q2⟩:=xD m (ents':=ents.eraseIdxIfInBounds j) (clock':=clock) hb hE h1 (by simpa using g4)
   refine⟨_,?_,q1,q2⟩
   simp[Builtin.delete_,ht,run_underlying hu',oC h1,hck,hfk,oG h1];rfl
theorem aGq{E:Env}{F:Fx}{w0 w:World}(m:MR E F h w0 w){argTypes:Array TypeId}{ty el:TypeId}{b off n:Nat}{c:Cp}{z:V}{cs cs':List V}{opn:Bool}{x':Value}(hu:(argTypes[0]?).bind P.underlying=some (.slice el))(hn:n≠0)(hz:iX P el=some z)(hzc:z.cells.all V.aW=true)
  (hb:h.ob b=some (.cells opn cs)) (hgb:aC≤b) (hw:lM cs off (gV z.cells n)=some cs') (rx:AR E (.sl b off n c) x'):
  ∃w',(Builtin.clear_ argTypes ty #[x']).run P w=.ok undef w'∧MR E F (h.put b (.cells opn cs')) w0 w'∧Ext E h E (h.put b (.cells opn cs')):=by
 obtain⟨t,ht,hu'⟩:∃t,argTypes[0]? =some t∧P.underlying t=some (.slice el):=by
  cases hx:argTypes[0]? with
  |none=>rw[hx]at hu;cases hu
  |some t=>rw[hx]at hu;exact⟨t,rfl,hu⟩
 obtain⟨z',hz',rz⟩:=iL E hz w
 have rzz:=oX rz.cells n z.cells.length rfl
 have hzl:z'.cells.size=z.cells.length:=by have:=rz.cells.length;simp at this;omega
 obtain⟨k,rfl⟩:∃k,n=k+1:=⟨n-1,by omega⟩
 have go:∀(p:Place) (cc:Nat),E.ob b=some p→∃w',(Builtin.clear_ argTypes ty #[.slice (some ⟨p.blk,p.off+off,none⟩) (k+1) cc]).run P w=.ok undef w'∧MR E F (h.put b (.cells opn cs')) w0 w'∧Ext E h E (h.put b (.cells opn cs')):=by
  intro p cc hE
  obtain⟨q1,q2⟩:=CellsR.write (P:=P) (m.obj b _ p hb hE) hw (qX hzc _) rzz
  obtain⟨m2,x2⟩:=m.put (new:=.cells opn cs') hb hE hgb (by simp) (Turn.setCells _ _ _ _) q2
  refine⟨_,?_,m2,x2⟩
  rw[←hzl]at q1
  simp only[Builtin.clear_,ht]
  simp only[List.getElem?_toArray,List.getElem?_cons_zero,Sem.run_bind,run_underlying hu',Result.andThen_ok,hz',Builtin.zeroCells,q1,Sem.run_pure]
  rw[hzl];rfl
 cases rx with
 |sl _ _ _ p _ hE _=>exact go p _ hE
 |slo _ _ _ z p _ hE _ _=>exact go p _ hE
theorem yB{argTypes:Array TypeId}{ty el:TypeId}{E:Env}{x:V}{x':Value}(hu:(argTypes[0]?).bind P.underlying=some (.slice el))(hx:(∃c,x=.lst [] c)∨∃b o c,x=.sl b o 0 c)(rx:AR E x x')(w:World):
  (Builtin.clear_ argTypes ty #[x']).run P w=.ok undef w:=by
 obtain⟨t,ht,hu'⟩:∃t,argTypes[0]? =some t∧P.underlying t=some (.slice el):=by
  cases hx:argTypes[0]? with
  |none=>rw[hx]at hu;cases hu
  |some t=>rw[hx]at hu;exact⟨t,rfl,hu⟩
 rcases hx with⟨c,rfl⟩|⟨b,o,c,rfl⟩
 ·cases rx with
  |lst0 _ a cap _=>cases a<;>simp[Builtin.clear_,ht,run_underlying hu']<;>rfl
 ·cases rx<;>simp[Builtin.clear_,ht,run_underlying hu']<;>rfl
def rac(gl:List Nat)(tm:TM)(h:H):RO→Option H
 |.mu m k x d=>match rv gl tm m,rv gl tm k,rv gl tm x with
  |some (.map r),some k,some v=>match fJ d k,h.ob r with
   |true,some (.map es)=>(aFf k v es).map fun es=>h.put r (.map es)
   |_,_=>none
  |_,_,_=>none
 |.del m k d=>match rv gl tm m,rv gl tm k with
  |some (.map r),some k=>match fJ d k,h.ob r with
   |true,some (.map es)=>(aIw k es).map fun es=>h.put r (.map es)
   |_,_=>none
  |_,_=>none
 |.clr x z=>match rv gl tm x with
  |some (.lst [] _)=>some h
  |some (.sl b off n _)=>match Nat.beq n 0 with
   |true=>some h
   |false=>match h.ob b,Nat.ble aC b&&z.all V.aW with
    |some (.cells opn cs),true=>(lM cs off (gV z n)).map fun cs=>h.put b (.cells opn cs)
    |_,_=>none
  |_=>none
 |_=>none
theorem bAe{ro:RO}{h':H}(hs:rac gl tm h ro=some h'):cU ro=3:=by
 unfold rac at hs
 split at hs<;>first|rfl|cases hs
theorem xJ{o:Oper}{ro:RO}{h':H}(ho:rop P o=some ro)(hs:rac gl tm h ro=some h'):Does P gl nt tm h o (.v bG) h':=by
 obtain⟨dst,op,ty,pos,after,guard⟩:=o
 have mu:∀t m0 k x,(op=.mapUpdate t m0 k x∨op=.insert t m0 k x)→Does P gl nt tm h ⟨dst,op,ty,pos,after,guard⟩ (.v bG) h':=by
  intro t m0 k x hop
  have ho':(match P.underlying t,rx m0,rx k,rx x with
   |some (.map kt _),some m,some k,some x=>(wK P kt).map (RO.mu m k x)
   |_,_,_,_=>none)=some ro:=by rcases hop with rfl|rfl<;>exact ho
  split at ho'
  ·rename_i kt et m1 k1 x1 hu hm hk hx
   cases hkd:wK P kt with
   |none=>rw[hkd]at ho';cases ho'
   |some d=>
    rw[hkd]at ho';cases ho'
    intro E F w0 w tmps m hg r
    simp only[rac]at hs
    split at hs
    ·rename_i b kv v hmv hkv hxv
     split at hs
     ·rename_i es hf hb
      cases he:aFf kv v es with
      |none=>rw[he]at hs;cases hs
      |some es'=>
       rw[he]at hs;cases hs
       obtain⟨w',h1,h2,h3⟩:=wH m hu hkd hf hb he (aH hg r hm hmv) (aH hg r hk hkv) (aH hg r hx hxv)
       refine⟨E,F,w',_,undef,?_,.inr ⟨rfl,rfl⟩,h3,rfl,rfl,h2,.v _ _ (.tup [] #[] .nil)⟩
       rcases hop with rfl|rfl<;>simp[execOp,h1]
     ·cases hs
    ·cases hs
  ·cases ho'
 cases op with
 |mapUpdate t m0 k x=>exact mu t m0 k x (.inl rfl)
 |insert t m0 k x=>exact mu t m0 k x (.inr rfl)
 |call c=>
  obtain⟨callee,args,argTypes⟩:=c
  cases callee with
  |value f=>simp only[rop]at ho;split at ho<;>cases ho;simp[rac]at hs
  |invoke f n=>simp[rop]at ho
  |builtin bi=>
   simp only[rop]at ho
   have one:∀{E:Env} {L:Nat→Option Place} {tmps:Array Value} (hg:GL E gl) (r:TR E L nt tm tmps) {x:RX} {v0:V},rxs args.toList=some [x]→rv gl tm x=some v0→∃v0',args.map (evT tmps)= #[v0']∧AR E v0 v0':=by
    intro E L tmps hg r x v0 h1 h2
    have:=eE hg r h1 (show rvs gl tm [x]=some [v0] by simp[rvs,h2])
    generalize hq:args.toList.map (evT tmps)=l at this
    cases this with|cons _ v' _ _ h1 t=>cases t;exact⟨v',by apply Array.toList_inj.1;simpa using hq,h1⟩
   have two:∀{E:Env} {L:Nat→Option Place} {tmps:Array Value} (hg:GL E gl) (r:TR E L nt tm tmps) {x y:RX} {v0 v1:V},rxs args.toList=some [x,y]→rv gl tm x=some v0→rv gl tm y=some v1→∃a b,args.map (evT tmps)= #[a,b]∧AR E v0 a∧AR E v1 b:=by
    intro E L tmps hg r x y v0 v1 h1 h2 h3
    have:=eE hg r h1 (show rvs gl tm [x,y]=some [v0,v1] by simp[rvs,h2,h3])
    generalize hq:args.toList.map (evT tmps)=l at this
    cases this with|cons _ v' _ _ h1 t=>cases t with|cons _ v'' _ _ h2 t=>cases t;exact⟨v',v'',by apply Array.toList_inj.1;simpa using hq,h1,h2⟩
   unfold jB at ho
   split at ho
   ·split at ho<;>cases ho<;>simp[rac]at hs
   ·split at ho<;>cases ho;simp[rac]at hs
   ·split at ho<;>cases ho;simp[rac]at hs
   ·split at ho<;>cases ho;simp[rac]at hs
   ·split at ho
    ·split at ho
     ·split at ho
      ·cases ho
      ·split at ho
       ·split at ho<;>cases ho;simp[rac]at hs
       ·cases ho
     ·cases ho
    ·cases ho
   ·split at ho<;>cases ho;simp[rac]at hs
   ·split at ho
    ·rename_i m1 k1 kt et hxs hu
     cases hkd:wK P kt with
     |none=>rw[hkd]at ho;cases ho
     |some d=>
      rw[hkd]at ho;cases ho
      intro E F w0 w tmps m hg r
      simp only[rac]at hs
      split at hs
      ·rename_i b kv hmv hkv
       split at hs
       ·rename_i es hf hb
        cases he:aIw kv es with
        |none=>rw[he]at hs;cases hs
        |some es'=>
         rw[he]at hs;cases hs
         obtain⟨a1,a2,harr,r1,r2⟩:=two hg r hxs hmv hkv
         obtain⟨w',h1,h2,h3⟩:=aEe m (ty:=ty) hu hkd hf hb he r1 r2
         exact⟨E,F,w',_,undef,by rw[bX,harr];exact hC h1,.inl rfl,h3,rfl,rfl,h2,.v _ _ (.tup [] #[] .nil)⟩
       ·cases hs
      ·cases hs
    ·cases ho
   ·split at ho
    ·rename_i x1 el hxs hu
     cases hz:iX P el with
     |none=>rw[hz]at ho;cases ho
     |some z=>
      rw[hz]at ho;cases ho
      intro E F w0 w tmps m hg r
      simp only[rac]at hs
      split at hs
      ·rename_i c hv
       cases hs
       obtain⟨a1,harr,r1⟩:=one hg r hxs hv
       exact⟨E,F,w,_,undef,by rw[bX,harr];exact hC (yB hu (.inl ⟨_,rfl⟩) r1 w),.inl rfl,Ext.refl _ _,rfl,rfl,m,.v _ _ (.tup [] #[] .nil)⟩
      ·rename_i b off n c hv
       obtain⟨a1,harr,r1⟩:=one hg r hxs hv
       split at hs
       ·rename_i hn
        cases hs
        have hn0:=Nat.eq_of_beq_eq_true hn
        exact⟨E,F,w,_,undef,by rw[bX,harr];exact hC (yB hu (.inr ⟨b,off,c,by rw[hn0]⟩) r1 w),.inl rfl,Ext.refl _ _,rfl,rfl,m,.v _ _ (.tup [] #[] .nil)⟩
       ·rename_i hn
        split at hs
        ·rename_i opn cs hb hc
         simp only[Bool.and_eq_true]at hc
         cases hp:lM cs off (gV z.cells n)with
         |none=>rw[hp]at hs;cases hs
         |some cs'=>
          rw[hp]at hs;cases hs
          obtain⟨w',h1,h2,h3⟩:=aGq m (ty:=ty) hu (by rintro rfl;cases hn) hz hc.2 hb (Nat.le_of_ble_eq_true hc.1) hp r1
          exact⟨E,F,w',_,undef,by rw[bX,harr];exact hC h1,.inl rfl,h3,rfl,rfl,h2,.v _ _ (.tup [] #[] .nil)⟩
        ·cases hs
      ·cases hs
    ·cases ho
   ·cases ho
 |defer c=>
  obtain⟨callee,args,argTypes⟩:=c
  cases callee with
  |value f=>simp only[rop]at ho;split at ho<;>cases ho;simp[rac]at hs
  |invoke f n=>simp[rop]at ho
  |builtin b=>simp[rop]at ho
 |panic x=>simp only[rop,Option.map_eq_some_iff]at ho;obtain⟨_,_,rfl⟩:=ho;simp[rac]at hs
 |_=>
  exfalso
  have h1:=dS ho
  rw[bAe hs]at h1
  simp[dY]at h1
end
end Go.VM
end
section
/- The machine of values: append. -/
namespace Go.VM
open Go.RowKit
variable{P:Program}
structure AppT(P:Program)(argTypes:Array TypeId)(sz bytes:Nat)(z:List V):Prop where
 all:∃st xt el tx i z0,argTypes[0]? =some st∧argTypes[1]? =some xt∧P.underlying st=some (.slice el)∧P.underlying xt=some tx∧(∀k,tx≠.int k)∧P.info? el=some i∧iX P el=some z0∧z0.cells=z∧i.size=sz∧i.bytes=bytes
 s0:0<sz
 b0:0<bytes
 zl:z.length=sz
theorem qV{o:Oper}{x y:RX}{sz bytes:Nat}{z:List V}(ho:rop P o=some (.app x y sz bytes z)):
  ∃dst ty pos after guard args argTypes,o=⟨dst,.call ⟨.builtin .append,args,argTypes⟩,ty,pos,after,guard⟩∧rxs args.toList=some [x,y]∧AppT P argTypes sz bytes z:=by
 obtain⟨dst,op,ty,pos,after,guard⟩:=o
 have hk:=dS ho
 cases op with
 |call c=>
  obtain⟨callee,args,argTypes⟩:=c
  cases callee with
  |builtin b=>
   simp only[rop]at ho
   have hb:b=.append:=by cases b<;>first|rfl|(simp[dY,cU]at hk)
   subst hb
   simp only[jB]at ho
   split at ho
   ·rename_i x0 y0 hxs
    split at ho
    ·rename_i el tx h0 h1
     split at ho
     ·cases ho
     ·rename_i hnt
      split at ho
      ·rename_i i z0 hi hz
       split at ho
       ·rename_i hc
        cases ho
        simp only[Bool.and_eq_true]at hc
        obtain⟨⟨⟨c1,c2⟩,c3⟩,c4⟩:=hc
        cases hx:argTypes[0]? with
        |none=>rw[hx]at h0;cases h0
        |some st=>
         rw[hx]at h0
         cases hy:argTypes[1]? with
         |none=>rw[hy]at h1;cases h1
         |some xt=>
          rw[hy]at h1
          exact⟨dst,ty,pos,after,guard,args,argTypes,rfl,hxs,⟨st,xt,el,tx,i,z0,hx,hy,h0,h1,fun k e=>hnt k e,hi,hz,rfl,rfl,rfl⟩,by rwa[Nat.blt_eq]at c1,by rwa[Nat.blt_eq]at c2,Nat.eq_of_beq_eq_true c3⟩
       ·cases ho
      ·cases ho
    ·cases ho
   ·cases ho
  |_=>simp[dY,cU]at hk
 |_=>simp[dY,cU]at hk
section
variable{argTypes:Array TypeId}{ty:TypeId}{sz bytes:Nat}{z:List V}
def aZc(P:Program)(base:Option Addr)(d:Nat)(cn:List Value)(w w':World):Prop:=
 match base with|some a=>(storeCells (a.add d) cn).run P w=.ok () w'|none=>w'=w
theorem jW(T:AppT P argTypes sz bytes z){base:Option Addr}{sl n cap:Nat}{x':Value}{cn:Array Value}{w w':World}(hlx:(Builtin.lenOf x').run P w=.ok n w)(hcn:(Builtin.firstCells sz n x').run P w=.ok cn w)(hle:sl+n≤cap)
  (hst:aZc P base (sl*sz) cn.toList w w'):(Builtin.append_ argTypes ty #[.slice base sl cap,x']).run P w=.ok (.slice base (sl+n) cap) w':=by
 obtain⟨st,xt,el,tx,i,z0,h1,hxt,hu,hut,htx,hi,hz,rfl,rfl,rfl⟩:=T.all
 have hzeros:=aUa htx
 have hsz:szT P el=some i.size:=by simp[szT,hi]
 simp only[Builtin.append_,h1,hxt]
 simp only[List.getElem?_toArray,List.getElem?_cons_zero,List.getElem?_cons_succ,Sem.run_bind,run_underlying hu,Result.andThen_ok,bR hsz,run_underlying hut,Sem.run_pure,hzeros,Bool.false_eq_true,if_false,hlx,if_pos hle,Bool.not_false,if_true,hcn]
 cases base with
 |none=>simp[aZc]at hst;subst hst;rfl
 |some a=>
  have hst:(storeCells (a.add (sl*i.size)) cn.toList).run P w=.ok () w':=hst
  simp only[Sem.run_bind,hst,Result.andThen_ok];rfl
theorem kT(T:AppT P argTypes sz bytes z){base:Option Addr}{sl n cap:Nat}{x':Value}{co cn:Array Value}{w:World}(hlx:(Builtin.lenOf x').run P w=.ok n w)(hcap:cap<sl+n)(hbytes:bytes*(sl+n)≤lim)
  (hold:(Builtin.firstCells sz sl (.slice base sl cap)).run P {w with drawn:=w.drawn+1}=.ok co {w with drawn:=w.drawn+1}) (hnew:(Builtin.firstCells sz n x').run P {w with drawn:=w.drawn+1}=.ok cn {w with drawn:=w.drawn+1})
  (hco:co.size=sl*sz) (hcn:cn.size=n*sz):
  ∃el nc rest,sl+n≤nc∧(co++cn++rest).size=nc*sz∧(Builtin.append_ argTypes ty #[.slice base sl cap,x']).run P w=.ok (.slice (some ⟨w.heap.size,0,none⟩) (sl+n) nc) {w with heap:=w.heap.push (.cells (co++cn++rest) el (0,0)),drawn:=w.drawn+1}:=by
 have hb0:=T.b0
 have hs0:=T.s0
 have hzl:=T.zl
 obtain⟨st,xt,el,tx,i,z0,h1,hxt,hu,hut,htx,hi,hz,rfl,rfl,rfl⟩:=T.all
 obtain⟨z',hz',rz⟩:=iL ⟨fun _=>none,fun _ _=>none,fun _ _=>none⟩ hz {w with drawn:=w.drawn+1}
 let q:=Question.appendCap (sl+n) cap el
 let nc:Nat:=q.cut (w.tape w.drawn q)
 have hnc:sl+n≤nc:=Nat.le_add_right _ _
 let rest:=Builtin.zeroCells z'.cells (nc-(sl+n))
 have hzsz:z'.cells.size=i.size:=by have:=rz.cells.length;simp at this;omega
 have hrest:rest.size=(nc-(sl+n))*i.size:=by simp[rest,Builtin.zeroCells,hzsz]
 have htot:(co++cn++rest).size=nc*i.size:=by
  simp only[Array.size_append,hco,hcn,hrest]
  rw[←Nat.add_mul,←Nat.add_mul];congr 1;omega
 refine⟨el,nc,rest,hnc,htot,?_⟩
 have hzeros:=aUa htx
 have hnot:¬(sl+n≤cap):=by omega
 have hmax:¬(((sl+n:Nat):Int)>IntKind.i64.max∧(False∨i.bytes=0)):=by
  rintro⟨_,g|g⟩
  ·exact g
  ·omega
 have hneed:sl+n≤lim:=Nat.le_trans (Nat.le_mul_of_pos_left _ hb0) hbytes
 have hncap:¬(Builtin.nextslicecap (sl+n) cap*i.bytes>2^48):=by
  have g1:=aLl hcap
  have g2:Builtin.nextslicecap (sl+n) cap*i.bytes≤16*(sl+n)*i.bytes:=Nat.mul_le_mul_right _ g1
  have g3:16*(sl+n)*i.bytes=16*(i.bytes*(sl+n)):=by rw[Nat.mul_assoc,Nat.mul_comm (sl+n)]
  unfold lim at hbytes
  omega
 have hsz:szT P el=some i.size:=by simp[szT,hi]
 simp only[Builtin.append_,h1,hxt]
 simp only[List.getElem?_toArray,List.getElem?_cons_zero,List.getElem?_cons_succ,Sem.run_bind,run_underlying hu,Result.andThen_ok,bR hsz,run_underlying hut,Sem.run_pure,hzeros,Bool.false_eq_true,if_false,hlx,if_neg hnot,mP hi]
 simp only[Sem.run_ite,if_neg hmax,Sem.run_bind,mP hi,Result.andThen_ok,if_neg hncap,run_choose,show(Question.appendCap (sl+n) cap el).forced=false from rfl,Bool.false_eq_true,if_false,run_askRoom,hold,Bool.not_false,if_true,hnew,hz',newRow,run_newObj,Sem.run_pure]
 rfl
end
section
variable{gl:List Nat}{nt:Nat}{tm:TM}{h:H}
inductive NewEs(gl:List Nat)(tm:TM)(h:H)(y:RX)(sz:Nat):List (List V)→Prop where
 |lst (fs:List (List V)) (c:LC) (hy:rv gl tm y=some (.lst fs c)) (hz:∀e∈fs,e.length=sz):NewEs gl tm h y sz fs
 |str (s:List Nat) (hy:rv gl tm y=some (.str s)) (hz:sz=1):NewEs gl tm h y sz (s.map fun(n:Nat)=>[V.int .u8 n])
 |sl (b o:Nat) (c:Cp) (cs:List V) (opn:Bool) (ns:List (List V)) (hy:rv gl tm y=some (.sl b o ns.length c)) (hb:h.ob b=some (.cells opn cs)) (hr:jS cs o (ns.length*sz)=some ns.flatten) (hz:∀e∈ns,e.length=sz):NewEs gl tm h y sz ns
theorem NewEs.len{y:RX}{sz:Nat}{ns:List (List V)}(r:NewEs gl tm h y sz ns):∀e∈ns,e.length=sz:=by
 cases r with
 |lst fs c hy hz=>exact hz
 |str s hy hz=>subst hz;simp
 |sl b o c cs opn ns hy hb hr hz=>exact hz
theorem uX{E:Env}{F:Fx}{w0 w:World}(m:MR E F h w0 w){es:List (List V)}{c:LC}{x':Value}{sz:Nat}(r:AR E (.lst es c) x')(hz:∀e∈es,e.length=sz):
  ∃co:Array Value,(Builtin.firstCells sz es.length x').run P w=.ok co w∧ARs E es.flatten co.toList∧es.flatten.all V.aW=true:=by
 cases r with
 |lst0 _ a cap hc=>
  refine⟨#[],?_,.nil,rfl⟩
  cases a<;>simp[Builtin.firstCells,loadCells,loadCellsFrom]
 |lst e es' _ blk off n cap z hf hn hle hr=>
  obtain⟨f1,f2⟩:=hf.flat
  have hz0:z=sz:=by rw[←(hf.get 0 e rfl).1];exact hz e (by simp)
  subst hz0
  have hread:jS (e::es').flatten 0 ((e::es').length*z)=some (e::es').flatten:=by
   exact qE f2
  obtain⟨l',g1,g2,g3,g4,g5⟩:=(m.seen f1).read (P:=P) hread
  exact⟨l'.toArray,by simpa [Builtin.firstCells] using g1,by simpa using g2,g4⟩
theorem aQj{E:Env}{es:List (List V)}{c:LC}{x':Value}(r:AR E (.lst es c) x')(w:World):(Builtin.lenOf x').run P w=.ok es.length w:=by
 obtain⟨A,cap,rfl,_⟩:=kG r
 simp[Builtin.lenOf]
theorem aSp{E:Env}{s:List Nat}{y:ByteArray}(e:y.data.toList.map UInt8.toNat=s):ARs E (s.map fun n:Nat=>V.int .u8 n) ((y.extract 0 s.length).data.map fun b=>Value.int .u8 b.toNat).toList:=by
 have hs:y.data.size=s.length:=by rw[←e];simp
 have he:(y.extract 0 s.length).data.toList=y.data.toList:=by
  rw[ByteArray.data_extract,Array.toList_extract];simp[List.extract];rw[List.take_of_length_le (by simp[hs])]
 rw[Array.toList_map,he,←e]
 generalize y.data.toList=l
 induction l with
 |nil=>exact .nil
 |cons a l ih=>exact .cons _ _ _ _ (.int _ _) ih
theorem aTr(s:List Nat):(s.map fun n:Nat=>[V.int .u8 n]).flatten=s.map fun n:Nat=>V.int .u8 n:=by
 induction s with
 |nil=>rfl
 |cons b bs ih=>rw[List.map_cons,List.flatten_cons,ih];rfl
theorem NewEs.sound{E:Env}{F:Fx}{w0 w:World}(m:MR E F h w0 w){y:RX}{sz:Nat}{ns:List (List V)}(r:NewEs gl tm h y sz ns){v:V}{y':Value}(hv:rv gl tm y=some v)(ra:AR E v y'):
  (Builtin.lenOf y').run P w=.ok ns.length w∧∃cn:Array Value,(Builtin.firstCells sz ns.length y').run P w=.ok cn w∧ARs E ns.flatten cn.toList∧ns.flatten.all V.aW=true:=by
 cases r with
 |lst fs c hy hz=>
  rw[hy]at hv;cases hv
  exact⟨aQj ra w,uX m ra hz⟩
 |str s hy hz=>
  rw[hy]at hv;cases hv
  subst hz
  cases ra with
  |str _ x e=>
   have hs:x.size=s.length:=by rw[←e,List.length_map,Array.length_toList];rfl
   refine⟨by simp[Builtin.lenOf,hs],?_⟩
   rw[aTr,List.length_map]
   exact⟨_,rfl,aSp e,by simp[V.aW]⟩
 |sl b o c cs opn ns hy hb hr hz=>
  rw[hy]at hv;cases hv
  have hall:=fun p (hE:E.ob b=some p)=>(CellsR.seen (m.obj b _ p hb hE)).read (P:=P) hr
  have hfl:=fW hz
  generalize ns.length=n at*
  refine⟨by cases ra<;>simp[Builtin.lenOf],?_⟩
  cases ra with
  |sl _ _ _ p cc hE hnc=>
   obtain⟨l',g1,g2,g3,g4,g5⟩:=hall p hE
   exact⟨l'.toArray,g1,by simpa using g2,g4⟩
  |slo _ _ _ zz p cc hE hc hnc=>
   obtain⟨l',g1,g2,g3,g4,g5⟩:=hall p hE
   exact⟨l'.toArray,g1,by simpa using g2,g4⟩
  |sl0 _ _ _ a hc p hE hzz=>
   have:ns.flatten=[]:=List.eq_nil_of_length_eq_zero (by rw[hfl];simp)
   rw[this]
   exact⟨#[],by simp[Builtin.firstCells,loadCells,loadCellsFrom],.nil,rfl⟩
theorem nD{E:Env}{L:Nat→Option Place}{tmps:Array Value}(hg:GL E gl)(r:TR E L nt tm tmps){args:Array Operand}{x y:RX}{v0 v1:V}(h1:rxs args.toList=some [x,y])(h2:rv gl tm x=some v0)(h3:rv gl tm y=some v1):
  ∃a b,args.map (evT tmps)= #[a,b]∧AR E v0 a∧AR E v1 b:=by
 have:=eE hg r h1 (show rvs gl tm [x,y]=some [v0,v1] by simp[rvs,h2,h3])
 generalize hq:args.toList.map (evT tmps)=l at this
 cases this with|cons _ v' _ _ h1 t=>cases t with|cons _ v'' _ _ h2 t=>cases t;exact⟨v',v'',by apply Array.toList_inj.1;simpa using hq,h1,h2⟩
theorem NewEs.val{y:RX}{sz:Nat}{ns:List (List V)}(r:NewEs gl tm h y sz ns):∃v,rv gl tm y=some v:=by
 cases r with
 |lst fs c hy hz=>exact⟨_,hy⟩
 |str s hy hz=>exact⟨_,hy⟩
 |sl b o c cs opn ns hy hb hr hz=>exact⟨_,hy⟩
theorem aHy{o:Oper}{x y:RX}{sz bytes:Nat}{z:List V}{es:List (List V)}{c:LC}(ho:rop P o=some (.app x y sz bytes z))(hx:rv gl tm x=some (.lst es c))(hy:NewEs gl tm h y sz []):Does P gl nt tm h o (.v (.lst es c)) h:=by
 obtain⟨dst,ty,pos,after,guard,args,argTypes,rfl,hxs,T⟩:=qV ho
 obtain⟨vy,hvy⟩:=hy.val
 intro E F w0 w tmps m hg r
 obtain⟨s',y',harr,rs,ry⟩:=nD hg r hxs hx hvy
 obtain⟨hl,cn,hcn,rn,hall⟩:=hy.sound (P:=P) m hvy ry
 obtain⟨A,cap,rfl,hle,hc⟩:=kG rs
 have h0:cn.toList=[]:=by cases hq:cn.toList with|nil=>rfl|cons a l=>rw[hq]at rn;cases rn
 have hst:aZc P A (es.length*sz) cn.toList w w:=by
  cases A with
  |none=>rfl
  |some a=>rw[h0];rfl
 have hrun:=jW (ty:=ty) T (base:=A) (sl:=es.length) (n:=0) (cap:=cap) hl hcn hle hst
 exact⟨E,F,w,_,_,by rw[bX,harr];exact hC hrun,.inl rfl,Ext.refl _ _,rfl,rfl,m,.v _ _ rs⟩
theorem bBe{es ns:List (List V)}(h1:es.flatten.all V.aW=true)(h2:ns.flatten.all V.aW=true):(es++ns.map (·.map V.bV)).flatten.all V.aW=true:=by
 rw[List.flatten_append,fR,List.all_append,h1,vD h2];rfl
theorem bCt{es ns:List (List V)}{sz:Nat}(h1:∀e∈es,e.length=sz)(h2:∀e∈ns,e.length=sz):∀e∈es++ns.map (·.map V.bV),e.length=sz:=by
 intro e he
 rcases List.mem_append.1 he with he|he
 ·exact h1 e he
 ·obtain⟨e0,h0,rfl⟩:=List.mem_map.1 he
  simpa using h2 e0 h0
theorem aEq{E:Env}{F:Fx}{w0 w:World}(m:MR E F h w0 w){argTypes:Array TypeId}{ty:TypeId}{sz bytes:Nat}{z:List V}(T:AppT P argTypes sz bytes z){es ns:List (List V)}{c:LC}{A:Option Addr}{cap:Nat}{y:RX}{vy:V}{y':Value}(rs:AR E (.lst es c) (.slice A es.length cap))(hz:∀e∈es,e.length=sz)
  (hy:NewEs gl tm h y sz ns) (hvy:rv gl tm y=some vy) (ry:AR E vy y') (hcap:cap<es.length+ns.length) (hlim:bytes*(es.length+ns.length)≤lim):
  ∃(c2:Array Value) (el nc:Nat),es.length+ns.length≤nc∧c2.size=nc*sz∧(Builtin.append_ argTypes ty #[.slice A es.length cap,y']).run P w=.ok (.slice (some ⟨w.heap.size,0,none⟩) (es.length+ns.length) nc) {w with heap:=w.heap.push (.cells c2 el (0,0)),drawn:=w.drawn+1}∧
   ∀(E':Env) (lc:LC),E.le E'→(∀i x,i<(es.length+ns.length)*sz→c2[i]? =some x→E'.fz w.heap.size i=some x)→
    (match lc with|.ex k=>nc=k|.unk=>True|.nl=>False|.nn=>False|.tk id=>E'.tk id (es.length+ns.length)=some ⟨w.heap.size,(es.length+ns.length)*sz,(nc-(es.length+ns.length))*sz⟩∧0<es.length+ns.length)→
    AR E' (.lst (es++ns.map (·.map V.bV)) lc) (.slice (some ⟨w.heap.size,0,none⟩) (es.length+ns.length) nc):=by
 have md:=m.drawn (w.drawn+1)
 obtain⟨hl,cn0,hcn0,_⟩:=hy.sound (P:=P) m hvy ry
 obtain⟨hl',cn,hcn,rn,hnall⟩:=hy.sound (P:=P) md hvy ry
 obtain⟨co,hco,rc,hcall⟩:=uX (P:=P) md rs hz
 have lco:co.size=es.length*sz:=by have:=rc.length;rw[fW hz,Array.length_toList]at this;exact this.symm
 have lcn:cn.size=ns.length*sz:=by have:=rn.length;rw[fW hy.len,Array.length_toList]at this;exact this.symm
 obtain⟨el,nc,rest,h1,h2,h3⟩:=kT (ty:=ty) T hl hcap hlim hco hcn lco lcn
 refine⟨co++cn++rest,el,nc,h1,h2,h3,fun E' lc hle hf hlc=>?_⟩
 have hcs:(co++cn).size=(es.length+ns.length)*sz:=by rw[Array.size_append,lco,lcn,Nat.add_mul]
 refine zF (sz:=sz) (c:=co++cn) hle ?_ (bCt hz hy.len) (bBe hcall hnall) (by simp) (Nat.le_refl _) (co++cn++rest) (fun i hi=>?_) hf h1 hlc
 ·rw[List.flatten_append,fR,Array.toList_append]
  exact rc.append rn.bV
 ·exact Array.getElem?_append_left (by rw[hcs];exact hi)
def nW(E:Env)(b n:Nat)(p:Place):Env:={E with tk:=fun k i=>if k=b∧i=n then some p else E.tk k i}
theorem aNx{E:Env}{b n:Nat}{p:Place}(h:E.tk b n=none):E.le (nW E b n p):=by
 refine⟨fun _ _ h=>h,fun _ _ _ h=>h,fun k i q hk=>?_⟩
 simp only[nW]
 rw[if_neg]
 ·exact hk
 ·rintro⟨rfl,rfl⟩;rw[h]at hk;cases hk
theorem TokR.world{p:Place}{w w':World}(h:w'.heap[p.blk]? =w.heap[p.blk]?)(r:TokR p w):TokR p w':=by
 simpa only[TokR,h] using r
theorem MR.rT{E:Env}{F:Fx}{w0 w:World}(m:MR E F h w0 w){b n:Nat}{p:Place}{h':H}(hlt:b<h'.nxt)(hg:aC≤b)(hn:h.nxt≤h'.nxt)(hob:∀k,h'.ob k=if k=b then some (.tok n)else h.ob k)(hlc:h'.lc=h.lc)
  (hE:E.ob b=none) (htk:∀i,n≤i→E.tk b i=none) (hown:F.own p.blk=.tk b) (hw0:w0.heap.size≤p.blk) (ht:TokR p w) (hfz:∀i,p.off≤i→E.fz p.blk i=none):MR (nW E b n p) F h' w0 w:=by
 have hle:=aNx (p:=p) (htk n (Nat.le_refl _))
 have hs:∀k o,h'.ob k=some o→(k=b∧o=.tok n)∨(k≠b∧h.ob k=some o):=by
  intro k o hk
  rw[hob]at hk
  split at hk
  ·rename_i e;cases hk;exact .inl ⟨e,rfl⟩
  ·rename_i e;exact .inr ⟨e,hk⟩
 have ht':∀k i q,(nW E b n p).tk k i=some q→(k=b∧i=n∧q=p)∨E.tk k i=some q:=by
  intro k i q hk
  simp only[nW]at hk
  split at hk
  ·rename_i e;cases hk;exact .inl ⟨e.1,e.2,rfl⟩
  ·exact .inr hk
 refine⟨m.below,fun k hk=>?_,Nat.le_trans m.glo hn,fun k o hk ho=>?_,m.gbl,m.lto,fun k o q hk hq=>?_,fun k o q hk' hk hq=>?_,m.fz,m.oFz,fun k i q hk hq=>?_,fun k i j hk hj=>?_,fun k i hk=>?_,fun d q hq=>?_,m.prot⟩
 ·obtain⟨a1,a2,a3⟩:=m.fresh k (Nat.le_trans hn hk)
  refine⟨a1,by rw[hob,if_neg (by omega)];exact a2,fun i=>?_⟩
  simp only[nW];rw[if_neg (by omega)];exact a3 i
 ·rcases hs k o ho with⟨rfl,rfl⟩|⟨_,h2⟩
  ·omega
  ·exact m.glb k o hk h2
 ·rcases hs k o hk with⟨rfl,rfl⟩|⟨_,h2⟩
  ·rw[show(nW E k n p).ob k=E.ob k from rfl,hE]at hq;cases hq
  ·exact(m.obj k o q h2 hq).mono hle
 ·rcases hs k o hk with⟨rfl,rfl⟩|⟨_,h2⟩
  ·rw[show(nW E k n p).ob k=E.ob k from rfl,hE]at hq;cases hq
  ·exact m.oOb k o q hk' h2 hq
 ·rcases hs k _ hk with⟨rfl,e⟩|⟨e,h2⟩
  ·cases e
   have:q=p:=by
    have hq':(if k=k∧n=n then some p else E.tk k n)=some q:=hq
    rw[if_pos ⟨rfl,rfl⟩]at hq';exact(Option.some.inj hq').symm
   subst this
   exact⟨hown,hw0,ht,hfz⟩
  ·rcases ht' k i q hq with⟨e2,_,_⟩|h3
   ·exact absurd e2 e
   ·exact m.tok k i q h2 h3
 ·rcases hs k _ hk with⟨rfl,e⟩|⟨e,h2⟩
  ·cases e
   simp only[nW];rw[if_neg (by omega)];exact htk j (by omega)
  ·simp only[nW];rw[if_neg (by omega)];exact m.tokn k i j h2 hj
 ·rcases hs k _ hk with⟨rfl,e⟩|⟨e,h2⟩
  ·exact hE
  ·exact m.toko k i h2
 ·obtain⟨a1,a2,cs,a3,a4⟩:=m.loc d q hq
  exact⟨a1,a2,cs,by rw[hlc];exact a3,a4.mono hle⟩
theorem Ext.rT{E:Env}{b n:Nat}{p:Place}{h':H}(hn:h.nxt≤h'.nxt)(hob:∀k,h'.ob k=if k=b then some (.tok n)else h.ob k)(htk:E.tk b n=none)(hb:h.ob b=none∨∃i,h.ob b=some (.tok i)):Ext E h (nW E b n p) h':=by
 refine⟨aNx htk,fun _ _=>rfl,hn,fun k o hk he ho hno=>?_⟩
 rw[hob,if_neg]
 ·exact ho
 ·rintro rfl
  rcases hb with hb|⟨i,hb⟩
  ·rw[ho]at hb;cases hb
  ·rw[ho]at hb;cases hb;exact hno i rfl
theorem bFl{o:Oper}{x y:RX}{sz bytes k:Nat}{z:List V}{es ns:List (List V)}(ho:rop P o=some (.app x y sz bytes z))(hx:rv gl tm x=some (.lst es (.ex k)))(hz:∀e∈es,e.length=sz)(hy:NewEs gl tm h y sz ns)(hk:k<es.length+ns.length)(hlim:bytes*(es.length+ns.length)≤lim):
  Does P gl nt tm h o (.v (.lst (es++ns.map (·.map V.bV)) (.tk h.nxt))) (h.new (.tok (es.length+ns.length))):=by
 obtain⟨dst,ty,pos,after,guard,args,argTypes,rfl,hxs,T⟩:=qV ho
 obtain⟨vy,hvy⟩:=hy.val
 intro E F w0 w tmps m hg r
 obtain⟨s',y',harr,rs,ry⟩:=nD hg r hxs hx hvy
 obtain⟨A,cap,rfl,hle,hc⟩:=kG rs
 have hck:=hc k rfl
 subst hck
 obtain⟨c2,el,nc,h1,h2,h3,h4⟩:=aEq (ty:=ty) m T rs hz hy hvy ry hk hlim
 obtain⟨f1,f2,f3⟩:=m.fresh h.nxt (Nat.le_refl _)
 have md:=m.drawn (w.drawn+1)
 let cnt:=(es.length+ns.length)*sz
 have hleZ:=md.qT cnt c2
 have mz:=md.frozen cnt c2 el (0,0) (.tk h.nxt) (.inr ⟨_,rfl⟩)
 let p:Place:=⟨w.heap.size,cnt,(nc-(es.length+ns.length))*sz⟩
 have hob:∀k,(h.new (.tok (es.length+ns.length))).ob k=if k=h.nxt then some (.tok (es.length+ns.length))else h.ob k:=fun k=>rfl
 have mt:=mz.rT (p:=p) (b:=h.nxt) (n:=es.length+ns.length) (h':=h.new (.tok (es.length+ns.length))) (Nat.lt_succ_self _) m.glo (Nat.le_succ _) hob rfl f1 (fun i _=>f3 i) (by simp[p,bQ]) m.below.size
  ⟨c2,el,0,0,by simp[p],by omega,by simp only[p,cnt];rw[h2,←Nat.add_mul];exact Nat.mul_le_mul_right _ (by omega)⟩ (fun i hi=>by
   simp only[lB,p,if_true];rw[if_neg (by simp only[p]at hi;omega)])
 have x1:Ext E h (nW (lB E w.heap.size cnt c2) h.nxt (es.length+ns.length) p) (h.new (.tok (es.length+ns.length))):=by
  have e1:Ext E h (lB E w.heap.size cnt c2) h:=⟨hleZ,fun _ _=>rfl,Nat.le_refl _,fun _ _ _ _ h _=>h⟩
  exact e1.trans (Ext.rT (Nat.le_succ _) hob (f3 _) (.inl f2))
 refine⟨_,{F with own:=bQ F.own w.heap.size (.tk h.nxt)},_,_,_,by rw[bX,harr];exact hC h3,.inl rfl,x1,rfl,rfl,mt,.v _ _ (h4 _ (.tk h.nxt) x1.le (fun i x hi hx=>?_) ⟨?_,?_⟩)⟩
 ·show(lB E w.heap.size cnt c2).fz w.heap.size i=some x
  simp only[lB,if_true];rw[if_pos hi];exact hx
 ·simp[nW,p,cnt]
 ·omega
theorem aWc{o:Oper}{x y:RX}{sz bytes:Nat}{z:List V}{es ns:List (List V)}(ho:rop P o=some (.app x y sz bytes z))(hx:rv gl tm x=some (.lst es (.ex es.length)))(hz:∀e∈es,e.length=sz)(hy:NewEs gl tm h y sz ns)(hlim:bytes*(es.length+ns.length)≤lim):
  Does P gl nt tm h o (.v (.lst (es++ns.map (·.map V.bV)) .unk)) h:=by
 by_cases h0:ns=[]
 ·subst h0
  have:=aHy (nt:=nt) ho hx hy
  intro E F w0 w tmps m hg r
  obtain⟨E',F',w',n,v',a1,a2,a3,a4,a5,a6,a7⟩:=this E F w0 w tmps m hg r
  refine⟨E',F',w',n,v',a1,a2,a3,a4,a5,a6,?_⟩
  cases a7 with
  |v _ _ a7=>exact .v _ _ (by simpa [V.bV] using a7.bV)
 obtain⟨dst,ty,pos,after,guard,args,argTypes,rfl,hxs,T⟩:=qV ho
 obtain⟨vy,hvy⟩:=hy.val
 intro E F w0 w tmps m hg r
 obtain⟨s',y',harr,rs,ry⟩:=nD hg r hxs hx hvy
 obtain⟨A,cap,rfl,hle,hc⟩:=kG rs
 have hck:=hc _ rfl
 have hpos:0<ns.length:=List.length_pos_iff.2 h0
 obtain⟨c2,el,nc,h1,h2,h3,h4⟩:=aEq (ty:=ty) m T rs hz hy hvy ry (by omega) hlim
 have md:=m.drawn (w.drawn+1)
 have hleZ:=md.qT ((es.length+ns.length)*sz) c2
 have mz:=md.frozen ((es.length+ns.length)*sz) c2 el (0,0) .fz (.inl rfl)
 have x1:Ext E h (lB E w.heap.size ((es.length+ns.length)*sz) c2) h:=⟨hleZ,fun _ _=>rfl,Nat.le_refl _,fun _ _ _ _ h _=>h⟩
 refine⟨_,{F with own:=bQ F.own w.heap.size .fz},_,_,_,by rw[bX,harr];exact hC h3,.inl rfl,x1,rfl,rfl,mz,.v _ _ (h4 _ .unk x1.le (fun i x hi hx=>?_) trivial)⟩
 show(lB E w.heap.size _ c2).fz w.heap.size i=some x
 simp only[lB,if_true];rw[if_pos hi];exact hx
def uK(E:Env)(B off:Nat)(vs:List Value):Env:={E with fz:=fun k i=>if k=B∧off≤i∧i<off+vs.length then vs[i-off]? else E.fz k i}
theorem MR.aWz{E:Env}{F:Fx}{w0 w:World}(m:MR E F h w0 w){b n n2:Nat}{p:Place}{vs':List Value}(hb:h.ob b=some (.tok n))(hp:E.tk b n=some p)(hlt:n<n2)(hle:vs'.length≤p.ext)(hone:∀v∈vs',v.oneCell'=true):
  (storeCells ⟨p.blk,p.off,none⟩ vs').run P w=.ok () (w.setCells p.blk p.off vs')∧
   MR (nW (uK E p.blk p.off vs') b n2 ⟨p.blk,p.off+vs'.length,p.ext-vs'.length⟩) F (h.put b (.tok n2)) w0 (w.setCells p.blk p.off vs')∧E.le (uK E p.blk p.off vs'):=by
 obtain⟨hown,hw0,⟨c,el,lo,hi,h1,h2,h3⟩,hfr⟩:=m.tok b n p hb hp
 have hbn:=m.mH hb
 have hEb:=m.toko b n hb
 have hgb:aC≤b:=by
  rcases Nat.lt_or_ge b aC with g|g
  ·obtain⟨_,_,e⟩:=m.glb b _ g hb;cases e
  ·exact g
 have hin:∀j,j<vs'.length→p.off+j<c.size:=by intro j hj;omega
 have hrun:=run_storeCells_cells (P:=P) p.blk p.off vs' 0 w (by intro j hj;rw[tW h1];have:=hin j hj;simp;omega) (by intro j hj;exact vR h1 h2 _ (by have:=hin j hj;omega)) hone
 have t:=Turn.setCells p.blk vs' w p.off
 have hw1:(w.setCells p.blk p.off vs').heap[p.blk]? =some (.cells (eI c p.off vs') el (lo,hi)):=jP _ _ _ _ _ _ _ h1
 have hleY:E.le (uK E p.blk p.off vs'):=by
  refine⟨fun _ _ h=>h,fun B i v hf=>?_,fun _ _ _ h=>h⟩
  simp only[uK]
  rw[if_neg]
  ·exact hf
  ·rintro⟨rfl,g1,g2⟩
   rw[hfr i g1]at hf;cases hf
 have mY:MR (uK E p.blk p.off vs') F (h.kill b) w0 (w.setCells p.blk p.off vs'):=by
  have hk:∀k o,(h.kill b).ob k=some o→k≠b∧h.ob k=some o:=by
   intro k o hk
   simp only[H.kill]at hk
   split at hk
   ·cases hk
   ·rename_i e;exact⟨e,hk⟩
  refine⟨Below.turn m.below t hw0,fun k hk'=>?_,m.glo,fun k o hk' ho=>m.glb k o hk' (hk k o ho).2,m.gbl,fun B hB=>by rw[t.size];exact m.lto B hB,fun k o q hk' hq=>?_,fun k o q hg hk' hq=>m.oOb k o q hg (hk k o hk').2 hq,fun B i v hf=>?_,fun B i v hf hB=>?_,fun k i q hk' hq=>?_,fun k i j hk' hj=>m.tokn k i j (hk k _ hk').2 hj,fun k i hk'=>m.toko k i (hk k _ hk').2,fun d q hq=>?_,fun B x hx=>?_⟩
  ·obtain⟨a1,a2,a3⟩:=m.fresh k hk'
   refine⟨a1,?_,a3⟩
   simp only[H.kill];split
   ·rfl
   ·exact a2
  ·exact((m.obj k o q (hk k o hk').2 hq).mono hleY).world (t.other _ (m.aXm (hk k o hk').2 hq hw0 (fun b' hb'=>by rw[hown]at hb';cases hb')))
  ·simp only[uK]at hf
   split at hf
   ·rename_i e
    obtain⟨rfl,g1,g2⟩:=e
    refine⟨_,el,(lo,hi),hw1,?_⟩
    have:=kS vs' c p.off (i-p.off) (by omega) (hin _ (by omega))
    rw[show p.off+(i-p.off)=i by omega]at this
    rw[this];exact hf
   ·rename_i e
    by_cases eB:B=p.blk
    ·subst eB
     obtain⟨c',el',q',g1,g2⟩:=m.fz _ i v hf
     rw[h1]at g1;cases g1
     have hi:i<p.off:=by
      rcases Nat.lt_or_ge i p.off with g|g
      ·exact g
      ·rw[hfr i g]at hf;cases hf
     exact⟨_,el,(lo,_),hw1,by rw[fE _ _ _ _ (.inl hi)];exact g2⟩
    ·rw[t.other B eB];exact m.fz B i v hf
  ·simp only[uK]at hf
   split at hf
   ·rename_i e
    obtain⟨rfl,_,_⟩:=e
    exact .inr (.inl ⟨b,hown⟩)
   ·exact m.oFz B i v hf hB
  ·obtain⟨e,h2'⟩:=hk k _ hk'
   obtain⟨a1,a2,a3,a4⟩:=m.tok k i q h2' hq
   have hne:q.blk≠p.blk:=by intro z;rw[z,hown]at a1;cases a1;exact e rfl
   exact⟨a1,a2,a3.world (t.other _ hne),fun j hj=>by simp only[uK];rw[if_neg (by intro z;exact hne z.1)];exact a4 j hj⟩
  ·obtain⟨a1,a2,cs,a3,a4⟩:=m.loc d q hq
   have hne:q.blk≠p.blk:=by intro z;rw[z,hown]at a1;cases a1
   exact⟨a1,a2,cs,a3,(a4.mono hleY).world (t.other _ hne)⟩
  ·obtain⟨a1,a2⟩:=m.prot B x hx
   have hne:B≠p.blk:=by rintro rfl;rw[hown]at a2;cases a2
   exact⟨by rw[t.other _ hne];exact a1,a2⟩
 refine⟨hrun,?_,hleY⟩
 refine mY.rT (b:=b) (n:=n2) (h':=h.put b (.tok n2)) hbn hgb (Nat.le_refl _) (fun k=>?_) rfl hEb (fun i hi=>m.tokn b n i hb (by omega)) hown hw0 ⟨_,el,lo,hi,hw1,fun i hi=>h2 i (by rwa[eL]at hi),?_⟩ (fun i hi=>?_)
 ·simp only[H.put,H.kill]
  by_cases e:k=b
  ·rw[if_pos e,if_pos e]
  ·rw[if_neg e,if_neg e,if_neg e]
 ·rw[eL];simp only[];omega
 ·simp only[uK]
  rw[if_neg (by intro z;have:=z.2.2;simp only[]at hi;omega)]
  exact hfr i (by simp only[]at hi;omega)
theorem bGy{o:Oper}{x y:RX}{sz bytes id:Nat}{z:List V}{es ns:List (List V)}(ho:rop P o=some (.app x y sz bytes z))(hx:rv gl tm x=some (.lst es (.tk id)))(hid:h.ob id=some (.tok es.length))(hz:∀e∈es,e.length=sz)(hy:NewEs gl tm h y sz ns)(hlim:bytes*(es.length+ns.length)≤lim):
  Does P gl nt tm h o (.v (.lst (es++ns.map (·.map V.bV)) (.tk id))) (h.put id (.tok (es.length+ns.length))):=by
 by_cases h0:ns=[]
 ·subst h0
  have:=aHy (nt:=nt) ho hx hy
  have e1:h.put id (.tok (es.length+([]:List (List V)).length))=h:=by
   obtain⟨nxt,ob,lc⟩:=h
   simp only[H.put]
   congr 1
   funext k
   split
   ·rename_i e;subst e;exact hid.symm
   ·rfl
  rw[e1];simpa using this
 have hpos:0<ns.length:=List.length_pos_iff.2 h0
 obtain⟨dst,ty,pos,after,guard,args,argTypes,rfl,hxs,T⟩:=qV ho
 obtain⟨vy,hvy⟩:=hy.val
 intro E F w0 w tmps m hg r
 obtain⟨s',y',harr,rs,ry⟩:=nD hg r hxs hx hvy
 obtain⟨A,cap,rfl,hle,hc⟩:=kG rs
 by_cases hroom:es.length+ns.length≤cap
 ·-- in its place
  cases rs with
  |lst0 _ _ _ hh=>
   have:cap=0:=hh
   simp at hroom;omega
  |lst e es' _ blk off n _ zz hf hn hle' hr=>
   have hz0:zz=sz:=by rw[←(hf.get 0 e rfl).1];exact hz e (by simp)
   subst hz0
   have hr':E.tk id (es'.length+1)=some ⟨blk,off+(es'.length+1)*zz,(cap-(es'.length+1))*zz⟩:=hr
   obtain⟨hl,cn,hcn,rn,hnall⟩:=hy.sound (P:=P) m hvy ry
   have lcn:cn.toList.length=ns.length*zz:=by rw[←rn.length,fW hy.len]
   have hone:∀v∈cn.toList,v.oneCell'=true:=by
    intro v hmem
    obtain⟨k,hk⟩:=List.mem_iff_getElem?.1 hmem
    have hklt:k<ns.flatten.length:=by rw[rn.length];exact(List.getElem?_eq_some_iff.1 hk).1
    obtain⟨v',hv',ha⟩:=rn.get k ns.flatten[k] (by simp)
    rw[hk]at hv';cases hv'
    exact ha.aEv ((List.all_eq_true.1 hnall) _ (List.getElem_mem _))
   have hlist:(e::es').length=es'.length+1:=rfl
   have hext:cn.toList.length≤(cap-(es'.length+1))*zz:=by
    rw[lcn];exact Nat.mul_le_mul_right _ (by rw[hlist]at hroom;omega)
   obtain⟨q1,q2,q3⟩:=m.aWz (P:=P) (n2:=(e::es').length+ns.length) (p:=⟨blk,off+(es'.length+1)*zz,(cap-(es'.length+1))*zz⟩) hid hr' (by omega) hext hone
   have hrun:=jW (ty:=ty) T (base:=some ⟨blk,off,none⟩) (sl:=(e::es').length) (n:=ns.length) (cap:=cap) hl hcn hroom (by show(storeCells (Addr.add _ _) _).run P w=_;rw[add_zero];exact q1)
   have hEid:=m.toko id _ hid
   have htk0:E.tk id ((e::es').length+ns.length)=none:=m.tokn id _ _ hid (by omega)
   have x1:Ext E h (nW (uK E blk (off+(es'.length+1)*zz) cn.toList) id ((e::es').length+ns.length) ⟨blk,off+(es'.length+1)*zz+cn.toList.length,(cap-(es'.length+1))*zz-cn.toList.length⟩) (h.put id (.tok ((e::es').length+ns.length))):=by
    have e1:Ext E h (uK E blk (off+(es'.length+1)*zz) cn.toList) h:=⟨q3,fun _ _=>rfl,Nat.le_refl _,fun _ _ _ _ h _=>h⟩
    exact e1.trans (Ext.rT (Nat.le_refl _) (fun k=>rfl) htk0 (.inr ⟨_,hid⟩))
   refine⟨_,F,_,_,_,by rw[bX,harr];exact hC hrun,.inl rfl,x1,rfl,rfl,q2,.v _ _ ?_⟩
   refine .lst e (es'++ns.map (·.map V.bV)) (.tk id) blk off _ cap zz ?_ (by simp;omega) hroom ?_
   ·have hfa:=(hf.mono x1.le).append (fs:=ns.map (·.map V.bV)) (FZs.of_flat (fun e he=>by obtain⟨e0,h0',rfl⟩:=List.mem_map.1 he;simpa using hy.len e0 h0') (FZ.eY fun i v hv=>by
     rw[fR]at hv
     have hv2:=(rn.mono x1.le).bV.get i v hv
     obtain⟨v',a,bb⟩:=hv2
     have hi:i<cn.toList.length:=(List.getElem?_eq_some_iff.1 a).1
     refine⟨List.all_eq_true.1 (vD hnall) v (List.mem_of_getElem? hv),v',?_,bb⟩
     show(uK E blk (off+(es'.length+1)*zz) cn.toList).fz blk _=some v'
     simp only[uK]
     rw[if_pos ⟨trivial,by rw[hlist];omega,by rw[hlist];omega⟩]
     rw[show off+(e::es').length*zz+i-(off+(es'.length+1)*zz)=i by rw[hlist];omega]
     exact a))
    simpa using hfa
   ·show(nW _ id _ _).tk id _=_
    simp only[nW]
    rw[if_pos ⟨trivial,trivial⟩,lcn,hlist]
    simp only[Nat.add_mul,Nat.sub_mul]
    congr 2
    ·omega
    ·omega
 ·-- a new row
  obtain⟨c2,el,nc,h1,h2,h3,h4⟩:=aEq (ty:=ty) m T rs hz hy hvy ry (by omega) hlim
  have hEid:=m.toko id _ hid
  have md:=m.drawn (w.drawn+1)
  let cnt:=(es.length+ns.length)*sz
  have hleZ:=md.qT cnt c2
  have mz:=md.frozen cnt c2 el (0,0) (.tk id) (.inr ⟨_,rfl⟩)
  let p:Place:=⟨w.heap.size,cnt,(nc-(es.length+ns.length))*sz⟩
  have hob:∀k,(h.put id (.tok (es.length+ns.length))).ob k=if k=id then some (.tok (es.length+ns.length))else h.ob k:=fun k=>rfl
  have hgb:aC≤id:=by
   rcases Nat.lt_or_ge id aC with g|g
   ·obtain⟨_,_,e⟩:=m.glb id _ g hid;cases e
   ·exact g
  have htk0:∀i,es.length+ns.length≤i→E.tk id i=none:=fun i hi=>m.tokn id _ _ hid (by omega)
  have mt:=mz.rT (p:=p) (b:=id) (n:=es.length+ns.length) (h':=h.put id (.tok (es.length+ns.length))) (m.mH hid) hgb (Nat.le_refl _) hob rfl hEid htk0 (by simp[p,bQ]) m.below.size
   ⟨c2,el,0,0,by simp[p],by omega,by simp only[p,cnt];rw[h2,←Nat.add_mul];exact Nat.mul_le_mul_right _ (by omega)⟩ (fun i hi=>by
    simp only[lB,p,if_true];rw[if_neg (by simp only[p]at hi;omega)])
  have x1:Ext E h (nW (lB E w.heap.size cnt c2) id (es.length+ns.length) p) (h.put id (.tok (es.length+ns.length))):=by
   have e1:Ext E h (lB E w.heap.size cnt c2) h:=⟨hleZ,fun _ _=>rfl,Nat.le_refl _,fun _ _ _ _ h _=>h⟩
   exact e1.trans (Ext.rT (Nat.le_refl _) hob (htk0 _ (Nat.le_refl _)) (.inr ⟨_,hid⟩))
  refine⟨_,{F with own:=bQ F.own w.heap.size (.tk id)},_,_,_,by rw[bX,harr];exact hC h3,.inl rfl,x1,rfl,rfl,mt,.v _ _ (h4 _ (.tk id) x1.le (fun i x hi hx=>?_) ⟨?_,?_⟩)⟩
  ·show(lB E w.heap.size cnt c2).fz w.heap.size i=some x
   simp only[lB,if_true];rw[if_pos hi];exact hx
  ·simp[nW,p,cnt]
  ·omega
end
end Go.VM
end
section
/- The machine of values: what is claimed of a run. -/
namespace Go.VM
open Go.RowKit
structure PE where
 v:V
 recovered:Bool
inductive AMode where
 |ret
 |pan (chain:List PE)
structure S where
 tm:TM
 df:List AD
 u:Option AMode
 h:H
inductive X where
 |norm
 |exit (id:Nat)
 |ret
 |panic (chain:List PE)
inductive AEnd where
 |ret (v:V)
 |pan (chain:List PE)
structure Fr where
 nt:Nat
 rnd:Option Nat
 fid:FuncId
inductive PER(E:Env):PE→PanicEntry→Prop where
 |mk (v:V) (v':Value) (r:Bool) (h:AR E v v'):PER E ⟨v,r⟩ {v:=v',recovered:=r}
inductive ModeR(E:Env):AMode→FrameMode→Prop where
 |ret:ModeR E .ret .returning
 |pan (ch:List PE) (ch':List PanicEntry) (h:All₂ (PER E) ch ch'):ModeR E (.pan ch) (.panicking ch')
theorem PER.mono{E E':Env}(h:E.le E'){a:PE}{b:PanicEntry}(r:PER E a b):PER E' a b:=by cases r with|mk v v' r hr=>exact .mk v v' r (hr.mono h)
theorem ModeR.mono{E E':Env}(h:E.le E'){a:AMode}{b:FrameMode}(r:ModeR E a b):ModeR E' a b:=by
 cases r with
 |ret=>exact .ret
 |pan ch ch' hr=>exact .pan ch ch' (hr.mono fun _ _=>PER.mono h)
def UK(E:Env)(u:Option AMode)(kind:CallKind)(cs:List Frame):Prop:=
 match u with
 |none=>kind=.normal
 |some m=>kind=.deferred∧∃c rest,cs=c::rest∧ModeR E m c.mode
theorem UK.mono{E E':Env}(h:E.le E'){u:Option AMode}{kind:CallKind}{cs:List Frame}(r:UK E u kind cs):UK E' u kind cs:=by
 cases u with
 |none=>exact r
 |some m=>obtain⟨a,c,rest,b,d⟩:=r;exact⟨a,c,rest,b,d.mono h⟩
def CS(u:Option AMode)(cs cs':List Frame):Prop:=
 match u with
 |none=>cs'=cs
 |some _=>∃c rest m,cs=c::rest∧cs'={c with mode:=m}::rest
theorem CS.refl{E:Env}{u:Option AMode}{kind:CallKind}{cs:List Frame}(r:UK E u kind cs):CS u cs cs:=by
 cases u with
 |none=>exact rfl
 |some m=>obtain⟨a,c,rest,rfl,d⟩:=r;exact⟨c,rest,c.mode,rfl,rfl⟩
theorem CS.trans{u u':Option AMode}{cs cs' cs'':List Frame}(h:CS u cs cs')(h':CS u' cs' cs'')(e:u'.isSome=u.isSome):CS u cs cs'':=by
 cases u with
 |none=>cases u' with
  |none=>exact Eq.trans h' h
  |some m=>simp at e
 |some m=>cases u' with
  |none=>simp at e
  |some m'=>
   obtain⟨c,rest,n,rfl,rfl⟩:=h
   obtain⟨c',rest',n',e1,rfl⟩:=h'
   cases e1
   exact⟨c,rest,n',rfl,rfl⟩
structure FR(E:Env)(fr:Fr)(b:Frame):Prop where
 fn:b.fn=fr.fid
 rnd:match fr.rnd with|none=>b.roundOf=none|some l=>b.kind=.normal∧∃p,E.ob l=some p∧b.roundOf=some p.blk
theorem FR.mono{E E':Env}(h:E.le E'){fr:Fr}{b:Frame}(r:FR E fr b):FR E' fr b:=by
 refine⟨r.fn,?_⟩
 have:=r.rnd
 cases hr:fr.rnd with
 |none=>rw[hr]at this;exact this
 |some l=>rw[hr]at this;obtain⟨a,p,b,c⟩:=this;exact⟨a,p,h.ob _ _ b,c⟩
structure StR(gl:List Nat)(E:Env)(F:Fx)(fr:Fr)(s:S)(b:Frame)(tmps:Array Value)(df:List Deferred)(cs:List Frame)(w0 w:World):Prop where
 mr:MR E F s.h w0 w
 tr:TR E F.loc fr.nt s.tm tmps
 dr:All₂ (ADR E) s.df df
 uk:UK E s.u b.kind cs
 fr:FR E fr b
 gl:GL E gl
theorem StR.mono{gl:List Nat}{E E':Env}{F F':Fx}{fr:Fr}{s:S}{b:Frame}{tmps:Array Value}{df:List Deferred}{cs:List Frame}{w0 w w':World}{h':H}(st:StR gl E F fr s b tmps df cs w0 w)(x:Ext E s.h E' h')(l:F'.loc=F.loc)(m:MR E' F' h' w0 w'):
  StR gl E' F' fr {s with h:=h'} b tmps df cs w0 w':=
 ⟨m,st.tr.mono x.le (fun d p e=>by rw[l];exact e),st.dr.mono fun _ _=>ADR.mono x.le,st.uk.mono x.le,st.fr.mono x.le,st.gl.mono x.le⟩
def Arr(P:Program)(E:Env)(x:X)(m:Machine)(b:Frame)(k:List Item)(tmps:Array Value)(df:List Deferred)(cs:List Frame)(w:World):Prop:=
 match x with
 |.norm=>Steps P m (lone (mkF b tmps k df) cs w)
 |.exit id=>∃k',exitTo id k'=exitTo id k∧Steps P m (lone (mkF b tmps (.code (.exit id)::k') df) cs w)
 |.ret=>∃k',Steps P m (lone (mkF b tmps (.code .ret::k') df) cs w)
 |.panic ch=>∃todo ch',All₂ (PER E) ch ch'∧Steps P m (lone {mkF b tmps todo df with mode:=.panicking ch'} cs w)
theorem Arr.of{P:Program}{E:Env}{x:X}{m m1:Machine}{b:Frame}{k:List Item}{tmps:Array Value}{df:List Deferred}{cs:List Frame}{w:World}(h:Steps P m m1)(a:Arr P E x m1 b k tmps df cs w):Arr P E x m b k tmps df cs w:=by
 cases x with
 |norm=>exact h.trans a
 |exit id=>obtain⟨k',e,s⟩:=a;exact⟨k',e,h.trans s⟩
 |ret=>obtain⟨k',s⟩:=a;exact⟨k',h.trans s⟩
 |panic ch=>obtain⟨t,ch',e,s⟩:=a;exact⟨t,ch',e,h.trans s⟩
def SItem(P:Program)(gl:List Nat)(fr:Fr)(it:Item)(s:S)(x:X)(s':S):Prop:=
 ∀(E:Env) (F:Fx) (w0 w:World) (b:Frame) (tmps:Array Value) (df:List Deferred) (cs:List Frame) (k:List Item),StR gl E F fr s b tmps df cs w0 w→
  ∃E' F' tmps' df' cs' w',Ext E s.h E' s'.h∧F'.prot=F.prot∧StR gl E' F' fr s' b tmps' df' cs' w0 w'∧CS s.u cs cs'∧s'.u.isSome=s.u.isSome∧
   Arr P E' x (lone (mkF b tmps (it::k) df) cs w) b k tmps' df' cs' w'
def aWs(P:Program)(E:Env)(r:AEnd)(fr:Frame)(w:World):Prop:=
 match r with
 |.ret v=>fr.mode=.returning∧∃fn v',P.funcs[fr.fn]? =some fn∧(results fn fr.tmps).run P w=.ok v' w∧AR E v v'
 |.pan ch=>∃ch' fn,fr.mode=.panicking ch'∧All₂ (PER E) ch ch'∧P.funcs[fr.fn]? =some fn
structure SCall(P:Program)(gl:List Nat)(f:FuncId)(args:List V)(u:Option AMode)(h:H)(r:AEnd)(u':Option AMode)(h':H):Prop where
 lc:h'.lc=h.lc
 fn:∃fn,P.funcs[f]? =some fn∧fn.body.isSome=true∧(fn.name== "runtime.NumGoroutine")=false
 run:∀(E:Env) (F:Fx) (w0 w:World) (args':Array Value) (kind:CallKind) (cs:List Frame),F.loc=noL→MR E F h w0 w→GL E gl→ARs E args args'.toList→UK E u kind cs→
  ∃E' F' w' cs' fr',Ext E h E' h'∧F'.loc=noL∧F'.prot=F.prot∧MR E' F' h' w0 w'∧UK E' u' kind cs'∧CS u cs cs'∧u'.isSome=u.isSome∧Steps P (lone (Frame.enter P f args' kind) cs w) (lone fr' cs' w')∧
   fr'.fn=f∧fr'.kind=kind∧fr'.roundOf=none∧fr'.defers=[]∧aWs P E' r fr' w'
def SLeave(P:Program)(gl:List Nat)(fn:Func)(tm:TM)(df:List AD)(m:AMode)(u:Option AMode)(h:H)(r:AEnd)(u':Option AMode)(h':H):Prop:=
 ∀(E:Env) (F:Fx) (w0 w:World) (fr:Frame) (cs:List Frame) (nt:Nat),MR E F h w0 w→GL E gl→TR E F.loc nt tm fr.tmps→All₂ (ADR E) df fr.defers→ModeR E m fr.mode→UK E u fr.kind cs→P.funcs[fr.fn]? =some fn→fr.roundOf=none→
  ∃E' F' w' cs' fr',Ext E h E' h'∧F'.prot=F.prot∧MR E' F' h' w0 w'∧UK E' u' fr.kind cs'∧CS u cs cs'∧u'.isSome=u.isSome∧Steps P (lone fr cs w) (lone fr' cs' w')∧
   fr'.fn=fr.fn∧fr'.kind=fr.kind∧fr'.roundOf=none∧fr'.defers=[]∧aWs P E' r fr' w'
def bLo(P:Program)(E:Env)(r:AEnd)(m:Machine)(c:Frame)(cs:List Frame)(w:World):Prop:=
 match r with
 |.ret v=>∃v',AR E v v'∧Steps P m (lone (c.finish v') cs w)
 |.pan ch=>∃ch',All₂ (PER E) ch ch'∧Steps P m (lone (c.raise ch') cs w)
structure SRound(P:Program)(gl:List Nat)(l:Nat)(args:List V)(h:H)(r:AEnd)(h':H):Prop where
 lc:h'.lc=h.lc
 run:∀(E:Env) (F:Fx) (w0 w:World) (args':Array Value) (p:Place) (c:Frame) (cs:List Frame),F.loc=noL→MR E F h w0 w→GL E gl→ARs E args args'.toList→E.ob l=some p→
  ∃f ts as bd E' F' w',(Instr.yield p.blk args').run P w=.ok (.round p.blk f ts as bd) w∧Ext E h E' h'∧F'.loc=noL∧F'.prot=F.prot∧MR E' F' h' w0 w'∧
   bLo P E' r (lone (Frame.round p.blk f ts as bd .normal) (c::cs) w) c cs w'
def bB(nt:Nat)(tm:TM):Option Nat→TV→Option TM
 |none,_=>some tm
 |some d,v=>match Nat.blt d nt with
  |true=>some ((d,v)::tm)
  |false=>none
theorem aDx{E:Env}{L:Nat→Option Place}{nt:Nat}{tm tm':TM}{tmps:Array Value}{dst:Option Nat}{v:TV}{v':Value}(r:TR E L nt tm tmps)(h:bB nt tm dst v=some tm')(hv:TVR E L v v'):TR E L nt tm' (jV tmps dst v'):=by
 cases dst with
 |none=>simp[bB]at h;subst h;exact r
 |some d=>
  simp only[bB]at h
  split at h
  ·rename_i hd
   cases h
   have hd':d<nt:=by rwa[Nat.blt_eq]at hd
   refine⟨by simp[jV,r.1],fun t u ht=>?_⟩
   rw[lW]at ht
   simp only[jV,Array.getElem?_setIfInBounds]
   split at ht
   ·rename_i e
    cases ht
    subst e
    exact⟨v',by rw[if_pos rfl,if_pos (by rw[r.1];exact hd')],hv⟩
   ·rename_i e
    rw[if_neg (fun e2=>e e2.symm)]
    exact r.2 t u ht
  ·cases h
theorem StR.put{gl:List Nat}{E:Env}{F:Fx}{fr:Fr}{s:S}{b:Frame}{tmps:Array Value}{df:List Deferred}{cs:List Frame}{w0 w:World}(st:StR gl E F fr s b tmps df cs w0 w){tm:TM}{dst:Option Nat}{v:TV}{v':Value}
  (h:bB fr.nt s.tm dst v=some tm) (hv:TVR E F.loc v v'):StR gl E F fr {s with tm} b (jV tmps dst v') df cs w0 w:=
 ⟨st.mr,aDx st.tr h hv,st.dr,st.uk,st.fr,st.gl⟩
def bS(ops:Array Oper)(o:Oper)(tm:TM):Option Bool:=
 match o.guard with
 |none=>some true
 |some (j,want)=>match(ops[j]?).bind (·.dst)with
  |some d=>match tg tm d with
   |some (.v (.bool b))=>some (b==want)
   |some _=>some false
   |none=>none
  |none=>some false
theorem cE{E:Env}{L:Nat→Option Place}{nt:Nat}{tm:TM}{tmps:Array Value}{ops:Array Oper}{o:Oper}{q:Bool}(h:bS ops o tm=some q)(r:TR E L nt tm tmps):Region.wanted o (yielded ops tmps)=q:=by
 unfold bS at h
 unfold Region.wanted
 cases hg:o.guard with
 |none=>rw[hg]at h;simpa using h
 |some jw=>
  obtain⟨j,want⟩:=jw
  rw[hg]at h
  simp only at h⊢
  cases hd:(ops[j]?).bind (·.dst)with
  |none=>rw[hd]at h;cases h;simp[yielded,hd]
  |some d=>
   rw[hd]at h
   simp only at h
   cases ht:tg tm d with
   |none=>rw[ht]at h;cases h
   |some u=>
    obtain⟨u',hu,hr⟩:=r.2 d u ht
    rw[ht]at h
    cases hr with
    |v x _ hr=>
     cases x with
     |bool c=>cases h;cases hr;simp[yielded,hd,hu]
     |_=>cases h;cases hr<;>simp[yielded,hd,hu]
    |l d o p e=>cases h;simp[yielded,hd,hu]
    |e cs blk off e=>cases h;simp[yielded,hd,hu]
inductive OR where
 |val (tv:TV) (s:S)
 |pan (ch:List PE) (s:S)
def OpR(P:Program)(gl:List Nat)(fr:Fr)(o:Oper)(s:S)(r:OR):Prop:=
 ∀(E:Env) (F:Fx) (w0 w:World) (b:Frame) (tmps:Array Value) (df:List Deferred) (cs:List Frame) (k:List Item) (ops:Array Oper) (i:Nat) (rest:List Nat),
  StR gl E F fr s b tmps df cs w0 w→ops[i]? =some o→Region.wanted o (yielded ops tmps)=true→
  match r with
  |.val tv s'=>s'.tm=s.tm∧∃E' F' df' cs' w' v',Ext E s.h E' s'.h∧F'.loc=F.loc∧F'.prot=F.prot∧StR gl E' F' fr s' b tmps df' cs' w0 w'∧CS s.u cs cs'∧s'.u.isSome=s.u.isSome∧TVR E' F'.loc tv v'∧
    Steps P (lone (mkF b tmps (.inRegion ops (i::rest)::k) df) cs w) (lone (mkF b (jV tmps o.dst v') (.inRegion ops rest::k) df') cs' w')
  |.pan ch s'=>s'.tm=s.tm∧∃E' F' df' cs' w' todo ch',Ext E s.h E' s'.h∧F'.loc=F.loc∧F'.prot=F.prot∧StR gl E' F' fr s' b tmps df' cs' w0 w'∧CS s.u cs cs'∧s'.u.isSome=s.u.isSome∧All₂ (PER E') ch ch'∧
    Steps P (lone (mkF b tmps (.inRegion ops (i::rest)::k) df) cs w) (lone {mkF b tmps todo df' with mode:=.panicking ch'} cs' w')
theorem Does.opR{P:Program}{gl:List Nat}{fr:Fr}{o:Oper}{s:S}{tv:TV}{h':H}(hd:∀c,o.op≠.defer c)(d:Does P gl fr.nt s.tm s.h o tv h'):OpR P gl fr o s (.val tv {s with h:=h'}):=by
 intro E F w0 w b tmps df cs k ops i rest st ho hw
 obtain⟨E',F',w',n,v',h1,h2,h3,h4,h5,h6,h7⟩:=d E F w0 w tmps st.mr st.gl st.tr
 refine⟨rfl,E',F',df,cs,w',v',h3,h4,h5,st.mono h3 h4 h6,CS.refl st.uk,rfl,h7,?_⟩
 rcases h2 with rfl|⟨rfl,rfl⟩
 ·exact .one (zP ho hw (.inr hd) h1)
 ·exact .one (aXc ho hw (.inr hd) h1)
end Go.VM
end
