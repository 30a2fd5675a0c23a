/- laid for this seat: VmTbl -/
import Derived.Test.YtgadhdnnkdcgkaaGreatDoorVmH
import Derived.Lib.LaidTab
import Derived.LaidSub
import Derived.MakeChecks
import Derived.Stop.Joined
set_option linter.unusedVariables false
set_option linter.unusedSimpArgs false
/- The machine of values: starts whose memory holds one table of the program's. -/
namespace Go.VM
open Go.RowKit Go.Lib
theorem SCall.more{P:Program}{gl:List Nat}{f:FuncId}{args:List V}{u u':Option AMode}{h h':H}{r:AEnd}(s:SCall P [] f args u h r u' h'):SCall P gl f args u h r u' h':=
 ⟨s.lc,s.fn,fun E F w0 w args' kind cs hF m g ra huk=>s.run E F w0 w args' kind cs hF m (by intro x hx;cases hx) ra huk⟩
def kZ(k:IntKind)(zs:List Int):List V:=zs.map fun z=>.int k z
def hT(g:Nat)(k:IntKind)(zs:List Int):H:=⟨aC,og [(g,.cells false (kZ k zs))],[]⟩
def ET(w:World)(g n:Nat):Env:=⟨fun b=>if b=g then some ⟨g,0,n⟩else none,aSw w,fun _ _=>none⟩
theorem qM{D:Nat→Prop}{k:IntKind}:∀{zs:List Int},Ins D (kZ k zs)
 |[]=>trivial
 |_::zs=>⟨trivial,qM (zs:=zs)⟩
theorem bIt{w:World}{g n:Nat}:(E0 w).le (ET w g n):=⟨(fun _ _ h=>by cases h),(fun _ _ _ h=>h),(fun _ _ _ h=>by cases h)⟩
theorem MR.bHq{w:World}{g:Nat}{k:IntKind}{zs:List Int}{c:Array Value}{t:TypeId}(hg:g<aC)(hb:w.heap[g]? =some (.cells c t (0,0)))(hc:c=(zs.map fun z=>Value.int k z).toArray):MR (ET w g zs.length) F0 (hT g k zs) w w:=by
 have hlt:g<w.heap.size:=(Array.getElem?_eq_some_iff.1 hb).1
 have hE:∀b p,(ET w g zs.length).ob b=some p→b=g∧p=⟨g,0,zs.length⟩:=by
  intro b p h
  simp only[ET]at h
  split at h
  ·rename_i e;cases h;exact⟨e,rfl⟩
  ·cases h
 have hO:∀b o,(hT g k zs).ob b=some o→b=g∧o=.cells false (kZ k zs):=by
  intro b o h
  simp only[hT,aR]at h
  split at h
  ·rename_i e;cases h;exact⟨e,rfl⟩
  ·cases h
 refine⟨Below.refl _ _,fun b hb'=>?_,Nat.le_refl _,fun b o _ ho=>?_,fun b p _ hp=>?_,fun B h=>(h rfl).elim,fun b o p ho hp=>?_,fun b o p hb' ho _=>?_,fun B i v h=>qU h,fun B i v h hB=>?_,fun b n p ho _=>?_,fun b n m ho _=>?_,fun b n ho=>?_,fun d p hp=>(by cases hp),fun B x hx=>(by cases hx)⟩
 ·have hb':aC≤b:=hb'
  have hne:b≠g:=by omega
  exact⟨by simp only[ET];rw[if_neg hne],by simp only[hT,aR];rw[if_neg hne];rfl,fun _=>rfl⟩
 ·obtain⟨_,rfl⟩:=hO b o ho;exact⟨_,_,rfl⟩
 ·obtain⟨_,rfl⟩:=hE b p hp;exact hlt
 ·obtain⟨rfl,rfl⟩:=hE b p hp
  obtain⟨_,rfl⟩:=hO _ o ho
  refine⟨c,t,0,0,hb,fun i _ h=>by omega,by rw[hc];simp,by simp[kZ],fun i v hv=>?_⟩
  unfold kZ at hv
  rw[List.getElem?_map]at hv
  cases hz:zs[i]? with
  |none=>rw[hz]at hv;cases hv
  |some z=>
   rw[hz]at hv
   cases hv
   exact⟨rfl,.int k z,by rw[hc];simp[hz],.int k z⟩
 ·obtain⟨rfl,_⟩:=hO b o ho;omega
 ·obtain⟨c,el,q,h1,_⟩:=qU h
  have:=(Array.getElem?_eq_some_iff.1 h1).1
  omega
 ·obtain⟨_,e⟩:=hO b _ ho;cases e
 ·obtain⟨_,e⟩:=hO b _ ho;cases e
 ·obtain⟨_,e⟩:=hO b _ ho;cases e
theorem GL.bHq{w:World}{g n:Nat}:GL (ET w g n) [g]:=by
 intro x hx
 have:x=g:=by simpa using hx
 subst this
 exact⟨⟨x,0,n⟩,by simp[ET],rfl,rfl⟩
theorem aRu{P:Program}{f g:Nat}{k:IntKind}{zs:List Int}{args:List V}{args':Array Value}{v:V}{h':H}{w:World}{c:Array Value}{t:TypeId}(s:SCall P [g] f args none (hT g k zs) (.ret v) none h')
  (hg:g<aC) (hb:w.heap[g]? =some (.cells c t (0,0))) (hc:c=(zs.map fun z=>Value.int k z).toArray) (ha:ARs (E0 w) args args'.toList):
  Calls P f args' w fun e w'=>∃E' v',e=.returned v'∧AR E' v v'∧Below w.heap.size w w':=by
 intro cs
 obtain⟨E',F',w',cs',fr',a1,a2,a3,a4,a5,a6,a7,a8,a9,a10,a11,a12,z1,fnr,x,z2,z3,z4⟩:=s.run (ET w g zs.length) F0 w w args' .normal cs rfl (MR.bHq hg hb hc) GL.bHq (ha.mono bIt) rfl
 have e1:cs'=cs:=a6
 subst e1
 exact⟨.returned x,w',fr',⟨E',x,rfl,z4,a4.below⟩,a8,a9,z1,a12,a10,fnr,z2,z3⟩
def zJ:List Int:=(List.range 256).map fun i=>if(9≤i∧i≤13)∨i=32 then 1 else 0
theorem aMd{P:Program}{laid:List (String×DataW Unit)}{W:World}{g:Nat}{t e:TypeId}{zs:List Int}(h:laidMetH P laid W)(hh:(laid.all fun x=>x.2.handleName?.isNone)=true)
  (hf:(laid.filter fun x=>x.1== "strings.asciiSpace")=[("strings.asciiSpace",tabData .u8 zs)]) (hg:P.globalNamed "strings.asciiSpace" =some g) (hty:(P.globals[g]?).map (·.type)=some t)
  (ht:P.underlying t=some (.array zs.length e)) (he:P.underlying e=some (.int .u8)) (hce:P.cellsOf e=1) (hct:P.cellsOf t=zs.length) (hz:0<zs.length):
  ∃c t,W.heap[g]? =some (.cells c t (0,0))∧c=(zs.map fun z=>Value.int .u8 z).toArray:=by
 have h1:=laidMetH.filter (fun x=>x.1== "strings.asciiSpace") h
 rw[hf]at h1
 rw[MakeChecks.laidMetH_plain _ _ _ (by simp[DataW.handleName?,tabData])]at h1
 have hT:=tabIs_of_head hg hty ht he hce hct h1
 obtain⟨ps,⟨g',t',cs,fuel,p,q,hg',ht',hvar,hd,hv,hps⟩,hnd,hall⟩:=h1
 obtain rfl:=Option.some.inj (hg.symm.trans hg')
 unfold TabIs at hT
 have hcs:=Option.some.inj (hvar.symm.trans hT)
 obtain⟨⟨c,t2,hb⟩,_⟩:=hall g 0 (by
  rw[hps,List.mem_append,List.mem_append]
  refine .inl (.inl ?_)
  rw[hcs]
  simp only[MemPlace.row,List.size_toArray,List.length_map]
  simp[hz])
 refine⟨c,t2,hb,?_⟩
 unfold World.var? at hT
 rw[hg]at hT
 simp only[Option.bind_some,hb]at hT
 exact Option.some.inj hT
end Go.VM
