/- laid for this seat: VmRange VmSl5 VmOwn VmFreeze VmRow VmFrz VmIb VmRun -/
import Derived.Test.YtgadhdnnkdcgkaaGreatDoorVmE
import Derived.Test.YtgadhdnnkdcgkaaGreatDoorVmG
set_option linter.unusedVariables false
set_option linter.unusedSimpArgs false
section
/- The machine of values: loops over functions. -/
namespace Go.VM
open Go.RowKit
variable{P:Program}{gl:List Nat}
theorem MR.bEc{E:Env}{F:Fx}{h:H}{w0 w:World}(m:MR E F h w0 w)(o:Obj)(co:Go.Obj)(hnt:∀n,o≠.tok n)(hr:∀E':Env,E.le E'→ObjR E' o ⟨w.heap.size,0,0⟩ {w with heap:=w.heap.push co}):
  ∃E' F',E'.ob h.nxt=some ⟨w.heap.size,0,0⟩∧Ext E h E' (h.new o)∧F'.loc=F.loc∧F'.prot=F.prot∧MR E' F' (h.new o) w0 {w with heap:=w.heap.push co}:=by
 obtain⟨m1,x1,hE,hob⟩:=m.ghost o (fun n e=>absurd e (hnt n))
 have hle:=qG (p:=⟨w.heap.size,0,0⟩) hE
 refine⟨gS E h.nxt ⟨w.heap.size,0,0⟩,_,by simp[gS],⟨hle,fun k hk=>?_,x1.nxt,fun k o' hk he ho hn=>x1.ghost k o' hk he ho hn⟩,?_,?_,m1.place hob hE m.glo hnt co rfl (hr _ hle)⟩
 ·simp only[gS];rw[if_neg (by omega)]
 ·rfl
 ·rfl
theorem MR.big{E:Env}{F:Fx}{h:H}{w0 w:World}(m:MR E F h w0 w){b:Nat}{o:Obj}(hb:h.ob b=some o)(hc:∀op cs,o≠.cells op cs):aC≤b:=by
 rcases Nat.lt_or_ge b aC with g|g
 ·obtain⟨op,cs,e⟩:=m.glb b o g hb;exact absurd e (hc _ _)
 ·exact g
theorem SLeave.collected{fn:Func}{tm:TM}{df cs0:List AD}{m:AMode}{u u':Option AMode}{h h':H}{r:AEnd}{rid:Nat}(hb:h.ob rid=some (.dfr (some cs0)))(next:SLeave P gl fn tm (cs0++df) m u (h.put rid (.dfr none)) r u' h'):
  SLeave P gl fn tm (.collected rid::df) m u h r u' h':=by
 intro E F w0 w fr cs nt mr g tr dr mo uk hfn hro
 cases hdd:fr.defers with
 |nil=>rw[hdd]at dr;cases dr
 |cons d0 ds'=>
  rw[hdd]at dr
  cases dr with
  |cons hd0 hds=>
   cases hd0 with
   |collected _ p hE=>
    obtain⟨calls,k1,k2⟩:=mr.obj rid _ p hb hE
    have hgl:=mr.big hb (fun op cs e=>by cases e)
    obtain⟨m4,x4⟩:=mr.put hb hE hgl (new:=.dfr none) (by intro n e;cases e) (Turn.set p.blk (.deferred none) w) ⟨none,sO k1⟩
    have htake:(Instr.takeDeferred p.blk).run P w=.ok calls {w with heap:=w.heap.setIfInBounds p.blk (.deferred none)}:=by
     have hget':(getObj p.blk).run P w=.ok (.deferred (some calls)) w:=by simp[getObj,Sem.run,k1]
     have hset:=oF (P:=P) k1 (fun _ _ _ e=>by cases e) (.deferred none)
     simp only[Instr.takeDeferred,Sem.run_bind,hget',Result.andThen_ok,hset,Sem.run_pure]
    have hst:=aCu (P:=P) (cs:=cs) (aBc mo) hdd htake
    obtain⟨E2,F2,w2,c2,fr2,a1,a0,a2,a3,a4,a5,a6,a7,a8,a9,a10,a11⟩:=next E F w0 _ {fr with defers:=calls++ds'} cs nt m4 g tr (k2.append hds) mo uk hfn hro
    exact⟨E2,F2,w2,c2,fr2,x4.trans a1,a0,a2,a3,a4,a5,.head hst a6,a7,a8,a9,a10,a11⟩
theorem TR.strip{E:Env}{L:Nat→Option Place}{nt:Nat}{tm tm2:TM}{tmps:Array Value}(r:TR E L nt tm tmps)(h:∀e∈tm2,∃u,tg tm e.1=some u∧TLe [] u e.2):TR E noL nt tm2 tmps:=by
 refine⟨r.1,fun t v hv=>?_⟩
 obtain⟨u,g1,g2⟩:=h _ (aKl hv)
 obtain⟨u',g3,g4⟩:=r.2 t u g1
 refine⟨u',g3,?_⟩
 cases g2 with
 |v h=>cases g4 with|v _ _ h'=>exact .v _ _ (h E _ h')
 |e cs=>cases g4 with|e _ blk off h'=>exact .e _ _ _ h'
 |l i o h=>cases h
def bKl:Option Code→Option X
 |none=>some .norm
 |some .ret=>some .ret
 |some (.exit id)=>some (.exit id)
 |_=>none
theorem bAo{fr:Fr}{s:S}{f:Operand}{ps:Array Tmp}{as bd:Code}{ro:RX}{g:FuncId}{first cap ws:List V}{lp lp3:ALoop}{v:V}{h3:H}{x:X}(hr:fr.rnd=none)(hx:rx f=some ro)(hf:rv gl s.tm ro=some (.fn (.func g) first cap))
  (hlp:lp.state=.ready∧lp.pending=none∧lp.fn=fr.fid∧lp.nt=fr.nt∧lp.params=ps.toList∧lp.assign=as∧lp.body=bd) (ht:∀e∈lp.tmps,∃u,tg s.tm e.1=some u∧TLe [] u e.2)
  (hw:(first++[.fn (.yield (s.h.nxt+1)) [] []])++cap=ws) (sc:SCall P gl g ws none ((s.h.new (.dfr (some []))).new (.loop lp)) (.ret v) none h3)
  (hl:h3.ob (s.h.nxt+1)=some (.loop lp3)) (hb:lp3.state≠.busy) (hp:bKl lp3.pending=some x):
  SItem P gl fr (.code (.rangeFunc f ps as bd)) s x {s with df:=.collected s.h.nxt::s.df,h:=h3.put (s.h.nxt+1) (.loop {lp3 with state:=.exhausted})}:=by
 obtain⟨p1,p2,p3,p4,p5,p6,p7⟩:=hlp
 intro E F w0 w b tmps df cs k st
 have hro:b.roundOf=none:=by have:=st.fr.rnd;rw[hr]at this;exact this
 have rf:=aH st.gl st.tr hx hf
 cases hfv:evT tmps f<;>rw[hfv]at rf<;>cases rf
 rename_i fi cp ra rc
 obtain⟨E1,F1,e1,x1,l1,q1,m1⟩:=st.mr.bEc (.dfr (some [])) (.deferred (some [])) (by intro n e;cases e) fun E' hE'=>⟨[],by simp,.nil⟩
 let Lc:Loop:={state:=.ready,pending:=none,fn:=b.fn,tmps,params:=ps,assign:=as,body:=bd,defers:=w.heap.size}
 have hstrip:=st.tr.strip ht
 obtain⟨E2,F2,e2,x2,l2,q2,m2⟩:=m1.bEc (.loop lp) (.loop Lc) (by intro n e;cases e) fun E' hE'=>
  ⟨Lc,aRt _ _,p1.symm,p2.symm,by show b.fn=_;rw[p3];exact st.fr.fn,p5.symm,p6.symm,p7.symm,by rw[p4];exact(hstrip.mono x1.le (fun _ _ e=>e)).mono hE' (fun _ _ e=>e)⟩
 have hsz:(w.heap.push (.deferred (some []))).size=w.heap.size+1:=by simp
 have e1':=x2.le.ob _ _ e1
 have x12:=x1.trans x2
 have hn1:(s.h.new (.dfr (some []))).nxt=s.h.nxt+1:=rfl
 rw[hn1]at e2
 have rargs:ARs E2 ws ((fi++ #[Value.func (.yield (w.heap.size+1)) #[] #[]])++cp).toList:=by
  have hy:AR E2 (.fn (.yield (s.h.nxt+1)) [] []) (.func (.yield (w.heap.size+1)) #[] #[]):=by
   have:=AR.yld (E:=E2) (s.h.nxt+1) _ e2
   simpa using this
  rw[←hw]
  simp only[Array.toList_append]
  exact((ra.mono x12.le).append (.cons _ _ _ _ hy .nil)).append (rc.mono x12.le)
 let cf:=mkF b tmps (.inRangeFunc (w.heap.size+1)::k) ({target:=.collected w.heap.size,args:= #[]}::df)
 obtain⟨fn,hfn,hbd,hname⟩:=sc.fn
 obtain⟨E3,F3,w3,cs3,fr3,x3,l3,q3,m3,uk3,cse,hu,steps,z1,z2,z3,z4,hm,fn3,v',hfn3,hres,hav⟩:=sc.run E2 (vL F2 _) w0 _ _ .normal (cf::cs) rfl m2.enter (st.gl.mono x12.le) rargs rfl
 have hcs:cs3=cf::cs:=cse
 subst hcs
 have mX:=m2.exit x3.le q3 sc.lc m3
 have hs0:=aDk (P:=P) (w:=w) (k:=k) (cs:=cs) (df:=df) (ps:=ps) (as:=as) (bd:=bd) hro hfv hfn hbd hname
 have hleave:fr3.leaving P w3 (.returned v'):=⟨hm,z4,z2,fn3,hfn3,hres⟩
 have hs:=step_leave_returned (cs:=cs) (c:=cf) hleave
 have hfin:cf.finish v'=mkF b tmps (.endRangeFunc (w.heap.size+1)::k) ({target:=.collected w.heap.size,args:= #[]}::df):=rfl
 rw[hfin]at hs
 have hsteps:Steps P (lone (mkF b tmps (.code (.rangeFunc f ps as bd)::k) df) cs w) (lone (mkF b tmps (.endRangeFunc (w.heap.size+1)::k) ({target:=.collected w.heap.size,args:= #[]}::df)) cs w3):=
  .head hs0 (steps.trans (.one hs))
 have e3:=x3.le.ob _ _ e2
 have hgl:=mX.big hl (fun op cs e=>by cases e)
 obtain⟨L,k1,k2,k3,k4,k5,k6,k7,k8⟩:=mX.obj _ _ _ hl e3
 have k1':w3.heap[w.heap.size+1]? =some (.loop L):=by simpa using k1
 obtain⟨m4,x4⟩:=mX.put hl e3 hgl (new:=.loop {lp3 with state:=.exhausted}) (by intro n e;cases e) (Turn.set _ (.loop {L with state:=.exhausted}) w3)
  ⟨{L with state:=.exhausted},sO k1,rfl,k3,k4,k5,k6,k7,k8⟩
 have hend:(Instr.endLoop (w.heap.size+1)).run P w3=.ok lp3.pending {w3 with heap:=w3.heap.setIfInBounds (w.heap.size+1) (.loop {L with state:=.exhausted})}:=by
  have hbs:(L.state==LoopState.busy)=false:=by rw[k2];simpa using hb
  have hset:=oF (P:=P) k1' (fun _ _ _ e=>by cases e) (.loop {L with state:=.exhausted})
  rw[←k3]
  simp only[Instr.endLoop,Instr.getLoop,Sem.run_bind,lT k1',Result.andThen_ok,Sem.run_pure,hbs,Bool.false_eq_true,if_false,hset]
 have hs4:=aHi (b:=b) (tmps:=tmps) (df:={target:=.collected w.heap.size,args:= #[]}::df) (k:=k) (cs:=cs) hend
 have xall:=(x12.trans x3).trans x4
 have hloc:(lG F2 F3).loc=F.loc:=l2.trans l1
 have hprot:(lG F2 F3).prot=F.prot:=q2.trans q1
 have hmark:ADR E3 (.collected s.h.nxt) {target:=.collected w.heap.size,args:= #[]}:=.collected _ _ (x3.le.ob _ _ e1')
 have hblk:(w.heap.push (.deferred (some []))).size=w.heap.size+1:=by simp
 have st0:=st.mono (xall) hloc m4
 have stF:StR gl E3 (lG F2 F3) fr {s with df:=.collected s.h.nxt::s.df,h:=h3.put (s.h.nxt+1) (.loop {lp3 with state:=.exhausted})} b tmps ({target:=.collected w.heap.size,args:= #[]}::df) cs w0 _:=
  ⟨m4,st0.tr,.cons hmark st0.dr,st0.uk,st0.fr,st0.gl⟩
 have hwe:({w3 with heap:=w3.heap.setIfInBounds (w.heap.size+1) (.loop {L with state:=.exhausted})}:World)={w3 with heap:=w3.heap.setIfInBounds (w.heap.push (.deferred (some []))).size (.loop {L with state:=.exhausted})}:=by simp
 rw[hwe]at hs4
 refine⟨E3,lG F2 F3,tmps,_,cs,_,xall,hprot,stF,CS.refl st.uk,rfl,?_⟩
 have htot:=hsteps.trans (.one hs4)
 cases hpd:lp3.pending with
 |none=>
  rw[hpd]at hp htot
  cases hp
  show Steps _ _ _
  simpa using htot
 |some j=>
  rw[hpd]at hp htot
  cases j with
  |ret=>cases hp;exact⟨k,by simpa using htot⟩
  |exit id=>cases hp;exact⟨k,rfl,by simpa using htot⟩
  |_=>cases hp
def pX(nt:Nat):TM→List Nat→List V→Option TM
 |tm,[],[]=>some tm
 |tm,d::ds,v::vs=>match Nat.blt d nt with
  |true=>pX nt ((d,.v v)::tm) ds vs
  |false=>none
 |_,_,_=>none
theorem tZ{E:Env}{L:Nat→Option Place}{nt:Nat}:∀{ds:List Nat} {vs:List V} {tm tm':TM},pX nt tm ds vs=some tm'→∀{vs':List Value} {tmps:Array Value},ARs E vs vs'→TR E L nt tm tmps→
  vs'.length=ds.length∧TR E L nt tm' ((ds.zip vs').foldl (fun tmps (p:Nat×Value)=>tmps.setIfInBounds p.1 p.2) tmps)
 |[],[],tm,tm',h,vs',tmps,r,tr=>by simp[pX]at h;subst h;cases r;exact⟨rfl,tr⟩
 |d::ds,v::vs,tm,tm',h,vs',tmps,r,tr=>by
  simp only[pX]at h
  split at h
  ·rename_i hd
   cases r with
   |cons _ v' _ l' hv ht=>
    have tr2:TR E L nt ((d,.v v)::tm) (tmps.setIfInBounds d v'):=by
     have:=aDx (tm':=(d,.v v)::tm) (dst:=some d) tr (by simp only[bB,hd]) (.v _ _ hv)
     exact this
    obtain⟨a,b⟩:=tZ h ht tr2
    exact⟨by simp[a],b⟩
  ·cases h
 |[],_::_,_,_,h,_,_,_,_=>by simp[pX]at h
 |_::_,[],_,_,h,_,_,_,_=>by simp[pX]at h
def bBw:X→Option (Option Code)
 |.norm=>some none
 |.ret=>some (some .ret)
 |.exit id=>some (some (.exit id))
 |.panic _=>none
theorem SRound.of{l:Nat}{args:List V}{h h':H}{lp lp1 lp3:ALoop}{tm:TM}{s1 s2:S}{x:X}{j:Option Code}(hl:h.ob l=some (.loop lp))(hready:lp.state=.ready)(htm:pX lp.nt lp.tmps lp.params args=some tm)
  (hassign:SItem P gl ⟨lp.nt,some l,lp.fn⟩ (.code lp.assign) ⟨tm,[],none,{h with lc:=[]}⟩ .norm s1) (hdf1:s1.df=[]) (hl1:s1.h.ob l=some (.loop lp1)) (hr1:lp1.state=.ready) (ha1:lp1.body=lp.body)
  (hbody:SItem P gl ⟨lp.nt,some l,lp.fn⟩ (.code lp.body) {s1 with h:=s1.h.put l (.loop {lp1 with state:=.busy})} x s2) (hdf2:s2.df=[]) (hl3:s2.h.ob l=some (.loop lp3)) (hj:bBw x=some j)
  (hlc:h'.lc=h.lc) (hn:h.nxt≤h'.nxt) (hob:∀b,h'.nxt≤b→h'.ob b=none)
  (hob2:∀b,b<h'.nxt→h'.ob b=(s2.h.put l (.loop {lp3 with state:=if j.isNone then .ready else .done,pending:=j})).ob b)
  (href:∀b,b<h'.nxt→(h'.ob b=h.ob b∨∀o,h'.ob b=some o→iD h'.nxt o)):SRound P gl l args h (.ret (.bool j.isNone)) h':=by
 refine⟨hlc,?_⟩
 intro E F w0 w args' p c cs hF m g ra hE
 have hB:Bound E h.nxt:=fun k hk=>⟨(m.fresh k hk).1,(m.fresh k hk).2.2⟩
 obtain⟨L,k1,k2,k3,k4,k5,k6,k7,k8⟩:=m.obj l _ p hl hE
 obtain⟨hlen,trT⟩:=tZ htm ra k8
 let ts:Array Value:=(lp.params.zip args'.toList).foldl (fun tmps (p:Nat×Value)=>tmps.setIfInBounds p.1 p.2) L.tmps
 have hyield:(Instr.yield p.blk args').run P w=.ok (.round p.blk L.fn ts L.assign L.body) w:=by
  have hsz:args'.size=L.params.size:=by
   have:args'.toList.length=L.params.toList.length:=by rw[k5];exact hlen
   simpa using this
  simp only[Instr.yield,Instr.getLoop,Sem.run_bind,lT k1,Result.andThen_ok,Sem.run_pure,hsz,ne_eq,not_true,if_false]
  congr 2
  simp only[ts]
  rw[←k5,←Array.foldl_toList,Array.toList_zip]
 have hgl:=m.big hl (fun op cs e=>by cases e)
 let b:Frame:={(default:Frame)with fn:=L.fn,kind:=.normal,roundOf:=some p.blk}
 have hround:Frame.round p.blk L.fn ts L.assign L.body .normal=mkF b ts [.code L.assign,.beginRound,.code L.body] []:=rfl
 have m0:MR E F {h with lc:=[]} w0 w:=m.forget rfl (fun _ _ h=>h) (fun d p cs hp=>by rw[hF]at hp;cases hp)
 have st:StR gl E F ⟨lp.nt,some l,lp.fn⟩ ⟨tm,[],none,{h with lc:=[]}⟩ b ts [] (c::cs) w0 w:=⟨m0,by rw[hF];exact trT,.nil,rfl,⟨k4,rfl,p,hE,rfl⟩,g⟩
 obtain⟨E1,F1,t1,d1,c1,w1,x1,pr1,st1,cs1,us1,a5⟩:=hassign E F w0 w b ts [] (c::cs) [.beginRound,.code L.body] st
 have ec:c1=c::cs:=cs1
 subst ec
 have e1:=x1.le.ob _ _ hE
 obtain⟨L1,q1,q2,q3,q4,q5,q6,q7,q8⟩:=st1.mr.obj l _ p hl1 e1
 have hgl1:=st1.mr.big hl1 (fun op cs e=>by cases e)
 obtain⟨m2,x2⟩:=st1.mr.put hl1 e1 hgl1 (new:=.loop {lp1 with state:=.busy}) (by intro n e;cases e) (Turn.set p.blk (.loop {L1 with state:=.busy}) w1)
  ⟨{L1 with state:=.busy},sO q1,rfl,q3,q4,q5,q6,q7,q8⟩
 have hbegin:(Instr.beginRound p.blk).run P w1=.ok () {w1 with heap:=w1.heap.setIfInBounds p.blk (.loop {L1 with state:=.busy})}:=by
  have hst:L1.state=.ready:=by rw[q2];exact hr1
  have hset:=oF (P:=P) q1 (fun _ _ _ e=>by cases e) (.loop {L1 with state:=.busy})
  simp only[Instr.beginRound,Instr.getLoop,Sem.run_bind,lT q1,Result.andThen_ok,Sem.run_pure,hset,hst]
 have hd1:d1=[]:=by have:=st1.dr;rw[hdf1]at this;cases this;rfl
 subst hd1
 have hs1:=aWd (P:=P) (b:=b) (tmps:=t1) (k:=[.code L.body]) (cs:=c::cs) rfl hbegin
 have st2:StR gl E1 F1 ⟨lp.nt,some l,lp.fn⟩ {s1 with h:=s1.h.put l (.loop {lp1 with state:=.busy})} b t1 [] (c::cs) w0 _:=st1.mono x2 rfl m2
 obtain⟨E3,F3,t3,d3,c3,w3,x3,pr3,st3,cs3,us3,a6⟩:=hbody E1 F1 w0 _ b t1 [] (c::cs) [] st2
 have hu1:s1.u=none:=by cases hh:s1.u with|none=>rfl|some q=>rw[hh]at us1;cases us1
 have ec3:c3=c::cs:=by
  have:CS s1.u (c::cs) c3:=cs3
  rw[hu1]at this;exact this
 subst ec3
 have hd3:d3=[]:=by have:=st3.dr;rw[hdf2]at this;cases this;rfl
 subst hd3
 have e3:=x3.le.ob _ _ (x2.le.ob _ _ e1)
 obtain⟨L3,z1,z2,z3,z4,z5,z6,z7,z8⟩:=st3.mr.obj l _ p hl3 e3
 have hgl3:=st3.mr.big hl3 (fun op cs e=>by cases e)
 have pre:Steps P (lone (Frame.round p.blk L.fn ts L.assign L.body .normal) (c::cs) w) (lone (mkF b t1 [.code L.body] []) (c::cs) {w1 with heap:=w1.heap.setIfInBounds p.blk (.loop {L1 with state:=.busy})}):=by
  rw[hround,k6]
  exact Steps.trans a5 (.one hs1)
 obtain⟨m4,x4⟩:=st3.mr.put hl3 e3 hgl3 (new:=.loop {lp3 with state:=if j.isNone then .ready else .done,pending:=j}) (by intro n e;cases e) (Turn.set p.blk (.loop {L3 with state:=if j.isNone then .ready else .done,pending:=j}) w3)
  ⟨{L3 with state:=if j.isNone then .ready else .done,pending:=j},sO z1,rfl,rfl,z4,z5,z6,z7,z8⟩
 have hend:(Instr.endRound p.blk j).run P w3=.ok (.bool j.isNone) {w3 with heap:=w3.heap.setIfInBounds p.blk (.loop {L3 with state:=if j.isNone then .ready else .done,pending:=j})}:=by
  have hset:=oF (P:=P) z1 (fun _ _ _ e=>by cases e) (.loop {L3 with state:=if j.isNone then .ready else .done,pending:=j})
  simp only[Instr.endRound,Instr.getLoop,Sem.run_bind,lT z1,Result.andThen_ok,Sem.run_pure,hset]
 have x13:Ext E {h with lc:=[]} E3 (s2.h.put l (.loop {lp3 with state:=if j.isNone then .ready else .done,pending:=j})):=((x1.trans x2).trans x3).trans x4
 have mL:=m4.qH (L:=noL) (fun d p hp=>by cases hp)
 have mC:MR (E3.cut h'.nxt) {F3 with loc:=noL} ⟨h'.nxt,h'.ob,h'.lc⟩ w0 {w3 with heap:=w3.heap.setIfInBounds p.blk (.loop {L3 with state:=if j.isNone then .ready else .done,pending:=j})}:=by
  refine mL.cut rfl (Nat.le_trans m.glo hn) hob hob2 fun k o q hk ho hp=>?_
  rw[←hob2 k hk]at ho
  rcases href k hk with e|e
  ·rw[e]at ho
   have hlt:=m.mH ho
   have:E.ob k=some q:=by rw[←x13.old k hlt];exact hp
   exact ObjR.cut (fun i hi=>hB i (Nat.le_trans hn hi)) (m.obj k o q ho this)
  ·exact e o ho
 have cle:E.le (E3.cut h'.nxt):=by
  refine⟨fun k q hk=>?_,fun B i v hf=>x13.le.fz B i v hf,fun k n q hk=>?_⟩
  ·exact gQ (x13.le.ob k q hk) (Nat.lt_of_lt_of_le (hB.lt hk) hn)
  ·exact zI (x13.le.tk k n q hk) (Nat.lt_of_lt_of_le (hB.ltk hk) hn)
 have xC:Ext E h (E3.cut h'.nxt) h':=by
  refine⟨cle,fun k hk=>?_,hn,fun k o hk he ho hnt=>?_⟩
  ·simp only[Env.cut];rw[if_pos (by omega)];exact x13.old k hk
  ·rw[hob2 k (by omega)];exact x13.ghost k o hk he ho hnt
 have fin:∀(todo:List Item),((j=none∧todo=[])∨(j=some .ret∧∃k,todo=.code .ret::k)∨∃id k,j=some (.exit id)∧todo=.code (.exit id)::k∧exitTo id k=none)→
   Steps P (lone (Frame.round p.blk L.fn ts L.assign L.body .normal) (c::cs) w) (lone (mkF b t3 todo []) (c::cs) w3)→
   ∃f ts as bd E' F' w',(Instr.yield p.blk args').run P w=.ok (.round p.blk f ts as bd) w∧Ext E h E' h'∧F'.loc=noL∧F'.prot=F.prot∧MR E' F' h' w0 w'∧
    bLo P E' (.ret (.bool j.isNone)) (lone (Frame.round p.blk f ts as bd .normal) (c::cs) w) c cs w':=by
  intro todo ht hst
  have hov:=bAl (P:=P) (b:=b) (tmps:=t3) (c:=c) (cs:=cs) rfl rfl hend ht
  exact⟨L.fn,ts,L.assign,L.body,E3.cut h'.nxt,{F3 with loc:=noL},_,hyield,xC,rfl,pr3.trans pr1,mC,.bool j.isNone,.bool _,hst.trans (.one hov)⟩
 rw[←k7]at a6
 cases x with
 |norm=>cases hj;exact fin [] (.inl ⟨rfl,rfl⟩) (by have:=pre.trans a6;exact this)
 |ret=>cases hj;obtain⟨k',a6⟩:=a6;exact fin _ (.inr (.inl ⟨rfl,k',rfl⟩)) (pre.trans a6)
 |exit id=>
  cases hj
  obtain⟨k',e,a6⟩:=a6
  exact fin _ (.inr (.inr ⟨id,k',rfl,rfl,e⟩)) (pre.trans a6)
 |panic ch=>cases hj
end Go.VM
end
section
/- The machine of values: loops over functions, over listed memory. -/
namespace Go.VM
open Go.RowKit
variable{P:Program}{gl:List Nat}
def bDq(fr:Fr)(tm:TM)(ps:List Nat)(as bd:Code):ALoop:=⟨.ready,none,fr.fid,false,tm,fr.nt,ps,as,bd⟩
theorem WR.rng{fr:Fr}{x:RX}{ps:List Nat}{as bd:RC}{tm:TM}{df:List AD}{u:Option AMode}{nx:Nat}{ol:OL}{lc:LM}{g:FuncId}{first cap ws:List V}{QN:S→Prop}{QX:X→S→Prop}(tm2:TM)(hr:fr.rnd=none)(hf:rv gl tm x=some (.fn (.func g) first cap))(ht:TellT tm [] tm2)
  (hw:(first++[.fn (.yield (nx+1)) [] []])++cap=ws)
  (k:∀asC bdC,aE P asC=some as→aE P bdC=some bd→∃v nx3 ol3 lp3 x',SCall P gl g ws none ⟨nx+2,og (oset (oset ol nx (.dfr (some []))) (nx+1) (.loop (bDq fr tm2 ps asC bdC))),lc⟩ (.ret v) none ⟨nx3,og ol3,lc⟩∧
   og ol3 (nx+1)=some (.loop lp3)∧lp3.state≠.busy∧bKl lp3.pending=some x'∧Post QN QX x' (SL.toS ⟨tm,.collected nx::df,u,nx3,oset ol3 (nx+1) (.loop {lp3 with state:=.exhausted}),lc⟩)):
  WR P gl fr (.rng x ps as bd) (SL.toS ⟨tm,df,u,nx,ol,lc⟩) QN QX:=by
 intro c hc
 cases c with
 |rangeFunc f psA asC bdC=>
  simp only[aE]at hc
  split at hc
  ·rename_i x2 a2 b2 hx ha hb
   cases hc
   obtain⟨v,nx3,ol3,lp3,x',sc,hl,hbz,hp,hq⟩:=k asC bdC ha hb
   have e:((⟨nx,og ol,lc⟩:H).new (.dfr (some []))).new (.loop (bDq fr tm2 psA.toList asC bdC))=⟨nx+2,og (oset (oset ol nx (.dfr (some []))) (nx+1) (.loop (bDq fr tm2 psA.toList asC bdC))),lc⟩:=by
    rw[pG,pG]
   have si:=bAo (gl:=gl) (s:=SL.toS ⟨tm,df,u,nx,ol,lc⟩) (as:=asC) (bd:=bdC) (lp:=bDq fr tm2 psA.toList asC bdC) hr hx hf ⟨rfl,rfl,rfl,rfl,rfl,rfl,rfl⟩ ht.all hw (by
    have:(SL.toS ⟨tm,df,u,nx,ol,lc⟩).h=⟨nx,og ol,lc⟩:=rfl
    rw[this,e];exact sc) hl hbz hp
   refine WC.post si ?_
   have e2:(⟨nx3,og ol3,lc⟩:H).put (nx+1) (.loop {lp3 with state:=.exhausted})=⟨nx3,og (oset ol3 (nx+1) (.loop {lp3 with state:=.exhausted})),lc⟩:=rM ..
   have e3:({(SL.toS ⟨tm,df,u,nx,ol,lc⟩)with df:=AD.collected (SL.toS ⟨tm,df,u,nx,ol,lc⟩).h.nxt::(SL.toS ⟨tm,df,u,nx,ol,lc⟩).df,h:=(⟨nx3,og ol3,lc⟩:H).put ((SL.toS ⟨tm,df,u,nx,ol,lc⟩).h.nxt+1) (.loop {lp3 with state:=.exhausted})}:S)=
     SL.toS ⟨tm,.collected nx::df,u,nx3,oset ol3 (nx+1) (.loop {lp3 with state:=.exhausted}),lc⟩:=by
    show S.mk tm (.collected nx::df) u ((⟨nx3,og ol3,lc⟩:H).put (nx+1) _)=S.mk tm (.collected nx::df) u _
    rw[e2]
   rw[e3];exact hq
  ·cases hc
 |region id ops dr=>
  rcases dA hc with⟨_,os,_,e⟩|⟨_,e⟩
  ·cases e
  ·obtain⟨_,_,_,e⟩:=fQ e;cases e
 |skip=>simp only[aE]at hc;cases hc
 |label l=>simp only[aE]at hc;cases hc
 |seq a b=>simp only[aE]at hc;split at hc<;>cases hc
 |cond x a b=>simp only[aE]at hc;split at hc<;>cases hc
 |block id a=>simp only[aE,Option.map_eq_some_iff]at hc;obtain⟨_,_,e⟩:=hc;cases e
 |scope a=>simp only[aE,Option.map_eq_some_iff]at hc;obtain⟨_,_,e⟩:=hc;cases e
 |loop a=>simp only[aE,Option.map_eq_some_iff]at hc;obtain⟨_,_,e⟩:=hc;cases e
 |exit id=>simp only[aE]at hc;cases hc
 |ret=>simp only[aE]at hc;cases hc
 |_=>simp[aE]at hc
section
variable{fr:Fr}{QN:S→Prop}{QX:X→S→Prop}{ds:List Nat}{anc:Nat}{hs:List (RI×List RI)}{l:List RI}{r:RI}{tm tm1:TM}{df:List AD}{u:Option AMode}{nx:Nat}{ol:OL}{lc:LM}{es:List ER}
theorem WQ.aKw{x:RX}{as:List RX}{y:Nat}{vs:List V}{v:V}{nx':Nat}{ol':OL}(hr:r.ro=some (.call x as))(hw:aV r.gd tm=some true)(hx:rv gl tm x=some (.fn (.yield y) [] []))(hv:rvs gl tm as=some vs)
  (sc:SRound P gl y vs ⟨nx,og ol,lc⟩ (.ret v) ⟨nx',og ol',lc⟩) (hp:bB fr.nt tm r.dst (.v v)=some tm1)
  (h:WQ P gl fr l (SL.toS ⟨tm1,df,u,nx',ol',lc⟩) QN QX):WQ P gl fr (r::l) (SL.toS ⟨tm,df,u,nx,ol,lc⟩) QN QX:=by
 refine WQ.op (s:=SL.toS ⟨tm,df,u,nx,ol,lc⟩) hw (v:=.v v) (s2:=SL.toS ⟨tm,df,u,nx',ol',lc⟩) ?_ hp h
 rw[hr]
 intro o ho
 exact aQt (s:=SL.toS ⟨tm,df,u,nx,ol,lc⟩) (r:=.ret v) ho hx hv sc
end
def aSr(l:Nat)(lp:ALoop)(j:Option Code)(nx':Nat)(ol':OL)(s:S):Prop:=
 s.df=[]∧s.h.ob l=some (.loop {lp with state:=.busy})∧∀b,b<nx'→og ol' b=(s.h.put l (.loop {lp with state:=if j.isNone then .ready else .done,pending:=j})).ob b
theorem SRound.listed{l:Nat}{lp:ALoop}{as bd:RC}{args:List V}{tm tm1:TM}{nx nx1 nx':Nat}{ol ol1 ol':OL}{lc1:LM}{j:Option Code}(ha:aE P lp.assign=some as)(hb:aE P lp.body=some bd)(hl:og ol l=some (.loop lp))(hready:lp.state=.ready)
  (htm:pX lp.nt lp.tmps lp.params args=some tm) (hn:nx≤nx') (hol:olB nx' ol'=true) (hin:∀b,b<nx'→(og ol' b=og ol b∨∀o,og ol' b=some o→iD nx' o))
  (hw:WR P gl ⟨lp.nt,some l,lp.fn⟩ as (SL.toS ⟨tm,[],none,nx,ol,[]⟩) (fun s1=>s1.df=[]∧s1.u=none∧s1.h.ob l=some (.loop lp)∧
   WR P gl ⟨lp.nt,some l,lp.fn⟩ bd {s1 with h:=s1.h.put l (.loop {lp with state:=.busy})} (fun s2=>j=none∧aSr l lp none nx' ol' s2) (fun x s2=>x≠.norm∧bBw x=some j∧aSr l lp j nx' ol' s2)) (fun _ _=>False)):
  SRound P gl l args ⟨nx,og ol,[]⟩ (.ret (.bool j.isNone)) ⟨nx',og ol',[]⟩:=by
 rcases hw _ ha with⟨s1,si1,d1,u1,l1,hw2⟩|⟨_,_,_,_,f⟩
 ·have fin:∀x s2,SItem P gl ⟨lp.nt,some l,lp.fn⟩ (.code lp.body) {s1 with h:=s1.h.put l (.loop {lp with state:=.busy})} x s2→bBw x=some j→aSr l lp j nx' ol' s2→SRound P gl l args ⟨nx,og ol,[]⟩ (.ret (.bool j.isNone)) ⟨nx',og ol',[]⟩:=by
   intro x s2 si2 hj ⟨e1,e2,e3⟩
   exact SRound.of (h':=⟨nx',og ol',[]⟩) hl hready htm si1 d1 l1 hready rfl si2 e1 e2 hj rfl hn (dR hol) e3 hin
  rcases hw2 _ hb with⟨s2,si2,rfl,e⟩|⟨x,s2,_,si2,_,hj,e⟩
  ·exact fin .norm s2 si2 rfl e
  ·exact fin x s2 si2 hj e
 ·exact f.elim
inductive Coll:List AD→H→H→Prop where
 |nil {h:H}:Coll [] h h
 |cons {r:Nat} {df:List AD} {h h':H} (hb:h.ob r=some (.dfr (some []))) (next:Coll df (h.put r (.dfr none)) h'):Coll (.collected r::df) h h'
theorem Coll.leave{fn:Func}{tm:TM}{df:List AD}{u:Option AMode}{h h':H}{vs:List V}{v:V}(c:Coll df h h')(hv:rU P h' tm fn.results.toList=some vs)(hle:VLe (aDu vs) v):SLeave P gl fn tm df .ret u h (.ret v) u h':=by
 induction c with
 |nil=>exact SLeave.ret hv hle
 |cons hb _ ih=>exact SLeave.collected hb (ih hv)
def aQn(P:Program)(fn:Func)(v:V)(nx':Nat)(ol':OL)(s':S):Prop:=
 s'.u=none∧∃h1,Coll s'.df s'.h h1∧(∃vs,rU P h1 s'.tm fn.results.toList=some vs∧VLe (aDu vs) v)∧∀b,b<nx'→og ol' b=h1.ob b
theorem SCall.bCq{f:FuncId}{fn:Func}{rc:RC}{args:List V}{nx nx':Nat}{ol ol':OL}{v:V}(hfn:P.funcs[f]? =some fn)(hb:fn.body.bind (aE P)=some rc)(hname:(fn.name== "runtime.NumGoroutine")=false)
  (hle:Nat.ble args.length fn.ntmps=true) (hn:nx≤nx') (hol:olB nx' ol'=true) (hin:∀b,b<nx'→(og ol' b=og ol b∨∀o,og ol' b=some o→iD nx' o)) (hv:v.In (· <nx'))
  (hw:WR P gl ⟨fn.ntmps,none,f⟩ rc (SL.toS ⟨kV 0 args,[],none,nx,ol,[]⟩) (aQn P fn v nx' ol') (aAc (aQn P fn v nx' ol'))):
  SCall P gl f args none ⟨nx,og ol,[]⟩ (.ret v) none ⟨nx',og ol',[]⟩:=by
 cases hbd:fn.body with
 |none=>rw[hbd]at hb;cases hb
 |some body=>
  rw[hbd]at hb
  have fin:∀(x:X) (s':S),SItem P gl ⟨fn.ntmps,none,f⟩ (.code body) (SL.toS ⟨kV 0 args,[],none,nx,ol,[]⟩) x s'→(x=.norm∨x=.ret)→aQn P fn v nx' ol' s'→SCall P gl f args none ⟨nx,og ol,[]⟩ (.ret v) none ⟨nx',og ol',[]⟩:=by
   intro x s' hi hx ⟨hu,h1,hc,⟨vs,g1,g2⟩,g3⟩
   have hlv:SLeave P gl fn s'.tm s'.df .ret s'.u s'.h (.ret v) none h1:=by rw[hu];exact hc.leave g1 g2
   refine SCall.of (h:=⟨nx,og ol,[]⟩) (h':=⟨nx',og ol',[]⟩) (h1:=h1) (md:=.ret) (u':=none) hfn hbd hname hle hi (.inl ⟨hx,rfl⟩) hlv rfl hn (dR hol) g3 (fun _=>⟨fun b hb=>?_,hv.bL,trivial⟩)
   have e:=g3 b hb
   rcases hin b hb with q|q
   ·exact .inl (e.symm.trans q)
   ·exact .inr fun o ho=>q o (e.trans ho)
  rcases hw body hb with⟨s',h1,h2⟩|⟨x,s',hx,h1,h2⟩
  ·exact fin .norm s' h1 (.inl rfl) h2
  ·cases x with
   |ret=>exact fin .ret s' h1 (.inr rfl) h2
   |norm=>exact absurd rfl hx
   |exit id=>exact h2.elim
   |panic ch=>exact h2.elim
abbrev RI.mv(s d:Nat):RI:=⟨0,0,some (.mv (.t s)),[],some d,none⟩
abbrev RI.op(r:RO)(d:Nat):RI:=⟨0,0,some r,[],some d,none⟩
end Go.VM
end
section
/- The machine of values: rows that grow and are changed: appends to a slice over an object that nobody else has. -/
namespace Go.VM
open Go.RowKit
variable{P:Program}
theorem aWh(h:H)(b:Nat)(o:Obj)(k:Nat):((h.kill b).new o).ob k=if k=h.nxt then some o else if k=b then none else h.ob k:=rfl
theorem MR.bJf{E:Env}{F:Fx}{h:H}{w0 w:World}(m:MR E F h w0 w){b:Nat}{o:Obj}{p:Place}(hb:h.ob b=some o)(hp:E.ob b=some p)(hg:aC≤b)(hnt:∀n,o≠.tok n):
  MR (gS E h.nxt p) {F with own:=bQ F.own p.blk (.ob h.nxt)} ((h.kill b).new o) w0 w∧Ext E h (gS E h.nxt p) ((h.kill b).new o):=by
 obtain⟨f1,f2,f3⟩:=m.fresh h.nxt (Nat.le_refl _)
 obtain⟨hown,hw0⟩:=m.oOb b o p hg hb hp
 have hlt:=m.lt hb hp
 have hbn:=m.mH hb
 have hle:=qG (p:=p) f1
 have hob:∀k o',((h.kill b).new o).ob k=some o'→(k=h.nxt∧o'=o)∨(k≠h.nxt∧k≠b∧h.ob k=some o'):=by
  intro k o' hk
  rw[aWh]at hk
  split at hk
  ·rename_i e;cases hk;exact .inl ⟨e,rfl⟩
  ·rename_i e
   split at hk
   ·cases hk
   ·rename_i e2;exact .inr ⟨e,e2,hk⟩
 have hup:∀k q,(gS E h.nxt p).ob k=some q→(k=h.nxt∧q=p)∨(k≠h.nxt∧E.ob k=some q):=by
  intro k q hk
  simp only[gS]at hk
  split at hk
  ·rename_i e;cases hk;exact .inl ⟨e,rfl⟩
  ·rename_i e;exact .inr ⟨e,hk⟩
 have hne:∀B,F.own B≠.ob b→bQ F.own p.blk (.ob h.nxt) B=F.own B:=by
  intro B hB
  unfold bQ
  rw[if_neg]
  rintro rfl;exact hB hown
 refine⟨⟨m.below,fun k hk=>?_,Nat.le_succ_of_le m.glo,fun k o' hk ho=>?_,fun k q hk hq=>?_,fun B hB=>?_,fun k o' q hk hq=>?_,fun k o' q hk' hk hq=>?_,m.fz,fun B i v hf hB=>?_,fun k n q hk hq=>?_,fun k n n' hk hn=>?_,fun k n hk=>?_,fun d q hq=>?_,fun B x hx=>?_⟩,hle,fun k hk=>?_,Nat.le_succ _,fun k o' hk he ho hn=>?_⟩
 ·have hk:h.nxt+1≤k:=hk
  obtain⟨a1,a2,a3⟩:=m.fresh k (by omega)
  refine⟨?_,?_,a3⟩
  ·simp only[gS];rw[if_neg (by omega)];exact a1
  ·rw[aWh,if_neg (by omega)];split<;>first|rfl|exact a2
 ·rcases hob k o' ho with⟨rfl,_⟩|⟨_,_,h2⟩
  ·have:=m.glo;omega
  ·exact m.glb k o' hk h2
 ·rcases hup k q hq with⟨rfl,_⟩|⟨_,h2⟩
  ·have:=m.glo;omega
  ·exact m.gbl k q hk h2
 ·by_cases e:B=p.blk
  ·subst e;exact hlt
  ·have hB:bQ F.own p.blk (.ob h.nxt) B≠.no:=hB
   unfold bQ at hB;rw[if_neg e]at hB;exact m.lto B hB
 ·rcases hob k o' hk with⟨rfl,rfl⟩|⟨e1,_,h2⟩
  ·rcases hup _ q hq with⟨_,rfl⟩|⟨e,_⟩
   ·exact(m.obj b o' q hb hp).mono hle
   ·exact absurd rfl e
  ·rcases hup _ q hq with⟨e,_⟩|⟨_,h3⟩
   ·exact absurd e e1
   ·exact(m.obj k o' q h2 h3).mono hle
 ·rcases hob k o' hk with⟨rfl,rfl⟩|⟨e1,e2,h2⟩
  ·rcases hup _ q hq with⟨_,rfl⟩|⟨e,_⟩
   ·exact⟨by show bQ F.own q.blk _ q.blk=_;unfold bQ;rw[if_pos rfl],hw0⟩
   ·exact absurd rfl e
  ·rcases hup _ q hq with⟨e,_⟩|⟨_,h3⟩
   ·exact absurd e e1
   ·obtain⟨a1,a2⟩:=m.oOb k o' q hk' h2 h3
    exact⟨(hne _ (by rw[a1];intro z;cases z;exact e2 rfl)).trans a1,a2⟩
 ·show bQ F.own p.blk (.ob h.nxt) B=.fz∨(∃b',bQ F.own p.blk (.ob h.nxt) B=.tk b')∨∃k',bQ F.own p.blk (.ob h.nxt) B=.pr (some k')∧i<k'
  rw[hne]
  ·exact m.oFz B i v hf hB
  ·rcases m.oFz B i v hf hB with g|⟨b',g⟩|⟨k',g,_⟩<;>rw[g]<;>simp
 ·rcases hob k _ hk with⟨rfl,e⟩|⟨_,_,h2⟩
  ·exact absurd e.symm (hnt n)
  ·obtain⟨a1,a2,a3,a4⟩:=m.tok k n q h2 hq
   exact⟨(hne _ (by rw[a1];simp)).trans a1,a2,a3,a4⟩
 ·rcases hob k _ hk with⟨rfl,e⟩|⟨_,_,h2⟩
  ·exact absurd e.symm (hnt n)
  ·exact m.tokn k n n' h2 hn
 ·rcases hob k _ hk with⟨rfl,e⟩|⟨e1,_,h2⟩
  ·exact absurd e.symm (hnt n)
  ·simp only[gS];rw[if_neg e1];exact m.toko k n h2
 ·obtain⟨a1,a2,cs,a3,a4⟩:=m.loc d q hq
  exact⟨(hne _ (by rw[a1];simp)).trans a1,a2,cs,a3,a4.mono hle⟩
 ·obtain⟨a1,a2⟩:=m.prot B x hx
  exact⟨a1,(hne _ (by rw[a2];simp)).trans a2⟩
 ·simp only[gS];rw[if_neg (by omega)]
 ·rw[aWh,if_neg (by have:=m.mH ho;omega),if_neg]
  ·exact ho
  ·rintro rfl;rw[he]at hp;cases hp
theorem CellsR.grow{E:Env}{cs vs:List V}{vs':List Value}{p:Place}{w:World}(r:CellsR E cs p w)(hfit:cs.length+vs.length≤p.ext)(hall:vs.all V.aW=true)(hv:ARs E vs vs'):
  (storeCells ⟨p.blk,p.off+cs.length,none⟩ vs').run P w=.ok () (w.setCells p.blk (p.off+cs.length) vs')∧CellsR E (cs++vs) p (w.setCells p.blk (p.off+cs.length) vs'):=by
 obtain⟨c,el,lo,hi,h1,h2,h3,h4,h5⟩:=r
 have hlen:=hv.length
 have hone:∀v∈vs',v.oneCell'=true:=by
  intro v hmem
  obtain⟨i,hi⟩:=List.mem_iff_getElem?.1 hmem
  have hilt:i<vs.length:=by rw[hlen];exact(List.getElem?_eq_some_iff.1 hi).1
  obtain⟨v',hv',ha⟩:=hv.get i vs[i] (by simp)
  rw[hi]at hv';cases hv'
  exact ha.aEv ((List.all_eq_true.1 hall) vs[i] (List.getElem_mem _))
 have hin:∀j,j<vs'.length→p.off+cs.length+j<c.size:=by intro j hj;omega
 have hcell:∀j,j<vs'.length→(w.cell? ⟨p.blk,p.off+cs.length+0+j,none⟩).isSome=true:=by
  intro j hj;rw[tW h1];have:=hin j hj;simp;omega
 have hfr:∀j,j<vs'.length→w.frozen? ⟨p.blk,p.off+cs.length+0+j,none⟩=false:=by
  intro j hj;exact vR h1 h2 _ (by have:=hin j hj;omega)
 have hrun:=run_storeCells_cells (P:=P) p.blk (p.off+cs.length) vs' 0 w hcell hfr hone
 refine⟨hrun,?_⟩
 refine⟨eI c (p.off+cs.length) vs',el,lo,hi,jP _ _ _ _ _ _ _ h1,fun i hi=>h2 i (by rwa[eL]at hi),by rw[eL];exact h3,by simp;omega,fun i v hv'=>?_⟩
 by_cases hi1:i<cs.length
 ·have:cs[i]? =some v:=by rwa[List.getElem?_append_left hi1]at hv'
  obtain⟨a1,v',a2,a3⟩:=h5 i v this
  exact⟨a1,v',by rw[fE _ _ _ _ (by omega)];exact a2,a3⟩
 ·rw[List.getElem?_append_right (by omega)]at hv'
  obtain⟨v',b1,b2⟩:=hv.get (i-cs.length) v hv'
  have hi2:i-cs.length<vs'.length:=(List.getElem?_eq_some_iff.1 b1).1
  refine⟨(List.all_eq_true.1 hall) v (List.mem_of_getElem? hv'),v',?_,b2⟩
  have:=kS vs' c (p.off+cs.length) (i-cs.length) hi2 (hin _ hi2)
  rw[show p.off+cs.length+(i-cs.length)=p.off+i by omega]at this
  rw[this,b1]
section
variable{gl:List Nat}{nt:Nat}{tm:TM}{h:H}
theorem MR.row{E:Env}{F:Fx}{w0 w:World}(m:MR E F h w0 w){cs:List V}{c c2:Array Value}{el:TypeId}{ext:Nat}(r:ARs E cs c.toList)(hc:cs.all V.aW=true)(h1:cs.length≤ext)(h2:ext≤c2.size)(h3:∀i,i<cs.length→c2[i]? =c[i]?):
  MR (gS E h.nxt ⟨w.heap.size,0,ext⟩) {F with own:=bQ F.own w.heap.size (.ob h.nxt)} (h.new (.cells true cs)) w0 {w with heap:=w.heap.push (.cells c2 el (0,0))}∧Ext E h (gS E h.nxt ⟨w.heap.size,0,ext⟩) (h.new (.cells true cs)):=by
 obtain⟨m1,x1,hEb,hget⟩:=m.ghost (.cells true cs) (fun n e=>by cases e)
 have hle:=qG (p:=⟨w.heap.size,0,ext⟩) hEb
 have hobj:CellsR (gS E h.nxt ⟨w.heap.size,0,ext⟩) cs ⟨w.heap.size,0,ext⟩ {w with heap:=w.heap.push (.cells c2 el (0,0))}:=gB (r.mono hle) hc el ext h1 c2 h2 h3 0 0 (fun i _ z=>by omega)
 refine⟨m1.place hget hEb m.glo (fun n e=>by cases e) _ rfl hobj,⟨hle,fun k hk=>?_,x1.nxt,fun k o hk he ho hn=>x1.ghost k o hk he ho hn⟩⟩
 simp only[gS];rw[if_neg (by omega)]
theorem aZd{o:Oper}{x y:RX}{sz bytes:Nat}{z:List V}{ns:List (List V)}(ho:rop P o=some (.app x y sz bytes z))(hx:rv gl tm x=some (.lst [] (.ex 0)))(hy:NewEs gl tm h y sz ns)(h0:0<ns.length)(hlim:bytes*ns.length≤lim):
  Does P gl nt tm h o (.v (.sl h.nxt 0 ns.length (.op sz))) (h.new (.cells true ns.flatten)):=by
 obtain⟨dst,ty,pos,after,guard,args,argTypes,rfl,hxs,T⟩:=qV ho
 obtain⟨vy,hvy⟩:=hy.val
 intro E F w0 w tmps m hg r
 obtain⟨s',y',harr,rs,ry⟩:=nD hg r hxs hx hvy
 obtain⟨A,cap,rfl,hle,hc⟩:=kG rs
 have hck:cap=0:=hc _ rfl
 subst hck
 have md:=m.drawn (w.drawn+1)
 obtain⟨hl,cn0,hcn0,_⟩:=hy.sound (P:=P) m hvy ry
 obtain⟨hl',cn,hcn,rn,hnall⟩:=hy.sound (P:=P) md hvy ry
 have lcn:cn.size=ns.length*sz:=by have:=rn.length;rw[fW hy.len,Array.length_toList]at this;exact this.symm
 obtain⟨co,hco,rc,hcall⟩:=uX (P:=P) (sz:=sz) md rs (fun e h=>by cases h)
 have lco:co.size=([]:List (List V)).length*sz:=by have:=rc.length;simp at this;simp[←this]
 obtain⟨el,nc,rest,h1,h2,h3⟩:=kT (ty:=ty) T hl (by simp;omega) (by simpa using hlim) hco hcn lco lcn
 have hco0:co= #[]:=by apply Array.eq_empty_of_size_eq_zero;simpa using lco
 subst hco0
 simp only[List.length_nil,Nat.zero_add,Array.empty_append]at h1 h2 h3
 obtain⟨m1,x1⟩:=md.row (c2:=cn++rest) (el:=el) (ext:=nc*sz) rn hnall (by rw[fW hy.len];exact Nat.mul_le_mul_right _ h1) (by rw[h2];exact Nat.le_refl _) (fun i hi=>by
  rw[fW hy.len]at hi
  exact Array.getElem?_append_left (by rw[lcn];exact hi))
 exact⟨_,{F with own:=bQ F.own w.heap.size (.ob h.nxt)},_,_,_,by rw[bX,harr];exact hC h3,.inl rfl,x1,rfl,rfl,m1,.v _ _ (.slo _ 0 _ _ ⟨w.heap.size,0,nc*sz⟩ nc (by simp[gS]) (by simp) h1)⟩
theorem bCw{o:Oper}{x y:RX}{sz bytes b n:Nat}{opn:Bool}{z cs:List V}{ns:List (List V)}(ho:rop P o=some (.app x y sz bytes z))(hx:rv gl tm x=some (.sl b 0 n (.op sz)))(hb:h.ob b=some (.cells opn cs))(hgb:aC≤b)(hlen:cs.length=n*sz)(hn0:0<n)(hy:NewEs gl tm h y sz ns)(h0:0<ns.length)(hlim:bytes*(n+ns.length)≤lim):
  Does P gl nt tm h o (.v (.sl h.nxt 0 (n+ns.length) (.op sz))) ((h.kill b).new (.cells true (cs++ns.flatten))):=by
 obtain⟨dst,ty,pos,after,guard,args,argTypes,rfl,hxs,T⟩:=qV ho
 obtain⟨vy,hvy⟩:=hy.val
 intro E F w0 w tmps m hg r
 obtain⟨s',y',harr,rs,ry⟩:=nD hg r hxs hx hvy
 have hs0:=T.s0
 cases rs with
 |sl0=>omega
 |slo _ _ _ _ p c hE hext hnc=>
  have hfl:=fW hy.len
  by_cases hroom:n+ns.length≤c
  ·obtain⟨hl,cn,hcn,rn,hnall⟩:=hy.sound (P:=P) m hvy ry
   have hobj:CellsR E cs p w:=m.obj b _ p hb hE
   have hfit:cs.length+ns.flatten.length≤p.ext:=by
    rw[hlen,hfl,←Nat.add_mul,←hext,Nat.zero_add];exact Nat.mul_le_mul_right _ hroom
   obtain⟨q1,q2⟩:=hobj.grow (P:=P) hfit hnall rn
   obtain⟨m1,x1⟩:=m.put (new:=.cells true (cs++ns.flatten)) hb hE hgb (fun n e=>by cases e) (Turn.setCells _ _ _ _) q2
   obtain⟨m2,x2⟩:=m1.bJf (b:=b) (o:=.cells true (cs++ns.flatten)) (by simp[H.put]) hE hgb (fun n e=>by cases e)
   have e:((h.put b (.cells true (cs++ns.flatten))).kill b).new (.cells true (cs++ns.flatten))=(h.kill b).new (.cells true (cs++ns.flatten)):=by
    simp only[H.new,H.kill,H.put]
    congr 1
    funext k
    by_cases e1:k=b
    ·simp[e1]
    ·simp[e1]
   rw[e]at m2 x2
   have hrun:=jW (ty:=ty) T (base:=some ⟨p.blk,p.off+0,none⟩) (sl:=n) (n:=ns.length) (cap:=c) hl hcn hroom (w':=w.setCells p.blk (p.off+cs.length) cn.toList) (by
    show(storeCells (Addr.add _ _) _).run P w=_
    rw[add_zero,Nat.add_zero,←hlen];exact q1)
   exact⟨_,{F with own:=bQ F.own p.blk (.ob h.nxt)},_,_,_,by rw[bX,harr];exact hC hrun,.inl rfl,x1.trans x2,rfl,rfl,m2,.v _ _ (.slo _ _ _ _ p c (by simp[gS,H.put]) hext hroom)⟩
  ·have md:=m.drawn (w.drawn+1)
   obtain⟨hl,cn0,hcn0,_⟩:=hy.sound (P:=P) m hvy ry
   obtain⟨hl',cn,hcn,rn,hnall⟩:=hy.sound (P:=P) md hvy ry
   have lcn:cn.size=ns.length*sz:=by have:=rn.length;rw[hfl,Array.length_toList]at this;exact this.symm
   obtain⟨l',g1,g2,g3,g4,g5⟩:=(CellsR.seen (show CellsR E cs p _ from md.obj b _ p hb hE)).read (P:=P) (qE hlen)
   have lco:l'.toArray.size=n*sz:=by rw[←g3,g2.length];simp
   obtain⟨el,nc,rest,h1,h2,h3⟩:=kT (ty:=ty) T hl (by omega) hlim (base:=some ⟨p.blk,p.off+0,none⟩) (cap:=c) (co:=l'.toArray) (by simpa [Builtin.firstCells] using g1) hcn lco lcn
   have kx:=aJg md (b:=b) (.inl ⟨p,hE⟩)
   obtain⟨m1,x1⟩:=(md.aUb b).row (cs:=cs++ns.flatten) (c:=l'.toArray++cn) (c2:=l'.toArray++cn++rest) (el:=el) (ext:=nc*sz) (by
     rw[Array.toList_append];exact g2.append rn) (by rw[List.all_append,g4,hnall];rfl) (by rw[List.length_append,hlen,hfl,←Nat.add_mul];exact Nat.mul_le_mul_right _ h1) (by rw[h2];exact Nat.le_refl _) (fun i hi=>by
    rw[List.length_append,hlen,hfl]at hi
    exact Array.getElem?_append_left (by rw[Array.size_append,lco,lcn];exact hi))
   exact⟨_,{F with own:=bQ F.own w.heap.size (.ob h.nxt)},_,_,_,by rw[bX,harr];exact hC h3,.inl rfl,kx.trans x1,rfl,rfl,m1,.v _ _ (.slo _ 0 _ _ ⟨w.heap.size,0,nc*sz⟩ nc (by simp[gS,H.kill]) (by simp) h1)⟩
theorem aDn{x lo hi:RX}{k k2:IntKind}{s:List Nat}{a c:Nat}(hx:rv gl tm x=some (.str s))(hlo:rv gl tm lo=some (.int k a))(hhi:rv gl tm hi=some (.int k2 c))(h1:a≤c)(h2:c≤s.length):
  cG P gl nt tm h (some (.slc .str x (some lo) (some hi) none)) (.v (.str ((s.drop a).take (c-a)))):=by
 refine bJ ?_
 have e1:rvo gl tm (some lo)=some (some (.int k a)):=by simp[rvo,hlo]
 have e2:rvo gl tm (some hi)=some (some (.int k2 c)):=by simp[rvo,hhi]
 have e3:rvo gl tm none=some none:=rfl
 simp only[eM,rl,hx,e1,e2,e3]
 simp[sJ,nat?,iP,h1,h2]
theorem aYu{x hi:RX}{k2:IntKind}{s:List Nat}{c:Nat}(hx:rv gl tm x=some (.str s))(hhi:rv gl tm hi=some (.int k2 c))(h2:c≤s.length):
  cG P gl nt tm h (some (.slc .str x none (some hi) none)) (.v (.str (s.take c))):=by
 refine bJ ?_
 have e2:rvo gl tm (some hi)=some (some (.int k2 c)):=by simp[rvo,hhi]
 have e3:rvo gl tm none=some none:=rfl
 simp only[eM,rl,hx,e2,e3]
 simp[sJ,nat?,iP,h2]
end
theorem Ext.fI{E E':Env}{h h':H}(x:Ext E h E' h')(l l':LM):Ext E {h with lc:=l} E' {h' with lc:=l'}:=⟨x.le,x.old,x.nxt,x.ghost⟩
theorem MR.fI{E:Env}{F:Fx}{h:H}{w0 w:World}(m:MR E F h w0 w)(hF:F.loc=noL)(l:LM):MR E F {h with lc:=l} w0 w:=
 m.forget rfl (fun _ _ h=>h) (fun d p cs hp=>by rw[hF]at hp;cases hp)
theorem SRound.fI{gl:List Nat}{l:Nat}{args:List V}{h h':H}{r:AEnd}(s:SRound P gl l args h r h')(lc:LM):SRound P gl l args {h with lc:=lc} r {h' with lc:=lc}:=by
 refine⟨rfl,fun E F w0 w args' p c cs hF m g ra hE=>?_⟩
 obtain⟨f,ts,a,bd,E',F',w',a1,a2,a3,a4,a5,a6⟩:=s.run E F w0 w args' p c cs hF (m.fI hF h.lc) g ra hE
 exact⟨f,ts,a,bd,E',F',w',a1,a2.fI lc lc,a3,a4,a5.fI a3 lc,a6⟩
theorem SCall.fI{gl:List Nat}{f:FuncId}{args:List V}{u u':Option AMode}{h h':H}{r:AEnd}(s:SCall P gl f args u h r u' h')(lc:LM):SCall P gl f args u {h with lc:=lc} r u' {h' with lc:=lc}:=by
 refine⟨rfl,s.fn,fun E F w0 w args' kind cs hF m g ra hu=>?_⟩
 obtain⟨E',F',w',cs',fr',a1,a2,a3,a4,a5,a6,a7,a8,a9⟩:=s.run E F w0 w args' kind cs hF (m.fI hF h.lc) g ra hu
 exact⟨E',F',w',cs',fr',a1.fI lc lc,a2,a3,a4.fI a2 lc,a5,a6,a7,a8,a9⟩
theorem SCall.bBx{ι:Type}{gl:List Nat}{f:FuncId}{fn:Func}{rc:RC}{args:List V}{nx:Nat}{ol:OL}{nx':ι→Nat}{ol':ι→OL}{v:ι→V}(hfn:P.funcs[f]? =some fn)(hb:fn.body.bind (aE P)=some rc)(hname:(fn.name== "runtime.NumGoroutine")=false)
  (hle:Nat.ble args.length fn.ntmps=true) (hn:∀i,nx≤nx' i) (hol:∀i,olB (nx' i) (ol' i)=true) (hin:∀i b,b<nx' i→(og (ol' i) b=og ol b∨∀o,og (ol' i) b=some o→iD (nx' i) o)) (hv:∀i,(v i).In (· <nx' i))
  (hw:WR P gl ⟨fn.ntmps,none,f⟩ rc (SL.toS ⟨kV 0 args,[],none,nx,ol,[]⟩) (fun s=>∃i,aQn P fn (v i) (nx' i) (ol' i) s) (aAc fun s=>∃i,aQn P fn (v i) (nx' i) (ol' i) s)):
  ∃i,SCall P gl f args none ⟨nx,og ol,[]⟩ (.ret (v i)) none ⟨nx' i,og (ol' i),[]⟩:=by
 cases hbd:fn.body with
 |none=>rw[hbd]at hb;cases hb
 |some body=>
  rw[hbd]at hb
  have fin:∀(x:X) (s':S) (i:ι),SItem P gl ⟨fn.ntmps,none,f⟩ (.code body) (SL.toS ⟨kV 0 args,[],none,nx,ol,[]⟩) x s'→(x=.norm∨x=.ret)→aQn P fn (v i) (nx' i) (ol' i) s'→SCall P gl f args none ⟨nx,og ol,[]⟩ (.ret (v i)) none ⟨nx' i,og (ol' i),[]⟩:=by
   intro x s' i hi hx ⟨hu,h1,hc,⟨vs,g1,g2⟩,g3⟩
   have hlv:SLeave P gl fn s'.tm s'.df .ret s'.u s'.h (.ret (v i)) none h1:=by rw[hu];exact hc.leave g1 g2
   refine SCall.of (h:=⟨nx,og ol,[]⟩) (h':=⟨nx' i,og (ol' i),[]⟩) (h1:=h1) (md:=.ret) (u':=none) hfn hbd hname hle hi (.inl ⟨hx,rfl⟩) hlv rfl (hn i) (dR (hol i)) g3 (fun _=>⟨fun b hb=>?_,(hv i).bL,trivial⟩)
   have e:=g3 b hb
   rcases hin i b hb with q|q
   ·exact .inl (e.symm.trans q)
   ·exact .inr fun o ho=>q o (e.trans ho)
  rcases hw body hb with⟨s',h1,i,h2⟩|⟨x,s',hx,h1,h2⟩
  ·exact⟨i,fin .norm s' i h1 (.inl rfl) h2⟩
  ·cases x with
   |ret=>obtain⟨i,h2⟩:=h2;exact⟨i,fin .ret s' i h1 (.inr rfl) h2⟩
   |norm=>exact absurd rfl hx
   |exit id=>exact h2.elim
   |panic ch=>exact h2.elim
theorem SCall.drop{gl:List Nat}{f:FuncId}{args:List V}{u u':Option AMode}{h h' h2:H}{r:AEnd}(s:SCall P gl f args u h r u' h')(hn:h2.nxt=h'.nxt)(hlc:h2.lc=h'.lc)(ho:∀b o,h2.ob b=some o→h'.ob b=some o)(hk:∀b,b<h.nxt→h2.ob b=h'.ob b):SCall P gl f args u h r u' h2:=by
 refine⟨hlc.trans s.lc,s.fn,fun E F w0 w args' kind cs hF m g ra hu=>?_⟩
 obtain⟨E',F',w',cs',fr',a1,a2,a3,a4,a5⟩:=s.run E F w0 w args' kind cs hF m g ra hu
 refine⟨E',F',w',cs',fr',⟨a1.le,a1.old,by rw[hn];exact a1.nxt,fun b o hb he h1 h3=>by rw[hk b hb];exact a1.ghost b o hb he h1 h3⟩,a2,a3,a4.forget hn ho (fun d p cs hp=>by rw[a2]at hp;cases hp),a5⟩
end Go.VM
end
section
/- The machine of values: a row that is changed no more becomes a list. -/
namespace Go.VM
open Go.RowKit
variable{P:Program}
theorem MR.freeze{E:Env}{F:Fx}{h:H}{w0 w:World}(m:MR E F h w0 w){b:Nat}{op:Bool}{cs:List V}{p:Place}(hb:h.ob b=some (.cells op cs))(hp:E.ob b=some p)(hg:aC≤b):
  ∃E2 F2,E.le E2∧(∀k,E2.ob k=E.ob k)∧F2.loc=F.loc∧F2.prot=F.prot∧FZ E2 p.blk p.off cs∧MR E2 F2 (h.kill b) w0 w:=by
 obtain⟨hown,hw0⟩:=m.oOb b _ p hg hb hp
 have hlt:=m.lt hb hp
 obtain⟨c,el,lo,hi,h1,h2,h3,h4,h5⟩:CellsR E cs p w:=m.obj b _ p hb hp
 let E2:Env:={E with fz:=fun B i=>if B=p.blk∧p.off≤i∧i<p.off+cs.length then c[i]? else E.fz B i}
 have hno:∀i v,E.fz p.blk i=some v→False:=fun i v hf=>by
  rcases m.oFz _ _ _ hf hw0 with g|⟨b',g⟩|⟨k,g,_⟩<;>rw[hown]at g<;>cases g
 have hle:E.le E2:=⟨fun _ _ h=>h,fun B i v hf=>by
  show(if _ then _ else _)=_
  rw[if_neg]
  ·exact hf
  ·rintro⟨rfl,_⟩;exact hno i v hf,fun _ _ _ h=>h⟩
 have hne:∀B,F.own B≠.ob b→bQ F.own p.blk .fz B=F.own B:=by
  intro B hB
  unfold bQ
  rw[if_neg]
  rintro rfl;exact hB hown
 have hob:∀k o',(h.kill b).ob k=some o'→k≠b∧h.ob k=some o':=by
  intro k o' hk
  simp only[H.kill]at hk
  split at hk
  ·cases hk
  ·rename_i e;exact⟨e,hk⟩
 refine⟨E2,{F with own:=bQ F.own p.blk .fz},hle,fun _=>rfl,rfl,rfl,FZ.eY fun i v hv=>?_,⟨m.below,fun k hk=>?_,m.glo,fun k o' hk ho=>m.glb k o' hk (hob k o' ho).2,m.gbl,fun B hB=>?_,fun k o' q hk hq=>(m.obj k o' q (hob k o' hk).2 hq).mono hle,fun k o' q hk' hk hq=>?_,fun B i v hf=>?_,fun B i v hf hB=>?_,fun k n q hk hq=>?_,fun k n n' hk hn=>m.tokn k n n' (hob k _ hk).2 hn,fun k n hk=>m.toko k n (hob k _ hk).2,fun d q hq=>?_,fun B x hx=>?_⟩⟩
 ·obtain⟨q1,v',q2,q3⟩:=h5 i v hv
  have hi':i<cs.length:=(List.getElem?_eq_some_iff.1 hv).1
  refine⟨q1,v',?_,q3.mono hle⟩
  show(if _ then _ else _)=_
  rw[if_pos ⟨rfl,by omega,by omega⟩];exact q2
 ·obtain⟨a1,a2,a3⟩:=m.fresh k hk
  refine⟨a1,?_,a3⟩
  simp only[H.kill];split<;>first|rfl|exact a2
 ·by_cases e:B=p.blk
  ·subst e;exact hlt
  ·have hB:bQ F.own p.blk .fz B≠.no:=hB
   unfold bQ at hB;rw[if_neg e]at hB;exact m.lto B hB
 ·obtain⟨e,h2⟩:=hob k o' hk
  obtain⟨a1,a2⟩:=m.oOb k o' q hk' h2 hq
  exact⟨(hne _ (by rw[a1];intro z;cases z;exact e rfl)).trans a1,a2⟩
 ·have hf:(if B=p.blk∧p.off≤i∧i<p.off+cs.length then c[i]? else E.fz B i)=some v:=hf
  split at hf
  ·rename_i e;rw[e.1];exact⟨c,el,_,h1,hf⟩
  ·exact m.fz B i v hf
 ·have hf:(if B=p.blk∧p.off≤i∧i<p.off+cs.length then c[i]? else E.fz B i)=some v:=hf
  split at hf
  ·rename_i e
   exact .inl (by show bQ F.own p.blk .fz B=_;unfold bQ;rw[if_pos e.1])
  ·show bQ F.own p.blk .fz B=.fz∨(∃b',bQ F.own p.blk .fz B=.tk b')∨∃k',bQ F.own p.blk .fz B=.pr (some k')∧i<k'
   rw[hne]
   ·exact m.oFz B i v hf hB
   ·rcases m.oFz B i v hf hB with g|⟨b',g⟩|⟨k',g,_⟩<;>rw[g]<;>simp
 ·obtain⟨_,h2⟩:=hob k _ hk
  obtain⟨a1,a2,a3,a4⟩:=m.tok k n q h2 hq
  refine⟨(hne _ (by rw[a1];simp)).trans a1,a2,a3,fun i hi=>?_⟩
  show(if _ then _ else _)=_
  rw[if_neg]
  ·exact a4 i hi
  ·rintro⟨e,_⟩;rw[e,hown]at a1;cases a1
 ·obtain⟨a1,a2,cs',a3,a4⟩:=m.loc d q hq
  exact⟨(hne _ (by rw[a1];simp)).trans a1,a2,cs',a3,a4.mono hle⟩
 ·obtain⟨a1,a2⟩:=m.prot B x hx
  exact⟨a1,(hne _ (by rw[a2];simp)).trans a2⟩
theorem SCall.freeze{gl:List Nat}{f:FuncId}{args:List V}{h h1 h2:H}{b n z:Nat}{op:Bool}{es:List (List V)}{k:IntKind}{i:Int}(s:SCall P gl f args none h (.ret (.tup [.sl b 0 n (.op z),.int k i])) none h1)
  (hb:h1.ob b=some (.cells op es.flatten)) (hg:aC≤b) (hbn:h.nxt≤b) (hz:∀e∈es,e.length=z) (hn:es.length=n) (h0:0<n)
  (hnx:h2.nxt=h1.nxt) (hlc:h2.lc=h1.lc) (ho:∀c o,h2.ob c=some o→c≠b∧h1.ob c=some o) (hk:∀c,c<h.nxt→h2.ob c=h1.ob c):
  SCall P gl f args none h (.ret (.tup [.lst es .unk,.int k i])) none h2:=by
 refine⟨hlc.trans s.lc,s.fn,fun E F w0 w args' kind cks hF m g ra huk=>?_⟩
 obtain⟨E',F',w',cs2,fr',a1,a2,a3,a4,a5,a6,a7,a8,a9,a10,a11,a12,z1,fnr,x,z2,z3,z4⟩:=s.run E F w0 w args' kind cks hF m g ra huk
 cases z4 with
 |tup _ cs hcs=>
  generalize hl:cs.toList=l at hcs
  cases hcs with
  |cons _ v1 _ l1 r1 t1=>
   cases t1 with
   |cons _ v2 _ l2 r2 t2=>
    cases t2
    cases r1 with
    |sl0=>omega
    |slo _ _ _ _ p c hE hext hnc=>
     obtain⟨E2,F2,e1,e2,e3,e4,e5,e6⟩:=a4.freeze hb hE hg
     have hf:=FZs.of_flat hz e5
     have hlst:AR E2 (.lst es .unk) (.slice (some ⟨p.blk,p.off+0,none⟩) n c):=by
      cases es with
      |nil=>simp at hn;omega
      |cons e es=>exact .lst e es .unk p.blk p.off n c z hf (by simpa using hn.symm) hnc trivial
     refine⟨E2,F2,w',cs2,fr',⟨a1.le.trans e1,fun b' hb'=>(e2 b').trans (a1.old b' hb'),by rw[hnx];exact a1.nxt,fun b' o hb' he h1' h3=>by rw[hk b' hb'];exact a1.ghost b' o hb' he h1' h3⟩,e3.trans a2,e4.trans a3,e6.forget hnx (fun c' o' hc'=>?_) (fun d p' cs' hp'=>by rw[e3,a2]at hp';cases hp'),a5,a6,a7,a8,a9,a10,a11,a12,z1,fnr,.tuple cs,z2,z3,.tup _ _ ?_⟩
     ·obtain⟨q1,q2⟩:=ho c' o' hc'
      simp only[H.kill];rw[if_neg q1];exact q2
     ·rw[hl]
      exact .cons _ _ _ _ hlst (.cons _ _ _ _ (r2.mono e1) .nil)
end Go.VM
end
section
/- The machine of values: listed memory whose last object is a row of a number that is not known. -/
namespace Go.VM
open Go.RowKit
variable{P:Program}
def keysLt(p:OL)(N:Nat):Prop:=∀e∈p,e.1<N
theorem keysLt.mono{p:OL}{N M:Nat}(h:keysLt p N)(k:N≤M):keysLt p M:=fun e he=>Nat.lt_of_lt_of_le (h e he) k
theorem sB:∀(p r:OL) (k:Nat),og (p++r) k=match og p k with|some o=>some o|none=>og r k
 |[],r,k=>rfl
 |(j,o)::p,r,k=>by
  rw[List.cons_append,aR,aR,sB p r k]
  split<;>rfl
theorem aYv{p:OL}{N:Nat}(h:keysLt p N){k:Nat}(hk:N≤k):og p k=none:=by
 induction p with
 |nil=>rfl
 |cons e p ih=>
  obtain⟨j,o⟩:=e
  have:j<N:=h (j,o) (by simp)
  rw[aR,if_neg (by omega)]
  exact ih fun e he=>h e (by simp[he])
theorem aLj(N:Nat)(o:Obj)(k:Nat):og [(N,o)] k=if k=N then some o else none:=by rw[aR];rfl
theorem aLs{p:OL}{nx:Nat}{lc:LM}(o:Obj)(h:keysLt p nx):H.new ⟨nx,og (p++[]),lc⟩ o=⟨nx+1,og (p++[(nx,o)]),lc⟩:=by
 simp only[H.new]
 congr 1
 funext k
 rw[sB,sB,aLj]
 by_cases e:k=nx
 ·subst e
  rw[if_pos rfl,if_pos rfl,aYv h (Nat.le_refl _)]
 ·rw[if_neg e,if_neg e];rfl
theorem aOo{p:OL}{nx N:Nat}{lc:LM}(o:Obj)(h:keysLt p N):H.kill ⟨nx,og (p++[(N,o)]),lc⟩ N=⟨nx,og (p++[]),lc⟩:=by
 simp only[H.kill]
 congr 1
 funext k
 rw[sB,sB,aLj]
 by_cases e:k=N
 ·subst e
  rw[if_pos rfl,aYv h (Nat.le_refl _)];rfl
 ·rw[if_neg e,if_neg e];rfl
theorem rowAt{p:OL}{N:Nat}(o:Obj)(h:keysLt p N):og (p++[(N,o)]) N=some o:=by
 rw[sB,aYv h (Nat.le_refl _),aLj,if_pos rfl]
theorem aDv:∀{p:OL} {N:Nat} (x o:Obj) (h:keysLt p N),iN (p++[(N,x)]) N o=some (p++[(N,o)])
 |[],N,x,o,_=>by simp only[List.nil_append,iN,Nat.beq_refl]
 |(j,y)::p,N,x,o,h=>by
  have hj:j<N:=h (j,y) (by simp)
  have e:Nat.beq j N=false:=by
   cases hb:Nat.beq j N with
   |false=>rfl
   |true=>exact absurd (Nat.eq_of_beq_eq_true hb) (by omega)
  have ih:=aDv (p:=p) x o (fun e he=>h e (List.mem_cons_of_mem _ he))
  rw[List.cons_append,iN,e]
  simp only[ih,List.cons_append]
section
variable{gl:List Nat}{nt:Nat}{tm:TM}
theorem bAs{x y:RX}{sz bytes n2 nx:Nat}{z:List V}{fs:List (List V)}{fl:List V}{c:LC}{lc:LM}{p:OL}(hp:keysLt p nx)(hx:rv gl tm x=some (.lst [] (.ex 0)))(hy:rv gl tm y=some (.lst fs c))(hz:∀e∈fs,e.length=sz)(h0:0<fs.length)(hlim:bytes*fs.length≤lim)(hn2:fs.length=n2)(hfl:fs.flatten=fl):
  DoesR P gl nt tm ⟨nx,og (p++[]),lc⟩ (some (.app x y sz bytes z)) (.v (.sl nx 0 n2 (.op sz))) ⟨nx+1,og (p++[(nx,.cells true fl)]),lc⟩:=by
 subst hn2;subst hfl
 intro o hro
 refine⟨?_,pK hro rfl⟩
 have:=aZd (P:=P) (gl:=gl) (nt:=nt) (tm:=tm) (h:=⟨nx,og (p++[]),lc⟩) hro hx (.lst fs c hy hz) h0 hlim
 rw[aLs _ hp]at this
 exact this
theorem bHm{x y:RX}{sz bytes n n2 N nx:Nat}{opn:Bool}{z cs:List V}{fs:List (List V)}{fl:List V}{c:LC}{lc:LM}{p:OL}(hp:keysLt p N)(hg:aC≤N)(hnx:N<nx)(hx:rv gl tm x=some (.sl N 0 n (.op sz)))(hlen:cs.length=n*sz)(hn0:0<n)(hy:rv gl tm y=some (.lst fs c))(hz:∀e∈fs,e.length=sz)(h0:0<fs.length)(hlim:bytes*(n+fs.length)≤lim)(hn2:n+fs.length=n2)(hfl:cs++fs.flatten=fl):
  DoesR P gl nt tm ⟨nx,og (p++[(N,.cells opn cs)]),lc⟩ (some (.app x y sz bytes z)) (.v (.sl nx 0 n2 (.op sz))) ⟨nx+1,og (p++[(nx,.cells true fl)]),lc⟩:=by
 subst hn2;subst hfl
 intro o hro
 refine⟨?_,pK hro rfl⟩
 have:=bCw (P:=P) (gl:=gl) (nt:=nt) (tm:=tm) (h:=⟨nx,og (p++[(N,.cells opn cs)]),lc⟩) hro hx (rowAt _ hp) hg hlen hn0 (.lst fs c hy hz) h0 hlim
 rw[aOo _ hp,aLs _ (hp.mono (Nat.le_of_lt hnx))]at this
 exact this
theorem bEw{h:H}{x i:RX}{k:IntKind}{n sz b o len:Nat}{c:Cp}(hx:rv gl tm x=some (.sl b o len c))(hi:rv gl tm i=some (.int k n))(hl:n<len):cG P gl nt tm h (some (.ia x i sz)) (.v (.ptr b (o+n*sz))):=by
 refine bJ ?_
 simp only[eM,rl,hx,hi,Option.bind_some,iP]
 have:¬((n:Int)<0):=by omega
 simp[this,hl]
end
theorem SW.drop{gl:List Nat}{fr:Fr}{tm:TM}{df:List AD}{u:Option AMode}{nx N n:Nat}{p:OL}{lc:LM}(hp:keysLt p N):SW gl fr (SL.toS ⟨tm,df,u,nx,p++[(N,.tok n)],lc⟩) (SL.toS ⟨tm,df,u,nx,p++[],lc⟩):=by
 refine⟨rfl,fun E F w0 w b tmps dfs cs st=>?_⟩
 have e:=aOo (nx:=nx) (lc:=lc) (.tok n) hp
 have hb:(SL.toS ⟨tm,df,u,nx,p++[(N,.tok n)],lc⟩).h.ob N=some (.tok n):=rowAt _ hp
 have x:=aJg st.mr (.inr (.inl ⟨_,hb⟩))
 have m:=st.mr.aUb N
 have e':(SL.toS ⟨tm,df,u,nx,p++[(N,.tok n)],lc⟩).h.kill N=(SL.toS ⟨tm,df,u,nx,p++[],lc⟩).h:=e
 rw[e']at x m
 exact⟨E,F,x,rfl,st.mono x rfl m⟩
end Go.VM
end
section
/- The machine of values: within a frame, a row that is changed no more becomes a list. -/
namespace Go.VM
open Go.RowKit
variable{P:Program}
end Go.VM
end
section
/- The machine of values: a call of the library's own search of a byte. -/
namespace Go.VM
open Go.RowKit
def ibV(c:Nat)(bs:List Nat):Int:=match aTs c bs 0 with|some i=>i|none=> -1
theorem aUv{P:Program}{gl:List Nat}{nt:Nat}{tm:TM}{h:H}{x:RX}{as:List RX}{fid c:Nat}{bs:List Nat}{fn:Func}(hfn:P.funcs[fid]? =some fn)(hb:fn.body=none)(hname:fn.name= "internal/bytealg.IndexByteString")(hnext:Extern.findNext fn=none)(hfind:Extern.find fn=some Extern.BytealgIndexByte.indexByte)
  (hx:rv gl tm x=some (.fn (.func fid) [] [])) (hv:rvs gl tm as=some [.str bs,.int .u8 (.ofNat c)]) (hc256:c<256):DoesR P gl nt tm h (some (.call x as)) (.v (.int .i64 (ibV c bs))) h:=by
 intro o ho
 obtain⟨dst,ty,pos,after,guard,fo,args,argTypes,rfl,hf,has⟩:=yD ho
 refine⟨?_,fun c e=>by cases e⟩
 intro E F w0 w tmps m hg tr
 have rf:=aH hg tr hf hx
 have rvv:=eE hg tr has hv
 cases hfv:evT tmps fo<;>rw[hfv]at rf<;>cases rf
 rename_i fi cp ra rc
 have hex:=fun w=>vS (P:=P) (dst:=dst) (c:=default) (ty:=ty) (pos:=pos) (after:=after) (guard:=guard) (args:=args) (argTypes:=argTypes) hfv w
 have rargs:ARs E [.str bs,.int .u8 (.ofNat c)] ((fi++args.map (evT tmps))++cp).toList:=by
  simp only[Array.toList_append,Array.toList_map]
  exact(ra.append rvv).append rc
 obtain⟨a1,a2,hl,r1,r2⟩:∃a1 a2,((fi++args.map (evT tmps))++cp).toList=[a1,a2]∧AR E (.str bs) a1∧AR E (.int .u8 (.ofNat c)) a2:=by
  generalize((fi++args.map (evT tmps))++cp).toList=L at rargs
  cases rargs with|cons _ a1 _ _ h1 t=>cases t with|cons _ a2 _ _ h2 t=>cases t;exact⟨a1,a2,rfl,h1,h2⟩
 have harr:((fi++args.map (evT tmps))++cp)= #[a1,a2]:=Array.toList_inj.1 hl
 have h1:(execOp (evT tmps) ⟨dst,.call ⟨.value fo,args,argTypes⟩,ty,pos,after,guard⟩).run P w=.ok (.value (.int .i64 (ibV c bs))) w:=by
  rw[hex]
  have hbn:fn.body.isNone=true:=by rw[hb];rfl
  have hnum:(fn.name== "runtime.NumGoroutine")=false:=by rw[hname];decide
  simp only[invoke,callFunc,Sem.run_bind,run_program,Result.andThen_ok,hfn,hnum,Bool.false_eq_true,if_false,hbn,if_true,run_mark,hnext,hfind,Sem.run_pure,harr]
  cases r1 with|str _ y e=>cases r2 with|int _ _=>
  have hy:y.size=y.data.toList.length:=by rw[Array.length_toList];rfl
  have hix:=aIq (c:=c) hc256 y.data.toList 0 (fun i=>y[i]!) (fun i hi=>by
   rw[Nat.zero_add]
   have h1:i<y.size:=by rw[hy];exact hi
   rw[getElem!_pos y i h1,Array.getElem_toList];rfl)
  rw[e,←hy,←List.range_eq_range']at hix
  have hc:(Int.ofNat c).toNat.toUInt8=UInt8.ofNat c:=rfl
  have e9:Extern.BytealgIndexByte.indexByte #[.string y,.int .u8 (Int.ofNat c)]=(do
    let b←Extern.Bytes.bytesOf (.string y)
    let c←Extern.Bytes.asByte (.int .u8 (Int.ofNat c))
    match(List.range b.size).find? fun i=>b[i]! ==c with
    |some i=>pure (goInt i)
    |none=>pure (goInt (-1))):=rfl
  rw[e9]
  unfold ibV
  simp only[Extern.Bytes.bytesOf,Extern.Bytes.asByte,Sem.run_bind,Sem.run_pure,Result.andThen_ok,hc,hix]
  cases aTs c bs 0<;>rfl
 exact⟨E,F,w,_,_,h1,.inl rfl,Ext.refl _ _,rfl,rfl,m,.v _ _ (.int _ _)⟩
end Go.VM
end
section
/- The machine of values: code run whole, where all that decides is known. -/
namespace Go.VM
open Go.RowKit
def muC(gl:List Nat)(tm:TM)(ol:OL):RO→Option OL
 |.mu m k x d=>match rv gl tm m,rv gl tm k,rv gl tm x with
  |some (.map r),some k,some v=>match fJ d k,og ol r with
   |true,some (.map es)=>match aFf k v es with
    |some es=>iN ol r (.map es)
    |none=>none
   |_,_=>none
  |_,_,_=>none
 |_=>none
theorem aPc{gl:List Nat}{tm:TM}{ol ol':OL}{nx:Nat}{lc:LM}{ro:RO}(e:muC gl tm ol ro=some ol'):rac gl tm ⟨nx,og ol,lc⟩ ro=some ⟨nx,og ol',lc⟩∧(match ro with|.mu .. |.del .. |.clr .. =>true|_=>false)=true:=by
 cases ro with
 |mu m k x d=>
  simp only[muC]at e
  refine⟨?_,rfl⟩
  simp only[rac]
  split at e
  ·split at e
   ·split at e
    ·simp_all only[Option.map_some,rM]
     rw[gU e]
    ·cases e
   ·cases e
  ·cases e
 |_=>simp[muC]at e
def aWq(gl:List Nat)(nt:Nat)(hp:List Nat):Nat→List RI→SL→Option SL
 |0,_,_=>none
 |n+1,l,s=>match sqS gl nt hp 1000 l s with
  |some ([],s2)=>some s2
  |some (r::l2,⟨tm,df,u,nx,ol,lc⟩)=>match aV r.gd tm,r.ro with
   |some true,some ro=>match muC gl tm ol ro with
    |some ol2=>match bB nt tm r.dst (.v bG)with
     |some tm2=>aWq gl nt hp n l2 ⟨tm2,df,u,nx,ol2,lc⟩
     |none=>none
    |none=>none
   |_,_=>none
  |none=>none
def wE(tm:TM):List Nat→TM
 |[]=>[]
 |k::r=>match tg tm k with
  |some (.v v)=>(k,.v v)::wE tm r
  |some (.l i o)=>wE tm r
  |some (.e cs)=>(k,.e cs)::wE tm r
  |none=>wE tm r
theorem lA{tm:TM}{lc:LM}:∀ks:List Nat,TellT tm lc (wE tm ks)
 |[]=>.nil
 |k::r=>by
  simp only[wE]
  split
  ·rename_i v h;exact .cons h (.v (VLe.refl _)) (lA r)
  ·exact lA r
  ·rename_i cs h;exact .cons h (.e cs) (lA r)
  ·exact lA r
def exe(gl:List Nat)(nt:Nat)(hp keep:List Nat):Nat→RC→SL→Option (X×SL)
 |0,_,_=>none
 |n+1,.reg os,s=>match aWq gl nt hp 100 os s with
  |some s2=>some (.norm,s2)
  |none=>none
 |n+1,.seq a b,s=>match exe gl nt hp keep n a s with
  |some (.norm,s1)=>exe gl nt hp keep n b s1
  |r=>r
 |n+1,.skip,s=>some (.norm,s)
 |n+1,.cond x a b,s=>match rv gl s.tm x with
  |some (.bool true)=>exe gl nt hp keep n a s
  |some (.bool false)=>exe gl nt hp keep n b s
  |_=>none
 |n+1,.block id a,s=>match exe gl nt hp keep n a s with
  |some (.exit i,s1)=>match Nat.beq i id with
   |true=>some (.norm,s1)
   |false=>some (.exit i,s1)
  |r=>r
 |n+1,.scope a,s=>exe gl nt hp keep n a s
 |n+1,.loop a,s=>match exe gl nt hp keep n a s with
  |some (.norm,⟨tm,df,u,nx,ol,lc⟩)=>exe gl nt hp keep n (.loop a) ⟨wE tm keep,df,u,nx,ol,[]⟩
  |r=>r
 |n+1,.exit id,s=>some (.exit id,s)
 |n+1,.ret,s=>some (.ret,s)
 |n+1,_,_=>none
section
variable{P:Program}{gl:List Nat}{fr:Fr}
theorem xS{hp:List Nat}{QN:S→Prop}{QX:X→S→Prop}:∀(n:Nat) (l:List RI) (s s2:SL),aWq gl fr.nt hp n l s=some s2→QN s2.toS→WQ P gl fr l s.toS QN QX
 |0,l,s,s2,h,q=>by cases h
 |n+1,l,s,s2,h,q=>by
  simp only[aWq]at h
  split at h
  ·rename_i s3 h1
   cases h
   exact WQ.aG hp 1000 l s _ _ h1 (WQ.aJ q)
  ·rename_i r l2 tm df u nx ol lc h1
   split at h
   ·rename_i ro hw hro
    split at h
    ·rename_i ol2 hm
     split at h
     ·rename_i tm2 hput
      refine WQ.aG hp 1000 l s _ _ h1 ?_
      obtain⟨m1,m2⟩:=aPc (nx:=nx) (lc:=lc) hm
      refine WQ.dM hw (v:=.v bG) (nx':=nx) (ol':=ol2) (lc':=lc) ?_ hput (xS n l2 _ s2 h q)
      rw[hro]
      exact fun o ho=>⟨xJ ho m1,aLv ho (by revert m2;cases ro<;>simp)⟩
     ·cases h
    ·cases h
   ·cases h
  ·cases h
theorem bY{hp keep:List Nat}:∀(n:Nat) (c:RC) (s:SL) (x:X) (s2:SL),exe gl fr.nt hp keep n c s=some (x,s2)→∀(QN:S→Prop) (QX:X→S→Prop),Post QN QX x s2.toS→WR P gl fr c s.toS QN QX∧∀a,c=.loop a→WLr P gl fr a s.toS QN QX
 |0,c,s,x,s2,h=>by cases h
 |n+1,.reg os,s,x,s2,h=>by
  simp only[exe]at h
  cases h1:aWq gl fr.nt hp 100 os s with
  |none=>rw[h1]at h;cases h
  |some s3=>
   rw[h1]at h
   cases h
   exact fun QN QX q=>⟨WR.reg (xS 100 os s _ h1 q),fun a e=>by cases e⟩
 |n+1,.seq a b,s,x,s2,h=>by
  simp only[exe]at h
  intro QN QX q
  refine⟨WR.seq ?_,fun a e=>by cases e⟩
  cases h1:exe gl fr.nt hp keep n a s with
  |none=>rw[h1]at h;cases h
  |some r=>
   rw[h1]at h
   obtain⟨y,s1⟩:=r
   cases y with
   |norm=>exact(bY n a s .norm s1 h1 (fun s1=>WR P gl fr b s1 QN QX) QX ((bY n b s1 x s2 h QN QX q).1)).1
   |exit i=>cases h;exact(bY n a s _ _ h1 (fun s1=>WR P gl fr b s1 QN QX) QX q).1
   |ret=>cases h;exact(bY n a s _ _ h1 (fun s1=>WR P gl fr b s1 QN QX) QX q).1
   |panic ch=>cases h;exact(bY n a s _ _ h1 (fun s1=>WR P gl fr b s1 QN QX) QX q).1
 |n+1,.skip,s,x,s2,h=>by
  simp only[exe]at h
  cases h
  exact fun QN QX q=>⟨WR.skip q,fun a e=>by cases e⟩
 |n+1,.cond y a b,s,x,s2,h=>by
  simp only[exe]at h
  intro QN QX q
  refine⟨?_,fun a e=>by cases e⟩
  split at h
  ·rename_i hv
   exact WR.aD hv (bY n a s x s2 h QN QX q).1
  ·rename_i hv
   exact WR.aO hv (bY n b s x s2 h QN QX q).1
  ·cases h
 |n+1,.block id a,s,x,s2,h=>by
  simp only[exe]at h
  intro QN QX q
  refine⟨WR.block ?_,fun a e=>by cases e⟩
  cases h1:exe gl fr.nt hp keep n a s with
  |none=>rw[h1]at h;cases h
  |some r=>
   rw[h1]at h
   obtain⟨y,s1⟩:=r
   cases y with
   |norm=>cases h;exact(bY n a s _ _ h1 QN (vF id QN QX) q).1
   |exit i=>
    simp only at h
    cases hb:Nat.beq i id with
    |true=>
     rw[hb]at h
     cases h
     refine(bY n a s (.exit i) _ h1 QN (vF id QN QX) ?_).1
     show vF id QN QX (.exit i) _
     simp only[vF,hb]
     exact q
    |false=>
     rw[hb]at h
     cases h
     refine(bY n a s (.exit i) _ h1 QN (vF id QN QX) ?_).1
     show vF id QN QX (.exit i) _
     simp only[vF,hb]
     exact q
   |ret=>cases h;exact(bY n a s _ _ h1 QN (vF id QN QX) q).1
   |panic ch=>cases h;exact(bY n a s _ _ h1 QN (vF id QN QX) q).1
 |n+1,.scope a,s,x,s2,h=>by
  simp only[exe]at h
  exact fun QN QX q=>⟨WR.scope (bY n a s x s2 h QN QX q).1,fun a e=>by cases e⟩
 |n+1,.loop a,s,x,s2,h=>by
  simp only[exe]at h
  intro QN QX q
  have key:WLr P gl fr a s.toS QN QX:=by
   refine WLr.of ?_
   cases h1:exe gl fr.nt hp keep n a s with
   |none=>rw[h1]at h;cases h
   |some r=>
    rw[h1]at h
    obtain⟨y,tm,df,u,nx,ol,lc⟩:=r
    cases y with
    |norm=>
     refine(bY n a s .norm _ h1 (fun s1=>WIr P gl fr a s1 QN QX) QX ?_).1
     show WIr P gl fr a (SL.toS ⟨tm,df,u,nx,ol,lc⟩) QN QX
     refine WIr.again (WLr.weak (s:=SL.toS ⟨wE tm keep,df,u,nx,ol,[]⟩) (SW.aM (lA keep) .nil) ?_)
     exact(bY n (.loop a) _ x s2 h QN QX q).2 a rfl
    |exit i=>cases h;exact(bY n a s _ _ h1 (fun s1=>WIr P gl fr a s1 QN QX) QX q).1
    |ret=>cases h;exact(bY n a s _ _ h1 (fun s1=>WIr P gl fr a s1 QN QX) QX q).1
    |panic ch=>cases h;exact(bY n a s _ _ h1 (fun s1=>WIr P gl fr a s1 QN QX) QX q).1
  exact⟨WR.loop key,fun b e=>by cases e;exact key⟩
 |n+1,.exit id,s,x,s2,h=>by
  simp only[exe]at h
  cases h
  exact fun QN QX q=>⟨WR.exit q,fun a e=>by cases e⟩
 |n+1,.ret,s,x,s2,h=>by
  simp only[exe]at h
  cases h
  exact fun QN QX q=>⟨WR.ret q,fun a e=>by cases e⟩
 |n+1,.aP a b c,s,x,s2,h=>by simp[exe]at h
 |n+1,.rng a b c d,s,x,s2,h=>by simp[exe]at h
theorem WR.exe(n:Nat)(hp keep:List Nat){c:RC}{s:SL}{x:X}{s2:SL}{QN:S→Prop}{QX:X→S→Prop}(h:exe gl fr.nt hp keep n c s=some (x,s2))(q:Post QN QX x s2.toS):WR P gl fr c s.toS QN QX:=(bY n c s x s2 h QN QX q).1
end
end Go.VM
end
