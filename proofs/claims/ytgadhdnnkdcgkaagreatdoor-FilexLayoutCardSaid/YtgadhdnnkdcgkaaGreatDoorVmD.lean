/- laid for this seat: VmHeavy VmDrawn1 VmDrawn2 VmDrawn3 -/
import Derived.Test.YtgadhdnnkdcgkaaGreatDoorVmC
set_option linter.unusedVariables false
set_option linter.unusedSimpArgs false
section
/- The machine of values: calls, and what else is no mere operation. -/
namespace Go.VM
open Go.RowKit
open Classical in
noncomputable def vL(F:Fx)(w:World):Fx where
 loc:=noL
 prot:=fun B=>if ∃d p,F.loc d=some p∧p.blk=B then(w.heap[B]?).map (·,none)else F.prot B
 own:=fun B=>match F.own B with|.lc _=>.pr none|x=>x
open Classical in
noncomputable def lG(F F':Fx):Fx where
 loc:=F.loc
 prot:=F.prot
 own:=fun B=>if ∃d p,F.loc d=some p∧p.blk=B then F.own B else F'.own B
section
variable{E E':Env}{F F':Fx}{h h':H}{w0 w w':World}
theorem mW{B:Nat}(hn:∀d,F.own B≠.lc d):(vL F w).own B=F.own B:=by
 simp only[vL]
theorem MR.enter(m:MR E F h w0 w):MR E (vL F w) h w0 w:=by
 refine⟨m.below,m.fresh,m.glo,m.glb,m.gbl,fun B hB=>m.lto B (fun e=>hB (by simp only[vL,e])),m.obj,fun b o p hg hb hp=>?_,m.fz,fun B i v hf hB=>?_,fun b n p hb hp=>?_,m.tokn,m.toko,fun d p hp=>(by cases hp),fun B x hx=>?_⟩
 ·obtain⟨a1,a2⟩:=m.oOb b o p hg hb hp
  exact⟨by rw[mW (by intro d;rw[a1];simp)];exact a1,a2⟩
 ·rcases m.oFz B i v hf hB with a|⟨b,a⟩|⟨k,a,ak⟩
  ·exact .inl (by rw[mW (by intro d;rw[a];simp)];exact a)
  ·exact .inr (.inl ⟨b,by rw[mW (by intro d;rw[a];simp)];exact a⟩)
  ·exact .inr (.inr ⟨k,by rw[mW (by intro d;rw[a];simp)];exact a,ak⟩)
 ·obtain⟨a1,a2,a3,a4⟩:=m.tok b n p hb hp
  exact⟨by rw[mW (by intro d;rw[a1];simp)];exact a1,a2,a3,a4⟩
 ·simp only[vL]at hx
  split at hx
  ·rename_i e
   obtain⟨d,p,e1,rfl⟩:=e
   obtain⟨a1,_⟩:=m.loc d p e1
   cases hq:w.heap[p.blk]? with
   |none=>rw[hq]at hx;cases hx
   |some y=>rw[hq]at hx;cases hx;exact⟨rfl,by simp only[vL,a1]⟩
  ·obtain⟨a1,a2⟩:=m.prot B x hx
   exact⟨a1,by rw[mW (by intro d;rw[a2];simp)];exact a2⟩
theorem MR.exit(m:MR E F h w0 w)(hle:E.le E')(hp:F'.prot=(vL F w).prot)(hlc:h'.lc=h.lc)(m':MR E' F' h' w0 w'):MR E' (lG F F') h' w0 w':=by
 have key:∀d p,F.loc d=some p→F'.own p.blk=.pr none∧w'.heap[p.blk]? =w.heap[p.blk]?:=by
  intro d p hd
  obtain⟨a1,a2,cs,a3,c,el,lo,hi,a4,_⟩:=m.loc d p hd
  obtain⟨b1,b2⟩:=m'.prot p.blk (_,none) (by
   rw[hp];simp only[vL]
   rw[if_pos ⟨d,p,hd,rfl⟩,a4];rfl)
  exact⟨b2,b1.trans a4.symm⟩
 have hown:∀B,F'.own B≠.pr none→(lG F F').own B=F'.own B:=by
  intro B hB
  simp only[lG]
  rw[if_neg]
  rintro⟨d,p,hd,rfl⟩
  exact hB (key d p hd).1
 refine⟨m'.below,m'.fresh,m'.glo,m'.glb,m'.gbl,fun B hB=>?_,m'.obj,fun b o p hg hb hp=>?_,m'.fz,fun B i v hf hB=>?_,fun b n p hb hp=>?_,m'.tokn,m'.toko,fun d p hd=>?_,fun B x hx=>?_⟩
 ·by_cases hq:F'.own B=.no
  ·simp only[lG]at hB
   split at hB
   ·rename_i e
    obtain⟨d,p,hd,rfl⟩:=e
    rw[(key d p hd).1]at hq;cases hq
   ·exact absurd hq hB
  ·exact m'.lto B hq
 ·obtain⟨a1,a2⟩:=m'.oOb b o p hg hb hp
  exact⟨by rw[hown _ (by rw[a1];simp)];exact a1,a2⟩
 ·rcases m'.oFz B i v hf hB with a|⟨b,a⟩|⟨k,a,ak⟩
  ·exact .inl (by rw[hown _ (by rw[a];simp)];exact a)
  ·exact .inr (.inl ⟨b,by rw[hown _ (by rw[a];simp)];exact a⟩)
  ·exact .inr (.inr ⟨k,by rw[hown _ (by rw[a];simp)];exact a,ak⟩)
 ·obtain⟨a1,a2,a3,a4⟩:=m'.tok b n p hb hp
  exact⟨by rw[hown _ (by rw[a1];simp)];exact a1,a2,a3,a4⟩
 ·have hd:F.loc d=some p:=hd
  obtain⟨a1,a2,cs,a3,a4⟩:=m.loc d p hd
  refine⟨?_,a2,cs,by rw[hlc];exact a3,(a4.mono hle).world (key d p hd).2⟩
  simp only[lG]
  rw[if_pos ⟨d,p,hd,rfl⟩];exact a1
 ·have hx:F.prot B=some x:=hx
  obtain⟨a1,a2⟩:=m.prot B x hx
  have hn:¬∃d p,F.loc d=some p∧p.blk=B:=by
   rintro⟨d,p,hd,rfl⟩
   obtain⟨b1,_⟩:=m.loc d p hd
   rw[a2]at b1;cases b1
  obtain⟨b1,b2⟩:=m'.prot B x (by rw[hp];simp only[vL];rw[if_neg hn];exact hx)
  refine⟨b1,?_⟩
  simp only[lG]
  rw[if_neg hn];exact b2
end
section
variable{P:Program}{gl:List Nat}{fr:Fr}{o:Oper}{s:S}
def Weak(vs ws:List V):Prop:=∀(E:Env) (l:List Value),ARs E vs l→ARs E ws l
theorem Weak.refl(vs:List V):Weak vs vs:=fun _ _ h=>h
theorem yD{x:RX}{as:List RX}(ho:rop P o=some (.call x as)):∃dst ty pos after guard f args argTypes,o=⟨dst,.call ⟨.value f,args,argTypes⟩,ty,pos,after,guard⟩∧rx f=some x∧rxs args.toList=some as:=by
 obtain⟨dst,op,ty,pos,after,guard⟩:=o
 have hk:=dS ho
 cases op with
 |call c=>
  obtain⟨callee,args,argTypes⟩:=c
  cases callee with
  |value f=>
   simp only[rop]at ho
   split at ho
   ·rename_i f1 as1 h1 h2;cases ho;exact⟨_,_,_,_,_,f,args,argTypes,rfl,h1,h2⟩
   ·cases ho
  |invoke f n=>simp[rop]at ho
  |builtin b=>
   exfalso
   simp only[rop]at ho
   unfold jB at ho
   split at ho
   ·split at ho<;>cases ho
   ·split at ho<;>cases ho
   ·split at ho<;>cases ho
   ·split at ho<;>cases ho
   ·split at ho
    ·split at ho
     ·split at ho
      ·cases ho
      ·split at ho
       ·split at ho<;>cases ho
       ·cases ho
     ·cases ho
    ·cases ho
   ·split at ho<;>cases ho
   ·split at ho
    ·simp only[Option.map_eq_some_iff]at ho;obtain⟨_,_,e⟩:=ho;cases e
    ·cases ho
   ·split at ho
    ·simp only[Option.map_eq_some_iff]at ho;obtain⟨_,_,e⟩:=ho;cases e
    ·cases ho
   ·cases ho
 |defer c=>
  obtain⟨callee,args,argTypes⟩:=c
  cases callee with
  |value f=>simp only[rop]at ho;split at ho<;>cases ho
  |invoke f n=>simp[rop]at ho
  |builtin b=>simp[rop]at ho
 |panic x=>simp only[rop,Option.map_eq_some_iff]at ho;obtain⟨_,_,e⟩:=ho;cases e
 |mapUpdate t m k x=>simp only[rop]at ho;split at ho<;>first|(cases ho;done)|skip;simp only[Option.map_eq_some_iff]at ho;obtain⟨_,_,e⟩:=ho;cases e
 |insert t m k x=>simp only[rop]at ho;split at ho<;>first|(cases ho;done)|skip;simp only[Option.map_eq_some_iff]at ho;obtain⟨_,_,e⟩:=ho;cases e
 |_=>simp[dY,cU]at hk
theorem nE{x:RX}{as:List RX}{f:FuncId}{first cap vs ws:List V}{r:AEnd}{u':Option AMode}{h':H}(ho:rop P o=some (.call x as))(hx:rv gl s.tm x=some (.fn (.func f) first cap))(hv:rvs gl s.tm as=some vs)(hw:Weak ((first++vs)++cap) ws)
  (sc:SCall P gl f ws none s.h r u' h'):OpR P gl fr o s (match r with|.ret v=>.val (.v v) {s with h:=h'}|.pan ch=>.pan ch {s with h:=h'}):=by
 obtain⟨dst,ty,pos,after,guard,fo,args,argTypes,rfl,hf,has⟩:=yD ho
 intro E F w0 w b tmps df cs k ops i rest st ho hwd
 have hd:b.roundOf=none∨∀c,(Op.call ⟨.value fo,args,argTypes⟩)≠.defer c:=.inr (fun c e=>by cases e)
 have rf:=aH st.gl st.tr hf hx
 have rvv:=eE st.gl st.tr has hv
 obtain⟨fn,hfn,hb,hname⟩:=sc.fn
 cases hfv:evT tmps fo<;>rw[hfv]at rf<;>cases rf
 rename_i fi cp ra rc
 have hex:=fun w=>vS (P:=P) (dst:=dst) (c:=default) (ty:=ty) (pos:=pos) (after:=after) (guard:=guard) (args:=args) (argTypes:=argTypes) hfv w
 have rargs:ARs E ws ((fi++args.map (evT tmps))++cp).toList:=by
  refine hw _ _ ?_
  simp only[Array.toList_append,Array.toList_map]
  exact(ra.append rvv).append rc
 obtain⟨E',F',w',cs',fr',x1,l1,p1,m',uk',cse,hu,steps,e1,e2,e3,e4,lv⟩:=sc.run E (vL F w) w0 w _ .normal (mkF b tmps (.inRegion ops (i::rest)::k) df::cs) rfl st.mr.enter st.gl rargs rfl
 have hcs:cs'=mkF b tmps (.inRegion ops (i::rest)::k) df::cs:=cse
 subst hcs
 have mX:=st.mr.exit x1.le p1 sc.lc m'
 have h1:(execOp (evT tmps) ⟨dst,.call ⟨.value fo,args,argTypes⟩,ty,pos,after,guard⟩).run P w=.ok (.enter f ((fi++args.map (evT tmps))++cp)) w:=by
  rw[hex];exact nT hfn hb hname _ _
 cases r with
 |ret v=>
  obtain⟨hm,fn',v',hfn',hres,hav⟩:=lv
  refine⟨rfl,E',lG F F',df,cs,w',v',x1,rfl,rfl,st.mono x1 rfl mX,CS.refl st.uk,rfl,.v _ _ hav,?_⟩
  have hleave:fr'.leaving P w' (.returned v'):=⟨hm,e4,e2,fn',hfn',hres⟩
  have hs:=step_leave_returned (cs:=cs) (c:=mkF b tmps (.inRegion ops (i::rest)::k) df) hleave
  rw[iB,ho]at hs
  exact .head (aHq ho hwd hd h1) (steps.trans (.one hs))
 |pan ch=>
  obtain⟨ch',fn',hm,hch,hfn'⟩:=lv
  have hleave:fr'.leaving P w' (.panicked ch'):=⟨hm,e4,fn',hfn'⟩
  have hs:=step_leave_panicked (cs:=cs) (c:=mkF b tmps (.inRegion ops (i::rest)::k) df) hleave
  rw[vM]at hs
  exact⟨rfl,E',lG F F',df,cs,w',_,ch',x1,rfl,rfl,st.mono x1 rfl mX,CS.refl st.uk,rfl,hch,.head (aHq ho hwd hd h1) (steps.trans (.one hs))⟩
theorem aQt{x:RX}{as:List RX}{l:Nat}{vs:List V}{r:AEnd}{h':H}(ho:rop P o=some (.call x as))(hx:rv gl s.tm x=some (.fn (.yield l) [] []))(hv:rvs gl s.tm as=some vs)
  (sc:SRound P gl l vs s.h r h'):OpR P gl fr o s (match r with|.ret v=>.val (.v v) {s with h:=h'}|.pan ch=>.pan ch {s with h:=h'}):=by
 obtain⟨dst,ty,pos,after,guard,fo,args,argTypes,rfl,hf,has⟩:=yD ho
 intro E F w0 w b tmps df cs k ops i rest st ho hwd
 have hd:b.roundOf=none∨∀c,(Op.call ⟨.value fo,args,argTypes⟩)≠.defer c:=.inr (fun c e=>by cases e)
 have rf:=aH st.gl st.tr hf hx
 have rvv:=eE st.gl st.tr has hv
 cases hfv:evT tmps fo<;>rw[hfv]at rf<;>cases rf
 rename_i p hE
 have hex:=fun w=>vS (P:=P) (dst:=dst) (c:=default) (ty:=ty) (pos:=pos) (after:=after) (guard:=guard) (args:=args) (argTypes:=argTypes) hfv w
 have rargs:ARs E vs ((#[]:Array Value)++args.map (evT tmps)).toList:=by simpa using rvv
 obtain⟨f1,ts,as1,bd,E',F',w',q1,x1,l1,p1,m',rr⟩:=sc.run E (vL F w) w0 w _ p (mkF b tmps (.inRegion ops (i::rest)::k) df) cs rfl st.mr.enter st.gl rargs hE
 have mX:=st.mr.exit x1.le p1 sc.lc m'
 have h1:=aZu (rest:=rest) (k:=k) (df:=df) (cs:=cs) (P:=P) (w:=w) ho hwd hd (by rw[hex];exact q1)
 cases r with
 |ret v=>
  obtain⟨v',hav,steps⟩:=rr
  refine⟨rfl,E',lG F F',df,cs,w',v',x1,rfl,rfl,st.mono x1 rfl mX,CS.refl st.uk,rfl,.v _ _ hav,?_⟩
  have h2:=steps
  rw[iB,ho]at h2
  exact .head h1 h2
 |pan ch=>
  obtain⟨ch',hch,steps⟩:=rr
  have h2:=steps
  rw[vM]at h2
  exact⟨rfl,E',lG F F',df,cs,w',_,ch',x1,rfl,rfl,st.mono x1 rfl mX,CS.refl st.uk,rfl,hch,.head h1 h2⟩
theorem bAp{x:RX}{t:Nat}{v:V}(ho:rop P o=some (.pan x))(hx:rv gl s.tm x=some (.iface t v)):OpR P gl fr o s (.pan [⟨.iface t v,false⟩] s):=by
 obtain⟨dst,op,ty,pos,after,guard⟩:=o
 have hk:=dS ho
 intro E F w0 w b tmps df cs k ops i rest st hoi hw
 cases op with
 |panic y=>
  simp only[rop]at ho
  cases hy:rx y with
  |none=>rw[hy]at ho;cases ho
  |some z=>
   rw[hy]at ho;cases ho
   have rx:=aH st.gl st.tr hy hx
   cases hcv:evT tmps y<;>rw[hcv]at rx<;>cases rx
   rename_i v' rv'
   have h1:(execOp (evT tmps) ⟨dst,.panic y,ty,pos,after,guard⟩).run P w=.halt (.panic (.iface t v')) w:=by
    simp[execOp,hcv,Instr.panic]
   exact⟨rfl,E,F,df,cs,w,_,_,Ext.refl _ _,rfl,rfl,st,CS.refl st.uk,rfl,.cons (.mk _ _ _ (.iface t v v' rv')) .nil,.one (bHw hoi hw (.inr fun c e=>by cases e) h1)⟩
 |call c=>
  exfalso
  obtain⟨callee,args,argTypes⟩:=c
  cases callee with
  |value f=>simp only[rop]at ho;split at ho<;>cases ho
  |invoke f n=>simp[rop]at ho
  |builtin b=>
   simp only[rop]at ho
   unfold jB at ho
   split at ho
   ·split at ho<;>cases ho
   ·split at ho<;>cases ho
   ·split at ho<;>cases ho
   ·split at ho<;>cases ho
   ·split at ho
    ·split at ho
     ·split at ho
      ·cases ho
      ·split at ho
       ·split at ho<;>cases ho
       ·cases ho
     ·cases ho
    ·cases ho
   ·split at ho<;>cases ho
   ·split at ho
    ·simp only[Option.map_eq_some_iff]at ho;obtain⟨_,_,e⟩:=ho;cases e
    ·cases ho
   ·split at ho
    ·simp only[Option.map_eq_some_iff]at ho;obtain⟨_,_,e⟩:=ho;cases e
    ·cases ho
   ·cases ho
 |defer c=>
  exfalso
  obtain⟨callee,args,argTypes⟩:=c
  cases callee with
  |value f=>simp only[rop]at ho;split at ho<;>cases ho
  |invoke f n=>simp[rop]at ho
  |builtin b=>simp[rop]at ho
 |mapUpdate t m k x=>exfalso;simp only[rop]at ho;split at ho<;>first|(cases ho;done)|skip;simp only[Option.map_eq_some_iff]at ho;obtain⟨_,_,e⟩:=ho;cases e
 |insert t m k x=>exfalso;simp only[rop]at ho;split at ho<;>first|(cases ho;done)|skip;simp only[Option.map_eq_some_iff]at ho;obtain⟨_,_,e⟩:=ho;cases e
 |_=>exfalso;simp[dY,cU]at hk
theorem bDj{x:RX}{as:List RX}(ho:rop P o=some (.dfr x as)):∃dst ty pos after guard f args argTypes,o=⟨dst,.defer ⟨.value f,args,argTypes⟩,ty,pos,after,guard⟩∧rx f=some x∧rxs args.toList=some as:=by
 obtain⟨dst,op,ty,pos,after,guard⟩:=o
 have hk:=dS ho
 cases op with
 |defer c=>
  obtain⟨callee,args,argTypes⟩:=c
  cases callee with
  |value f=>
   simp only[rop]at ho
   split at ho
   ·rename_i f1 as1 h1 h2;cases ho;exact⟨_,_,_,_,_,f,args,argTypes,rfl,h1,h2⟩
   ·cases ho
  |invoke f n=>simp[rop]at ho
  |builtin b=>simp[rop]at ho
 |call c=>
  exfalso
  obtain⟨callee,args,argTypes⟩:=c
  cases callee with
  |value f=>simp only[rop]at ho;split at ho<;>cases ho
  |invoke f n=>simp[rop]at ho
  |builtin b=>
   simp only[rop]at ho
   unfold jB at ho
   split at ho
   ·split at ho<;>cases ho
   ·split at ho<;>cases ho
   ·split at ho<;>cases ho
   ·split at ho<;>cases ho
   ·split at ho
    ·split at ho
     ·split at ho
      ·cases ho
      ·split at ho
       ·split at ho<;>cases ho
       ·cases ho
     ·cases ho
    ·cases ho
   ·split at ho<;>cases ho
   ·split at ho
    ·simp only[Option.map_eq_some_iff]at ho;obtain⟨_,_,e⟩:=ho;cases e
    ·cases ho
   ·split at ho
    ·simp only[Option.map_eq_some_iff]at ho;obtain⟨_,_,e⟩:=ho;cases e
    ·cases ho
   ·cases ho
 |panic x=>exfalso;simp only[rop,Option.map_eq_some_iff]at ho;obtain⟨_,_,e⟩:=ho;cases e
 |mapUpdate t m k x=>exfalso;simp only[rop]at ho;split at ho<;>first|(cases ho;done)|skip;simp only[Option.map_eq_some_iff]at ho;obtain⟨_,_,e⟩:=ho;cases e
 |insert t m k x=>exfalso;simp only[rop]at ho;split at ho<;>first|(cases ho;done)|skip;simp only[Option.map_eq_some_iff]at ho;obtain⟨_,_,e⟩:=ho;cases e
 |_=>exfalso;simp[dY,cU]at hk
theorem bCy{x:RX}{as:List RX}{f:FuncId}{first cap vs:List V}(hr:fr.rnd=none)(ho:rop P o=some (.dfr x as))(hx:rv gl s.tm x=some (.fn (.func f) first cap))(hv:rvs gl s.tm as=some vs):
  OpR P gl fr o s (.val (.v bG) {s with df:=.call ⟨.func f,cap,first++vs⟩::s.df}):=by
 obtain⟨dst,ty,pos,after,guard,fo,args,argTypes,rfl,hf,has⟩:=bDj ho
 intro E F w0 w b tmps df cs k ops i rest st ho hw
 have hro:b.roundOf=none:=by have:=st.fr.rnd;rw[hr]at this;exact this
 have rf:=aH st.gl st.tr hf hx
 have rvv:=eE st.gl st.tr has hv
 cases hfv:evT tmps fo<;>rw[hfv]at rf<;>cases rf
 rename_i fi cp ra rc
 have hrun:(execOp (evT tmps) ⟨dst,.defer ⟨.value fo,args,argTypes⟩,ty,pos,after,guard⟩).run P w=.ok (.defer {target:=.fn (.func f) cp,args:=fi++args.map (evT tmps)}) w:=by
  simp only[execOp,resolve,hfv,Deferred.ofValue,Sem.run_bind,Sem.run_pure,Result.andThen_ok]
 refine⟨rfl,E,F,_,cs,w,undef,Ext.refl _ _,rfl,rfl,⟨st.mr,st.tr,.cons (.call f cap (first++vs) cp _ rc ?_) st.dr,st.uk,st.fr,st.gl⟩,CS.refl st.uk,rfl,.v _ _ (.tup [] #[] .nil),.one (aWr ho hw hro hrun)⟩
 simp only[Array.toList_append,Array.toList_map]
 exact ra.append rvv
theorem aXi(ho:rop P o=some .reco):∃dst ty pos after guard args argTypes,o=⟨dst,.call ⟨.builtin .recover,args,argTypes⟩,ty,pos,after,guard⟩:=by
 obtain⟨dst,op,ty,pos,after,guard⟩:=o
 have hk:=dS ho
 cases op with
 |call c=>
  obtain⟨callee,args,argTypes⟩:=c
  cases callee with
  |value f=>simp only[rop]at ho;split at ho<;>cases ho
  |invoke f n=>simp[rop]at ho
  |builtin b=>
   simp only[rop]at ho
   unfold jB at ho
   split at ho
   ·split at ho<;>cases ho
   ·split at ho<;>cases ho
   ·split at ho<;>cases ho
   ·split at ho<;>cases ho
   ·split at ho
    ·split at ho
     ·split at ho
      ·cases ho
      ·split at ho
       ·split at ho<;>cases ho
       ·cases ho
     ·cases ho
    ·cases ho
   ·exact⟨_,_,_,_,_,args,argTypes,rfl⟩
   ·split at ho
    ·simp only[Option.map_eq_some_iff]at ho;obtain⟨_,_,e⟩:=ho;cases e
    ·cases ho
   ·split at ho
    ·simp only[Option.map_eq_some_iff]at ho;obtain⟨_,_,e⟩:=ho;cases e
    ·cases ho
   ·cases ho
 |defer c=>
  exfalso
  obtain⟨callee,args,argTypes⟩:=c
  cases callee with
  |value f=>simp only[rop]at ho;split at ho<;>cases ho
  |invoke f n=>simp[rop]at ho
  |builtin b=>simp[rop]at ho
 |panic x=>exfalso;simp only[rop,Option.map_eq_some_iff]at ho;obtain⟨_,_,e⟩:=ho;cases e
 |mapUpdate t m k x=>exfalso;simp only[rop]at ho;split at ho<;>first|(cases ho;done)|skip;simp only[Option.map_eq_some_iff]at ho;obtain⟨_,_,e⟩:=ho;cases e
 |insert t m k x=>exfalso;simp only[rop]at ho;split at ho<;>first|(cases ho;done)|skip;simp only[Option.map_eq_some_iff]at ho;obtain⟨_,_,e⟩:=ho;cases e
 |_=>exfalso;simp[dY,cU]at hk
def sU:Option AMode→V×Option AMode
 |some (.pan (⟨v,false⟩::older))=>(v,some (.pan (⟨v,true⟩::older)))
 |u=>(.fF,u)
theorem aXb(hr:fr.rnd=none)(ho:rop P o=some .reco):OpR P gl fr o s (.val (.v (sU s.u).1) {s with u:=(sU s.u).2}):=by
 obtain⟨dst,ty,pos,after,guard,args,argTypes,rfl⟩:=aXi ho
 intro E F w0 w b tmps df cs k ops i rest st ho hw
 have hro:b.roundOf=none:=by have:=st.fr.rnd;rw[hr]at this;exact this
 have hrun:(execOp (evT tmps) ⟨dst,.call ⟨.builtin .recover,args,argTypes⟩,ty,pos,after,guard⟩).run P w=.ok .recover w:=by
  rw[bX];rfl
 by_cases hc:∃v older,s.u=some (.pan (⟨v,false⟩::older))
 ·obtain⟨v,older,hu⟩:=hc
  have huk:=st.uk
  rw[hu]at huk
  obtain⟨hkind,c,rst,rfl,hm⟩:=huk
  cases hcm:c.mode with
  |run=>rw[hcm]at hm;cases hm
  |returning=>rw[hcm]at hm;cases hm
  |panicking ch=>
   rw[hcm]at hm
   cases hm with
   |pan _ _ hch=>
    cases hch with
    |cons h1 t1=>
     cases h1 with
     |mk _ v' _ hv'=>
      rename_i older'
      have hst:=yP (P:=P) (b:=b) (df:=df) (k:=k) (cs:=c::rst) (rest:=rest) ho hw hro hrun
      have htr:tryRecover (mkF b tmps (.inRegion ops (i::rest)::k) df) (c::rst)=some (v',{c with mode:=.panicking ({v:=v',recovered:=true}::older')}::rst):=by
       simp[tryRecover,mkF,hkind,hcm]
      rw[htr]at hst
      have hre:sU s.u=(v,some (.pan (⟨v,true⟩::older))):=by rw[hu];rfl
      rw[hre]
      refine⟨rfl,E,F,df,_,w,v',Ext.refl _ _,rfl,rfl,⟨st.mr,st.tr,st.dr,⟨hkind,_,rst,rfl,.pan _ _ (.cons (.mk _ _ _ hv') t1)⟩,st.fr,st.gl⟩,by rw[hu];exact⟨c,rst,_,rfl,rfl⟩,by rw[hu];rfl,.v _ _ hv',.one hst⟩
 ·have hre:sU s.u=(.fF,s.u):=by
   unfold sU
   split
   ·rename_i v older e;exact absurd ⟨v,older,e⟩ hc
   ·rfl
  have hst:=yP (P:=P) (b:=b) (df:=df) (k:=k) (cs:=cs) (rest:=rest) ho hw hro hrun
  have htr:tryRecover (mkF b tmps (.inRegion ops (i::rest)::k) df) cs=none:=by
   have huk:=st.uk
   cases hu:s.u with
   |none=>
    rw[hu]at huk
    have hk:b.kind=.normal:=huk
    simp[tryRecover,mkF,hk]
   |some m=>
    rw[hu]at huk
    obtain⟨hkind,c,rst,rfl,hm⟩:=huk
    cases m with
    |ret=>
     cases hcm:c.mode<;>rw[hcm]at hm<;>cases hm
     simp[tryRecover,mkF,hkind,hcm]
    |pan ch=>
     cases hcm:c.mode<;>rw[hcm]at hm<;>cases hm
     rename_i ch' hch
     cases hch with
     |nil=>simp[tryRecover,mkF,hkind,hcm]
     |cons h1 t1=>
      cases h1 with
      |mk v v' rr hv'=>
       cases rr with
       |true=>simp[tryRecover,mkF,hkind,hcm]
       |false=>exact absurd ⟨_,_,hu⟩ hc
  rw[htr]at hst
  rw[hre]
  exact⟨rfl,E,F,df,cs,w,_,Ext.refl _ _,rfl,rfl,st,CS.refl st.uk,rfl,.v _ _ .fF,.one hst⟩
end
end Go.VM
end
section
/- The machine of values: regions whose order is drawn: slots, and what stays true. -/
namespace Go.VM
open Go.RowKit
def aF(tm:TM):List Nat→TM
 |[]=>[]
 |t::ts=>match tg tm t with
  |some v=>(t,v)::aF tm ts
  |none=>aF tm ts
theorem uF{tm:TM}{t:Nat}{v:TV}:∀{ts:List Nat},tg (aF tm ts) t=some v→t∈ts∧tg tm t=some v
 |[],h=>by simp[aF,tg]at h
 |s::ts,h=>by
  simp only[aF]at h
  split at h
  ·rename_i u hu
   rw[lW]at h
   split at h
   ·rename_i e;cases h;subst e;exact⟨List.mem_cons_self ..,hu⟩
   ·obtain⟨a,b⟩:=uF h;exact⟨List.mem_cons_of_mem _ a,b⟩
  ·obtain⟨a,b⟩:=uF h;exact⟨List.mem_cons_of_mem _ a,b⟩
structure Ev where
 it:It
 tmr:TM
 k:Nat
 v:TV
 b:Nat
structure DS where
 s:S
 evs:List Ev
 mask:Nat
def dJ(d:DS)(it:It):Bool:=Nat.beq (it.anc&&&d.mask) it.anc&&!d.mask.testBit it.i
def DS.add(fr:Fr)(d:DS)(it:It)(tmr:TM)(k:Nat)(v:TV)(s:S):Option DS:=
 match bB fr.nt d.s.tm it.o.dst v with
 |some tm=>some {s:={s with tm},evs:=⟨it,tmr,k,v,d.s.h.nxt⟩::d.evs,mask:=d.mask|||2^it.i}
 |none=>none
def pB(tm:TM):List It→TM
 |[]=>tm
 |it::its=>match it.o.dst with
  |some d=>pB (bFr tm d) its
  |none=>pB tm its
def waits(its:List It)(it:It)(d:DS):Bool:=its.all fun x=>Nat.ble 3 x.c||d.mask.testBit x.i||x.anc.testBit it.i
def aQw(tm:TM)(e:Ev):TM:=
 match e.it.o.dst with
 |some d=>(d,e.v)::tm
 |none=>tm
def gO(I:Nat→Bool)(tm0:TM):List Ev→TM
 |[]=>tm0
 |e::es=>if I e.it.i=true then aQw (gO I tm0 es) e else gO I tm0 es
theorem pR{tm:TM}{e:Ev}{t:Nat}:tg (aQw tm e) t=if e.it.o.dst=some t then some e.v else tg tm t:=by
 unfold aQw
 cases hd:e.it.o.dst with
 |none=>simp
 |some d=>
  simp only[lW,Option.some.injEq]
  by_cases hdt:d=t
  ·rw[if_pos hdt.symm,if_pos hdt]
  ·rw[if_neg (fun e=>hdt e.symm),if_neg hdt]
theorem vB{I:Nat→Bool}{tm0:TM}{t:Nat}{pre:List Ev}:∀(post:List Ev),(∀e∈post,I e.it.i=true→e.it.o.dst≠some t)→
  tg (gO I tm0 (post++pre)) t=tg (gO I tm0 pre) t
 |[],_=>rfl
 |e::post,h=>by
  have ih:=vB (I:=I) (tm0:=tm0) (t:=t) (pre:=pre) post (fun e he=>h e (List.mem_cons_of_mem _ he))
  simp only[List.cons_append,gO]
  split
  ·rename_i hi
   rw[pR,if_neg (h e (List.mem_cons_self ..) hi)];exact ih
  ·exact ih
theorem iH{I J:Nat→Bool}{tm0:TM}{t:Nat}:∀(es:List Ev),(∀e∈es,e.it.o.dst=some t→I e.it.i=J e.it.i)→tg (gO I tm0 es) t=tg (gO J tm0 es) t
 |[],_=>rfl
 |e::es,h=>by
  have ih:=iH (I:=I) (J:=J) (tm0:=tm0) (t:=t) es (fun e he=>h e (List.mem_cons_of_mem _ he))
  simp only[gO]
  by_cases hd:e.it.o.dst=some t
  ·rw[h e (List.mem_cons_self ..) hd]
   split
   ·rw[pR,pR,if_pos hd,if_pos hd]
   ·exact ih
  ·have g:∀(b:Bool) (tm:TM),tg (if b=true then aQw tm e else tm) t=tg tm t:=by
    intro b tm;split
    ·rw[pR,if_neg hd]
    ·rfl
   rw[g,g];exact ih
structure Good(fr:Fr)(ops:Array Oper)(its:List It)(tm0:TM)(d:DS):Prop where
 mem:∀e∈d.evs,e.it∈its
 mask:∀j,d.mask.testBit j=true↔∃e∈d.evs,e.it.i=j
 tm:d.s.tm=gO (fun _=>true) tm0 d.evs
 dst:∀e∈d.evs,∀s,e.it.o.dst=some s→s<fr.nt
 bb:∀e∈d.evs,e.k=2→e.b<d.s.h.nxt
 split:∀post e pre,d.evs=post++e::pre→
  (∀j,e.it.anc.testBit j=true→∃e'∈pre,e'.it.i=j)∧(∀e'∈pre,e'.it.i≠e.it.i)∧
  (∀t v,tg e.tmr t=some v→t∈tmpsOf ops e.it.o∧tg (gO (fun _=>true) tm0 pre) t=some v)∧
  (∀e'∈pre,e'.k=2→e'.b<e.b∨e.k≠2)∧
  (e.k=0→bS ops e.it.o e.tmr=some false∧e.v=.v bG)∧(e.k≠0→bS ops e.it.o e.tmr=some true)
theorem Good.nil{fr:Fr}{ops:Array Oper}{its:List It}{s:S}:Good fr ops its s.tm ⟨s,[],0⟩:=
 ⟨by simp,by simp,rfl,by simp,by simp,by intro post e pre h;simp at h⟩
theorem mZ{d:DS}{it:It}(h:dJ d it=true):(∀j,it.anc.testBit j=true→d.mask.testBit j=true)∧d.mask.testBit it.i=false:=by
 unfold dJ at h
 simp only[Bool.and_eq_true,Bool.not_eq_true']at h
 refine⟨fun j hj=>?_,h.2⟩
 have e:=Nat.eq_of_beq_eq_true h.1
 rw[←e,Nat.testBit_and,Bool.and_eq_true]at hj
 exact hj.2
theorem Good.add{fr:Fr}{ops:Array Oper}{its:List It}{tm0:TM}{d d':DS}{it:It}{k:Nat}{v:TV}{s:S}(g:Good fr ops its tm0 d)(hit:it∈its)(ht:dJ d it=true)
  (ha:d.add fr it (aF d.s.tm (tmpsOf ops it.o)) k v s=some d') (hs:s.tm=d.s.tm) (hn:d.s.h.nxt≤s.h.nxt) (hk2:k=2→d.s.h.nxt<s.h.nxt)
  (h0:k=0→bS ops it.o (aF d.s.tm (tmpsOf ops it.o))=some false∧v=.v bG) (h1:k≠0→bS ops it.o (aF d.s.tm (tmpsOf ops it.o))=some true):
  Good fr ops its tm0 d'∧∃tm,bB fr.nt d.s.tm it.o.dst v=some tm∧d'={s:={s with tm},evs:=⟨it,aF d.s.tm (tmpsOf ops it.o),k,v,d.s.h.nxt⟩::d.evs,mask:=d.mask|||2^it.i}:=by
 unfold DS.add at ha
 split at ha
 ·rename_i tm htm
  cases ha
  obtain⟨t1,t2⟩:=mZ ht
  refine⟨⟨fun e he=>?_,fun j=>?_,?_,fun e he q hq=>?_,fun e he hk=>?_,fun post e pre heq=>?_⟩,tm,htm,rfl⟩
  ·cases he with
   |head=>exact hit
   |tail _ he=>exact g.mem e he
  ·rw[Nat.testBit_or,Bool.or_eq_true,g.mask,Nat.testBit_two_pow]
   constructor
   ·rintro(⟨e,h1,h2⟩|h)
    ·exact⟨e,List.mem_cons_of_mem _ h1,h2⟩
    ·exact⟨_,List.mem_cons_self ..,of_decide_eq_true h⟩
   ·rintro⟨e,h1,h2⟩
    cases h1 with
    |head=>exact .inr (decide_eq_true h2)
    |tail _ h1=>exact .inl ⟨e,h1,h2⟩
  ·show tm=_
   simp only[gO,if_true,aQw]
   rw[←g.tm]
   cases hd:it.o.dst with
   |none=>rw[hd]at htm;simp[bB]at htm;exact htm.symm
   |some q=>
    rw[hd]at htm
    simp only[bB]at htm
    split at htm
    ·cases htm;rfl
    ·cases htm
  ·cases he with
   |head=>
    have hq':it.o.dst=some q:=hq
    rw[hq']at htm
    simp only[bB]at htm
    split at htm
    ·rename_i hb;rwa[Nat.blt_eq]at hb
    ·cases htm
   |tail _ he=>exact g.dst e he q hq
  ·cases he with
   |head=>exact hk2 hk
   |tail _ he=>exact Nat.lt_of_lt_of_le (g.bb e he hk) hn
  ·cases post with
   |nil=>
    simp only[List.nil_append,List.cons.injEq]at heq
    obtain⟨rfl,rfl⟩:=heq
    refine⟨fun j hj=>(g.mask j).1 (t1 j hj),fun e' he' hne=>?_,fun t u hu=>?_,fun e' he' hk=>.inl (g.bb e' he' hk),h0,h1⟩
    ·have:=(g.mask it.i).2 ⟨e',he',hne⟩
     rw[t2]at this;cases this
    ·obtain⟨a,b⟩:=uF hu
     rw[←g.tm];exact⟨a,b⟩
   |cons p post=>
    simp only[List.cons_append,List.cons.injEq]at heq
    exact g.split post e pre heq.2
 ·cases ha
theorem Good.once{fr:Fr}{ops:Array Oper}{its:List It}{tm0:TM}{d:DS}(g:Good fr ops its tm0 d){post pre:List Ev}{e:Ev}(h:d.evs=post++e::pre):
  (∀e'∈post,e'.it.i≠e.it.i∧∀e''∈pre,e'.it.i≠e''.it.i):=by
 intro e' he'
 obtain⟨p1,p2,rfl⟩:=List.append_of_mem he'
 have:=(g.split p1 e' (p2++e::pre) (by rw[h];simp)).2.1
 exact⟨fun q=>this e (by simp) q.symm,fun e'' h'' q=>this e'' (by simp[h'']) q.symm⟩
structure INV(P:Program)(gl:List Nat)(fr:Fr)(ops:Array Oper)(its:List It)(tm0:TM)(d:DS)(I:Nat→Bool)(E:Env)(F:Fx)(w0 w:World)(b:Frame)(tmps:Array Value)(df:List Deferred)(cs:List Frame):Prop where
 dW:Good fr ops its tm0 d
 st:StR gl E F fr {d.s with tm:=gO I tm0 d.evs} b tmps df cs w0 w
 sub:∀i,I i=true→∃e∈d.evs,e.it.i=i
 heavy:∀e∈d.evs,3≤e.it.c→I e.it.i=true
 kc:∀e∈d.evs,e.it.c<3→e.k≠3
 kk:∀e∈d.evs,e.k≤4
 nd:∀e∈d.evs,e.it.c<3→∀c,e.it.o.op≠.defer c
 alloc:∀e∈d.evs,I e.it.i=false→e.k=2→∃ob v,e.v=.v v∧E.ob e.b=none∧aC≤e.b∧d.s.h.ob e.b=some ob∧(∀n,ob≠.tok n)∧AllocO P gl fr.nt e.tmr e.it.o e.b ob v
 list:∀e∈d.evs,I e.it.i=false→e.k=4→∃v,e.v=.v v∧AllocF P gl fr.nt e.tmr e.it.o v
def pU(P:Program)(gl:List Nat)(fr:Fr)(d:DS)(I:Nat→Bool):Prop:=∀e∈d.evs,I e.it.i=false→e.k=1→Light P gl fr.nt e.tmr d.s.h e.it.o e.v
def ins(I:Nat→Bool)(i:Nat):Nat→Bool:=fun j=>if j=i then true else I j
section
variable{P:Program}{gl:List Nat}{fr:Fr}{ops:Array Oper}{its:List It}{tm0:TM}{d:DS}{I:Nat→Bool}{E:Env}{F:Fx}{w0 w:World}{b:Frame}{tmps:Array Value}{df:List Deferred}{cs:List Frame}
theorem bFm(ok:ItsOk P ops its)(dc:mK its I){it:It}(hit:it∈its)(hI:I it.i=true):∀j,it.anc.testBit j=true→I j=true:=
 aLf ok dc (it.i+1) it (Nat.lt_succ_self _) hit (dc it hit hI)
theorem xN(ok:ItsOk P ops its)(sl:jK ops its=true)(dc:mK its I)(g:Good fr ops its tm0 d){post pre:List Ev}{e:Ev}(h:d.evs=post++e::pre)(hI:I e.it.i=false){t:Nat}
  (hr:t∈tmpsOf ops e.it.o∨e.it.o.dst=some t):∀e'∈post,I e'.it.i=true→e'.it.o.dst≠some t:=by
 intro e' he' hI' hd
 obtain⟨n1,n2⟩:=g.once h e' he'
 have m1:=g.mem e (by rw[h];simp)
 have m2:=g.mem e' (by rw[h];simp[he'])
 rcases vN sl m1 m2 (fun q=>n1 q.symm) hd hr with h1|h1
 ·obtain⟨e'',h2,h3⟩:=(g.split post e pre h).1 _ h1
  exact n2 e'' h2 h3.symm
 ·have:=bFm ok dc m2 hI' _ h1
  rw[hI]at this;cases this
theorem aTz(ok:ItsOk P ops its)(sl:jK ops its=true)(dc:mK its I)(v:INV P gl fr ops its tm0 d I E F w0 w b tmps df cs){e:Ev}(he:e∈d.evs)(hI:I e.it.i=false)(ha:∀j,e.it.anc.testBit j=true→I j=true):
  ∀t u,tg e.tmr t=some u→tg (gO I tm0 d.evs) t=some u:=by
 intro t u hu
 obtain⟨post,pre,heq⟩:=List.append_of_mem he
 obtain⟨s1,s2,s3,s4,s5,s6⟩:=v.dW.split post e pre heq
 obtain⟨ht,hg⟩:=s3 t u hu
 rw[heq,vB post (xN ok sl dc v.dW heq hI (.inl ht))]
 simp only[gO,hI,Bool.false_eq_true,if_false]
 rw[iH (J:=fun _=>true) pre (fun e' h' hd=>?_)]
 ·exact hg
 ·have m1:=v.dW.mem e he
  have m2:=v.dW.mem e' (by rw[heq];simp[h'])
  rcases vN sl m1 m2 (fun q=>s2 e' h' q.symm) hd (.inl ht)with h1|h1
  ·exact ha _ h1
  ·exfalso
   obtain⟨p1,p2,hp⟩:=List.append_of_mem h'
   obtain⟨q1,q2,_⟩:=v.dW.split (post++e::p1) e' p2 (by rw[heq,hp];simp)
   obtain⟨e'',h2,h3⟩:=q1 _ h1
   exact s2 e'' (by rw[hp];simp[h2]) h3
theorem bBj(ok:ItsOk P ops its)(sl:jK ops its=true)(dc:mK its I)(v:INV P gl fr ops its tm0 d I E F w0 w b tmps df cs){e:Ev}(he:e∈d.evs)(hI:I e.it.i=false)(ha:∀j,e.it.anc.testBit j=true→I j=true):TR E F.loc fr.nt e.tmr tmps:=
 ⟨v.st.tr.1,fun t u hu=>v.st.tr.2 t u (aTz ok sl dc v he hI ha t u hu)⟩
theorem bFz(ok:ItsOk P ops its)(sl:jK ops its=true)(dc:mK its I)(v:INV P gl fr ops its tm0 d I E F w0 w b tmps df cs){E':Env}(hE:E.le E'){e:Ev}(he:e∈d.evs)(hI:I e.it.i=false){v':Value}(hv:TVR E' F.loc e.v v'):
  TR E' F.loc fr.nt (gO (ins I e.it.i) tm0 d.evs) (jV tmps e.it.o.dst v'):=by
 obtain⟨post,pre,heq⟩:=List.append_of_mem he
 have honce:=v.dW.once heq
 have s2:=(v.dW.split post e pre heq).2.1
 have same:∀e'∈post,ins I e.it.i e'.it.i=I e'.it.i:=by
  intro e' h';unfold ins;rw[if_neg (honce e' h').1]
 have tr:=v.st.tr
 have key:∀t,e.it.o.dst≠some t→tg (gO (ins I e.it.i) tm0 d.evs) t=tg (gO I tm0 d.evs) t:=by
  intro t ht
  refine iH d.evs fun e' h' hd=>?_
  unfold ins
  split
  ·rename_i q
   exfalso
   rw[heq]at h'
   rcases List.mem_append.1 h' with h'|h'
   ·exact(honce e' h').1 q
   ·cases h' with
    |head=>exact ht hd
    |tail _ h'=>exact s2 e' h' q
  ·rfl
 refine⟨?_,fun t u hu=>?_⟩
 ·cases e.it.o.dst with
  |none=>exact tr.1
  |some q=>simp only[jV,Array.size_setIfInBounds];exact tr.1
 ·by_cases hd:e.it.o.dst=some t
  ·have hg:tg (gO (ins I e.it.i) tm0 d.evs) t=some e.v:=by
    rw[heq,vB post (fun e' h' hI'=>?_)]
    ·simp only[gO]
     rw[if_pos (by unfold ins;rw[if_pos rfl]),pR,if_pos hd]
    ·rw[same e' h']at hI'
     exact xN ok sl dc v.dW heq hI (.inr hd) e' h' hI'
   rw[hg]at hu
   cases hu
   refine⟨v',?_,hv⟩
   rw[hd]
   simp only[jV,Array.getElem?_setIfInBounds,if_true]
   rw[if_pos (by rw[tr.1];exact v.dW.dst e he t hd)]
  ·rw[key t hd]at hu
   obtain⟨u',h1,h2⟩:=tr.2 t u hu
   refine⟨u',?_,h2.mono hE (fun _ _ e=>e)⟩
   cases hq:e.it.o.dst with
   |none=>exact h1
   |some q=>
    simp only[jV,Array.getElem?_setIfInBounds]
    rw[if_neg (fun z=>hd (by rw[hq,z]))];exact h1
theorem aCi(ok:ItsOk P ops its)(sl:jK ops its=true)(dc:mK its I)(v:INV P gl fr ops its tm0 d I E F w0 w b tmps df cs)(lt:pU P gl fr d I){e:Ev}(he:e∈d.evs)(hI:I e.it.i=false)
  (hc:e.it.c<3) (ha:∀j,e.it.anc.testBit j=true→I j=true) (k:List Item) (rest:List Nat):
  ∃E' F' w' v',E.le E'∧(∀x,x<d.s.h.nxt→E'.ob x≠E.ob x→x=e.b∧e.k=2)∧F'.loc=F.loc∧F'.prot=F.prot∧INV P gl fr ops its tm0 d (ins I e.it.i) E' F' w0 w' b (jV tmps e.it.o.dst v') df cs∧
   step P (lone (mkF b tmps (.inRegion ops (e.it.i::rest)::k) df) cs w)=.next (lone (mkF b (jV tmps e.it.o.dst v') (.inRegion ops rest::k) df) cs w'):=by
 have hop:=ok.op e.it (v.dW.mem e he)
 have tre:=bBj ok sl dc v he hI ha
 obtain⟨post,pre,heq⟩:=List.append_of_mem he
 obtain⟨s1,s2,s3,s4,s5,s6⟩:=v.dW.split post e pre heq
 have hk:=v.kc e he hc
 have hk4:=v.kk e he
 have fin:∀(E':Env) (F':Fx) (w':World) (v':Value),E.le E'→(∀x,x<d.s.h.nxt→E'.ob x≠E.ob x→x=e.b∧e.k=2)→F'.loc=F.loc→MR E' F' d.s.h w0 w'→TVR E' F.loc e.v v'→INV P gl fr ops its tm0 d (ins I e.it.i) E' F' w0 w' b (jV tmps e.it.o.dst v') df cs:=by
  intro E' F' w' v' hle hx hF m hv
  have hins:∀i,ins I e.it.i i=false→I i=false∧i≠e.it.i:=by
   intro i hi;unfold ins at hi;split at hi
   ·cases hi
   ·rename_i q;exact⟨hi,q⟩
  refine⟨v.dW,⟨m,by rw[hF];exact bFz ok sl dc v hle he hI hv,v.st.dr.mono fun _ _=>ADR.mono hle,v.st.uk.mono hle,v.st.fr.mono hle,v.st.gl.mono hle⟩,fun i hi=>?_,fun e' h' hh=>?_,v.kc,v.kk,v.nd,fun e' h' hh hk2=>?_,fun e' h' hh hk2=>v.list e' h' (hins _ hh).1 hk2⟩
  ·unfold ins at hi
   split at hi
   ·rename_i q;exact⟨e,he,q.symm⟩
   ·exact v.sub i hi
  ·unfold ins;split
   ·rfl
   ·exact v.heavy e' h' hh
  ·obtain⟨g1,g2⟩:=hins _ hh
   obtain⟨ob,u,a0,a1,a2,a3,a4,a5⟩:=v.alloc e' h' g1 hk2
   refine⟨ob,u,a0,?_,a2,a3,a4,a5⟩
   by_cases q:E'.ob e'.b=E.ob e'.b
   ·rw[q];exact a1
   ·exfalso
    obtain⟨q1,q2⟩:=hx _ (v.dW.bb e' h' hk2) q
    rw[heq]at h'
    rcases List.mem_append.1 h' with h'|h'
    ·obtain⟨p1,p2,hp⟩:=List.append_of_mem h'
     rcases(v.dW.split p1 e' (p2++e::pre) (by rw[heq,hp];simp)).2.2.2.1 e (by simp) q2 with g|g
     ·omega
     ·exact g hk2
    ·cases h' with
     |head=>exact g2 rfl
     |tail _ h'=>
      rcases s4 e' h' hk2 with g|g
      ·omega
      ·exact g q2
 have notdef:b.roundOf=none∨∀c,e.it.o.op≠.defer c:=.inr (v.nd e he hc)
 by_cases k0:e.k=0
 ·obtain⟨hw,hv⟩:=s5 k0
  have hw':=cE hw tre
  refine⟨E,F,w,undef,Env.le_refl E,fun x _ hx=>absurd rfl hx,rfl,rfl,fin E F w undef (Env.le_refl E) (fun x _ hx=>absurd rfl hx) rfl v.st.mr (by rw[hv];exact .v _ _ (.tup [] #[] .nil)),oE hop hw'⟩
 ·have hw':=cE (s6 k0) tre
  by_cases k1:e.k=1
  ·obtain⟨v',h1,h2⟩:=lt e he hI k1 E F w0 w tmps v.st.mr v.st.gl tre
   exact⟨E,F,w,v',Env.le_refl E,fun x _ hx=>absurd rfl hx,rfl,rfl,fin E F w v' (Env.le_refl E) (fun x _ hx=>absurd rfl hx) rfl v.st.mr h2,zP hop hw' notdef h1⟩
  ·by_cases k2:e.k=2
   ·obtain⟨ob,u,a0,a1,a2,a3,a4,a5⟩:=v.alloc e he hI k2
    obtain⟨v',cob,n,p,h1,h2,h3,h4⟩:=a5 E F.loc w tmps v.st.gl tre
    have hle:=qG (p:=p) a1
    have m2:=(v.st.mr.drawn n).place a3 a1 a2 a4 cob h2 (h3.mono hle)
    have hx:∀x,x<d.s.h.nxt→(gS E e.b p).ob x≠E.ob x→x=e.b∧e.k=2:=by
     intro x _ hx
     simp only[gS]at hx
     split at hx
     ·rename_i q;exact⟨q,k2⟩
     ·exact absurd rfl hx
    exact⟨gS E e.b p,{F with own:=bQ F.own w.heap.size (.ob e.b)},_,v',hle,hx,rfl,rfl,fin _ {F with own:=bQ F.own w.heap.size (.ob e.b)} _ v' hle hx rfl m2 (by rw[a0];exact .v _ _ (h4 _ (by simp[gS]))),zP hop hw' notdef h1⟩
   ·have k4:e.k=4:=by omega
    obtain⟨u,a0,a1⟩:=v.list e he hI k4
    obtain⟨v',c,el,q,n,cnt,h1,h2⟩:=a1 E F.loc w tmps v.st.gl tre
    have md:=v.st.mr.drawn n
    have hle:=md.qT cnt c
    have m2:=md.frozen cnt c el q .fz (.inl rfl)
    have hfz:∀i x,i<cnt→c[i]? =some x→(lB E w.heap.size cnt c).fz w.heap.size i=some x:=by
     intro i x hi hx
     simp only[lB,if_true];rw[if_pos hi];exact hx
    exact⟨lB E w.heap.size cnt c,{F with own:=bQ F.own w.heap.size .fz},_,v',hle,fun x _ hx=>absurd rfl hx,rfl,rfl,fin _ {F with own:=bQ F.own w.heap.size .fz} _ v' hle (fun x _ hx=>absurd rfl hx) rfl m2 (by rw[a0];exact .v _ _ (h2 _ hle hfz)),zP hop hw' notdef h1⟩
end
end Go.VM
end
section
/- The machine of values: regions whose order is drawn: the steps of them. -/
namespace Go.VM
open Go.RowKit
theorem TR.congr{E:Env}{L:Nat→Option Place}{nt:Nat}{tm tm':TM}{tmps:Array Value}(h:∀t,tg tm' t=tg tm t)(r:TR E L nt tm tmps):TR E L nt tm' tmps:=
 ⟨r.1,fun t v ht=>r.2 t v (by rw[←h t];exact ht)⟩
inductive Ph(P:Program)(gl:List Nat)(fr:Fr)(ops:Array Oper)(its:List It):DS→DS→Prop where
 |nil (d:DS):Ph P gl fr ops its d d
 |skip (it:It) {d d1 d2:DS} (hit:it∈its) (hc:Nat.blt it.c 3=true) (ht:dJ d it=true) (hw:bS ops it.o (aF d.s.tm (tmpsOf ops it.o))=some false)
   (ha:d.add fr it (aF d.s.tm (tmpsOf ops it.o)) 0 (.v bG) d.s=some d1) (next:Ph P gl fr ops its d1 d2):Ph P gl fr ops its d d2
 |fZ (it:It) {v:TV} {d d1 d2:DS} (hit:it∈its) (hc:Nat.blt it.c 3=true) (ht:dJ d it=true) (hw:bS ops it.o (aF d.s.tm (tmpsOf ops it.o))=some true)
   (hl:Light P gl fr.nt (aF d.s.tm (tmpsOf ops it.o)) d.s.h it.o v)
   (ha:d.add fr it (aF d.s.tm (tmpsOf ops it.o)) 1 v d.s=some d1) (next:Ph P gl fr ops its d1 d2):Ph P gl fr ops its d d2
 |obj (it:It) {ob:Obj} {v:V} {d d1 d2:DS} (hit:it∈its) (hc:Nat.blt it.c 3=true) (ht:dJ d it=true) (hw:bS ops it.o (aF d.s.tm (tmpsOf ops it.o))=some true)
   (hl:AllocO P gl fr.nt (aF d.s.tm (tmpsOf ops it.o)) it.o d.s.h.nxt ob v∧∀n,ob≠.tok n)
   (ha:d.add fr it (aF d.s.tm (tmpsOf ops it.o)) 2 (.v v) {d.s with h:=d.s.h.new ob}=some d1) (next:Ph P gl fr ops its d1 d2):Ph P gl fr ops its d d2
 |list (it:It) {v:V} {d d1 d2:DS} (hit:it∈its) (hc:Nat.blt it.c 3=true) (ht:dJ d it=true) (hw:bS ops it.o (aF d.s.tm (tmpsOf ops it.o))=some true)
   (hl:AllocF P gl fr.nt (aF d.s.tm (tmpsOf ops it.o)) it.o v)
   (ha:d.add fr it (aF d.s.tm (tmpsOf ops it.o)) 4 (.v v) d.s=some d1) (next:Ph P gl fr ops its d1 d2):Ph P gl fr ops its d d2
inductive Pend(P:Program)(gl:List Nat)(fr:Fr)(h:H)(anc:Nat):List Ev→Prop where
 |nil:Pend P gl fr h anc []
 |pass {e:Ev} {es:List Ev} (hp:(!Nat.beq e.k 1||anc.testBit e.it.i)=true) (next:Pend P gl fr h anc es):Pend P gl fr h anc (e::es)
 |fZ {e:Ev} {es:List Ev} (hl:Light P gl fr.nt e.tmr h e.it.o e.v) (next:Pend P gl fr h anc es):Pend P gl fr h anc (e::es)
theorem Pend.spec{P:Program}{gl:List Nat}{fr:Fr}{h:H}{anc:Nat}{es:List Ev}(p:Pend P gl fr h anc es):∀e∈es,e.k=1→anc.testBit e.it.i=false→Light P gl fr.nt e.tmr h e.it.o e.v:=by
 induction p with
 |nil=>intro e he;cases he
 |pass hp _ ih=>
  intro e he hk ha
  cases he with
  |head=>rw[hk,ha]at hp;cases hp
  |tail _ he=>exact ih e he hk ha
 |fZ hl _ ih=>
  intro e he hk ha
  cases he with
  |head=>exact hl
  |tail _ he=>exact ih e he hk ha
def aXe(n:Nat)(d:DS):Bool:=Nat.beq d.mask (2^n-1)
inductive Dr(P:Program)(gl:List Nat)(fr:Fr)(ops:Array Oper)(its:List It)(x:X)(s':S):List It→DS→Prop where
 |fin {d:DS} (hx:x=.norm) (hs:s'=d.s) (hm:aXe ops.size d=true):Dr P gl fr ops its x s' [] d
 |skip {it:It} {hs:List It} {d d1 d2:DS} (ht:dJ d it=true) (hwt:waits its it d=true) (hw:bS ops it.o (aF d.s.tm (tmpsOf ops it.o))=some false)
   (ha:d.add fr it (aF d.s.tm (tmpsOf ops it.o)) 0 (.v bG) d.s=some d1) (ph:Ph P gl fr ops its d1 d2) (pd:Pend P gl fr d2.s.h it.anc d2.evs) (next:Dr P gl fr ops its x s' hs d2):Dr P gl fr ops its x s' (it::hs) d
 |go {it:It} {hs:List It} {d d1 d2:DS} {v:TV} {s2:S} (ht:dJ d it=true) (hwt:waits its it d=true) (hw:bS ops it.o (aF d.s.tm (tmpsOf ops it.o))=some true)
   (hop:OpR P gl fr it.o {d.s with tm:=aF d.s.tm (tmpsOf ops it.o)} (.val v s2))
   (ha:d.add fr it (aF d.s.tm (tmpsOf ops it.o)) 3 v s2=some d1) (ph:Ph P gl fr ops its d1 d2) (pd:Pend P gl fr d2.s.h it.anc d2.evs) (next:Dr P gl fr ops its x s' hs d2):Dr P gl fr ops its x s' (it::hs) d
 |stop {it:It} {hs:List It} {d:DS} {ch:List PE} {s2:S} (ht:dJ d it=true) (hwt:waits its it d=true) (hw:bS ops it.o (aF d.s.tm (tmpsOf ops it.o))=some true)
   (hop:OpR P gl fr it.o {d.s with tm:=aF d.s.tm (tmpsOf ops it.o)} (.pan ch s2)) (hx:x=.panic ch) (hse:s'={s2 with tm:=pB d.s.tm its}):Dr P gl fr ops its x s' (it::hs) d
theorem Dr.head{P:Program}{gl:List Nat}{fr:Fr}{ops:Array Oper}{its:List It}{x:X}{s':S}{it:It}{hs:List It}{d:DS}(h:Dr P gl fr ops its x s' (it::hs) d):dJ d it=true∧waits its it d=true:=by
 cases h with
 |skip ht hwt=>exact⟨ht,hwt⟩
 |go ht hwt=>exact⟨ht,hwt⟩
 |stop ht hwt=>exact⟨ht,hwt⟩
theorem bGa{P:Program}{o:Oper}(h:cls P o<3):∀c,o.op≠.defer c:=by
 intro c e
 unfold cls at h
 rw[e]at h
 simp at h
section
variable{P:Program}{gl:List Nat}{fr:Fr}{ops:Array Oper}{its:List It}{tm0:TM}{I:Nat→Bool}{E E0:Env}{F:Fx}{h0:H}{w0 w:World}{b:Frame}{tmps:Array Value}{df:List Deferred}{cs:List Frame}
def lI(h0:H)(d:DS):Prop:=∀e∈d.evs,e.k=2→h0.nxt≤e.b
theorem qR{d:DS}(v:INV P gl fr ops its tm0 d I E F w0 w b tmps df cs){it:It}(ht:dJ d it=true):I it.i=false:=by
 cases hI:I it.i with
 |false=>rfl
 |true=>
  obtain⟨e,he,hi⟩:=v.sub _ hI
  have:=(v.dW.mask it.i).2 ⟨e,he,hi⟩
  rw[(mZ ht).2]at this;cases this
theorem aDs(ok:ItsOk P ops its){d d':DS}(p:Ph P gl fr ops its d d'):INV P gl fr ops its tm0 d I E F w0 w b tmps df cs→Ext E0 h0 E d.s.h→lI h0 d→
  INV P gl fr ops its tm0 d' I E F w0 w b tmps df cs∧Ext E0 h0 E d'.s.h∧lI h0 d'∧d'.s.u=d.s.u:=by
 have core:∀(it:It) (d d':DS) (k:Nat) (u:TV) (h':H),it∈its→it.c<3→INV P gl fr ops its tm0 d I E F w0 w b tmps df cs→Ext E0 h0 E d.s.h→lI h0 d→dJ d it=true→Good fr ops its tm0 d'→
   d'.evs=⟨it,aF d.s.tm (tmpsOf ops it.o),k,u,d.s.h.nxt⟩::d.evs→d'.s.h=h'→d'.s.df=d.s.df→d'.s.u=d.s.u→k≤4→k≠3→
   MR E F h' w0 w→Ext E d.s.h E h'→(k=2→∃ob v,u=.v v∧E.ob d.s.h.nxt=none∧aC≤d.s.h.nxt∧h'.ob d.s.h.nxt=some ob∧(∀n,ob≠.tok n)∧AllocO P gl fr.nt (aF d.s.tm (tmpsOf ops it.o)) it.o d.s.h.nxt ob v)→
   (k=4→∃v,u=.v v∧AllocF P gl fr.nt (aF d.s.tm (tmpsOf ops it.o)) it.o v)→
   INV P gl fr ops its tm0 d' I E F w0 w b tmps df cs∧Ext E0 h0 E d'.s.h∧lI h0 d'∧d'.s.u=d.s.u:=by
  intro it d d' k u h' hit hc v x bs ht g hev hh hdf hu hk hk3 m1 x1 hal hli
  have hI:=qR v ht
  refine⟨⟨g,?_,fun i hi=>?_,fun e he h3=>?_,fun e he h3=>?_,fun e he=>?_,fun e he h3=>?_,fun e he hIe h2=>?_,fun e he hIe h4=>?_⟩,?_,fun e he h2=>?_,hu⟩
  ·rw[hev]
   simp only[gO,hI,Bool.false_eq_true,if_false]
   exact⟨by rw[show({d'.s with tm:=gO I tm0 d.evs}:S).h=h' from hh];exact m1,v.st.tr,by rw[show({d'.s with tm:=gO I tm0 d.evs}:S).df=d.s.df from hdf];exact v.st.dr,by rw[show({d'.s with tm:=gO I tm0 d.evs}:S).u=d.s.u from hu];exact v.st.uk,v.st.fr,v.st.gl⟩
  ·obtain⟨e,he,q⟩:=v.sub i hi
   exact⟨e,by rw[hev];exact List.mem_cons_of_mem _ he,q⟩
  ·rw[hev]at he
   cases he with
   |head=>exact absurd h3 (by simpa using hc)
   |tail _ he=>exact v.heavy e he h3
  ·rw[hev]at he
   cases he with
   |head=>exact hk3
   |tail _ he=>exact v.kc e he h3
  ·rw[hev]at he
   cases he with
   |head=>exact hk
   |tail _ he=>exact v.kk e he
  ·rw[hev]at he
   cases he with
   |head=>exact bGa (by rw[←ok.cl it hit];exact hc)
   |tail _ he=>exact v.nd e he h3
  ·rw[hev]at he
   rw[hh]
   cases he with
   |head=>exact hal h2
   |tail _ he=>
    obtain⟨ob,u',a0,a1,a2,a3,a4,a5⟩:=v.alloc e he hIe h2
    exact⟨ob,u',a0,a1,a2,x1.ghost e.b ob (v.dW.bb e he h2) a1 a3 a4,a4,a5⟩
  ·rw[hev]at he
   cases he with
   |head=>exact hli h4
   |tail _ he=>exact v.list e he hIe h4
  ·rw[hh];exact x.trans x1
  ·rw[hev]at he
   cases he with
   |head=>exact x.nxt
   |tail _ he=>exact bs e he h2
 induction p with
 |nil d=>intro v x bs;exact⟨v,x,bs,rfl⟩
 | @skip it d d1 d2 hit hc ht hw ha next ih=>
  intro v x bs
  obtain⟨g,tm,h1,h2⟩:=Good.add (k:=0) (v:=.v bG) (s:=d.s) v.dW hit ht ha rfl (Nat.le_refl _) (fun q=>by cases q) (fun _=>⟨hw,rfl⟩) (fun q=>absurd rfl q)
  obtain⟨v1,x1,b1,u1⟩:=core it d d1 0 (.v bG) d.s.h hit (by rwa[Nat.blt_eq]at hc) v x bs ht g (by rw[h2]) (by rw[h2]) (by rw[h2]) (by rw[h2]) (by omega) (by omega) v.st.mr (Ext.refl _ _) (fun q=>by cases q) (fun q=>by cases q)
  obtain⟨v2,x2,b2,u2⟩:=ih v1 x1 b1
  exact⟨v2,x2,b2,u2.trans u1⟩
 | @fZ it u d d1 d2 hit hc ht hw hl ha next ih=>
  intro v x bs
  obtain⟨g,tm,h1,h2⟩:=Good.add (k:=1) (v:=u) (s:=d.s) v.dW hit ht ha rfl (Nat.le_refl _) (fun q=>by cases q) (fun q=>by cases q) (fun _=>hw)
  obtain⟨v1,x1,b1,u1⟩:=core it d d1 1 u d.s.h hit (by rwa[Nat.blt_eq]at hc) v x bs ht g (by rw[h2]) (by rw[h2]) (by rw[h2]) (by rw[h2]) (by omega) (by omega) v.st.mr (Ext.refl _ _) (fun q=>by cases q) (fun q=>by cases q)
  obtain⟨v2,x2,b2,u2⟩:=ih v1 x1 b1
  exact⟨v2,x2,b2,u2.trans u1⟩
 | @obj it ob u d d1 d2 hit hc ht hw hl ha next ih=>
  intro v x bs
  obtain⟨hl,hnt⟩:=hl
  obtain⟨m1,x1,hEb,hget⟩:=v.st.mr.ghost ob (fun n e=>absurd e (hnt n))
  obtain⟨g,tm,h1,h2⟩:=Good.add (k:=2) (v:=.v u) (s:={d.s with h:=d.s.h.new ob}) v.dW hit ht ha rfl x1.nxt (fun _=>Nat.lt_succ_self _) (fun q=>by cases q) (fun _=>hw)
  obtain⟨v1,x1,b1,u1⟩:=core it d d1 2 (.v u) (d.s.h.new ob) hit (by rwa[Nat.blt_eq]at hc) v x bs ht g (by rw[h2]) (by rw[h2]) (by rw[h2]) (by rw[h2]) (by omega) (by omega) m1 x1
   (fun _=>⟨ob,u,rfl,hEb,v.st.mr.glo,hget,hnt,hl⟩) (fun q=>by cases q)
  obtain⟨v2,x2,b2,u2⟩:=ih v1 x1 b1
  exact⟨v2,x2,b2,u2.trans u1⟩
 | @list it u d d1 d2 hit hc ht hw hl ha next ih=>
  intro v x bs
  obtain⟨g,tm,h1,h2⟩:=Good.add (k:=4) (v:=.v u) (s:=d.s) v.dW hit ht ha rfl (Nat.le_refl _) (fun q=>by cases q) (fun q=>by cases q) (fun _=>hw)
  obtain⟨v1,x1,b1,u1⟩:=core it d d1 4 (.v u) d.s.h hit (by rwa[Nat.blt_eq]at hc) v x bs ht g (by rw[h2]) (by rw[h2]) (by rw[h2]) (by rw[h2]) (by omega) (by omega) v.st.mr (Ext.refl _ _) (fun q=>by cases q)
   (fun _=>⟨u,rfl,hl⟩)
  obtain⟨v2,x2,b2,u2⟩:=ih v1 x1 b1
  exact⟨v2,x2,b2,u2.trans u1⟩
theorem zH{its:List It}{tm:TM}{t:Nat}{u:TV}(h:tg (pB tm its) t=some u):tg tm t=some u∧∀it∈its,it.o.dst≠some t:=by
 induction its generalizing tm with
 |nil=>exact⟨h,by simp⟩
 |cons it its ih=>
  simp only[pB]at h
  split at h
  ·rename_i q hq
   obtain⟨a,c⟩:=ih h
   obtain⟨a1,a2⟩:=bHg a
   refine⟨a1,fun i hi=>?_⟩
   cases hi with
   |head=>rw[hq];intro z;exact a2 (Option.some.inj z).symm
   |tail _ hi=>exact c i hi
  ·rename_i hq
   obtain⟨a,c⟩:=ih h
   refine⟨a,fun i hi=>?_⟩
   cases hi with
   |head=>rw[hq];simp
   |tail _ hi=>exact c i hi
section heavy
variable{d:DS}{it:It}
theorem aGa(sl:jK ops its=true)(v:INV P gl fr ops its tm0 d I E F w0 w b tmps df cs)(hit:it∈its)(ha:∀j,it.anc.testBit j=true→I j=true)(ht:dJ d it=true):TR E F.loc fr.nt (aF d.s.tm (tmpsOf ops it.o)) tmps:=by
 refine⟨v.st.tr.1,fun t u hu=>?_⟩
 obtain⟨h1,h2⟩:=uF hu
 refine v.st.tr.2 t u ?_
 show tg (gO I tm0 d.evs) t=some u
 rw[v.dW.tm]at h2
 rw[←h2]
 refine iH d.evs fun e' h' hd=>?_
 have hne:it.i≠e'.it.i:=fun q=>by
  have:=(v.dW.mask it.i).2 ⟨e',h',q.symm⟩
  rw[(mZ ht).2]at this;cases this
 rcases vN sl hit (v.dW.mem e' h') hne hd (.inl h1)with g|g
 ·exact ha _ g
 ·exfalso
  obtain⟨post,pre,heq⟩:=List.append_of_mem h'
  obtain⟨e2,g1,g2⟩:=(v.dW.split post e' pre heq).1 _ g
  have:=(v.dW.mask it.i).2 ⟨e2,by rw[heq];simp[g1],g2⟩
  rw[(mZ ht).2]at this;cases this
theorem pZ(v:INV P gl fr ops its tm0 d I E F w0 w b tmps df cs)(x:Ext E0 h0 E d.s.h)(bs:lI h0 d)(hit:it∈its)(hc:3≤it.c)(ht:dJ d it=true)
  {d':DS} {kk:Nat} {u:TV} {s2:S} {E':Env} {F':Fx} {df':List Deferred} {cs':List Frame} {w':World} {v':Value}
  (hadd:d.add fr it (aF d.s.tm (tmpsOf ops it.o)) kk u s2=some d') (hkk:kk=0∨kk=3) (hz:kk=0→bS ops it.o (aF d.s.tm (tmpsOf ops it.o))=some false∧u=.v bG)
  (hnz:kk≠0→bS ops it.o (aF d.s.tm (tmpsOf ops it.o))=some true) (x1:Ext E d.s.h E' s2.h) (hF:F'.loc=F.loc) (m1:MR E' F' s2.h w0 w') (dr:All₂ (ADR E') s2.df df') (uk:UK E' s2.u b.kind cs') (hv:TVR E' F'.loc u v'):
  Ext E0 h0 E' d'.s.h∧INV P gl fr ops its tm0 d' (ins I it.i) E' F' w0 w' b (jV tmps it.o.dst v') df' cs'∧lI h0 d'∧d'.s.u=s2.u∧(∃e,d'.evs=e::d.evs∧e.it=it):=by
 have hadd':d.add fr it (aF d.s.tm (tmpsOf ops it.o)) kk u {s2 with tm:=d.s.tm}=some d':=hadd
 obtain⟨g,tm,h1,h2⟩:=Good.add v.dW hit ht hadd' rfl x1.nxt (fun q=>by omega) hz hnz
 have hI:=qR v ht
 have hev:d'.evs=⟨it,aF d.s.tm (tmpsOf ops it.o),kk,u,d.s.h.nxt⟩::d.evs:=by rw[h2]
 have hh:d'.s.h=s2.h:=by rw[h2]
 have hdf:d'.s.df=s2.df:=by rw[h2]
 have hu:d'.s.u=s2.u:=by rw[h2]
 have trI:TR E' F'.loc fr.nt (gO (ins I it.i) tm0 d.evs) tmps:=by
  refine TR.congr (fun t=>?_) (v.st.tr.mono x1.le (fun _ _ e=>by rw[hF];exact e))
  refine iH d.evs fun e' h' _=>?_
  unfold ins
  rw[if_neg]
  intro q
  have:=(v.dW.mask it.i).2 ⟨e',h',q⟩
  rw[(mZ ht).2]at this;cases this
 have hins:∀i,ins I it.i i=false→I i=false:=by
  intro i hi;unfold ins at hi;split at hi
  ·cases hi
  ·exact hi
 refine⟨by rw[hh];exact x.trans x1,⟨g,?_,fun i hi=>?_,fun e he h3=>?_,fun e he h3=>?_,fun e he=>?_,fun e he h3=>?_,fun e he hIe hk=>?_,fun e he hIe hk=>?_⟩,fun e he hk=>?_,hu,⟨_,hev,rfl⟩⟩
 ·refine⟨by rw[show({d'.s with tm:=gO (ins I it.i) tm0 d'.evs}:S).h=s2.h from hh];exact m1,?_,by rw[show({d'.s with tm:=gO (ins I it.i) tm0 d'.evs}:S).df=s2.df from hdf];exact dr,by rw[show({d'.s with tm:=gO (ins I it.i) tm0 d'.evs}:S).u=s2.u from hu];exact uk,v.st.fr.mono x1.le,v.st.gl.mono x1.le⟩
  show TR E' F'.loc fr.nt (gO (ins I it.i) tm0 d'.evs) _
  rw[hev]
  simp only[gO]
  rw[if_pos (by unfold ins;rw[if_pos rfl])]
  refine aDx (v:=u) trI ?_ hv
  unfold aQw
  cases hd:it.o.dst with
  |none=>rfl
  |some q=>
   rw[hd]at h1
   simp only[bB]at h1⊢
   split at h1
   ·rename_i hb;simp only[hb]
   ·cases h1
 ·unfold ins at hi
  split at hi
  ·rename_i q;exact⟨_,by rw[hev];exact List.mem_cons_self ..,q.symm⟩
  ·obtain⟨e,he,q⟩:=v.sub i hi;exact⟨e,by rw[hev];exact List.mem_cons_of_mem _ he,q⟩
 ·rw[hev]at he
  unfold ins;split
  ·rfl
  ·rename_i hne
   cases he with
   |head=>exact absurd rfl hne
   |tail _ he=>exact v.heavy e he h3
 ·rw[hev]at he
  cases he with
  |head=>exact absurd hc (by simpa using h3)
  |tail _ he=>exact v.kc e he h3
 ·rw[hev]at he
  cases he with
  |head=>show kk≤4;omega
  |tail _ he=>exact v.kk e he
 ·rw[hev]at he
  cases he with
  |head=>exact absurd hc (by simpa using h3)
  |tail _ he=>exact v.nd e he h3
 ·rw[hev]at he
  rw[hh]
  cases he with
  |head=>have hk:kk=2:=hk;omega
  |tail _ he=>
   obtain⟨ob,u',a0,a1,a2,a3,a4,a5⟩:=v.alloc e he (hins _ hIe) hk
   have hlt:=v.dW.bb e he hk
   exact⟨ob,u',a0,(x1.old _ hlt).trans a1,a2,x1.ghost _ ob hlt a1 a3 a4,a4,a5⟩
 ·rw[hev]at he
  cases he with
  |head=>have hk:kk=4:=hk;omega
  |tail _ he=>exact v.list e he (hins _ hIe) hk
 ·rw[hev]at he
  cases he with
  |head=>have hk:kk=2:=hk;omega
  |tail _ he=>exact bs e he hk
end heavy
end
end Go.VM
end
section
/- The machine of values: regions whose order is drawn: the whole of them. -/
namespace Go.VM
open Go.RowKit
def lst(l:Array Bool):Nat→Bool:=fun j=>l.getD j false
theorem aPg{l:Array Bool}{i:Nat}(h:i<l.size):lst (l.setIfInBounds i true)=ins (lst l) i:=by
 funext j
 unfold lst ins
 by_cases q:j=i
 ·subst q
  rw[if_pos rfl]
  simp[Array.getD_eq_getD_getElem?,h]
 ·rw[if_neg q,getD_set_ne false (fun z=>q z.symm)]
theorem xF{l:Array Bool}{i:Nat}(h:i<l.size):l.getD i true=l.getD i false:=by
 simp[Array.getD_eq_getD_getElem?,h]
theorem sM{P:Program}{gl:List Nat}{fr:Fr}{ops:Array Oper}{its:List It}{tm0:TM}(ok:ItsOk P ops its)(k:List Item){E0:Env}{h0:H}{w0:World}{b:Frame}{x:X}{s':S}
  (listed:Array Bool) (hs:List It) (d:DS) (E:Env) (F:Fx) (w:World) (tmps:Array Value) (df:List Deferred) (cs:List Frame)
  (v:INV P gl fr ops its tm0 d (lst listed) E F w0 w b tmps df cs) (hhs:∀it∈hs,it∈its∧3≤it.c) (ex:Ext E0 h0 E d.s.h) (h:Dr P gl fr ops its x s' hs d) (hf:∀i,i<ops.size→lst listed i=true):
  ∃E' F' tmps' df' cs' w',Ext E0 h0 E' s'.h∧F'.prot=F.prot∧StR gl E' F' fr s' b tmps' df' cs' w0 w'∧CS d.s.u cs cs'∧s'.u.isSome=d.s.u.isSome∧
   Arr P E' x (lone (mkF b tmps (.inRegion ops []::k) df) cs w) b k tmps' df' cs' w':=by
 have hin:∀it∈its,lst listed it.i=true:=fun it hit=>hf _ (Array.getElem?_eq_some_iff.1 (ok.op it hit)).1
 cases hs with
 |cons hd tl=>
  have:=qR v h.head.1
  rw[hin hd (hhs hd (List.mem_cons_self ..)).1]at this;cases this
 |nil=>
  cases h with
  |fin hx hs hm=>
   subst hx;subst hs
   refine⟨E,F,tmps,df,cs,w,ex,rfl,⟨v.st.mr,?_,v.st.dr,v.st.uk,v.st.fr,v.st.gl⟩,CS.refl v.st.uk,rfl,.one aYp⟩
   refine TR.congr (fun t=>?_) v.st.tr
   show tg d.s.tm t=tg (gO (lst listed) tm0 d.evs) t
   rw[v.dW.tm]
   exact iH d.evs fun e' h' _=>(hin _ (v.dW.mem e' h')).symm
section
variable{P:Program}{gl:List Nat}{fr:Fr}{ops:Array Oper}{its:List It}{tm0:TM}
theorem yU(ok:ItsOk P ops its)(sl:jK ops its=true)(bk:aAi its=true)(k:List Item){E0:Env}{h0:H}{w0:World}{b:Frame}{x:X}{s':S}:
  ∀(fuel t:Nat) (listed:Array Bool) (hs:List It) (d:DS) (E:Env) (F:Fx) (w:World) (tmps:Array Value) (df:List Deferred) (cs:List Frame),
   listed.size=ops.size→listed.toList.count false≤fuel→INV P gl fr ops its tm0 d (lst listed) E F w0 w b tmps df cs→pU P gl fr d (lst listed)→mK its (lst listed)→
   jL hs=true→(∀it∈hs,it∈its∧3≤it.c)→(∀it∈its,3≤it.c→it∈hs∨∃e∈d.evs,e.it.i=it.i)→
   Ext E0 h0 E d.s.h→lI h0 d→Dr P gl fr ops its x s' hs d→
   ∃E' F' tmps' df' cs' w',Ext E0 h0 E' s'.h∧F'.prot=F.prot∧StR gl E' F' fr s' b tmps' df' cs' w0 w'∧CS d.s.u cs cs'∧s'.u.isSome=d.s.u.isSome∧
    Arr P E' x (lone (mkF b tmps (.inRegion ops (Region.linearise.go .any ops fuel t listed [])::k) df) cs w) b k tmps' df' cs' w':=by
 intro fuel
 induction fuel with
 |zero=>
  intro t listed hs d E F w tmps df cs hsz hcnt v lt dc ch hhs hall ex bs h
  exact(sM ok k listed hs d E F w tmps df cs v hhs ex h (fun i hi=>by
   have h0:listed.toList.count false=0:=by omega
   rw[List.count_eq_zero]at h0
   unfold lst
   have hi':i<listed.size:=by omega
   simp only[Array.getD_eq_getD_getElem?,Array.getElem?_eq_getElem hi',Option.getD_some]
   cases hq:listed[i]with
   |true=>rfl
   |false=>exact absurd (hq▸Array.getElem_mem_toList hi') h0))
 |succ fuel ih=>
  intro t listed hs d E F w tmps df cs hsz hcnt v lt dc ch hhs hall ex bs h
  simp only[Region.linearise.go]
  change ∃E' F' tmps' df' cs' w',_∧_∧_∧_∧_∧Arr P E' x (lone (mkF b tmps (.inRegion ops (match(Region.ready .any ops listed)[t% (Region.ready .any ops listed).length]? with
   |some i=>Region.linearise.go .any ops fuel (t/(Region.ready .any ops listed).length) (listed.setIfInBounds i true) [i]
   |none=>[].reverse)::k) df) cs w) b k tmps' df' cs' w'
  cases hi:(Region.ready .any ops listed)[t% (Region.ready .any ops listed).length]? with
  |none=>
   have hnil:Region.ready .any ops listed=[]:=by
    cases hr:Region.ready .any ops listed with
    |nil=>rfl
    |cons x xs=>
     rw[hr]at hi
     have hlt:t% (x::xs).length<(x::xs).length:=Nat.mod_lt _ (by simp)
     simp at hi
     simp at hlt
     omega
   have hfull:∀(n i:Nat),i<n→i<ops.size→lst listed i=true:=by
    intro n
    induction n with
    |zero=>intro i hn;omega
    |succ n ihn=>
     intro i hn his
     cases hq:lst listed i with
     |true=>rfl
     |false=>
      exfalso
      obtain⟨it,hit,hii⟩:=ok.all i his
      have:i∈Region.ready .any ops listed:=by
       rw[mem_ready]
       refine⟨by rw[xF (by omega)];exact hq,it.o,by rw[←hii];exact ok.op it hit,fun e he hb=>?_⟩
       have hlt:e.on<it.i:=by
        have:=List.all_eq_true.1 (List.all_eq_true.1 bk it hit) e (by simpa using he)
        rw[hb]at this
        simpa [Nat.blt_eq] using this
       exact ihn e.on (by omega) (by omega)
      rw[hnil]at this;cases this
   exact sM ok k listed hs d E F w tmps df cs v hhs ex h (fun i hi=>hfull (i+1) i (Nat.lt_succ_self _) hi)
  |some i=>
   simp only[]
   rw[linearise_go_acc,List.reverse_singleton,List.singleton_append]
   generalize t/(Region.ready .any ops listed).length=t'
   obtain⟨r1,o,r2,r3⟩:=mem_ready.1 (List.mem_of_getElem? hi)
   have his:i<ops.size:=(Array.getElem?_eq_some_iff.1 r2).1
   have hil:i<listed.size:=by omega
   have hIi:lst listed i=false:=by rw[xF hil]at r1;exact r1
   have hset:=aPg hil
   have hsz':(listed.setIfInBounds i true).size=ops.size:=by rw[Array.size_setIfInBounds];exact hsz
   have hcnt':(listed.setIfInBounds i true).toList.count false≤fuel:=by
    rw[Array.toList_setIfInBounds,List.count_set (by simpa using hil)]
    have hq:listed.toList[i]'(by simpa using hil)=false:=by
     unfold lst at hIi
     simpa [Array.getD_eq_getD_getElem?,hil] using hIi
    rw[hq]
    simp only[BEq.rfl,if_true]
    have:((true:Bool)==false)=false:=rfl
    rw[this]
    simp only[Bool.false_eq_true,if_false]
    omega
   have edges:∀it∈its,it.i=i→∀e∈it.o.after.toList,Region.binds .any e=true→lst listed e.on=true:=by
    intro it hit hii e he hb
    have:=ok.op it hit
    rw[hii,r2]at this
    have e1:=Option.some.inj this
    exact r3 e (by rw[e1];simpa using he) hb
   have mN:∀it∈its,it.i=i→∀j,it.anc.testBit j=true→lst listed j=true:=fun it hit hii=>aLf ok dc (it.i+1) it (Nat.lt_succ_self _) hit (edges it hit hii)
   have dc':mK its (lst (listed.setIfInBounds i true)):=by
    rw[hset]
    intro it hit hI e he hb
    unfold ins at hI⊢
    split
    ·rfl
    ·split at hI
     ·rename_i q;exact edges it hit q e he hb
     ·exact dc it hit hI e he hb
   have noh:∀hd tl,hs=hd::tl→lst listed hd.i=false:=by
    intro hd tl heq
    rw[heq]at h
    exact qR v h.head.1
   obtain⟨it,hit,hii⟩:=ok.all i his
   by_cases hc:it.c<3
   ·-- it was run before
    have hm:d.mask.testBit i=true:=by
     cases hs with
     |nil=>
      cases h with
      |fin hx hse hm=>
       unfold aXe at hm
       rw[Nat.eq_of_beq_eq_true hm];exact bAy his
     |cons hd tl=>
      have hw:=h.head.2
      have:=List.all_eq_true.1 hw it hit
      simp only[Bool.or_eq_true]at this
      rcases this with(q|q)|q
      ·exfalso;have:=Nat.le_of_ble_eq_true q;omega
      ·rw[←hii];exact q
      ·exfalso
       have:=mN it hit hii _ q
       rw[noh hd tl rfl]at this;cases this
    obtain⟨e,he,hei⟩:=(v.dW.mask i).1 hm
    have hec:e.it.c<3:=by
     rcases ok.uniq e.it (v.dW.mem e he) it hit (by rw[hei,hii])with q|⟨_,_,q⟩
     ·rw[q];exact hc
     ·rw[q];exact hc
    have hst:=aCi (w:=w) ok sl dc v lt he (by rw[hei];exact hIi) hec (mN e.it (v.dW.mem e he) hei) k (Region.linearise.go .any ops fuel t' (listed.setIfInBounds i true) [])
    obtain⟨E1,F1,w1,v1,a1,a2,f1,f2,a4,a5⟩:=hst
    rw[hei]at a4 a5
    rw[←hset]at a4
    have ex1:Ext E0 h0 E1 d.s.h:=by
     refine⟨ex.le.trans a1,fun y hy=>?_,ex.nxt,ex.ghost⟩
     rw[←ex.old y hy]
     by_cases q:E1.ob y=E.ob y
     ·exact q
     ·obtain⟨q1,q2⟩:=a2 y (Nat.lt_of_lt_of_le hy ex.nxt) q
      have:=bs e he q2
      omega
    obtain⟨E',F',tmps',df',cs',w',b1,b1f,b2,b3,b4,b5⟩:=ih t' (listed.setIfInBounds i true) hs d E1 F1 w1 _ df cs hsz' hcnt' a4
     (by
      rw[hset]
      intro e' he' hI' hk'
      unfold ins at hI'
      split at hI'
      ·cases hI'
      ·exact lt e' he' hI' hk') dc' ch hhs hall ex1 bs h
    exact⟨E',F',tmps',df',cs',w',b1,b1f.trans f2,b2,b3,b4,Arr.of (.one a5) b5⟩
   ·-- a heavy one: the next
    have hc3:3≤it.c:=by omega
    rcases hall it hit hc3 with hin|⟨e,he,hei⟩
    ·cases hs with
     |nil=>cases hin
     |cons hd tl=>
      obtain⟨c1,c2⟩:=rL ch
      have hhd:it=hd:=by
       cases hin with
       |head=>rfl
       |tail _ hin=>
        exfalso
        have:=mN it hit hii _ (c1 it hin)
        rw[noh hd tl rfl]at this;cases this
      subst hhd
      have rest:∀(d1 d2:DS) (E1:Env) (F1:Fx) (df1:List Deferred) (cs1:List Frame) (w1:World) (v1:Value),Ext E0 h0 E1 d1.s.h→INV P gl fr ops its tm0 d1 (ins (lst listed) it.i) E1 F1 w0 w1 b (jV tmps it.o.dst v1) df1 cs1→lI h0 d1→CS d.s.u cs cs1→d1.s.u.isSome=d.s.u.isSome→F1.prot=F.prot→
        Ph P gl fr ops its d1 d2→Pend P gl fr d2.s.h it.anc d2.evs→Dr P gl fr ops its x s' tl d2→
        Steps P (lone (mkF b tmps (.inRegion ops (i::Region.linearise.go .any ops fuel t' (listed.setIfInBounds i true) [])::k) df) cs w) (lone (mkF b (jV tmps it.o.dst v1) (.inRegion ops (Region.linearise.go .any ops fuel t' (listed.setIfInBounds i true) [])::k) df1) cs1 w1)→
        ∃E' F' tmps' df' cs' w',Ext E0 h0 E' s'.h∧F'.prot=F.prot∧StR gl E' F' fr s' b tmps' df' cs' w0 w'∧CS d.s.u cs cs'∧s'.u.isSome=d.s.u.isSome∧
         Arr P E' x (lone (mkF b tmps (.inRegion ops (i::Region.linearise.go .any ops fuel t' (listed.setIfInBounds i true) [])::k) df) cs w) b k tmps' df' cs' w':=by
       intro d1 d2 E1 F1 df1 cs1 w1 v1 a1 a2 a3 a4 a5 a5f p1 p2 p3 a6
       obtain⟨v2,x2,bs2,u2⟩:=aDs ok p1 a2 a1 a3
       rw[hii,←hset]at v2
       have hsub:∀j,lst (listed.setIfInBounds i true) j=true→∃e'∈d2.evs,e'.it.i=j:=v2.sub
       have hin2:∀j,lst listed j=true→lst (listed.setIfInBounds i true) j=true:=by
        intro j hj;rw[hset];unfold ins;split
        ·rfl
        ·exact hj
       have hini:lst (listed.setIfInBounds i true) i=true:=by rw[hset];unfold ins;rw[if_pos rfl]
       obtain⟨E',F',tmps',df',cs',w',b1,b1f,b2,b3,b4,b5⟩:=ih t' (listed.setIfInBounds i true) tl d2 E1 F1 w1 _ df1 cs1 hsz' hcnt' v2
        (by
         intro e' he' hI' hk'
         refine p2.spec e' he' hk' ?_
         cases hq:it.anc.testBit e'.it.i with
         |false=>rfl
         |true=>
          have:=hin2 _ (mN it hit hii _ hq)
          rw[hI']at this;cases this)
        dc' c2 (fun y hy=>hhs y (List.mem_cons_of_mem _ hy))
        (by
         intro y hy hyc
         rcases hall y hy hyc with q|⟨e,he,hei⟩
         ·cases q with
          |head=>exact .inr (by rw[hii];exact hsub i hini)
          |tail _ q=>exact .inl q
         ·refine .inr (hsub _ (hin2 _ ?_))
          rw[←hei]
          refine v.heavy e he ?_
          rcases ok.uniq e.it (v.dW.mem e he) y hy hei with q|⟨_,_,q⟩
          ·rw[q];exact hyc
          ·rw[q];exact hyc)
        x2 bs2 p3
       exact⟨E',F',tmps',df',cs',w',b1,b1f.trans a5f,b2,CS.trans a4 (u2▸b3) a5,b4.trans (by rw[u2];exact a5),Arr.of a6 b5⟩
      have hop:=ok.op it hit
      have haI:∀j,it.anc.testBit j=true→lst listed j=true:=mN it hit hii
      have trm:=aGa sl v hit haI
      cases h with
      | @skip _ _ _ d1 d2 ht hwt hw ha ph pd next=>
       have hw':=cE hw (trm ht)
       obtain⟨g1,g2,g3,g4,g5⟩:=pZ (v':=undef) v ex bs hit hc3 ht ha (.inl rfl) (fun _=>⟨hw,rfl⟩) (fun q=>absurd rfl q) (Ext.refl _ _) rfl v.st.mr v.st.dr v.st.uk (.v _ _ (.tup [] #[] .nil))
       rw[hii]at hop
       exact rest d1 d2 E F df cs w undef g1 g2 g3 (CS.refl v.st.uk) (by rw[g4]) rfl ph pd next (.one (oE hop hw'))
      | @go _ _ _ d1 d2 u s2 ht hwt hw hpr ha ph pd next=>
       have hw':=cE hw (trm ht)
       obtain⟨q0,E1,F1,df1,cs1,w1,v1,q1,q2,q3,q4,q5,q6,q7,q8⟩:=hpr E F w0 w b tmps df cs k ops it.i (Region.linearise.go .any ops fuel t' (listed.setIfInBounds i true) [])
        ⟨v.st.mr,trm ht,v.st.dr,v.st.uk,v.st.fr,v.st.gl⟩ hop hw'
       obtain⟨g1,g2,g3,g4,g5⟩:=pZ v ex bs hit hc3 ht ha (.inr rfl) (fun q=>by cases q) (fun _=>hw) q1 q2 q4.mr q4.dr q4.uk q7
       rw[hii]at q8
       exact rest d1 d2 E1 F1 df1 cs1 w1 v1 g1 g2 g3 q5 (by rw[g4];exact q6) q3 ph pd next q8
      | @stop _ _ _ pch s2 ht hwt hw hpr hx hse=>
       have hw':=cE hw (trm ht)
       subst hx;subst hse
       obtain⟨q0,E1,F1,df1,cs1,w1,todo,pch',q1,q2,q3,q4,q5,q6,q7,q8⟩:=hpr E F w0 w b tmps df cs k ops it.i (Region.linearise.go .any ops fuel t' (listed.setIfInBounds i true) [])
        ⟨v.st.mr,trm ht,v.st.dr,v.st.uk,v.st.fr,v.st.gl⟩ hop hw'
       rw[hii]at q8
       refine⟨E1,F1,tmps,df1,cs1,w1,ex.trans q1,q3,⟨q4.mr,⟨q4.tr.1,fun t u hu=>?_⟩,q4.dr,q4.uk,q4.fr,q4.gl⟩,q5,q6,todo,pch',q7,q8⟩
       obtain⟨c1,c2⟩:=zH hu
       rw[v.dW.tm]at c1
       refine(v.st.tr.mono q1.le (fun _ _ e=>by rw[q2];exact e)).2 t u ?_
       show tg (gO (lst listed) tm0 d.evs) t=some u
       rw[←c1]
       exact iH d.evs fun e' h' hd=>absurd hd (c2 _ (v.dW.mem e' h'))
    ·have:=v.heavy e he (by
      rcases ok.uniq e.it (v.dW.mem e he) it hit hei with q|⟨_,_,q⟩
      ·rw[q];exact hc3
      ·rw[q];exact hc3)
     rw[hei,hii,hIi]at this;cases this
end
def aVs(P:Program)(ops:Array Oper)(its:List It):Bool:=jK ops its&&aAi its&&jL (its.filter fun it=>Nat.ble 3 it.c)
theorem aFy{P:Program}{gl:List Nat}{fr:Fr}{id:Nat}{ops:Array Oper}{its:List It}{s:S}{x:X}{s':S}{d1:DS}(aZ:P.follows .mixedOrders=true)(hits:items P ops.toList=its)(hok:aVs P ops its=true)
  (ph:Ph P gl fr ops its ⟨s,[],0⟩ d1) (dr:Dr P gl fr ops its x s' (its.filter fun it=>Nat.ble 3 it.c) d1) (pd:Pend P gl fr d1.s.h 0 d1.evs):SItem P gl fr (.code (.region id ops true)) s x s':=by
 simp only[aVs,Bool.and_eq_true]at hok
 obtain⟨⟨sl,bk⟩,ch⟩:=hok
 have ok:=aJj (P:=P) ops
 rw[hits]at ok
 intro E F w0 w b tmps df cs k st
 have hI:lst (Array.replicate ops.size false)=fun _=>false:=by
  funext j
  unfold lst
  simp[Array.getD_eq_getD_getElem?,Array.getElem?_replicate]
  split<;>rfl
 have m0:=st.mr.drawn (w.drawn+1)
 have v0:INV P gl fr ops its s.tm ⟨s,[],0⟩ (lst (Array.replicate ops.size false)) E F w0 {w with drawn:=w.drawn+1} b tmps df cs:=by
  rw[hI]
  exact⟨Good.nil,⟨m0,st.tr,st.dr,st.uk,st.fr,st.gl⟩,(fun i hi=>by cases hi),(fun e he=>by cases he),(fun e he=>by cases he),(fun e he=>by cases he),(fun e he=>by cases he),(fun e he=>by cases he),(fun e he=>by cases he)⟩
 obtain⟨v1,x1,bs1,u1⟩:=aDs (E0:=E) (h0:=s.h) ok ph v0 (Ext.refl _ _) (fun e he=>by cases he)
 obtain⟨E',F',tmps',df',cs',w',b1,b1f,b2,b3,b4,b5⟩:=yU ok sl bk k ops.size (w.tape w.drawn (.order b.fn id)) (Array.replicate ops.size false) _ d1 E F {w with drawn:=w.drawn+1} tmps df cs
  (by simp) (by simp) v1
  (by
   intro e' he' hI' hk'
   exact pd.spec e' he' hk' (Nat.zero_testBit _))
  (by rw[hI];intro it hit hz;cases hz) ch
  (fun it hit=>by
   obtain⟨q1,q2⟩:=List.mem_filter.1 hit
   exact⟨q1,Nat.le_of_ble_eq_true q2⟩)
  (fun it hit hc=>.inl (List.mem_filter.2 ⟨hit,Nat.ble_eq_true_of_le hc⟩)) x1 bs1 dr
 refine⟨E',F',tmps',df',cs',w',b1,b1f,b2,u1▸b3,by rw[b4,u1],Arr.of (.one ?_) b5⟩
 rw[aOj]
 simp only[Region.schedule,aZ,Bool.true_or,if_true]
 rfl
end Go.VM
end
