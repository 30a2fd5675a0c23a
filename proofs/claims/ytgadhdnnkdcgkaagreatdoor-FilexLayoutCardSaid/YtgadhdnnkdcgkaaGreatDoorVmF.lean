/- laid for this seat: VmExe VmFrame VmFrame2 -/
import Derived.Test.YtgadhdnnkdcgkaaGreatDoorVmE
set_option linter.unusedVariables false
set_option linter.unusedSimpArgs false
section
/- The machine of values: operations run as far as they compute. -/
namespace Go.VM
open Go.RowKit
def aEf:RO→Bool
 |.mv _|.pick .. |.nc _|.fa .. |.ia .. |.iaa .. |.bin .. |.eq .. |.inil .. |.un .. |.cvi .. |.cvs _|.cvr _|.mkI .. |.mkF .. |.slc .. |.fld .. |.idx .. |.idxs .. |.ta .. |.ext .. |.lenS _|.lenL _|.cap _|.max .. |.min .. |.bld .. =>true
 |_=>false
theorem aRl{gl:List Nat}{tm:TM}{h h':H}{ro:RO}(hp:aEf ro=true):rl gl tm h ro=rl gl tm h' ro:=by
 cases ro<;>first|rfl|cases hp
def eM(gl:List Nat)(tm:TM)(h:H):RO→Option TV
 |.cvb _=>none
 |ro=>rl gl tm h ro
section
variable{P:Program}{gl:List Nat}{nt:Nat}{tm:TM}{h:H}
theorem mU{ro:RO}{v:TV}(hx:eM gl tm h ro=some v):rl gl tm h ro=some v∧∀x,ro≠.cvb x:=by
 unfold eM at hx
 split at hx
 ·cases hx
 ·rename_i hn;exact⟨hx,hn⟩
theorem zS{ro:RO}{v:TV}(hx:rl gl tm h ro=some v)(hn:∀x,ro≠.cvb x):cG P gl nt tm h (some ro) v:=
 fun o ho=>aGw ho hx (fun x es c e=>absurd e (hn x))
theorem bJ{ro:RO}{v:TV}(hx:eM gl tm h ro=some v):cG P gl nt tm h (some ro) v:=zS (mU hx).1 (mU hx).2
theorem sE{ro:RO}{v:TV}(hp:aEf ro=true)(hx:rl gl tm h ro=some v)(h':H):cG P gl nt tm h' (some ro) v:=
 zS ((aRl hp).trans hx) (fun x e=>by subst e;cases hp)
theorem pK{o:Oper}{ro:RO}(ho:rop P o=some ro)(hk:Nat.beq (cU ro) 3=false):∀c,o.op≠.defer c:=by
 intro c e
 have:=dS ho
 rw[e]at this
 simp only[dY,beq_iff_eq]at this
 rw[this]at hk
 cases hk
theorem aLv{o:Oper}{ro:RO}(ho:rop P o=some ro)(hd:match ro with|.mu .. |.del .. |.clr .. =>true|_=>false):∀c,o.op≠.defer c:=by
 intro c e
 obtain⟨dst,op,ty,pos,after,guard⟩:=o
 have e:op=.defer c:=e
 subst e
 obtain⟨callee,args,argTypes⟩:=c
 cases callee with
 |value f=>simp only[rop]at ho;split at ho<;>cases ho;cases hd
 |invoke f n=>simp[rop]at ho
 |builtin b=>simp[rop]at ho
def aVa(gl:List Nat)(tm:TM)(hp:List Nat)(d:Option Nat)(ro:RO):Option V:=
 match d with
 |some d=>match hp.contains d with
  |true=>none
  |false=>raf gl tm ro
 |none=>none
def sqp(gl:List Nat)(nt:Nat)(hp:List Nat):Nat→List RI→S→List RI×S
 |0,l,s=>(l,s)
 |_,[],s=>([],s)
 |n+1,r::l,⟨tm,df,u,h⟩=>match aV r.gd tm with
  |none=>(r::l,⟨tm,df,u,h⟩)
  |some false=>match bB nt tm r.dst (.v bG)with
   |some tm=>sqp gl nt hp n l ⟨tm,df,u,h⟩
   |none=>(r::l,⟨tm,df,u,h⟩)
  |some true=>match r.ro with
   |none=>(r::l,⟨tm,df,u,h⟩)
   |some ro=>match cU ro with
    |0=>match eM gl tm h ro with
     |some v=>match bB nt tm r.dst v with
      |some tm=>sqp gl nt hp n l ⟨tm,df,u,h⟩
      |none=>(r::l,⟨tm,df,u,h⟩)
     |none=>(r::l,⟨tm,df,u,h⟩)
    |1=>match r.dst with
     |none=>(r::l,⟨tm,df,u,h⟩)
     |some d=>match hp.contains d with
      |true=>match rah gl tm h.nxt ro with
       |some (v,ob)=>match bB nt tm (some d) (.v v)with
        |some tm=>sqp gl nt hp n l ⟨tm,df,u,h.new ob⟩
        |none=>(r::l,⟨tm,df,u,h⟩)
       |none=>(r::l,⟨tm,df,u,h⟩)
      |false=>match raf gl tm ro with
       |some v=>match bB nt tm (some d) (.v v)with
        |some tm=>sqp gl nt hp n l ⟨tm,df,u,h⟩
        |none=>(r::l,⟨tm,df,u,h⟩)
       |none=>match ral gl tm ro,Nat.blt d nt with
        |some cs,true=>sqp gl nt hp n l ⟨(d,.l d 0)::tpg tm d,df,u,⟨h.nxt,h.ob,(d,cs)::h.lc⟩⟩
        |_,_=>match rah gl tm h.nxt ro with
         |some (v,ob)=>match bB nt tm (some d) (.v v)with
          |some tm=>sqp gl nt hp n l ⟨tm,df,u,h.new ob⟩
          |none=>(r::l,⟨tm,df,u,h⟩)
         |none=>(r::l,⟨tm,df,u,h⟩)
    |2=>match ras gl tm h ro with
     |some h'=>match bB nt tm r.dst (.v bG)with
      |some tm=>sqp gl nt hp n l ⟨tm,df,u,h'⟩
      |none=>(r::l,⟨tm,df,u,h⟩)
     |none=>(r::l,⟨tm,df,u,h⟩)
    |_=>match rac gl tm h ro with
     |some h'=>match bB nt tm r.dst (.v bG)with
      |some tm=>sqp gl nt hp n l ⟨tm,df,u,h'⟩
      |none=>(r::l,⟨tm,df,u,h⟩)
     |none=>(r::l,⟨tm,df,u,h⟩)
theorem kH{fr:Fr}{ro:Option RO}{s:S}{tv:TV}{h':H}(d:DoesR P gl fr.nt s.tm s.h ro tv h'):sN P gl fr ro s (.val tv {s with h:=h'}):=
 fun o ho=>Does.opR (d o ho).2 (d o ho).1
theorem wD{ro:RO}{tv:TV}(l:cG P gl nt tm h (some ro) tv)(hk:Nat.beq (cU ro) 3=false):DoesR P gl nt tm h (some ro) tv h:=fun o ho=>⟨(l o ho).tT,pK ho hk⟩
theorem zO{ro:RO}{v:V}(l:tR P gl nt tm (some ro) v)(hk:Nat.beq (cU ro) 3=false):DoesR P gl nt tm h (some ro) (.v v) h:=fun o ho=>⟨(l o ho).tT,pK ho hk⟩
theorem uM{ro:RO}{v:V}{ob:Obj}(l:uB P gl nt tm (some ro) h.nxt ob v)(hk:Nat.beq (cU ro) 3=false):DoesR P gl nt tm h (some ro) (.v v) (h.new ob):=fun o ho=>⟨(l.1 o ho).tT l.2,pK ho hk⟩
theorem nG{ro:RO}{b:Nat}{v:V}{ob:Obj}(ha:rah gl tm b ro=some (v,ob)):uB P gl nt tm (some ro) b ob v:=by
 refine⟨fun o ho=>(aRc ho ha).1,?_⟩
 intro n e
 subst e
 unfold rah at ha
 repeat' split at ha
 all_goals first|(cases ha;done)|skip
theorem mS{ro:RO}{v:V}(ha:raf gl tm ro=some v):tR P gl nt tm (some ro) v:=fun o ho=>aQh ho ha
theorem aIa{ro:RO}{cs:List V}(ha:ral gl tm ro=some cs):aPj P gl nt tm (some ro) cs:=fun o ho=>⟨aSc ho ha,pK ho (by rw[xW ha];rfl)⟩
theorem iM{fr:Fr}{hp:List Nat}{x:X}{s':S}:∀(n:Nat) (l:List RI) (s:S) (l2:List RI) (s2:S),sqp gl fr.nt hp n l s=(l2,s2)→SqR P gl fr x s' l2 s2→SqR P gl fr x s' l s
 |0,l,s,l2,s2,h,k=>by simp only[sqp]at h;cases h;exact k
 |n+1,[],s,l2,s2,h,k=>by simp only[sqp]at h;cases h;exact k
 |n+1,r::l,⟨tm,df,u,hh⟩,l2,s2,h,k=>by
  simp only[sqp]at h
  split at h
  ·cases h;exact k
  ·rename_i hw
   split at h
   ·rename_i tm1 hput;exact .skip hw hput (iM n l _ l2 s2 h k)
   ·cases h;exact k
  ·rename_i hw
   split at h
   ·cases h;exact k
   ·rename_i ro hro
    have lift:∀(tv:TV) (h':H),DoesR P gl fr.nt tm hh (some ro) tv h'→sN P gl fr r.ro ⟨tm,df,u,hh⟩ (.val tv ⟨tm,df,u,h'⟩):=by
     intro tv h' d
     rw[hro]
     exact kH (s:=⟨tm,df,u,hh⟩) d
    split at h
    ·rename_i hk
     split at h
     ·rename_i v hv
      split at h
      ·rename_i tm1 hput
       exact .op hw (lift _ _ (wD (bJ hv) (by rw[hk];rfl))) hput (iM n l _ l2 s2 h k)
      ·cases h;exact k
     ·cases h;exact k
    ·rename_i hk
     split at h
     ·cases h;exact k
     ·rename_i d hd
      have obj:∀(v:V) (ob:Obj) (tm1:TM),rah gl tm hh.nxt ro=some (v,ob)→bB fr.nt tm (some d) (.v v)=some tm1→sqp gl fr.nt hp n l ⟨tm1,df,u,hh.new ob⟩=(l2,s2)→SqR P gl fr x s' (r::l) ⟨tm,df,u,hh⟩:=by
       intro v ob tm1 ha hput hs
       exact .op hw (lift _ _ (uM (nG ha) (by rw[hk];rfl))) (by rw[hd];exact hput) (iM n l _ l2 s2 hs k)
      split at h
      ·split at h
       ·rename_i v ob ha
        split at h
        ·rename_i tm1 hput;exact obj v ob tm1 ha hput h
        ·cases h;exact k
       ·cases h;exact k
      ·split at h
       ·rename_i v ha
        split at h
        ·rename_i tm1 hput
         exact .op hw (lift _ _ (zO (mS ha) (by rw[hk];rfl))) (by rw[hd];exact hput) (iM n l _ l2 s2 h k)
        ·cases h;exact k
       ·split at h
        ·rename_i cs ha hlt
         exact .loc hw (by rw[hro];exact aIa ha) hd hlt (SW.refl _) (iM n l _ l2 s2 h k)
        ·split at h
         ·rename_i v ob ha
          split at h
          ·rename_i tm1 hput;exact obj v ob tm1 ha hput h
          ·cases h;exact k
         ·cases h;exact k
    ·rename_i hk
     split at h
     ·rename_i h' ha
      split at h
      ·rename_i tm1 hput
       exact .op hw (lift _ _ (fun o ho=>⟨aGb ho ha,pK ho (by rw[hk];rfl)⟩)) hput (iM n l _ l2 s2 h k)
      ·cases h;exact k
     ·cases h;exact k
    ·split at h
     ·rename_i h' ha
      split at h
      ·rename_i tm1 hput
       refine .op hw (lift _ _ (fun o ho=>⟨xJ ho ha,aLv ho ?_⟩)) hput (iM n l _ l2 s2 h k)
       revert ha
       cases ro<;>intro ha<;>first|rfl|(simp[rac]at ha)
      ·cases h;exact k
     ·cases h;exact k
def php(gl:List Nat)(nt:Nat)(hp:List Nat):Nat→List RI→H→TM→List ER→List RI×H×TM×List ER
 |0,l,h,tm,es=>(l,h,tm,es)
 |_,[],h,tm,es=>([],h,tm,es)
 |n+1,r::l,h,tm,es=>match aV r.gd (aF tm r.rd)with
  |none=>(r::l,h,tm,es)
  |some false=>match bB nt tm r.dst (.v bG)with
   |some tm=>php gl nt hp n l h tm es
   |none=>(r::l,h,tm,es)
  |some true=>match r.ro with
   |none=>(r::l,h,tm,es)
   |some ro=>match cU ro with
    |0=>match eM gl (aF tm r.rd) h ro with
     |some v=>match bB nt tm r.dst v with
      |some tm'=>match aEf ro with
       |true=>php gl nt hp n l h tm' es
       |false=>php gl nt hp n l h tm' (⟨r.i,r.ro,aF tm r.rd,v,h⟩::es)
      |none=>(r::l,h,tm,es)
     |none=>(r::l,h,tm,es)
    |1=>match aVa gl (aF tm r.rd) hp r.dst ro with
     |some v=>match bB nt tm r.dst (.v v)with
      |some tm=>php gl nt hp n l h tm es
      |none=>(r::l,h,tm,es)
     |none=>match rah gl (aF tm r.rd) h.nxt ro with
      |some (v,ob)=>match bB nt tm r.dst (.v v)with
       |some tm=>php gl nt hp n l (h.new ob) tm es
       |none=>(r::l,h,tm,es)
      |none=>(r::l,h,tm,es)
    |_=>(r::l,h,tm,es)
theorem kJ{hp:List Nat}{h3:H}{tm3:TM}{es3:List ER}:∀(n:Nat) (l:List RI) (h:H) (tm:TM) (es:List ER) (l2:List RI) (h2:H) (tm2:TM) (es2:List ER),php gl nt hp n l h tm es=(l2,h2,tm2,es2)→PhR P gl nt l2 h2 tm2 es2 h3 tm3 es3→PhR P gl nt l h tm es h3 tm3 es3
 |0,l,h,tm,es,l2,h2,tm2,es2,e,k=>by simp only[php]at e;cases e;exact k
 |n+1,[],h,tm,es,l2,h2,tm2,es2,e,k=>by simp only[php]at e;cases e;exact k
 |n+1,r::l,h,tm,es,l2,h2,tm2,es2,e,k=>by
  simp only[php]at e
  split at e
  ·cases e;exact k
  ·rename_i hw
   split at e
   ·rename_i tm1 hput;exact .skip hw hput (kJ n l _ _ _ l2 h2 tm2 es2 e k)
   ·cases e;exact k
  ·rename_i hw
   split at e
   ·cases e;exact k
   ·rename_i ro hro
    split at e
    ·rename_i hk
     split at e
     ·rename_i v hv
      split at e
      ·rename_i tm1 hput
       split at e
       ·rename_i hpu
        exact .pure hw (fun h'=>by rw[hro];exact sE hpu (mU hv).1 h') hput (kJ n l _ _ _ l2 h2 tm2 es2 e k)
       ·exact .fZ hw (by rw[hro];exact bJ hv) hput (kJ n l _ _ _ l2 h2 tm2 es2 e k)
      ·cases e;exact k
     ·cases e;exact k
    ·rename_i hk
     split at e
     ·rename_i v ha
      split at e
      ·rename_i tm1 hput
       refine .list hw ?_ hput (kJ n l _ _ _ l2 h2 tm2 es2 e k)
       rw[hro]
       unfold aVa at ha
       split at ha
       ·split at ha
        ·cases ha
        ·exact mS ha
       ·cases ha
      ·cases e;exact k
     ·split at e
      ·rename_i v ob ha
       split at e
       ·rename_i tm1 hput
        exact .obj hw (by rw[hro];exact nG ha) hput (kJ n l _ _ _ l2 h2 tm2 es2 e k)
       ·cases e;exact k
      ·cases e;exact k
    ·cases e;exact k
end
def WQ(P:Program)(gl:List Nat)(fr:Fr)(l:List RI)(s:S)(QN:S→Prop)(QX:X→S→Prop):Prop:=∃x s',SqR P gl fr x s' l s∧Post QN QX x s'
def DW(P:Program)(gl:List Nat)(fr:Fr)(ds:List Nat)(l:List RI)(anc:Nat)(hs:List (RI×List RI))(s:S)(es:List ER)(QN:S→Prop)(QX:X→S→Prop):Prop:=
 ∃h1 tm1 es1 x s',PhR P gl fr.nt l s.h s.tm es h1 tm1 es1∧PendR P gl fr.nt h1 anc es1∧DrR P gl fr ds x s' hs {s with tm:=tm1,h:=h1} es1∧Post QN QX x s'
section
variable{P:Program}{gl:List Nat}{fr:Fr}{s:S}{QN:S→Prop}{QX:X→S→Prop}{l:List RI}{r:RI}{ds:List Nat}{anc:Nat}{hs:List (RI×List RI)}{es:List ER}
theorem WR.reg{os:List RI}(h:WQ P gl fr os s QN QX):WR P gl fr (.reg os) s QN QX:=let⟨_,_,h1,h2⟩:=h;WR.bMu h1 h2
theorem WQ.nil(h:QN s):WQ P gl fr [] s QN QX:=⟨.norm,s,.nil rfl rfl,h⟩
theorem WQ.run(n:Nat)(hp:List Nat){l2:List RI}{s2:S}(e:sqp gl fr.nt hp n l s=(l2,s2))(h:WQ P gl fr l2 s2 QN QX):WQ P gl fr l s QN QX:=let⟨x,s',h1,h2⟩:=h;⟨x,s',iM n l s l2 s2 e h1,h2⟩
theorem WQ.op{v:TV}{s2:S}{tm:TM}(hw:aV r.gd s.tm=some true)(ho:sN P gl fr r.ro s (.val v s2))(hp:bB fr.nt s2.tm r.dst v=some tm)(h:WQ P gl fr l {s2 with tm} QN QX):WQ P gl fr (r::l) s QN QX:=
 let⟨x,s',h1,h2⟩:=h;⟨x,s',.op hw ho hp h1,h2⟩
theorem WQ.fZ{v:TV}{ro:RO}{tm:TM}(hr:r.ro=some ro)(hk:Nat.beq (cU ro) 3=false)(hw:aV r.gd s.tm=some true)(ho:cG P gl fr.nt s.tm s.h (some ro) v)(hp:bB fr.nt s.tm r.dst v=some tm)(h:WQ P gl fr l {s with tm} QN QX):WQ P gl fr (r::l) s QN QX:=
 WQ.op hw (by rw[hr];exact kH (wD ho hk)) hp h
theorem WQ.tT{v:TV}{h':H}{tm:TM}(hw:aV r.gd s.tm=some true)(ho:DoesR P gl fr.nt s.tm s.h r.ro v h')(hp:bB fr.nt s.tm r.dst v=some tm)(h:WQ P gl fr l {s with tm,h:=h'} QN QX):WQ P gl fr (r::l) s QN QX:=
 WQ.op hw (kH ho) hp h
theorem WQ.stop{ch:List PE}{s':S}(hw:aV r.gd s.tm=some true)(ho:sN P gl fr r.ro s (.pan ch s'))(h:QX (.panic ch) s'):WQ P gl fr (r::l) s QN QX:=⟨.panic ch,s',.stop hw ho rfl,h⟩
theorem WQ.call{x:RX}{as:List RX}{f:FuncId}{first cap vs ws:List V}{v:V}{h':H}{tm:TM}{u':Option AMode}(hr:r.ro=some (.call x as))(hw:aV r.gd s.tm=some true)(hx:rv gl s.tm x=some (.fn (.func f) first cap))(hv:rvs gl s.tm as=some vs)
  (ha:(first++vs)++cap=ws) (sc:SCall P gl f ws none s.h (.ret v) u' h') (hp:bB fr.nt s.tm r.dst (.v v)=some tm) (h:WQ P gl fr l {s with tm,h:=h'} QN QX):WQ P gl fr (r::l) s QN QX:=by
 refine WQ.op hw (v:=.v v) (s2:={s with h:=h'}) ?_ hp h
 rw[hr]
 intro o ho
 exact nE (r:=.ret v) ho hx hv (by rw[ha];exact Weak.refl _) sc
theorem WQ.bIu{x:RX}{as:List RX}{f:FuncId}{first cap vs ws:List V}{ch:List PE}{h':H}{u':Option AMode}(hr:r.ro=some (.call x as))(hw:aV r.gd s.tm=some true)(hx:rv gl s.tm x=some (.fn (.func f) first cap))(hv:rvs gl s.tm as=some vs)
  (ha:(first++vs)++cap=ws) (sc:SCall P gl f ws none s.h (.pan ch) u' h') (h:QX (.panic ch) {s with h:=h'}):WQ P gl fr (r::l) s QN QX:=by
 refine WQ.stop hw ?_ h
 rw[hr]
 intro o ho
 exact nE (r:=.pan ch) ho hx hv (by rw[ha];exact Weak.refl _) sc
theorem WR.aP{ph:List RI}(aZ:P.follows .mixedOrders=true)(h:DW P gl fr ds ph 0 hs s [] QN QX):WR P gl fr (.aP ph hs ds) s QN QX:=let⟨_,_,_,_,_,h1,h2,h3,h4⟩:=h;WR.bKh aZ h1 h2 h3 h4
theorem DW.run(n:Nat)(hp:List Nat){l2:List RI}{h2:H}{tm2:TM}{es2:List ER}(e:php gl fr.nt hp n l s.h s.tm es=(l2,h2,tm2,es2))(h:DW P gl fr ds l2 anc hs {s with tm:=tm2,h:=h2} es2 QN QX):DW P gl fr ds l anc hs s es QN QX:=
 let⟨h1,tm1,es1,x,s',a,b,c,d⟩:=h;⟨h1,tm1,es1,x,s',kJ n l _ _ _ l2 h2 tm2 es2 e a,b,c,d⟩
theorem DW.pure{v:TV}{tm:TM}(hw:aV r.gd (aF s.tm r.rd)=some true)(ho:∀h,cG P gl fr.nt (aF s.tm r.rd) h r.ro v)(hp:bB fr.nt s.tm r.dst v=some tm)(h:DW P gl fr ds l anc hs {s with tm} es QN QX):DW P gl fr ds (r::l) anc hs s es QN QX:=
 let⟨h1,tm1,es1,x,s',a,b,c,d⟩:=h;⟨h1,tm1,es1,x,s',.pure hw ho hp a,b,c,d⟩
theorem DW.fZ{v:TV}{tm:TM}(hw:aV r.gd (aF s.tm r.rd)=some true)(ho:cG P gl fr.nt (aF s.tm r.rd) s.h r.ro v)(hp:bB fr.nt s.tm r.dst v=some tm)
  (h:DW P gl fr ds l anc hs {s with tm} (⟨r.i,r.ro,aF s.tm r.rd,v,s.h⟩::es) QN QX):DW P gl fr ds (r::l) anc hs s es QN QX:=
 let⟨h1,tm1,es1,x,s',a,b,c,d⟩:=h;⟨h1,tm1,es1,x,s',.fZ hw ho hp a,b,c,d⟩
theorem DW.fin(pd:PendR P gl fr.nt s.h anc es)(h:QN s):DW P gl fr ds [] anc [] s es QN QX:=⟨s.h,s.tm,es,.norm,s,.nil,pd,.fin rfl rfl,h⟩
theorem DW.op{l2:List RI}{v:TV}{s2:S}{tm1:TM}(pd:PendR P gl fr.nt s.h anc es)(hw:aV r.gd (aF s.tm r.rd)=some true)(hop:sN P gl fr r.ro {s with tm:=aF s.tm r.rd} (.val v s2))(hp:bB fr.nt s.tm r.dst v=some tm1)
  (h:DW P gl fr ds l2 r.anc hs {s2 with tm:=tm1} es QN QX):DW P gl fr ds [] anc ((r,l2)::hs) s es QN QX:=
 let⟨h1,tm2,es1,x,s',a,b,c,d⟩:=h;⟨s.h,s.tm,es,x,s',.nil,pd,.go hw hop hp a b c,d⟩
theorem DW.skip{l2:List RI}{tm1:TM}(pd:PendR P gl fr.nt s.h anc es)(hw:aV r.gd (aF s.tm r.rd)=some false)(hp:bB fr.nt s.tm r.dst (.v bG)=some tm1)
  (h:DW P gl fr ds l2 r.anc hs {s with tm:=tm1} es QN QX):DW P gl fr ds [] anc ((r,l2)::hs) s es QN QX:=
 let⟨h1,tm2,es1,x,s',a,b,c,d⟩:=h;⟨s.h,s.tm,es,x,s',.nil,pd,.skip hw hp a b c,d⟩
theorem DW.tT{l2:List RI}{v:TV}{h':H}{tm1:TM}(pd:PendR P gl fr.nt s.h anc es)(hw:aV r.gd (aF s.tm r.rd)=some true)(hop:DoesR P gl fr.nt (aF s.tm r.rd) s.h r.ro v h')(hp:bB fr.nt s.tm r.dst v=some tm1)
  (h:DW P gl fr ds l2 r.anc hs {s with tm:=tm1,h:=h'} es QN QX):DW P gl fr ds [] anc ((r,l2)::hs) s es QN QX:=
 DW.op pd hw (kH (s:={s with tm:=aF s.tm r.rd}) hop) hp h
theorem DW.call{l2:List RI}{x:RX}{as:List RX}{f:FuncId}{first cap vs ws:List V}{v:V}{h':H}{tm1:TM}{u':Option AMode}(pd:PendR P gl fr.nt s.h anc es)(hr:r.ro=some (.call x as))(hw:aV r.gd (aF s.tm r.rd)=some true)
  (hx:rv gl (aF s.tm r.rd) x=some (.fn (.func f) first cap)) (hv:rvs gl (aF s.tm r.rd) as=some vs) (ha:(first++vs)++cap=ws) (sc:SCall P gl f ws none s.h (.ret v) u' h') (hp:bB fr.nt s.tm r.dst (.v v)=some tm1)
  (h:DW P gl fr ds l2 r.anc hs {s with tm:=tm1,h:=h'} es QN QX):DW P gl fr ds [] anc ((r,l2)::hs) s es QN QX:=by
 refine DW.op pd hw (v:=.v v) (s2:={s with tm:=aF s.tm r.rd,h:=h'}) ?_ hp h
 rw[hr]
 intro o ho
 exact nE (r:=.ret v) (s:={s with tm:=aF s.tm r.rd}) ho hx hv (by rw[ha];exact Weak.refl _) sc
theorem DW.stop{l2:List RI}{ch:List PE}{s2:S}(pd:PendR P gl fr.nt s.h anc es)(hw:aV r.gd (aF s.tm r.rd)=some true)(hop:sN P gl fr r.ro {s with tm:=aF s.tm r.rd} (.pan ch s2))
  (h:QX (.panic ch) {s2 with tm:=mA s.tm ds}):DW P gl fr ds [] anc ((r,l2)::hs) s es QN QX:=⟨s.h,s.tm,es,.panic ch,_,.nil,pd,.stop hw hop rfl rfl,h⟩
end
section
variable{P:Program}{gl:List Nat}
theorem SCall.bNg{f:FuncId}{fn:Func}{rc:RC}{args:List V}{h h':H}{v:V}(hfn:P.funcs[f]? =some fn)(hb:fn.body.bind (aE P)=some rc)(hname:(fn.name== "runtime.NumGoroutine")=false)
  (hle:Nat.ble args.length fn.ntmps=true) (hlc:h'.lc=h.lc) (hn:h.nxt≤h'.nxt) (hob:(∃E F w0 w args',Begun gl args h E F w0 w args')→∀b,h'.nxt≤b→h'.ob b=none)
  (hw:(∃E F w0 w args',Begun gl args h E F w0 w args')→WR P gl ⟨fn.ntmps,none,f⟩ rc ⟨kV 0 args,[],none,{h with lc:=[]}⟩ (Ret P fn args gl h v h') (aAc (Ret P fn args gl h v h'))):SCall P gl f args none h (.ret v) none h':=by
 cases hbd:fn.body with
 |none=>rw[hbd]at hb;cases hb
 |some body=>
  rw[hbd]at hb
  exact SCall.known hlc ⟨fn,hfn,by rw[hbd];rfl,hname⟩ fun bg=>SCall.ret hfn hbd hname hle hlc hn (hob bg) (hw bg body hb)
end
end Go.VM
end
section
/- The machine of values: a call over few objects, numbered from one on, is a call over any memory that holds such. -/
namespace Go.VM
open Go.RowKit
def LC.ren(ρ:Nat→Nat):LC→LC
 |.tk id=>.tk (ρ id)
 |c=>c
def vV(ρ:Nat→Nat):Fn→Fn
 |.yield l=>.yield (ρ l)
 |f=>f
def bNf(D:Nat→Prop):Fn→Prop
 |.yield l=>D l
 |_=>True
mutual
def V.ren(ρ:Nat→Nat):V→V
 |.bool b=>.bool b
 |.int k n=>.int k n
 |.str s=>.str s
 |.iR=>.iR
 |.ptr b o=>.ptr (ρ b) o
 |.lst es c=>.lst (nL ρ es) (c.ren ρ)
 |.sl b o n c=>.sl (ρ b) o n c
 |.fX=>.fX
 |.map r=>.map (ρ r)
 |.fn f a c=>.fn (vV ρ f) (dB ρ a) (dB ρ c)
 |.hY=>.hY
 |.iface t v=>.iface t (v.ren ρ)
 |.fF=>.fF
 |.agg l=>.agg (dB ρ l)
 |.tup l=>.tup (dB ρ l)
def dB(ρ:Nat→Nat):List V→List V
 |[]=>[]
 |v::l=>v.ren ρ::dB ρ l
def nL(ρ:Nat→Nat):List (List V)→List (List V)
 |[]=>[]
 |e::es=>dB ρ e::nL ρ es
end
def LC.In(D:Nat→Prop):LC→Prop
 |.tk id=>D id∧aC≤id
 |_=>True
mutual
def V.In(D:Nat→Prop):V→Prop
 |.ptr b _=>D b
 |.lst es c=>Inss D es∧c.In D
 |.sl b _ _ _=>D b
 |.map r=>D r
 |.fn f a c=>bNf D f∧Ins D a∧Ins D c
 |.iface _ v=>v.In D
 |.agg l=>Ins D l
 |.tup l=>Ins D l
 |.bool _=>True
 |.int _ _=>True
 |.str _=>True
 |.iR=>True
 |.fX=>True
 |.hY=>True
 |.fF=>True
def Ins(D:Nat→Prop):List V→Prop
 |[]=>True
 |v::l=>v.In D∧Ins D l
def Inss(D:Nat→Prop):List (List V)→Prop
 |[]=>True
 |e::es=>Ins D e∧Inss D es
end
structure Into(ρ:Nat→Nat)(D:Nat→Prop)(E E':Env):Prop where
 ob:∀i p,D i→E.ob (ρ i)=some p→E'.ob i=some p
 tk:∀i n p,D i→aC≤i→E.tk (ρ i) n=some p→E'.tk i n=some p
 fz:∀B i v,E.fz B i=some v→E'.fz B i=some v
structure Onto(ρ:Nat→Nat)(D:Nat→Prop)(E' E:Env):Prop where
 ob:∀i p,D i→E'.ob i=some p→E.ob (ρ i)=some p
 tk:∀i n p,D i→aC≤i→E'.tk i n=some p→E.tk (ρ i) n=some p
 fz:∀B i v,E'.fz B i=some v→E.fz B i=some v
section
variable{ρ:Nat→Nat}{D:Nat→Prop}{E E':Env}
theorem nZ(v:V):(v.ren ρ).aW=v.aW:=by
 cases v with
 |fn f a c=>cases f<;>rfl
 |_=>rfl
theorem jT:∀(l:List V),(dB ρ l).length=l.length
 |[]=>rfl
 |v::l=>by simp only[dB,List.length_cons,jT l]
theorem nQ:∀(l:List (List V)),(nL ρ l).length=l.length
 |[]=>rfl
 |v::l=>by simp only[nL,List.length_cons,nQ l]
theorem yO:∀(l:List V) (i:Nat),(dB ρ l)[i]? =(l[i]?).map (V.ren ρ)
 |[],i=>by simp[dB]
 |v::l,0=>by simp[dB]
 |v::l,i+1=>by simp only[dB,List.getElem?_cons_succ];exact yO l i
theorem CapR.jF(h:Into ρ D E E'){c:LC}{blk off z n cap:Nat}(hi:c.In D)(r:CapR E (c.ren ρ) blk off z n cap):CapR E' c blk off z n cap:=by
 cases c with
 |tk id=>exact h.tk id n _ hi.1 hi.2 r
 |_=>exact r
theorem CapR.kF(h:Onto ρ D E' E){c:LC}{blk off z n cap:Nat}(hi:c.In D)(r:CapR E' c blk off z n cap):CapR E (c.ren ρ) blk off z n cap:=by
 cases c with
 |tk id=>exact h.tk id n _ hi.1 hi.2 r
 |_=>exact r
theorem LC0.ren{c:LC}{a:Option Addr}{cap:Nat}:LC0 (c.ren ρ) a cap↔LC0 c a cap:=by cases c<;>exact Iff.rfl
mutual
theorem AR.jF(h:Into ρ D E E'):∀{v:V} {x:Value},v.In D→AR E (v.ren ρ) x→AR E' v x
 |.bool b,_,_,r=>by cases r;exact .bool b
 |.int k n,_,_,r=>by cases r;exact .int k n
 |.str s,_,_,r=>by cases r with|str _ x h=>exact .str s x h
 |.iR,_,_,r=>by cases r;exact .iR
 |.ptr b o,_,hi,r=>by cases r with|ptr _ _ p e=>exact .ptr b o p (h.ob b p hi e)
 |.lst [] c,_,hi,r=>by cases r with|lst0 _ a cap e=>exact .lst0 c a cap (LC0.ren.1 e)
 |.lst (e::es) c,_,hi,r=>by
  cases r with
  |lst _ _ _ blk off n cap z f hn hc hr=>exact .lst e es c blk off n cap z (FZs.jF h hi.1 f) (by rw[nQ]at hn;exact hn) hc (CapR.jF h hi.2 hr)
 |.sl b o n c,_,hi,r=>by
  cases r with
  |sl _ _ _ p c e hn=>exact .sl b o n p c (h.ob b p hi e) hn
  |slo _ _ _ z p c e hc hn=>exact .slo b o n z p c (h.ob b p hi e) hc hn
  |sl0 _ _ c a hc p e hz=>exact .sl0 b o c a hc p (h.ob b p hi e) hz
 |.fX,_,_,r=>by cases r;exact .fX
 |.map m,_,hi,r=>by cases r with|map _ p e=>exact .map m p (h.ob m p hi e)
 |.fn (.func f) a c,_,hi,r=>by cases r with|fn _ _ _ a' c' ra rc=>exact .fn f a c a' c' (ARs.jF h hi.2.1 ra) (ARs.jF h hi.2.2 rc)
 |.fn (.yield l) [] [],_,hi,r=>by cases r with|yld _ p e=>exact .yld l p (h.ob l p hi.1 e)
 |.fn (.yield l) (_::_) _,_,hi,r=>by cases r
 |.fn (.yield l) [] (_::_),_,hi,r=>by cases r
 |.fn (.method _) _ _,_,_,r=>by cases r
 |.fn (.methodOf _ _) _ _,_,_,r=>by cases r
 |.fn (.via _ _ _ _) _ _,_,_,r=>by cases r
 |.hY,_,_,r=>by cases r;exact .hY
 |.iface t v,_,hi,r=>by cases r with|iface _ _ v' r=>exact .iface t v v' (AR.jF h hi r)
 |.fF,_,_,r=>by cases r;exact .fF
 |.agg l,_,hi,r=>by cases r with|agg _ cs r=>exact .agg l cs (ARs.jF h hi r)
 |.tup l,_,hi,r=>by cases r with|tup _ cs r=>exact .tup l cs (ARs.jF h hi r)
theorem ARs.jF(h:Into ρ D E E'):∀{l:List V} {l':List Value},Ins D l→ARs E (dB ρ l) l'→ARs E' l l'
 |[],_,_,r=>by cases r;exact .nil
 |v::l,_,hi,r=>by cases r with|cons _ v' _ m a t=>exact .cons v v' l m (AR.jF h hi.1 a) (ARs.jF h hi.2 t)
theorem FZ.jF(h:Into ρ D E E'):∀{l:List V} {blk off:Nat},Ins D l→FZ E blk off (dB ρ l)→FZ E' blk off l
 |[],blk,off,_,_=>.nil blk off
 |v::l,blk,off,hi,r=>by cases r with|cons _ _ _ v' _ f c a t=>exact .cons blk off v v' l (h.fz _ _ _ f) (by rw[nZ]at c;exact c) (AR.jF h hi.1 a) (FZ.jF h hi.2 t)
theorem FZs.jF(h:Into ρ D E E'):∀{es:List (List V)} {blk off z:Nat},Inss D es→FZs E blk off z (nL ρ es)→FZs E' blk off z es
 |[],blk,off,z,_,_=>.nil blk off z
 |e::es,blk,off,z,hi,r=>by cases r with|cons _ _ _ _ _ hz f t=>exact .cons blk off z e es (by rw[jT]at hz;exact hz) (FZ.jF h hi.1 f) (FZs.jF h hi.2 t)
end
mutual
theorem AR.kF(h:Onto ρ D E' E):∀{v:V} {x:Value},v.In D→AR E' v x→AR E (v.ren ρ) x
 |.bool b,_,_,r=>by cases r;exact .bool b
 |.int k n,_,_,r=>by cases r;exact .int k n
 |.str s,_,_,r=>by cases r with|str _ x h=>exact .str s x h
 |.iR,_,_,r=>by cases r;exact .iR
 |.ptr b o,_,hi,r=>by cases r with|ptr _ _ p e=>exact .ptr (ρ b) o p (h.ob b p hi e)
 |.lst [] c,_,hi,r=>by cases r with|lst0 _ a cap e=>exact .lst0 (c.ren ρ) a cap (LC0.ren.2 e)
 |.lst (e::es) c,_,hi,r=>by
  cases r with
  |lst _ _ _ blk off n cap z f hn hc hr=>exact .lst (dB ρ e) (nL ρ es) (c.ren ρ) blk off n cap z (FZs.kF h hi.1 f) (by rw[nQ];exact hn) hc (CapR.kF h hi.2 hr)
 |.sl b o n c,_,hi,r=>by
  cases r with
  |sl _ _ _ p c e hn=>exact .sl (ρ b) o n p c (h.ob b p hi e) hn
  |slo _ _ _ z p c e hc hn=>exact .slo (ρ b) o n z p c (h.ob b p hi e) hc hn
  |sl0 _ _ c a hc p e hz=>exact .sl0 (ρ b) o c a hc p (h.ob b p hi e) hz
 |.fX,_,_,r=>by cases r;exact .fX
 |.map m,_,hi,r=>by cases r with|map _ p e=>exact .map (ρ m) p (h.ob m p hi e)
 |.fn (.func f) a c,_,hi,r=>by cases r with|fn _ _ _ a' c' ra rc=>exact .fn f (dB ρ a) (dB ρ c) a' c' (ARs.kF h hi.2.1 ra) (ARs.kF h hi.2.2 rc)
 |.fn (.yield l) a c,_,hi,r=>by cases r with|yld _ p e=>exact .yld (ρ l) p (h.ob l p hi.1 e)
 |.fn (.method _) _ _,_,_,r=>by cases r
 |.fn (.methodOf _ _) _ _,_,_,r=>by cases r
 |.fn (.via _ _ _ _) _ _,_,_,r=>by cases r
 |.hY,_,_,r=>by cases r;exact .hY
 |.iface t v,_,hi,r=>by cases r with|iface _ _ v' r=>exact .iface t (v.ren ρ) v' (AR.kF h hi r)
 |.fF,_,_,r=>by cases r;exact .fF
 |.agg l,_,hi,r=>by cases r with|agg _ cs r=>exact .agg (dB ρ l) cs (ARs.kF h hi r)
 |.tup l,_,hi,r=>by cases r with|tup _ cs r=>exact .tup (dB ρ l) cs (ARs.kF h hi r)
theorem ARs.kF(h:Onto ρ D E' E):∀{l:List V} {l':List Value},Ins D l→ARs E' l l'→ARs E (dB ρ l) l'
 |[],_,_,r=>by cases r;exact .nil
 |v::l,_,hi,r=>by cases r with|cons _ v' _ m a t=>exact .cons (v.ren ρ) v' (dB ρ l) m (AR.kF h hi.1 a) (ARs.kF h hi.2 t)
theorem FZ.kF(h:Onto ρ D E' E):∀{l:List V} {blk off:Nat},Ins D l→FZ E' blk off l→FZ E blk off (dB ρ l)
 |[],blk,off,_,_=>.nil blk off
 |v::l,blk,off,hi,r=>by cases r with|cons _ _ _ v' _ f c a t=>exact .cons blk off (v.ren ρ) v' (dB ρ l) (h.fz _ _ _ f) (by rw[nZ];exact c) (AR.kF h hi.1 a) (FZ.kF h hi.2 t)
theorem FZs.kF(h:Onto ρ D E' E):∀{es:List (List V)} {blk off z:Nat},Inss D es→FZs E' blk off z es→FZs E blk off z (nL ρ es)
 |[],blk,off,z,_,_=>.nil blk off z
 |e::es,blk,off,z,hi,r=>by cases r with|cons _ _ _ _ _ hz f t=>exact .cons blk off z (dB ρ e) (nL ρ es) (by rw[jT];exact hz) (FZ.kF h hi.1 f) (FZs.kF h hi.2 t)
end
def aPq(ρ:Nat→Nat):List (V×V)→List (V×V)
 |[]=>[]
 |(a,b)::l=>(a.ren ρ,b.ren ρ)::aPq ρ l
def qZ(D:Nat→Prop):List (V×V)→Prop
 |[]=>True
 |(a,b)::l=>(a.In D∧b.In D)∧qZ D l
def Obj.ren(ρ:Nat→Nat):Obj→Obj
 |.cells opn cs=>.cells opn (dB ρ cs)
 |.map es=>.map (aPq ρ es)
 |o=>o
def Obj.In(D:Nat→Prop):Obj→Prop
 |.cells _ cs=>Ins D cs
 |.map es=>qZ D es
 |.siter _ _=>True
 |.tok _=>True
 |_=>False
theorem Ins.get:∀{l:List V} {i:Nat} {v:V},Ins D l→l[i]? =some v→v.In D
 |[],i,v,_,h=>by simp at h
 |a::l,0,v,hi,h=>by simp at h;subst h;exact hi.1
 |a::l,i+1,v,hi,h=>Ins.get hi.2 (by simpa using h)
theorem ObjR.jF(h:Into ρ D E E'){o:Obj}{p:Place}{w:World}(hi:o.In D)(r:ObjR E (o.ren ρ) p w):ObjR E' o p w:=by
 cases o with
 |cells opn cs=>
  obtain⟨c,el,lo,hh,a1,a2,a3,a4,a5⟩:=r
  refine⟨c,el,lo,hh,a1,a2,a3,by rw[jT]at a4;exact a4,fun i v hv=>?_⟩
  obtain⟨b1,v',b2,b3⟩:=a5 i (v.ren ρ) (by rw[yO,hv];rfl)
  exact⟨by rw[nZ]at b1;exact b1,v',b2,AR.jF h (Ins.get hi hv) b3⟩
 |map es=>
  obtain⟨ents,clock,a1,a2⟩:=r
  refine⟨ents,clock,a1,?_⟩
  have go:∀(es:List (V×V)) (l:List MapEntry),qZ D es→All₂ (fun(e:V×V) (m:MapEntry)=>AR E e.1 m.key∧AR E e.2 m.val) (aPq ρ es) l→All₂ (fun(e:V×V) (m:MapEntry)=>AR E' e.1 m.key∧AR E' e.2 m.val) es l:=by
   intro es
   induction es with
   |nil=>intro l _ r;cases r;exact .nil
   |cons e es ih=>
    intro l hi r
    obtain⟨a,b⟩:=e
    cases r with
    |cons r t=>exact .cons ⟨AR.jF h hi.1.1 r.1,AR.jF h hi.1.2 r.2⟩ (ih _ hi.2 t)
  exact go es _ hi a2
 |loop l=>exact hi.elim
 |dfr c=>exact hi.elim
 |siter s pos=>exact r
 |tok n=>exact r
theorem ObjR.kF(h:Onto ρ D E' E){o:Obj}{p:Place}{w:World}(hi:o.In D)(r:ObjR E' o p w):ObjR E (o.ren ρ) p w:=by
 cases o with
 |cells opn cs=>
  obtain⟨c,el,lo,hh,a1,a2,a3,a4,a5⟩:=r
  refine⟨c,el,lo,hh,a1,a2,a3,by rw[jT];exact a4,fun i v hv=>?_⟩
  rw[yO]at hv
  cases hq:cs[i]? with
  |none=>rw[hq]at hv;cases hv
  |some u=>
   rw[hq]at hv;cases hv
   obtain⟨b1,v',b2,b3⟩:=a5 i u hq
   exact⟨by rw[nZ];exact b1,v',b2,AR.kF h (Ins.get hi hq) b3⟩
 |map es=>
  obtain⟨ents,clock,a1,a2⟩:=r
  refine⟨ents,clock,a1,?_⟩
  have go:∀(es:List (V×V)) (l:List MapEntry),qZ D es→All₂ (fun(e:V×V) (m:MapEntry)=>AR E' e.1 m.key∧AR E' e.2 m.val) es l→All₂ (fun(e:V×V) (m:MapEntry)=>AR E e.1 m.key∧AR E e.2 m.val) (aPq ρ es) l:=by
   intro es
   induction es with
   |nil=>intro l _ r;cases r;exact .nil
   |cons e es ih=>
    intro l hi r
    obtain⟨a,b⟩:=e
    cases r with
    |cons r t=>exact .cons ⟨AR.kF h hi.1.1 r.1,AR.kF h hi.1.2 r.2⟩ (ih _ hi.2 t)
  exact go es _ hi a2
 |loop l=>exact hi.elim
 |dfr c=>exact hi.elim
 |siter s pos=>exact r
 |tok n=>exact r
end
end Go.VM
end
section
/- The machine of values: a call over few objects is a call over any memory that holds such: the frame. -/
namespace Go.VM
open Go.RowKit
open Classical
structure Foot(ρ:Nat→Nat)(hc h:H):Prop where
 low:∀i,i<aC→ρ i=i
 big:∀i,aC≤i→i<hc.nxt→aC≤ρ i
 new:∀i,hc.nxt≤i→ρ i=h.nxt+(i-hc.nxt)
 inj:∀i j,i<hc.nxt→j<hc.nxt→(hc.ob i).isSome=true→(hc.ob j).isSome=true→ρ i=ρ j→i=j
 glo:aC≤hc.nxt
 top:∀i,hc.nxt≤i→hc.ob i=none
 obj:∀i o,hc.ob i=some o→h.ob (ρ i)=some (o.ren ρ)
 ref:∀i o,hc.ob i=some o→o.In fun j=>j<aC∨(hc.ob j).isSome=true
noncomputable def inv(ρ:Nat→Nat)(hc:H)(b:Nat):Option Nat:=
 if h:∃i,((hc.ob i).isSome=true∨hc.nxt≤i)∧ρ i=b then some h.choose else none
noncomputable def mrg(ρ:Nat→Nat)(hc h hc':H):H where
 nxt:=h.nxt+(hc'.nxt-hc.nxt)
 ob:=fun b=>match inv ρ hc b with
  |some i=>(hc'.ob i).map (Obj.ren ρ)
  |none=>h.ob b
 lc:=h.lc
section
variable{ρ:Nat→Nat}{hc h:H}
theorem Foot.lt(ft:Foot ρ hc h){i:Nat}(hi:(hc.ob i).isSome=true):i<hc.nxt:=by
 rcases Nat.lt_or_ge i hc.nxt with g|g
 ·exact g
 ·rw[ft.top i g]at hi;cases hi
theorem eH{b i:Nat}(h':inv ρ hc b=some i):((hc.ob i).isSome=true∨hc.nxt≤i)∧ρ i=b:=by
 unfold inv at h'
 split at h'
 ·rename_i hx;cases h';exact hx.choose_spec
 ·cases h'
theorem aMm(ft:Foot ρ hc h)(hb:∀i,(hc.ob i).isSome=true→ρ i<h.nxt){i:Nat}(hi:(hc.ob i).isSome=true∨hc.nxt≤i):inv ρ hc (ρ i)=some i:=by
 unfold inv
 have hx:∃j,((hc.ob j).isSome=true∨hc.nxt≤j)∧ρ j=ρ i:=⟨i,hi,rfl⟩
 rw[dif_pos hx]
 obtain⟨h1,h2⟩:=hx.choose_spec
 generalize hx.choose=j at h1 h2
 congr 1
 rcases h1 with h1|h1
 ·rcases hi with hi|hi
  ·exact ft.inj j i (ft.lt h1) (ft.lt hi) h1 hi h2
  ·have:=hb j h1;rw[h2,ft.new i hi]at this;omega
 ·rcases hi with hi|hi
  ·have:=hb i hi;rw[←h2,ft.new j h1]at this;omega
  ·rw[ft.new i hi,ft.new j h1]at h2;omega
variable{E:Env}{F:Fx}{w0 w:World}
noncomputable def gM(ρ:Nat→Nat)(hc:H)(E:Env):Env where
 ob:=fun i=>if i<aC∨(hc.ob i).isSome=true then E.ob (ρ i)else none
 fz:=E.fz
 tk:=fun i n=>if i<aC∨(hc.ob i).isSome=true then E.tk (ρ i) n else none
def TokAt(h:H)(E:Env)(b B:Nat)(p:Place):Prop:=∃n,h.ob b=some (Obj.tok n)∧E.tk b n=some p∧p.blk=B
theorem TokAt.one{b B:Nat}{p q:Place}(hp:TokAt h E b B p)(hq:TokAt h E b B q):p=q:=by
 obtain⟨n,h1,h2,_⟩:=hp
 obtain⟨n',h3,h4,_⟩:=hq
 rw[h1]at h3
 cases h3
 rw[h2]at h4
 exact Option.some.inj h4
noncomputable def aLa(h:H)(E:Env)(w:World)(b B:Nat):Nat:=
 if hx:∃p,TokAt h E b B p then hx.choose.off else match w.heap[B]? with|some (.cells c _ _)=>c.size|_=>0
theorem bBt{b B:Nat}{p:Place}(hp:TokAt h E b B p):aLa h E w b B=p.off:=by
 unfold aLa
 rw[dif_pos ⟨p,hp⟩]
 have hx:∃p,TokAt h E b B p:=⟨p,hp⟩
 rw[hx.choose_spec.one hp]
noncomputable def kY(ρ:Nat→Nat)(hc h:H)(E:Env)(F:Fx)(w:World)(B:Nat):Own:=
 match F.own B with
 |.ob b=>match inv ρ hc b with
  |some i=>.ob i
  |none=>.pr none
 |.tk b=>match inv ρ hc b with
  |some i=>.tk i
  |none=>.pr (some (aLa h E w b B))
 |x=>x
noncomputable def fU(ρ:Nat→Nat)(hc h:H)(E:Env)(F:Fx)(w:World)(B:Nat):Option (Go.Obj×Option Nat):=
 match F.own B with
 |.ob b=>match inv ρ hc b with
  |some _=>none
  |none=>(w.heap[B]?).map (·,none)
 |.tk b=>match inv ρ hc b with
  |some _=>none
  |none=>(w.heap[B]?).map (·,some (aLa h E w b B))
 |_=>F.prot B
noncomputable def bBv(ρ:Nat→Nat)(hc h:H)(E:Env)(F:Fx)(w:World):Fx:=⟨noL,fU ρ hc h E F w,kY ρ hc h E F w⟩
theorem aDh(ft:Foot ρ hc h)(m:MR E F h w0 w):∀i,(hc.ob i).isSome=true→ρ i<h.nxt:=by
 intro i hi
 cases hq:hc.ob i with
 |none=>rw[hq]at hi;cases hi
 |some o=>exact m.mH (ft.obj i o hq)
theorem aDm(ft:Foot ρ hc h):Into ρ (fun j=>j<aC∨(hc.ob j).isSome=true) E (gM ρ hc E):=by
 refine⟨fun i p hi hp=>?_,fun i n p hi _ hp=>?_,fun _ _ _ h=>h⟩
 ·simp only[gM];rw[if_pos hi];exact hp
 ·simp only[gM];rw[if_pos hi];exact hp
theorem bGd(ft:Foot ρ hc h)(m:MR E F h w0 w){B i:Nat}(hi:(hc.ob i).isSome=true)(ho:F.own B=.ob (ρ i)):kY ρ hc h E F w B=.ob i:=by
 simp only[kY,ho,aMm ft (aDh ft m) (.inl hi)]
theorem bGl(ft:Foot ρ hc h)(m:MR E F h w0 w){B i:Nat}(hi:(hc.ob i).isSome=true)(ho:F.own B=.tk (ρ i)):kY ρ hc h E F w B=.tk i:=by
 simp only[kY,ho,aMm ft (aDh ft m) (.inl hi)]
theorem aKf{i:Nat}{p:Place}(hp:(gM ρ hc E).ob i=some p):(i<aC∨(hc.ob i).isSome=true)∧E.ob (ρ i)=some p:=by
 simp only[gM]at hp
 split at hp
 ·rename_i g;exact⟨g,hp⟩
 ·cases hp
theorem bIa{i n:Nat}{p:Place}(hp:(gM ρ hc E).tk i n=some p):(i<aC∨(hc.ob i).isSome=true)∧E.tk (ρ i) n=some p:=by
 simp only[gM]at hp
 split at hp
 ·rename_i g;exact⟨g,hp⟩
 ·cases hp
theorem MR.jF(ft:Foot ρ hc h)(m:MR E F h w0 w):MR (gM ρ hc E) (bBv ρ hc h E F w) hc w0 w:=by
 have hI:=aDm (E:=E) ft
 refine⟨m.below,fun b hb=>?_,ft.glo,fun b o hb ho=>?_,fun b p hb hp=>?_,fun B hB=>?_,fun b o p ho hp=>?_,fun b o p hg ho hp=>?_,m.fz,fun B i v hf hB=>?_,fun b n p ho hp=>?_,fun b n k ho hk=>?_,fun b n ho=>?_,fun d p hp=>(by cases hp),fun B x hx=>?_⟩
 ·have h1:¬(b<aC∨(hc.ob b).isSome=true):=by
   have:=ft.glo
   rw[ft.top b hb]
   simp;omega
  refine⟨by simp only[gM];rw[if_neg h1],ft.top b hb,fun n=>by simp only[gM];rw[if_neg h1]⟩
 ·have h1:=ft.obj b o ho
  rw[ft.low b hb]at h1
  obtain⟨op,cs,e⟩:=m.glb b _ hb h1
  cases o with
  |cells op cs=>exact⟨op,cs,rfl⟩
  |_=>cases e
 ·obtain⟨_,h2⟩:=aKf hp
  rw[ft.low b hb]at h2
  exact m.gbl b p hb h2
 ·refine m.lto B fun e=>hB ?_
  show kY ρ hc h E F w B=.no
  simp only[kY,e]
 ·obtain⟨_,h2⟩:=aKf hp
  exact ObjR.jF hI (ft.ref b o ho) (m.obj _ _ p (ft.obj b o ho) h2)
 ·obtain⟨_,h2⟩:=aKf hp
  have hs:(hc.ob b).isSome=true:=by rw[ho];rfl
  obtain⟨a1,a2⟩:=m.oOb _ _ p (ft.big b hg (ft.lt hs)) (ft.obj b o ho) h2
  exact⟨bGd ft m hs a1,a2⟩
 ·show kY ρ hc h E F w B=.fz∨(∃b,kY ρ hc h E F w B=.tk b)∨∃k,kY ρ hc h E F w B=.pr (some k)∧i<k
  rcases m.oFz B i v hf hB with a|⟨b,a⟩|⟨k,a,ak⟩
  ·left;simp only[kY,a]
  ·simp only[kY,a]
   cases hq:inv ρ hc b with
   |some j=>exact .inr (.inl ⟨j,rfl⟩)
   |none=>
    refine .inr (.inr ⟨_,rfl,?_⟩)
    unfold aLa
    split
    ·rename_i hx
     obtain⟨n,h1,h2,h3⟩:=hx.choose_spec
     rcases Nat.lt_or_ge i hx.choose.off with g|g
     ·exact g
     ·obtain⟨_,_,_,a4⟩:=m.tok b n _ h1 h2
      have:=a4 i g
      have hf':E.fz B i=some v:=hf
      rw[h3,hf']at this
      cases this
    ·obtain⟨c,el,q,h1,h2⟩:=m.fz B i v hf
     rw[h1]
     exact(Array.getElem?_eq_some_iff.1 h2).1
  ·exact .inr (.inr ⟨k,by simp only[kY,a],ak⟩)
 ·obtain⟨_,h2⟩:=bIa hp
  have hs:(hc.ob b).isSome=true:=by rw[ho];rfl
  obtain⟨a1,a2,a3,a4⟩:=m.tok _ n p (ft.obj b _ ho) h2
  exact⟨bGl ft m hs a1,a2,a3,a4⟩
 ·have:=m.tokn _ n k (ft.obj b _ ho) hk
  simp only[gM]
  split
  ·exact this
  ·rfl
 ·have:=m.toko _ n (ft.obj b _ ho)
  simp only[gM]
  split
  ·exact this
  ·rfl
 ·have hx:fU ρ hc h E F w B=some x:=hx
  show _∧kY ρ hc h E F w B=.pr x.2
  unfold fU at hx
  unfold kY
  cases ho:F.own B with
  |ob b=>
   simp only[ho]at hx⊢
   cases hq:inv ρ hc b with
   |some j=>rw[hq]at hx;cases hx
   |none=>
    rw[hq]at hx
    cases hw:w.heap[B]? with
    |none=>rw[hw]at hx;cases hx
    |some y=>rw[hw]at hx;cases hx;exact⟨rfl,rfl⟩
  |tk b=>
   simp only[ho]at hx⊢
   cases hq:inv ρ hc b with
   |some j=>rw[hq]at hx;cases hx
   |none=>
    rw[hq]at hx
    cases hw:w.heap[B]? with
    |none=>rw[hw]at hx;cases hx
    |some y=>rw[hw]at hx;cases hx;exact⟨rfl,rfl⟩
  |_=>
   simp only[ho]at hx⊢
   obtain⟨a1,a2⟩:=m.prot B x hx
   rw[ho]at a2
   exact⟨a1,a2⟩
noncomputable def kL(ρ:Nat→Nat)(hc:H)(E E':Env):Env where
 ob:=fun b=>match inv ρ hc b with|some i=>E'.ob i|none=>E.ob b
 fz:=E'.fz
 tk:=fun b n=>match inv ρ hc b with|some i=>E'.tk i n|none=>E.tk b n
noncomputable def jX(ρ:Nat→Nat)(hc h:H)(E:Env)(F:Fx)(w:World)(F':Fx)(B:Nat):Own:=
 match fU ρ hc h E F w B with
 |some _=>F.own B
 |none=>match F'.own B with
  |.ob i=>.ob (ρ i)
  |.tk i=>.tk (ρ i)
  |x=>x
variable{E':Env}{F':Fx}{hc':H}{w':World}
theorem bDd(ft:Foot ρ hc h)(hb:∀i,(hc.ob i).isSome=true→ρ i<h.nxt)(hg:aC≤h.nxt){b i:Nat}(hl:b<aC)(hi:inv ρ hc b=some i):i=b:=by
 obtain⟨h1,h2⟩:=eH hi
 rcases h1 with h1|h1
 ·rcases Nat.lt_or_ge i aC with g|g
  ·rw[ft.low i g]at h2;exact h2
  ·have:=ft.big i g (ft.lt h1);omega
 ·rw[ft.new i h1]at h2;omega
def wL(hc:H)(i:Nat):Prop:=i<aC∨(hc.ob i).isSome=true∨hc.nxt≤i
theorem MR.frame(ft:Foot ρ hc h)(m:MR E F h w0 w)(hF:F.loc=noL)(x:Ext (gM ρ hc E) hc E' hc')(hp:F'.prot=(bBv ρ hc h E F w).prot)(m':MR E' F' hc' w0 w')(hk:∀i o,hc'.ob i=some o→o.In (wL hc)):
  ∃E2 F2,Onto ρ (wL hc) E' E2∧Ext E h E2 (mrg ρ hc h hc')∧F2.loc=noL∧F2.prot=F.prot∧MR E2 F2 (mrg ρ hc h hc') w0 w':=by
 have hb:=aDh ft m
 have hnn:hc.nxt≤hc'.nxt:=x.nxt
 have io:∀i,(hc.ob i).isSome=true∨hc.nxt≤i→inv ρ hc (ρ i)=some i:=fun i hi=>aMm ft hb hi
 have pr:∀B y,fU ρ hc h E F w B=some y→w'.heap[B]? =w.heap[B]?∧F'.own B=.pr y.2∧w.heap[B]? =some y.1:=by
  intro B y hy
  obtain⟨a1,a2⟩:=m'.prot B y (by rw[hp];exact hy)
  obtain⟨b1,_⟩:=(m.jF ft).prot B y hy
  exact⟨a1.trans b1.symm,a2,b1⟩
 have prOb:∀B b,B<w.heap.size→F.own B=.ob b→inv ρ hc b=none→∃y,fU ρ hc h E F w B=some (y,none):=by
  intro B b hB ho hi
  obtain⟨y,hy⟩:∃y,w.heap[B]? =some y:=⟨_,Array.getElem?_eq_getElem hB⟩
  exact⟨y,by simp only[fU,ho,hi,hy];rfl⟩
 have prTk:∀B b,B<w.heap.size→F.own B=.tk b→inv ρ hc b=none→∃y,fU ρ hc h E F w B=some (y,some (aLa h E w b B)):=by
  intro B b hB ho hi
  obtain⟨y,hy⟩:∃y,w.heap[B]? =some y:=⟨_,Array.getElem?_eq_getElem hB⟩
  exact⟨y,by simp only[fU,ho,hi,hy];rfl⟩
 have unpr:∀B,(∀z,F'.own B≠.pr z)→fU ρ hc h E F w B=none:=by
  intro B hn
  cases hq:fU ρ hc h E F w B with
  |none=>rfl
  |some y=>exact absurd (pr B y hq).2.1 (hn _)
 have oob:∀b i,inv ρ hc b=some i→(kL ρ hc E E').ob b=E'.ob i:=fun b i hi=>by simp only[kL,hi]
 have oobn:∀b,inv ρ hc b=none→(kL ρ hc E E').ob b=E.ob b:=fun b hi=>by simp only[kL,hi]
 have otk:∀b i n,inv ρ hc b=some i→(kL ρ hc E E').tk b n=E'.tk i n:=fun b i n hi=>by simp only[kL,hi]
 have otkn:∀b n,inv ρ hc b=none→(kL ρ hc E E').tk b n=E.tk b n:=fun b n hi=>by simp only[kL,hi]
 have mob:∀b i,inv ρ hc b=some i→(mrg ρ hc h hc').ob b=(hc'.ob i).map (Obj.ren ρ):=fun b i hi=>by simp only[mrg,hi]
 have mobn:∀b,inv ρ hc b=none→(mrg ρ hc h hc').ob b=h.ob b:=fun b hi=>by simp only[mrg,hi]
 have low:∀b i,b<aC→inv ρ hc b=some i→i=b∧(hc.ob i).isSome=true:=by
  intro b i hl hi
  have e:=bDd ft hb m.glo hl hi
  refine⟨e,?_⟩
  rcases(eH hi).1 with g|g
  ·exact g
  ·have:=ft.glo;omega
 have eold:∀i,i<hc.nxt→(i<aC∨(hc.ob i).isSome=true)→E'.ob i=E.ob (ρ i):=by
  intro i hi hd
  rw[x.old i hi]
  simp only[gM];rw[if_pos hd]
 have on:Onto ρ (wL hc) E' (kL ρ hc E E'):=by
  refine⟨fun i p hd hi=>?_,fun i n p hd hg hi=>?_,fun _ _ _ h=>h⟩
  ·rcases hd with hd|hd
   ·have hl:=ft.low i hd
    cases hq:inv ρ hc (ρ i)with
    |some j=>
     rw[oob _ _ hq]
     rw[hl]at hq
     rw[(low _ _ hd hq).1];exact hi
    |none=>
     rw[oobn _ hq,←eold i (by have:=ft.glo;omega) (.inl hd)];exact hi
   ·rw[oob _ _ (io i hd)];exact hi
  ·rcases hd with hd|hd
   ·omega
   ·rw[otk _ _ _ (io i hd)];exact hi
 have le:E.le (kL ρ hc E E'):=by
  refine⟨fun b p hbp=>?_,fun B i v hf=>x.le.fz B i v hf,fun b n p hbp=>?_⟩
  ·cases hq:inv ρ hc b with
   |none=>rw[oobn _ hq];exact hbp
   |some i=>
    rw[oob _ _ hq]
    obtain⟨h1,h2⟩:=eH hq
    rcases h1 with h1|h1
    ·rw[eold i (ft.lt h1) (.inr h1),h2];exact hbp
    ·have:=m.bHj hbp
     rw[←h2,ft.new i h1]at this;omega
  ·cases hq:inv ρ hc b with
   |none=>rw[otkn _ _ hq];exact hbp
   |some i=>
    rw[otk _ _ _ hq]
    obtain⟨h1,h2⟩:=eH hq
    rcases h1 with h1|h1
    ·refine x.le.tk i n p ?_
     simp only[gM];rw[if_pos (.inr h1),h2];exact hbp
    ·rcases Nat.lt_or_ge b h.nxt with g|g
     ·rw[←h2,ft.new i h1]at g;omega
     ·rw[(m.fresh b g).2.2 n]at hbp;cases hbp
 have top:∀b,h.nxt+(hc'.nxt-hc.nxt)≤b→∀i,inv ρ hc b=some i→hc'.nxt≤i:=by
  intro b hbb i hi
  obtain⟨h1,h2⟩:=eH hi
  rcases h1 with h1|h1
  ·have:=hb i h1;omega
  ·rw[ft.new i h1]at h2;omega
 have oo:∀B,fU ρ hc h E F w B=none→jX ρ hc h E F w F' B=(match F'.own B with|.ob i=>.ob (ρ i)|.tk i=>.tk (ρ i)|x=>x):=fun B hq=>by simp only[jX,hq]
 have oop:∀B y,fU ρ hc h E F w B=some y→jX ρ hc h E F w F' B=F.own B:=fun B y hq=>by simp only[jX,hq]
 refine⟨kL ρ hc E E',⟨noL,F.prot,jX ρ hc h E F w F'⟩,on,⟨le,fun b hlt=>?_,by show h.nxt≤h.nxt+_;omega,fun b o hlt he ho hnt=>?_⟩,rfl,rfl,
  ⟨m'.below,fun b hbb=>?_,by show aC≤h.nxt+_;have:=m.glo;omega,fun b o hbl ho=>?_,fun b p hbl hpp=>?_,fun B hB=>?_,fun b o p ho hpp=>?_,fun b o p hg ho hpp=>?_,m'.fz,fun B i v hf hB=>?_,fun b n p ho hpp=>?_,fun b n k ho hkk=>?_,fun b n ho=>?_,fun d p hpp=>(by cases hpp),fun B y hy=>?_⟩⟩
 ·cases hq:inv ρ hc b with
  |none=>exact oobn _ hq
  |some i=>
   rw[oob _ _ hq]
   obtain⟨h1,h2⟩:=eH hq
   rcases h1 with h1|h1
   ·rw[eold i (ft.lt h1) (.inr h1),h2]
   ·rw[←h2,ft.new i h1]at hlt;omega
 ·cases hq:inv ρ hc b with
  |none=>rw[mobn _ hq];exact ho
  |some i=>
   rw[mob _ _ hq]
   obtain⟨h1,h2⟩:=eH hq
   rcases h1 with h1|h1
   ·cases hci:hc.ob i with
    |none=>rw[hci]at h1;cases h1
    |some oc=>
     have e1:=ft.obj i oc hci
     rw[h2,ho]at e1
     cases e1
     have:=x.ghost i oc (ft.lt h1) (by simp only[gM];rw[if_pos (.inr h1),h2];exact he) hci (by
      intro n e;subst e;exact hnt n rfl)
     rw[this];rfl
   ·rw[←h2,ft.new i h1]at hlt;omega
 ·have hbb':h.nxt+(hc'.nxt-hc.nxt)≤b:=hbb
  cases hq:inv ρ hc b with
  |none=>
   obtain⟨a1,a2,a3⟩:=m.fresh b (by omega)
   exact⟨by rw[oobn _ hq];exact a1,by rw[mobn _ hq];exact a2,fun n=>by rw[otkn _ _ hq];exact a3 n⟩
  |some i=>
   obtain⟨a1,a2,a3⟩:=m'.fresh i (top b hbb' i hq)
   exact⟨by rw[oob _ _ hq];exact a1,by rw[mob _ _ hq,a2];rfl,fun n=>by rw[otk _ _ _ hq];exact a3 n⟩
 ·cases hq:inv ρ hc b with
  |none=>rw[mobn _ hq]at ho;exact m.glb b o hbl ho
  |some i=>
   rw[mob _ _ hq]at ho
   obtain⟨rfl,_⟩:=low b i hbl hq
   cases ho2:hc'.ob i with
   |none=>rw[ho2]at ho;cases ho
   |some o2=>
    rw[ho2]at ho;cases ho
    obtain⟨op,cs,e⟩:=m'.glb i o2 hbl ho2
    subst e
    exact⟨op,_,rfl⟩
 ·cases hq:inv ρ hc b with
  |none=>rw[oobn _ hq]at hpp;exact m.gbl b p hbl hpp
  |some i=>
   rw[oob _ _ hq]at hpp
   obtain⟨rfl,_⟩:=low b i hbl hq
   exact m'.gbl i p hbl hpp
 ·cases hq:fU ρ hc h E F w B with
  |some y=>
   obtain⟨a1,a2,a3⟩:=pr B y hq
   rw[a3]at a1
   exact(Array.getElem?_eq_some_iff.1 a1).1
  |none=>
   refine m'.lto B fun e=>hB ?_
   show jX ρ hc h E F w F' B=.no
   rw[oo B hq,e]
 ·cases hq:inv ρ hc b with
  |some i=>
   rw[mob _ _ hq]at ho
   rw[oob _ _ hq]at hpp
   cases ho2:hc'.ob i with
   |none=>rw[ho2]at ho;cases ho
   |some o2=>
    rw[ho2]at ho;cases ho
    exact ObjR.kF on (hk i o2 ho2) (m'.obj i o2 p ho2 hpp)
  |none=>
   rw[mobn _ hq]at ho
   rw[oobn _ hq]at hpp
   have r:=(m.obj b o p ho hpp).mono le
   refine r.world ?_
   rcases Nat.lt_or_ge b aC with g|g
   ·have:=m.gbl b p g hpp
    rw[m'.below.block _ this,m.below.block _ this]
   ·obtain⟨a1,a2⟩:=m.oOb b o p g ho hpp
    obtain⟨y,hy⟩:=prOb _ _ (m.lt ho hpp) a1 hq
    exact(pr _ _ hy).1
 ·show jX ρ hc h E F w F' p.blk=.ob b∧_
  cases hq:inv ρ hc b with
  |some i=>
   rw[mob _ _ hq]at ho
   rw[oob _ _ hq]at hpp
   obtain⟨h1,h2⟩:=eH hq
   cases ho2:hc'.ob i with
   |none=>rw[ho2]at ho;cases ho
   |some o2=>
    have hgi:aC≤i:=by
     rcases Nat.lt_or_ge i aC with g|g
     ·rw[ft.low i g]at h2;omega
     ·exact g
    obtain⟨a1,a2⟩:=m'.oOb i o2 p hgi ho2 hpp
    refine⟨?_,a2⟩
    rw[oo _ (unpr _ (fun z e=>by rw[a1]at e;cases e)),a1]
    show Own.ob (ρ i)=_
    rw[h2]
  |none=>
   rw[mobn _ hq]at ho
   rw[oobn _ hq]at hpp
   obtain⟨a1,a2⟩:=m.oOb b o p hg ho hpp
   obtain⟨y,hy⟩:=prOb _ _ (m.lt ho hpp) a1 hq
   exact⟨by rw[oop _ _ hy];exact a1,a2⟩
 ·show jX ρ hc h E F w F' B=.fz∨(∃b,jX ρ hc h E F w F' B=.tk b)∨∃k,jX ρ hc h E F w F' B=.pr (some k)∧i<k
  have hf':E'.fz B i=some v:=hf
  cases hq:fU ρ hc h E F w B with
  |some y=>
   rw[oop _ _ hq]
   obtain⟨a1,a2,a3⟩:=pr B y hq
   rcases m'.oFz B i v hf' hB with a|⟨b,a⟩|⟨k,a,ak⟩
   ·rw[a2]at a;cases a
   ·rw[a2]at a;cases a
   ·rw[a2]at a
    have hyk:y.2=some k:=Own.pr.inj a
    have hq2:=hq
    unfold fU at hq2
    cases ho:F.own B with
    |ob b=>
     simp only[ho]at hq2
     cases hi:inv ρ hc b with
     |some j=>rw[hi]at hq2;cases hq2
     |none=>
      rw[hi]at hq2
      cases hw:w.heap[B]? with
      |none=>rw[hw]at hq2;cases hq2
      |some z=>rw[hw]at hq2;cases hq2;cases hyk
    |tk b=>exact .inr (.inl ⟨b,rfl⟩)
    |_=>
     simp only[ho]at hq2
     have:=(m.prot B y hq2).2
     rw[ho]at this
     first
      |(cases this;done)
      |(right;right;rw[this];exact⟨k,by rw[hyk],ak⟩)
  |none=>
   rw[oo _ hq]
   rcases m'.oFz B i v hf' hB with a|⟨b,a⟩|⟨k,a,ak⟩
   ·rw[a];exact .inl rfl
   ·rw[a];exact .inr (.inl ⟨_,rfl⟩)
   ·rw[a];exact .inr (.inr ⟨k,rfl,ak⟩)
 ·show jX ρ hc h E F w F' p.blk=.tk b∧_∧_∧∀i,p.off≤i→E'.fz p.blk i=none
  cases hq:inv ρ hc b with
  |some i=>
   rw[mob _ _ hq]at ho
   rw[otk _ _ _ hq]at hpp
   obtain⟨h1,h2⟩:=eH hq
   cases ho2:hc'.ob i with
   |none=>rw[ho2]at ho;cases ho
   |some o2=>
    rw[ho2]at ho
    have:o2=.tok n:=by cases o2<;>cases ho;rfl
    subst this
    obtain⟨a1,a2,a3,a4⟩:=m'.tok i n p ho2 hpp
    refine⟨?_,a2,a3,a4⟩
    rw[oo _ (unpr _ (fun z e=>by rw[a1]at e;cases e)),a1]
    show Own.tk (ρ i)=_
    rw[h2]
  |none=>
   rw[mobn _ hq]at ho
   rw[otkn _ _ hq]at hpp
   obtain⟨a1,a2,a3,a4⟩:=m.tok b n p ho hpp
   obtain⟨y,hy⟩:=prTk _ _ (m.lto _ (by rw[a1];simp)) a1 hq
   obtain⟨b1,b2,b3⟩:=pr _ _ hy
   refine⟨by rw[oop _ _ hy];exact a1,a2,TokR.world b1 a3,fun i hi=>?_⟩
   cases hz:E'.fz p.blk i with
   |none=>rfl
   |some v=>
    exfalso
    have b2':F'.own p.blk=.pr (some (aLa h E w b p.blk)):=b2
    rcases m'.oFz p.blk i v hz a2 with a|⟨_,a⟩|⟨k,a,ak⟩
    ·rw[b2']at a;cases a
    ·rw[b2']at a;cases a
    ·rw[b2']at a
     cases a
     rw[bBt ⟨n,ho,hpp,rfl⟩]at ak
     omega
 ·cases hq:inv ρ hc b with
  |some i=>
   rw[mob _ _ hq]at ho
   rw[otk _ _ _ hq]
   cases ho2:hc'.ob i with
   |none=>rw[ho2]at ho;cases ho
   |some o2=>
    rw[ho2]at ho
    have:o2=.tok n:=by cases o2<;>cases ho;rfl
    subst this
    exact m'.tokn i n k ho2 hkk
  |none=>
   rw[mobn _ hq]at ho
   rw[otkn _ _ hq]
   exact m.tokn b n k ho hkk
 ·cases hq:inv ρ hc b with
  |some i=>
   rw[mob _ _ hq]at ho
   rw[oob _ _ hq]
   cases ho2:hc'.ob i with
   |none=>rw[ho2]at ho;cases ho
   |some o2=>
    rw[ho2]at ho
    have:o2=.tok n:=by cases o2<;>cases ho;rfl
    subst this
    exact m'.toko i n ho2
  |none=>
   rw[mobn _ hq]at ho
   rw[oobn _ hq]
   exact m.toko b n ho
 ·have hy':F.prot B=some y:=hy
  obtain⟨a1,a2⟩:=m.prot B y hy'
  have hq:fU ρ hc h E F w B=some y:=by simp only[fU,a2];exact hy'
  obtain⟨b1,b2,b3⟩:=pr B y hq
  exact⟨b1.trans a1,by show jX ρ hc h E F w F' B=_;rw[oop _ _ hq];exact a2⟩
end
theorem SCall.frame{P:Program}{gl:List Nat}{f:FuncId}{args:List V}{hc hc' h h':H}{v:V}{ρ:Nat→Nat}{args2:List V}{v2:V}(hgl:gl.all (Nat.blt · aC)=true)(core:SCall P gl f args none hc (.ret v) none hc')
  (ft:(∃E F w0 w args',Begun gl args2 h E F w0 w args')→Foot ρ hc h) (hargs:Ins (fun j=>j<aC∨(hc.ob j).isSome=true) args) (hv:v.In (wL hc)) (hk:∀i o,hc'.ob i=some o→o.In (wL hc))
  (ha:dB ρ args=args2) (hr:v.ren ρ=v2) (hh:h'=mrg ρ hc h hc'):SCall P gl f args2 none h (.ret v2) none h':=by
 subst ha;subst hr;subst hh
 refine⟨rfl,core.fn,fun E F w0 w args' kind cs hF m g ra huk=>?_⟩
 have ft:=ft ⟨E,F,w0,w,args',hF,m,g,ra⟩
 have hgl':∀x∈gl,x<aC:=fun x hx=>by have:=List.all_eq_true.1 hgl x hx;rwa[Nat.blt_eq]at this
 have gc:GL (gM ρ hc E) gl:=by
  intro x hx
  obtain⟨p,a,b⟩:=g x hx
  have hl:=hgl' x (by simpa using hx)
  refine⟨p,?_,b⟩
  simp only[gM];rw[if_pos (.inl hl),ft.low x hl];exact a
 obtain⟨E',F',w',cs',fr',a1,a2,a3,a4,a5,a6,a7,a8,a9,a10,a11,a12,z1,fnr,x,z2,z3,z4⟩:=core.run (gM ρ hc E) (bBv ρ hc h E F w) w0 w args' kind cs rfl (m.jF ft) gc (ARs.jF (aDm ft) hargs ra) huk
 obtain⟨E2,F2,b1,b2,b3,b4,b5⟩:=MR.frame ft m hF a1 a3 a4 hk
 exact⟨E2,F2,w',cs',fr',b2,b3,b4,b5,a5,a6,a7,a8,a9,a10,a11,a12,z1,fnr,x,z2,z3,AR.kF b1 hv z4⟩
end Go.VM
end
