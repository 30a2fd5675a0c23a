/- laid for this seat: VmTab VmFork VmFork2 VmFrameP VmPan VmTrim VmDef VmEnd VmW -/
import Derived.Test.YtgadhdnnkdcgkaaGreatDoorVmT
import Derived.Test.YtgadhdnnkdcgkaaGreatDoorVmR
set_option linter.unusedVariables false
set_option linter.unusedSimpArgs false
section
/- The machine of values: calls over memory that holds one table of the program's. -/
set_option maxRecDepth 100000
namespace Go.VM
open Go.RowKit
theorem aHu{ρ:Nat→Nat}(k:IntKind)(zs:List Int):dB ρ (kZ k zs)=kZ k zs:=fG (D:=fun _=>False) (fun _ h=>h.elim) qM
theorem SCall.bHx{P:Program}{gl:List Nat}{f:FuncId}{args:List V}{v v2:V}{g n:Nat}{k:IntKind}{zs:List Int}{news:OL}{h h':H}(hgl:gl.all (Nat.blt · aC)=true)(hg:g<aC)
  (core:SCall P gl f args none ⟨aC,og [(g,.cells false (kZ k zs))],[]⟩ (.ret v) none ⟨aC+n,og ((g,.cells false (kZ k zs))::news),[]⟩)
  (hnews:∀i,(og news i).isSome=true→aC≤i∧i<aC+n) (hargs:Ins (· <aC) args) (hv:v.In (· <aC+n)) (hin:gC (· <aC+n) news) (hh:h.ob g=some (.cells false (kZ k zs))) (hr:v.ren (ρL [] h.nxt)=v2)
  (hlc:h'.lc=h.lc) (hnx:h'.nxt=h.nxt+n) (hnew:∀i,i<n→h'.ob (h.nxt+i)=(og news (aC+i)).map (Obj.ren (ρL [] h.nxt))) (hold:∀b,(b<h.nxt∨h.nxt+n≤b)→h'.ob b=h.ob b):
  SCall P gl f args none h (.ret v2) none h':=by
 refine SCall.known hlc core.fn fun bg=>?_
 obtain⟨E,F,w0,w,args',bg⟩:=bg
 have hgn:aC≤h.nxt:=bg.mr.glo
 have hlow:∀i,i<aC→ρL [] h.nxt i=i:=fun i hi=>aJz hi
 have hnw:∀i,aC≤i→ρL [] h.nxt i=h.nxt+(i-aC):=fun i hi=>(oD (by simpa using hi)).trans (by simp)
 have hDO:∀i,i<aC+n→wL ⟨aC,og [(g,.cells false (kZ k zs))],[]⟩ i:=by
  intro i hi
  rcases Nat.lt_or_ge i aC with q|q
  ·exact .inl q
  ·exact .inr (.inr q)
 have og1:∀i o,og [(g,.cells false (kZ k zs))] i=some o→i=g∧o=.cells false (kZ k zs):=by
  intro i o ho
  rw[aR]at ho
  split at ho
  ·rename_i e;cases ho;exact⟨e,rfl⟩
  ·cases ho
 refine SCall.frame (ρ:=ρL [] h.nxt) hgl core (fun _=>?_) (Ins.mono (fun i hi=>.inl hi) hargs) (hv.mono hDO) (fun i o hi=>?_) (fG hlow hargs) hr ?_
 ·refine⟨hlow,fun i h1 h2=>?_,fun i hi=>hnw i hi,fun i j h1 h2 h3 h4 e=>?_,Nat.le_refl _,fun i hi=>?_,fun i o ho=>?_,fun i o ho=>?_⟩
  ·have h2:i<aC:=h2;omega
  ·have h1:i<aC:=h1
   have h2:j<aC:=h2
   rw[hlow i h1,hlow j h2]at e;exact e
  ·have hi:aC≤i:=hi
   show og [(g,_)] i=none
   rw[aR,if_neg (by omega)];rfl
  ·obtain⟨rfl,rfl⟩:=og1 i o ho
   rw[hlow i hg,hh]
   show _=some (Obj.cells false (dB _ (kZ k zs)))
   rw[aHu]
  ·obtain⟨rfl,rfl⟩:=og1 i o ho
   exact qM
 ·have hi:og ((g,.cells false (kZ k zs))::news) i=some o:=hi
  rw[aR]at hi
  split at hi
  ·cases hi;exact qM
  ·have:=eK hin i o hi
   cases o with
   |cells op cs=>exact Ins.mono hDO this
   |map es=>
    have go:∀es:List (V×V),qZ (· <aC+n) es→qZ (wL ⟨aC,og [(g,.cells false (kZ k zs))],[]⟩) es:=by
     intro es
     induction es with
     |nil=>intro _;trivial
     |cons e es ih=>intro hh;obtain⟨a,b⟩:=e;exact⟨⟨hh.1.1.mono hDO,hh.1.2.mono hDO⟩,ih hh.2⟩
    exact go es this
   |loop l=>exact this
   |dfr c=>exact this
   |siter s p=>trivial
   |tok k=>trivial
 ·have hob:h'.ob=(mrg (ρL [] h.nxt) ⟨aC,og [(g,.cells false (kZ k zs))],[]⟩ h ⟨aC+n,og ((g,.cells false (kZ k zs))::news),[]⟩).ob:=by
   funext b
   simp only[mrg]
   split
   ·rename_i i hi
    obtain⟨h1,h2⟩:=eH hi
    rcases h1 with h1|h1
    ·have h1:(og [(g,Obj.cells false (kZ k zs))] i).isSome=true:=h1
     cases ho:og [(g,Obj.cells false (kZ k zs))] i with
     |none=>rw[ho]at h1;cases h1
     |some o=>
      obtain⟨rfl,rfl⟩:=og1 i o ho
      rw[hlow i hg]at h2
      subst h2
      rw[hold i (.inl (by omega)),hh]
      show _=(og ((i,_)::news) i).map _
      rw[aR,if_pos rfl]
      show _=some (Obj.cells false (dB _ (kZ k zs)))
      rw[aHu]
    ·have h1:aC≤i:=h1
     rw[hnw i h1]at h2
     subst h2
     show _=(og ((g,_)::news) i).map _
     rw[aR,if_neg (by omega)]
     rcases Nat.lt_or_ge i (aC+n)with q|q
     ·have:=hnew (i-aC) (by omega)
      rw[show aC+(i-aC)=i by omega]at this
      exact this
     ·have hn:og news i=none:=by
       cases hq:og news i with
       |none=>rfl
       |some o=>have:=hnews i (by rw[hq];rfl);omega
      rw[hn,hold _ (.inr (by omega)),(bg.mr.fresh _ (by omega)).2.1];rfl
   ·rename_i hi
    refine hold b ?_
    rcases Nat.lt_or_ge b h.nxt with q|q
    ·exact .inl q
    ·exfalso
     unfold inv at hi
     split at hi
     ·cases hi
     ·rename_i hn
      refine hn ⟨aC+(b-h.nxt),.inr (by show aC≤_;omega),?_⟩
      rw[hnw _ (by omega)];omega
  cases h' with
  |mk nx ob lc=>
   simp only at hob hlc hnx
   subst hlc;subst hnx;subst hob
   simp only[mrg]
   congr 1
   omega
end Go.VM
end
section
/- The machine of values: regions whose order is drawn, the last two of whose heavy operations may come in either order. -/
set_option maxRecDepth 100000
namespace Go.VM
open Go.RowKit
inductive DrF(P:Program)(gl:List Nat)(fr:Fr)(ops:Array Oper)(its:List It)(x:X)(s':S):List It→DS→Prop where
 |fork {p q:It} {d:DS} {s2:S} (hx:x=.norm) (h1:Dr P gl fr ops its x s' [p,q] d) (h2:Dr P gl fr ops its x s2 [q,p] d) (sw:SW gl fr s2 s'):DrF P gl fr ops its x s' [p,q] d
 |skip {it:It} {hs:List It} {d d1 d2:DS} (ho:∀y∈hs,y.anc.testBit it.i=true) (ht:dJ d it=true) (hwt:waits its it d=true) (hw:bS ops it.o (aF d.s.tm (tmpsOf ops it.o))=some false)
   (ha:d.add fr it (aF d.s.tm (tmpsOf ops it.o)) 0 (.v bG) d.s=some d1) (ph:Ph P gl fr ops its d1 d2) (pd:Pend P gl fr d2.s.h it.anc d2.evs) (next:DrF P gl fr ops its x s' hs d2):DrF P gl fr ops its x s' (it::hs) d
 |go {it:It} {hs:List It} {d d1 d2:DS} {v:TV} {s2:S} (ho:∀y∈hs,y.anc.testBit it.i=true) (ht:dJ d it=true) (hwt:waits its it d=true) (hw:bS ops it.o (aF d.s.tm (tmpsOf ops it.o))=some true)
   (hop:OpR P gl fr it.o {d.s with tm:=aF d.s.tm (tmpsOf ops it.o)} (.val v s2))
   (ha:d.add fr it (aF d.s.tm (tmpsOf ops it.o)) 3 v s2=some d1) (ph:Ph P gl fr ops its d1 d2) (pd:Pend P gl fr d2.s.h it.anc d2.evs) (next:DrF P gl fr ops its x s' hs d2):DrF P gl fr ops its x s' (it::hs) d
 |stop {it:It} {hs:List It} {d:DS} {ch:List PE} {s2:S} (ho:∀y∈hs,y.anc.testBit it.i=true) (ht:dJ d it=true) (hwt:waits its it d=true) (hw:bS ops it.o (aF d.s.tm (tmpsOf ops it.o))=some true)
   (hop:OpR P gl fr it.o {d.s with tm:=aF d.s.tm (tmpsOf ops it.o)} (.pan ch s2)) (hx:x=.panic ch) (hse:s'={s2 with tm:=pB d.s.tm its}):DrF P gl fr ops its x s' (it::hs) d
theorem DrF.head{P:Program}{gl:List Nat}{fr:Fr}{ops:Array Oper}{its:List It}{x:X}{s':S}{it:It}{hs:List It}{d:DS}(h:DrF P gl fr ops its x s' (it::hs) d):dJ d it=true∧waits its it d=true:=by
 cases h with
 |fork _ h1 _ _=>exact h1.head
 |skip _ ht hwt=>exact⟨ht,hwt⟩
 |go _ ht hwt=>exact⟨ht,hwt⟩
 |stop _ ht hwt=>exact⟨ht,hwt⟩
theorem rF{P:Program}{gl:List Nat}{fr:Fr}{ops:Array Oper}{its:List It}{tm0:TM}(ok:ItsOk P ops its){w0:World}{b:Frame}{x:X}{s':S}
  (listed:Array Bool) (hs:List It) (d:DS) (E:Env) (F:Fx) (w:World) (tmps:Array Value) (df:List Deferred) (cs:List Frame)
  (v:INV P gl fr ops its tm0 d (lst listed) E F w0 w b tmps df cs) (hhs:∀it∈hs,it∈its∧3≤it.c) (h:DrF P gl fr ops its x s' hs d) (hf:∀i,i<ops.size→lst listed i=true):False:=by
 have hin:∀it∈its,lst listed it.i=true:=fun it hit=>hf _ (Array.getElem?_eq_some_iff.1 (ok.op it hit)).1
 cases hs with
 |cons hd tl=>
  have:=qR v h.head.1
  rw[hin hd (hhs hd (List.mem_cons_self ..)).1]at this;cases this
 |nil=>cases h
section
variable{P:Program}{gl:List Nat}{fr:Fr}{ops:Array Oper}{its:List It}{tm0:TM}
theorem aJi(ok:ItsOk P ops its)(sl:jK ops its=true)(bk:aAi its=true)(k:List Item){E0:Env}{h0:H}{w0:World}{b:Frame}{x:X}{s':S}:
  ∀(fuel t:Nat) (listed:Array Bool) (hs:List It) (d:DS) (E:Env) (F:Fx) (w:World) (tmps:Array Value) (df:List Deferred) (cs:List Frame),
   listed.size=ops.size→listed.toList.count false≤fuel→INV P gl fr ops its tm0 d (lst listed) E F w0 w b tmps df cs→pU P gl fr d (lst listed)→mK its (lst listed)→
   (∀it∈hs,it∈its∧3≤it.c)→(∀it∈its,3≤it.c→it∈hs∨∃e∈d.evs,e.it.i=it.i)→
   Ext E0 h0 E d.s.h→lI h0 d→DrF P gl fr ops its x s' hs d→
   ∃E' F' tmps' df' cs' w',Ext E0 h0 E' s'.h∧F'.prot=F.prot∧StR gl E' F' fr s' b tmps' df' cs' w0 w'∧CS d.s.u cs cs'∧s'.u.isSome=d.s.u.isSome∧
    Arr P E' x (lone (mkF b tmps (.inRegion ops (Region.linearise.go .any ops fuel t listed [])::k) df) cs w) b k tmps' df' cs' w':=by
 intro fuel
 induction fuel with
 |zero=>
  intro t listed hs d E F w tmps df cs hsz hcnt v lt dc hhs hall ex bs h
  exact(rF ok listed hs d E F w tmps df cs v hhs h (fun i hi=>by
   have h0:listed.toList.count false=0:=by omega
   rw[List.count_eq_zero]at h0
   unfold lst
   have hi':i<listed.size:=by omega
   simp only[Array.getD_eq_getD_getElem?,Array.getElem?_eq_getElem hi',Option.getD_some]
   cases hq:listed[i]with
   |true=>rfl
   |false=>exact absurd (hq▸Array.getElem_mem_toList hi') h0)).elim
 |succ fuel ih=>
  intro t listed hs d E F w tmps df cs hsz hcnt v lt dc hhs hall ex bs h
  simp only[Region.linearise.go]
  change ∃E' F' tmps' df' cs' w',_∧_∧_∧_∧_∧Arr P E' x (lone (mkF b tmps (.inRegion ops (match(Region.ready .any ops listed)[t% (Region.ready .any ops listed).length]? with
   |some i=>Region.linearise.go .any ops fuel (t/(Region.ready .any ops listed).length) (listed.setIfInBounds i true) [i]
   |none=>[].reverse)::k) df) cs w) b k tmps' df' cs' w'
  cases hi:(Region.ready .any ops listed)[t% (Region.ready .any ops listed).length]? with
  |none=>
   have hnil:Region.ready .any ops listed=[]:=by
    cases hr:Region.ready .any ops listed with
    |nil=>rfl
    |cons x xs=>
     rw[hr]at hi
     have hlt:t% (x::xs).length<(x::xs).length:=Nat.mod_lt _ (by simp)
     simp at hi
     simp at hlt
     omega
   have hfull:∀(n i:Nat),i<n→i<ops.size→lst listed i=true:=by
    intro n
    induction n with
    |zero=>intro i hn;omega
    |succ n ihn=>
     intro i hn his
     cases hq:lst listed i with
     |true=>rfl
     |false=>
      exfalso
      obtain⟨it,hit,hii⟩:=ok.all i his
      have:i∈Region.ready .any ops listed:=by
       rw[mem_ready]
       refine⟨by rw[xF (by omega)];exact hq,it.o,by rw[←hii];exact ok.op it hit,fun e he hb=>?_⟩
       have hlt:e.on<it.i:=by
        have:=List.all_eq_true.1 (List.all_eq_true.1 bk it hit) e (by simpa using he)
        rw[hb]at this
        simpa [Nat.blt_eq] using this
       exact ihn e.on (by omega) (by omega)
      rw[hnil]at this;cases this
   exact(rF ok listed hs d E F w tmps df cs v hhs h (fun i hi=>hfull (i+1) i (Nat.lt_succ_self _) hi)).elim
  |some i=>
   simp only[]
   rw[linearise_go_acc,List.reverse_singleton,List.singleton_append]
   generalize t/(Region.ready .any ops listed).length=t'
   obtain⟨r1,o,r2,r3⟩:=mem_ready.1 (List.mem_of_getElem? hi)
   have his:i<ops.size:=(Array.getElem?_eq_some_iff.1 r2).1
   have hil:i<listed.size:=by omega
   have hIi:lst listed i=false:=by rw[xF hil]at r1;exact r1
   have hset:=aPg hil
   have hsz':(listed.setIfInBounds i true).size=ops.size:=by rw[Array.size_setIfInBounds];exact hsz
   have hcnt':(listed.setIfInBounds i true).toList.count false≤fuel:=by
    rw[Array.toList_setIfInBounds,List.count_set (by simpa using hil)]
    have hq:listed.toList[i]'(by simpa using hil)=false:=by
     unfold lst at hIi
     simpa [Array.getD_eq_getD_getElem?,hil] using hIi
    rw[hq]
    simp only[BEq.rfl,if_true]
    have:((true:Bool)==false)=false:=rfl
    rw[this]
    simp only[Bool.false_eq_true,if_false]
    omega
   have edges:∀it∈its,it.i=i→∀e∈it.o.after.toList,Region.binds .any e=true→lst listed e.on=true:=by
    intro it hit hii e he hb
    have:=ok.op it hit
    rw[hii,r2]at this
    have e1:=Option.some.inj this
    exact r3 e (by rw[e1];simpa using he) hb
   have mN:∀it∈its,it.i=i→∀j,it.anc.testBit j=true→lst listed j=true:=fun it hit hii=>aLf ok dc (it.i+1) it (Nat.lt_succ_self _) hit (edges it hit hii)
   have dc':mK its (lst (listed.setIfInBounds i true)):=by
    rw[hset]
    intro it hit hI e he hb
    unfold ins at hI⊢
    split
    ·rfl
    ·split at hI
     ·rename_i q;exact edges it hit q e he hb
     ·exact dc it hit hI e he hb
   have noh:∀hd tl,hs=hd::tl→lst listed hd.i=false:=by
    intro hd tl heq
    rw[heq]at h
    exact qR v h.head.1
   obtain⟨it,hit,hii⟩:=ok.all i his
   by_cases hc:it.c<3
   ·-- it was run before
    have hm:d.mask.testBit i=true:=by
     cases hs with
     |nil=>cases h
     |cons hd tl=>
      have hw:=h.head.2
      have:=List.all_eq_true.1 hw it hit
      simp only[Bool.or_eq_true]at this
      rcases this with(q|q)|q
      ·exfalso;have:=Nat.le_of_ble_eq_true q;omega
      ·rw[←hii];exact q
      ·exfalso
       have:=mN it hit hii _ q
       rw[noh hd tl rfl]at this;cases this
    obtain⟨e,he,hei⟩:=(v.dW.mask i).1 hm
    have hec:e.it.c<3:=by
     rcases ok.uniq e.it (v.dW.mem e he) it hit (by rw[hei,hii])with q|⟨_,_,q⟩
     ·rw[q];exact hc
     ·rw[q];exact hc
    have hst:=aCi (w:=w) ok sl dc v lt he (by rw[hei];exact hIi) hec (mN e.it (v.dW.mem e he) hei) k (Region.linearise.go .any ops fuel t' (listed.setIfInBounds i true) [])
    obtain⟨E1,F1,w1,v1,a1,a2,f1,f2,a4,a5⟩:=hst
    rw[hei]at a4 a5
    rw[←hset]at a4
    have ex1:Ext E0 h0 E1 d.s.h:=by
     refine⟨ex.le.trans a1,fun y hy=>?_,ex.nxt,ex.ghost⟩
     rw[←ex.old y hy]
     by_cases q:E1.ob y=E.ob y
     ·exact q
     ·obtain⟨q1,q2⟩:=a2 y (Nat.lt_of_lt_of_le hy ex.nxt) q
      have:=bs e he q2
      omega
    obtain⟨E',F',tmps',df',cs',w',b1,b1f,b2,b3,b4,b5⟩:=ih t' (listed.setIfInBounds i true) hs d E1 F1 w1 _ df cs hsz' hcnt' a4
     (by
      rw[hset]
      intro e' he' hI' hk'
      unfold ins at hI'
      split at hI'
      ·cases hI'
      ·exact lt e' he' hI' hk') dc' hhs hall ex1 bs h
    exact⟨E',F',tmps',df',cs',w',b1,b1f.trans f2,b2,b3,b4,Arr.of (.one a5) b5⟩
   ·-- a heavy one: the next
    have hc3:3≤it.c:=by omega
    rcases hall it hit hc3 with hin|⟨e,he,hei⟩
    ·-- what is done behind it
     have rest:∀(tl:List It) (s2:S) (N:DS→Prop),(∀y∈hs,y=it∨y∈tl)→
       (∀(d2:DS) (E1:Env) (F1:Fx) (w1:World) (tmps1:Array Value) (df1:List Deferred) (cs1:List Frame),INV P gl fr ops its tm0 d2 (lst (listed.setIfInBounds i true)) E1 F1 w0 w1 b tmps1 df1 cs1→pU P gl fr d2 (lst (listed.setIfInBounds i true))→
        (∀y∈its,3≤y.c→y∈tl∨∃e∈d2.evs,e.it.i=y.i)→Ext E0 h0 E1 d2.s.h→lI h0 d2→N d2→
        ∃E' F' tmps' df' cs' w',Ext E0 h0 E' s2.h∧F'.prot=F1.prot∧StR gl E' F' fr s2 b tmps' df' cs' w0 w'∧CS d2.s.u cs1 cs'∧s2.u.isSome=d2.s.u.isSome∧
         Arr P E' x (lone (mkF b tmps1 (.inRegion ops (Region.linearise.go .any ops fuel t' (listed.setIfInBounds i true) [])::k) df1) cs1 w1) b k tmps' df' cs' w')→
       ∀(d1 d2:DS) (E1:Env) (F1:Fx) (df1:List Deferred) (cs1:List Frame) (w1:World) (v1:Value),Ext E0 h0 E1 d1.s.h→INV P gl fr ops its tm0 d1 (ins (lst listed) it.i) E1 F1 w0 w1 b (jV tmps it.o.dst v1) df1 cs1→lI h0 d1→CS d.s.u cs cs1→d1.s.u.isSome=d.s.u.isSome→F1.prot=F.prot→
       Ph P gl fr ops its d1 d2→Pend P gl fr d2.s.h it.anc d2.evs→N d2→
       Steps P (lone (mkF b tmps (.inRegion ops (i::Region.linearise.go .any ops fuel t' (listed.setIfInBounds i true) [])::k) df) cs w) (lone (mkF b (jV tmps it.o.dst v1) (.inRegion ops (Region.linearise.go .any ops fuel t' (listed.setIfInBounds i true) [])::k) df1) cs1 w1)→
       ∃E' F' tmps' df' cs' w',Ext E0 h0 E' s2.h∧F'.prot=F.prot∧StR gl E' F' fr s2 b tmps' df' cs' w0 w'∧CS d.s.u cs cs'∧s2.u.isSome=d.s.u.isSome∧
        Arr P E' x (lone (mkF b tmps (.inRegion ops (i::Region.linearise.go .any ops fuel t' (listed.setIfInBounds i true) [])::k) df) cs w) b k tmps' df' cs' w':=by
      intro tl s2 N hsb goN d1 d2 E1 F1 df1 cs1 w1 v1 a1 a2 a3 a4 a5 a5f p1 p2 p3 a6
      obtain⟨v2,x2,bs2,u2⟩:=aDs ok p1 a2 a1 a3
      rw[hii,←hset]at v2
      have hsub:∀j,lst (listed.setIfInBounds i true) j=true→∃e'∈d2.evs,e'.it.i=j:=v2.sub
      have hin2:∀j,lst listed j=true→lst (listed.setIfInBounds i true) j=true:=by
       intro j hj;rw[hset];unfold ins;split
       ·rfl
       ·exact hj
      have hini:lst (listed.setIfInBounds i true) i=true:=by rw[hset];unfold ins;rw[if_pos rfl]
      obtain⟨E',F',tmps',df',cs',w',b1,b1f,b2,b3,b4,b5⟩:=goN d2 E1 F1 w1 _ df1 cs1 v2
       (by
        intro e' he' hI' hk'
        refine p2.spec e' he' hk' ?_
        cases hq:it.anc.testBit e'.it.i with
        |false=>rfl
        |true=>
         have:=hin2 _ (mN it hit hii _ hq)
         rw[hI']at this;cases this)
       (by
        intro y hy hyc
        rcases hall y hy hyc with q|⟨e,he,hei⟩
        ·rcases hsb y q with rfl|q
         ·exact .inr (by rw[hii];exact hsub i hini)
         ·exact .inl q
        ·refine .inr (hsub _ (hin2 _ ?_))
         rw[←hei]
         refine v.heavy e he ?_
         rcases ok.uniq e.it (v.dW.mem e he) y hy hei with q|⟨_,_,q⟩
         ·rw[q];exact hyc
         ·rw[q];exact hyc)
       x2 bs2 p3
      exact⟨E',F',tmps',df',cs',w',b1,b1f.trans a5f,b2,CS.trans a4 (u2▸b3) a5,b4.trans (by rw[u2];exact a5),Arr.of a6 b5⟩
     have hop:=ok.op it hit
     have haI:∀j,it.anc.testBit j=true→lst listed j=true:=mN it hit hii
     have trm:=aGa sl v hit haI
     have doSkip:∀(tl:List It) (s2:S) (N:DS→Prop),(∀y∈hs,y=it∨y∈tl)→
       (∀(d2:DS) (E1:Env) (F1:Fx) (w1:World) (tmps1:Array Value) (df1:List Deferred) (cs1:List Frame),INV P gl fr ops its tm0 d2 (lst (listed.setIfInBounds i true)) E1 F1 w0 w1 b tmps1 df1 cs1→pU P gl fr d2 (lst (listed.setIfInBounds i true))→
        (∀y∈its,3≤y.c→y∈tl∨∃e∈d2.evs,e.it.i=y.i)→Ext E0 h0 E1 d2.s.h→lI h0 d2→N d2→
        ∃E' F' tmps' df' cs' w',Ext E0 h0 E' s2.h∧F'.prot=F1.prot∧StR gl E' F' fr s2 b tmps' df' cs' w0 w'∧CS d2.s.u cs1 cs'∧s2.u.isSome=d2.s.u.isSome∧
         Arr P E' x (lone (mkF b tmps1 (.inRegion ops (Region.linearise.go .any ops fuel t' (listed.setIfInBounds i true) [])::k) df1) cs1 w1) b k tmps' df' cs' w')→
       ∀(d1 d2:DS),dJ d it=true→bS ops it.o (aF d.s.tm (tmpsOf ops it.o))=some false→d.add fr it (aF d.s.tm (tmpsOf ops it.o)) 0 (.v bG) d.s=some d1→Ph P gl fr ops its d1 d2→Pend P gl fr d2.s.h it.anc d2.evs→N d2→
       ∃E' F' tmps' df' cs' w',Ext E0 h0 E' s2.h∧F'.prot=F.prot∧StR gl E' F' fr s2 b tmps' df' cs' w0 w'∧CS d.s.u cs cs'∧s2.u.isSome=d.s.u.isSome∧
        Arr P E' x (lone (mkF b tmps (.inRegion ops (i::Region.linearise.go .any ops fuel t' (listed.setIfInBounds i true) [])::k) df) cs w) b k tmps' df' cs' w':=by
      intro tl s2 N hsb goN d1 d2 ht hw ha ph pd next
      have hw':=cE hw (trm ht)
      obtain⟨g1,g2,g3,g4,g5⟩:=pZ (v':=undef) v ex bs hit hc3 ht ha (.inl rfl) (fun _=>⟨hw,rfl⟩) (fun q=>absurd rfl q) (Ext.refl _ _) rfl v.st.mr v.st.dr v.st.uk (.v _ _ (.tup [] #[] .nil))
      have hop:=hop
      rw[hii]at hop
      exact rest tl s2 N hsb goN d1 d2 E F df cs w undef g1 g2 g3 (CS.refl v.st.uk) (by rw[g4]) rfl ph pd next (.one (oE hop hw'))
     have doGo:∀(tl:List It) (s2:S) (N:DS→Prop),(∀y∈hs,y=it∨y∈tl)→
       (∀(d2:DS) (E1:Env) (F1:Fx) (w1:World) (tmps1:Array Value) (df1:List Deferred) (cs1:List Frame),INV P gl fr ops its tm0 d2 (lst (listed.setIfInBounds i true)) E1 F1 w0 w1 b tmps1 df1 cs1→pU P gl fr d2 (lst (listed.setIfInBounds i true))→
        (∀y∈its,3≤y.c→y∈tl∨∃e∈d2.evs,e.it.i=y.i)→Ext E0 h0 E1 d2.s.h→lI h0 d2→N d2→
        ∃E' F' tmps' df' cs' w',Ext E0 h0 E' s2.h∧F'.prot=F1.prot∧StR gl E' F' fr s2 b tmps' df' cs' w0 w'∧CS d2.s.u cs1 cs'∧s2.u.isSome=d2.s.u.isSome∧
         Arr P E' x (lone (mkF b tmps1 (.inRegion ops (Region.linearise.go .any ops fuel t' (listed.setIfInBounds i true) [])::k) df1) cs1 w1) b k tmps' df' cs' w')→
       ∀(d1 d2:DS) (u:TV) (so:S),dJ d it=true→bS ops it.o (aF d.s.tm (tmpsOf ops it.o))=some true→OpR P gl fr it.o {d.s with tm:=aF d.s.tm (tmpsOf ops it.o)} (.val u so)→d.add fr it (aF d.s.tm (tmpsOf ops it.o)) 3 u so=some d1→Ph P gl fr ops its d1 d2→Pend P gl fr d2.s.h it.anc d2.evs→N d2→
       ∃E' F' tmps' df' cs' w',Ext E0 h0 E' s2.h∧F'.prot=F.prot∧StR gl E' F' fr s2 b tmps' df' cs' w0 w'∧CS d.s.u cs cs'∧s2.u.isSome=d.s.u.isSome∧
        Arr P E' x (lone (mkF b tmps (.inRegion ops (i::Region.linearise.go .any ops fuel t' (listed.setIfInBounds i true) [])::k) df) cs w) b k tmps' df' cs' w':=by
      intro tl s2 N hsb goN d1 d2 u so ht hw hpr ha ph pd next
      have hw':=cE hw (trm ht)
      obtain⟨q0,E1,F1,df1,cs1,w1,v1,q1,q2,q3,q4,q5,q6,q7,q8⟩:=hpr E F w0 w b tmps df cs k ops it.i (Region.linearise.go .any ops fuel t' (listed.setIfInBounds i true) [])
       ⟨v.st.mr,trm ht,v.st.dr,v.st.uk,v.st.fr,v.st.gl⟩ hop hw'
      obtain⟨g1,g2,g3,g4,g5⟩:=pZ v ex bs hit hc3 ht ha (.inr rfl) (fun q=>by cases q) (fun _=>hw) q1 q2 q4.mr q4.dr q4.uk q7
      rw[hii]at q8
      exact rest tl s2 N hsb goN d1 d2 E1 F1 df1 cs1 w1 v1 g1 g2 g3 q5 (by rw[g4];exact q6) q3 ph pd next q8
     have goF:∀tl:List It,(∀y∈tl,y∈hs)→∀(d2:DS) (E1:Env) (F1:Fx) (w1:World) (tmps1:Array Value) (df1:List Deferred) (cs1:List Frame),INV P gl fr ops its tm0 d2 (lst (listed.setIfInBounds i true)) E1 F1 w0 w1 b tmps1 df1 cs1→pU P gl fr d2 (lst (listed.setIfInBounds i true))→
        (∀y∈its,3≤y.c→y∈tl∨∃e∈d2.evs,e.it.i=y.i)→Ext E0 h0 E1 d2.s.h→lI h0 d2→DrF P gl fr ops its x s' tl d2→
        ∃E' F' tmps' df' cs' w',Ext E0 h0 E' s'.h∧F'.prot=F1.prot∧StR gl E' F' fr s' b tmps' df' cs' w0 w'∧CS d2.s.u cs1 cs'∧s'.u.isSome=d2.s.u.isSome∧
         Arr P E' x (lone (mkF b tmps1 (.inRegion ops (Region.linearise.go .any ops fuel t' (listed.setIfInBounds i true) [])::k) df1) cs1 w1) b k tmps' df' cs' w':=
      fun tl htl d2 E1 F1 w1 tmps1 df1 cs1 y1 y2 y3 y4 y5 y6=>ih t' _ tl d2 E1 F1 w1 tmps1 df1 cs1 hsz' hcnt' y1 y2 dc' (fun y hy=>hhs y (htl y hy)) y3 y4 y5 y6
     have goD:∀(z:It) (s2:S),z∈hs→∀(d2:DS) (E1:Env) (F1:Fx) (w1:World) (tmps1:Array Value) (df1:List Deferred) (cs1:List Frame),INV P gl fr ops its tm0 d2 (lst (listed.setIfInBounds i true)) E1 F1 w0 w1 b tmps1 df1 cs1→pU P gl fr d2 (lst (listed.setIfInBounds i true))→
        (∀y∈its,3≤y.c→y∈[z]∨∃e∈d2.evs,e.it.i=y.i)→Ext E0 h0 E1 d2.s.h→lI h0 d2→Dr P gl fr ops its x s2 [z] d2→
        ∃E' F' tmps' df' cs' w',Ext E0 h0 E' s2.h∧F'.prot=F1.prot∧StR gl E' F' fr s2 b tmps' df' cs' w0 w'∧CS d2.s.u cs1 cs'∧s2.u.isSome=d2.s.u.isSome∧
         Arr P E' x (lone (mkF b tmps1 (.inRegion ops (Region.linearise.go .any ops fuel t' (listed.setIfInBounds i true) [])::k) df1) cs1 w1) b k tmps' df' cs' w':=
      fun z s2 hz d2 E1 F1 w1 tmps1 df1 cs1 y1 y2 y3 y4 y5 y6=>yU ok sl bk k fuel t' _ [z] d2 E1 F1 w1 tmps1 df1 cs1 hsz' hcnt' y1 y2 dc' rfl (fun y hy=>by
       have:y=z:=by simpa using hy
       subst this;exact hhs y hz) y3 y4 y5 y6
     cases h with
     | @skip hd tl _ d1 d2 ho ht hwt hw ha ph pd next=>
      have hhd:it=hd:=by
       cases hin with
       |head=>rfl
       |tail _ hin=>
        exfalso
        have:=mN it hit hii _ (ho it hin)
        rw[noh hd tl rfl]at this;cases this
      subst hhd
      exact doSkip tl s' (DrF P gl fr ops its x s' tl) (fun y hy=>by cases hy with|head=>exact .inl rfl|tail _ q=>exact .inr q) (goF tl fun y hy=>List.mem_cons_of_mem _ hy) d1 d2 ht hw ha ph pd next
     | @go hd tl _ d1 d2 u so ho ht hwt hw hpr ha ph pd next=>
      have hhd:it=hd:=by
       cases hin with
       |head=>rfl
       |tail _ hin=>
        exfalso
        have:=mN it hit hii _ (ho it hin)
        rw[noh hd tl rfl]at this;cases this
      subst hhd
      exact doGo tl s' (DrF P gl fr ops its x s' tl) (fun y hy=>by cases hy with|head=>exact .inl rfl|tail _ q=>exact .inr q) (goF tl fun y hy=>List.mem_cons_of_mem _ hy) d1 d2 u so ht hw hpr ha ph pd next
     | @stop hd tl _ pch s2 ho ht hwt hw hpr hx hse=>
      have hhd:it=hd:=by
       cases hin with
       |head=>rfl
       |tail _ hin=>
        exfalso
        have:=mN it hit hii _ (ho it hin)
        rw[noh hd tl rfl]at this;cases this
      subst hhd
      have hw':=cE hw (trm ht)
      subst hx;subst hse
      obtain⟨q0,E1,F1,df1,cs1,w1,todo,pch',q1,q2,q3,q4,q5,q6,q7,q8⟩:=hpr E F w0 w b tmps df cs k ops it.i (Region.linearise.go .any ops fuel t' (listed.setIfInBounds i true) [])
       ⟨v.st.mr,trm ht,v.st.dr,v.st.uk,v.st.fr,v.st.gl⟩ hop hw'
      rw[hii]at q8
      refine⟨E1,F1,tmps,df1,cs1,w1,ex.trans q1,q3,⟨q4.mr,⟨q4.tr.1,fun t u hu=>?_⟩,q4.dr,q4.uk,q4.fr,q4.gl⟩,q5,q6,todo,pch',q7,q8⟩
      obtain⟨c1,c2⟩:=zH hu
      rw[v.dW.tm]at c1
      refine(v.st.tr.mono q1.le (fun _ _ e=>by rw[q2];exact e)).2 t u ?_
      show tg (gO (lst listed) tm0 d.evs) t=some u
      rw[←c1]
      exact iH d.evs fun e' h' hd=>absurd hd (c2 _ (v.dW.mem e' h'))
     | @fork p q _ s2 hx h1 h2 sw=>
      have hpq:it=p∨it=q:=by
       cases hin with
       |head=>exact .inl rfl
       |tail _ hin=>cases hin with
        |head=>exact .inr rfl
        |tail _ hin=>cases hin
      rcases hpq with rfl|rfl
      ·have hz:q∈[it,q]:=by simp
       have hsb:∀y∈[it,q],y=it∨y∈[q]:=fun y hy=>by
        cases hy with|head=>exact .inl rfl|tail _ z=>exact .inr z
       cases h1 with
       |skip ht hwt hw ha ph pd next=>exact doSkip [q] s' (Dr P gl fr ops its x s' [q]) hsb (goD q s' hz) _ _ ht hw ha ph pd next
       |go ht hwt hw hpr ha ph pd next=>exact doGo [q] s' (Dr P gl fr ops its x s' [q]) hsb (goD q s' hz) _ _ _ _ ht hw hpr ha ph pd next
       |stop ht hwt hw hpr hxp hse=>rw[hx]at hxp;cases hxp
      ·have hz:p∈[p,it]:=by simp
       have hsb:∀y∈[p,it],y=it∨y∈[p]:=fun y hy=>by
        cases hy with
        |head=>exact .inr (by simp)
        |tail _ z=>cases z with
         |head=>exact .inl rfl
         |tail _ z=>cases z
       have fin:(∃E' F' tmps' df' cs' w',Ext E0 h0 E' s2.h∧F'.prot=F.prot∧StR gl E' F' fr s2 b tmps' df' cs' w0 w'∧CS d.s.u cs cs'∧s2.u.isSome=d.s.u.isSome∧
        Arr P E' x (lone (mkF b tmps (.inRegion ops (i::Region.linearise.go .any ops fuel t' (listed.setIfInBounds i true) [])::k) df) cs w) b k tmps' df' cs' w')→
        ∃E' F' tmps' df' cs' w',Ext E0 h0 E' s'.h∧F'.prot=F.prot∧StR gl E' F' fr s' b tmps' df' cs' w0 w'∧CS d.s.u cs cs'∧s'.u.isSome=d.s.u.isSome∧
        Arr P E' x (lone (mkF b tmps (.inRegion ops (i::Region.linearise.go .any ops fuel t' (listed.setIfInBounds i true) [])::k) df) cs w) b k tmps' df' cs' w':=by
        rintro⟨E',F',tmps',df',cs',w',b1,b2,b3,b4,b5,b6⟩
        obtain⟨E2,F2,c1,c2,c3⟩:=sw.2 E' F' w0 w' b tmps' df' cs' b3
        subst hx
        exact⟨E2,F2,tmps',df',cs',w',b1.trans c1,c2.trans b2,c3,b4,by rw[sw.1];exact b5,b6⟩
       cases h2 with
       |skip ht hwt hw ha ph pd next=>exact fin (doSkip [p] s2 (Dr P gl fr ops its x s2 [p]) hsb (goD p s2 hz) _ _ ht hw ha ph pd next)
       |go ht hwt hw hpr ha ph pd next=>exact fin (doGo [p] s2 (Dr P gl fr ops its x s2 [p]) hsb (goD p s2 hz) _ _ _ _ ht hw hpr ha ph pd next)
       |stop ht hwt hw hpr hxp hse=>rw[hx]at hxp;cases hxp
    ·have:=v.heavy e he (by
      rcases ok.uniq e.it (v.dW.mem e he) it hit hei with q|⟨_,_,q⟩
      ·rw[q];exact hc3
      ·rw[q];exact hc3)
     rw[hei,hii,hIi]at this;cases this
end
end Go.VM
end
section
/- The machine of values: regions whose last two heavy operations come in either order: resolved. -/
set_option maxRecDepth 100000
namespace Go.VM
open Go.RowKit
inductive DrK(P:Program)(gl:List Nat)(fr:Fr)(ds:List Nat)(K:X→S→S→List ER→Prop)(x:X)(s':S):List (RI×List RI)→S→List ER→Prop where
 |fin {s:S} {es:List ER} (h:K x s' s es):DrK P gl fr ds K x s' [] s es
 |skip {r:RI} {l:List RI} {hs:List (RI×List RI)} {s:S} {h2:H} {tm1 tm2:TM} {es es2:List ER} (hw:aV r.gd (aF s.tm r.rd)=some false) (hp:bB fr.nt s.tm r.dst (.v bG)=some tm1)
   (ph:PhR P gl fr.nt l s.h tm1 es h2 tm2 es2) (pd:PendR P gl fr.nt h2 r.anc es2) (next:DrK P gl fr ds K x s' hs {s with tm:=tm2,h:=h2} es2):DrK P gl fr ds K x s' ((r,l)::hs) s es
 |go {r:RI} {l:List RI} {hs:List (RI×List RI)} {s s2:S} {v:TV} {h2:H} {tm1 tm2:TM} {es es2:List ER} (hw:aV r.gd (aF s.tm r.rd)=some true) (hop:sN P gl fr r.ro {s with tm:=aF s.tm r.rd} (.val v s2))
   (hp:bB fr.nt s.tm r.dst v=some tm1) (ph:PhR P gl fr.nt l s2.h tm1 es h2 tm2 es2) (pd:PendR P gl fr.nt h2 r.anc es2) (next:DrK P gl fr ds K x s' hs {s2 with tm:=tm2,h:=h2} es2):DrK P gl fr ds K x s' ((r,l)::hs) s es
 |stop {r:RI} {l:List RI} {hs:List (RI×List RI)} {s s2:S} {ch:List PE} {es:List ER} (hw:aV r.gd (aF s.tm r.rd)=some true) (hop:sN P gl fr r.ro {s with tm:=aF s.tm r.rd} (.pan ch s2))
   (hx:x=.panic ch) (hse:s'={s2 with tm:=mA s.tm ds}):DrK P gl fr ds K x s' ((r,l)::hs) s es
def DK(P:Program)(gl:List Nat)(fr:Fr)(ds:List Nat)(K:X→S→S→List ER→Prop)(l:List RI)(anc:Nat)(hs:List (RI×List RI))(s:S)(es:List ER)(QN:S→Prop)(QX:X→S→Prop):Prop:=
 ∃h1 tm1 es1 x s',PhR P gl fr.nt l s.h s.tm es h1 tm1 es1∧PendR P gl fr.nt h1 anc es1∧DrK P gl fr ds K x s' hs {s with tm:=tm1,h:=h1} es1∧Post QN QX x s'
section
variable{P:Program}{gl:List Nat}{fr:Fr}{s:S}{QN:S→Prop}{QX:X→S→Prop}{l:List RI}{r:RI}{ds:List Nat}{anc:Nat}{hs:List (RI×List RI)}{es:List ER}{K:X→S→S→List ER→Prop}
theorem DK.fin{x:X}{s':S}(pd:PendR P gl fr.nt s.h anc es)(h:K x s' s es)(q:Post QN QX x s'):DK P gl fr ds K [] anc [] s es QN QX:=⟨s.h,s.tm,es,x,s',.nil,pd,.fin h,q⟩
theorem DK.pure{v:TV}{tm:TM}(hw:aV r.gd (aF s.tm r.rd)=some true)(ho:∀h,cG P gl fr.nt (aF s.tm r.rd) h r.ro v)(hp:bB fr.nt s.tm r.dst v=some tm)(h:DK P gl fr ds K l anc hs {s with tm} es QN QX):DK P gl fr ds K (r::l) anc hs s es QN QX:=
 let⟨h1,tm1,es1,x,s',a,b,c,d⟩:=h;⟨h1,tm1,es1,x,s',.pure hw ho hp a,b,c,d⟩
theorem DK.fZ{v:TV}{tm:TM}(hw:aV r.gd (aF s.tm r.rd)=some true)(ho:cG P gl fr.nt (aF s.tm r.rd) s.h r.ro v)(hp:bB fr.nt s.tm r.dst v=some tm)
  (h:DK P gl fr ds K l anc hs {s with tm} (⟨r.i,r.ro,aF s.tm r.rd,v,s.h⟩::es) QN QX):DK P gl fr ds K (r::l) anc hs s es QN QX:=
 let⟨h1,tm1,es1,x,s',a,b,c,d⟩:=h;⟨h1,tm1,es1,x,s',.fZ hw ho hp a,b,c,d⟩
theorem DK.op{l2:List RI}{v:TV}{s2:S}{tm1:TM}(pd:PendR P gl fr.nt s.h anc es)(hw:aV r.gd (aF s.tm r.rd)=some true)(hop:sN P gl fr r.ro {s with tm:=aF s.tm r.rd} (.val v s2))(hp:bB fr.nt s.tm r.dst v=some tm1)
  (h:DK P gl fr ds K l2 r.anc hs {s2 with tm:=tm1} es QN QX):DK P gl fr ds K [] anc ((r,l2)::hs) s es QN QX:=
 let⟨h1,tm2,es1,x,s',a,b,c,d⟩:=h;⟨s.h,s.tm,es,x,s',.nil,pd,.go hw hop hp a b c,d⟩
theorem DK.skip{l2:List RI}{tm1:TM}(pd:PendR P gl fr.nt s.h anc es)(hw:aV r.gd (aF s.tm r.rd)=some false)(hp:bB fr.nt s.tm r.dst (.v bG)=some tm1)
  (h:DK P gl fr ds K l2 r.anc hs {s with tm:=tm1} es QN QX):DK P gl fr ds K [] anc ((r,l2)::hs) s es QN QX:=
 let⟨h1,tm2,es1,x,s',a,b,c,d⟩:=h;⟨s.h,s.tm,es,x,s',.nil,pd,.skip hw hp a b c,d⟩
theorem DK.tT{l2:List RI}{v:TV}{h':H}{tm1:TM}(pd:PendR P gl fr.nt s.h anc es)(hw:aV r.gd (aF s.tm r.rd)=some true)(hop:DoesR P gl fr.nt (aF s.tm r.rd) s.h r.ro v h')(hp:bB fr.nt s.tm r.dst v=some tm1)
  (h:DK P gl fr ds K l2 r.anc hs {s with tm:=tm1,h:=h'} es QN QX):DK P gl fr ds K [] anc ((r,l2)::hs) s es QN QX:=
 DK.op pd hw (kH (s:={s with tm:=aF s.tm r.rd}) hop) hp h
theorem DK.call{l2:List RI}{x:RX}{as:List RX}{f:FuncId}{first cap vs ws:List V}{v:V}{h':H}{tm1:TM}{u':Option AMode}(pd:PendR P gl fr.nt s.h anc es)(hr:r.ro=some (.call x as))(hw:aV r.gd (aF s.tm r.rd)=some true)
  (hx:rv gl (aF s.tm r.rd) x=some (.fn (.func f) first cap)) (hv:rvs gl (aF s.tm r.rd) as=some vs) (ha:(first++vs)++cap=ws) (sc:SCall P gl f ws none s.h (.ret v) u' h') (hp:bB fr.nt s.tm r.dst (.v v)=some tm1)
  (h:DK P gl fr ds K l2 r.anc hs {s with tm:=tm1,h:=h'} es QN QX):DK P gl fr ds K [] anc ((r,l2)::hs) s es QN QX:=by
 refine DK.op pd hw (v:=.v v) (s2:={s with tm:=aF s.tm r.rd,h:=h'}) ?_ hp h
 rw[hr]
 intro o ho
 exact nE (r:=.ret v) (s:={s with tm:=aF s.tm r.rd}) ho hx hv (by rw[ha];exact Weak.refl _) sc
theorem DK.stop{l2:List RI}{ch:List PE}{s2:S}(pd:PendR P gl fr.nt s.h anc es)(hw:aV r.gd (aF s.tm r.rd)=some true)(hop:sN P gl fr r.ro {s with tm:=aF s.tm r.rd} (.pan ch s2))
  (h:QX (.panic ch) {s2 with tm:=mA s.tm ds}):DK P gl fr ds K [] anc ((r,l2)::hs) s es QN QX:=⟨s.h,s.tm,es,.panic ch,_,.nil,pd,.stop hw hop rfl rfl,h⟩
end
section
variable{P:Program}{gl:List Nat}{fr:Fr}{QN:S→Prop}{QX:X→S→Prop}{ds:List Nat}{anc:Nat}{hs:List (RI×List RI)}{K:X→S→S→List ER→Prop}
theorem DK.obj{s:S}{es:List ER}{r:RI}{l:List RI}{v:V}{ob:Obj}{tm:TM}(hw:aV r.gd (aF s.tm r.rd)=some true)(ho:uB P gl fr.nt (aF s.tm r.rd) r.ro s.h.nxt ob v)(hp:bB fr.nt s.tm r.dst (.v v)=some tm)
  (h:DK P gl fr ds K l anc hs {s with tm,h:=s.h.new ob} es QN QX):DK P gl fr ds K (r::l) anc hs s es QN QX:=
 let⟨h1,tm1,es1,x,s',a,b,c,d⟩:=h;⟨h1,tm1,es1,x,s',.obj hw ho hp a,b,c,d⟩
theorem DK.list{s:S}{es:List ER}{r:RI}{l:List RI}{v:V}{tm:TM}(hw:aV r.gd (aF s.tm r.rd)=some true)(ho:tR P gl fr.nt (aF s.tm r.rd) r.ro v)(hp:bB fr.nt s.tm r.dst (.v v)=some tm)
  (h:DK P gl fr ds K l anc hs {s with tm} es QN QX):DK P gl fr ds K (r::l) anc hs s es QN QX:=
 let⟨h1,tm1,es1,x,s',a,b,c,d⟩:=h;⟨h1,tm1,es1,x,s',.list hw ho hp a,b,c,d⟩
theorem DK.aYk{s:S}{es:List ER}{r:RI}{l:List RI}{tm:TM}(hw:aV r.gd (aF s.tm r.rd)=some false)(hp:bB fr.nt s.tm r.dst (.v bG)=some tm)
  (h:DK P gl fr ds K l anc hs {s with tm} es QN QX):DK P gl fr ds K (r::l) anc hs s es QN QX:=
 let⟨h1,tm1,es1,x,s',a,b,c,d⟩:=h;⟨h1,tm1,es1,x,s',.skip hw hp a,b,c,d⟩
theorem DK.aG(hp:List Nat):∀(n:Nat) (l:List RI) (s:SL) (es:List ER) (l2:List RI) (s2:SL) (es2:List ER),phS gl fr.nt hp n l s es=some (l2,s2,es2)→DK P gl fr ds K l2 anc hs s2.toS es2 QN QX→DK P gl fr ds K l anc hs s.toS es QN QX
 |0,l,s,es,l2,s2,es2,h,k=>by simp only[phS]at h;cases h;exact k
 |n+1,[],s,es,l2,s2,es2,h,k=>by simp only[phS]at h;cases h;exact k
 |n+1,r::l,⟨tm,df,u,nx,ol,lc⟩,es,l2,s2,es2,h,k=>by
  simp only[phS]at h
  split at h
  ·cases h
  ·rename_i hw
   split at h
   ·rename_i tm1 hput
    exact DK.aYk (s:=SL.toS ⟨tm,df,u,nx,ol,lc⟩) hw hput (DK.aG hp n l _ _ l2 s2 es2 h k)
   ·cases h
  ·rename_i hw
   split at h
   ·cases h
   ·rename_i ro hro
    split at h
    ·split at h
     ·rename_i v hv
      split at h
      ·rename_i tm1 hput
       split at h
       ·rename_i hpu
        exact DK.pure (s:=SL.toS ⟨tm,df,u,nx,ol,lc⟩) hw (fun h'=>by rw[hro];exact sE hpu (mU (kI hv)).1 h') hput (DK.aG hp n l _ _ l2 s2 es2 h k)
       ·refine DK.fZ (s:=SL.toS ⟨tm,df,u,nx,ol,lc⟩) hw (by rw[hro];exact bJ (kI hv)) hput ?_
        rw[hro]
        exact DK.aG hp n l _ _ l2 s2 es2 h k
      ·cases h
     ·cases h;exact k
    ·split at h
     ·cases h
     ·rename_i d hd
      have obj:∀(v:V) (ob:Obj) (tm1:TM) (ol1:OL),aAn gl (aF tm r.rd) nx ro=some (v,ob)→bB fr.nt tm (some d) (.v v)=some tm1→iN ol nx ob=some ol1→phS gl fr.nt hp n l ⟨tm1,df,u,nx+1,ol1,lc⟩ es=some (l2,s2,es2)→
        DK P gl fr ds K (r::l) anc hs (SL.toS ⟨tm,df,u,nx,ol,lc⟩) es QN QX:=by
       intro v ob tm1 ol1 ha hput hol hs2
       have:=DK.aG hp n l _ _ l2 s2 es2 hs2 k
       refine DK.obj (s:=SL.toS ⟨tm,df,u,nx,ol,lc⟩) (ob:=ob) (v:=v) (tm:=tm1) hw (by rw[hro];exact nG (wV ha)) (by rw[hd];exact hput) ?_
       have e:(SL.toS ⟨tm,df,u,nx,ol,lc⟩).h.new ob=⟨nx+1,og (oset ol nx ob),lc⟩:=pG ..
       rw[e,←gU hol];exact this
      split at h
      ·split at h
       ·rename_i v ob ha
        split at h
        ·rename_i tm1 ol1 hput hol;exact obj v ob tm1 ol1 ha hput hol h
        ·cases h
       ·cases h;exact k
      ·split at h
       ·rename_i v ha
        split at h
        ·rename_i tm1 hput
         exact DK.list (s:=SL.toS ⟨tm,df,u,nx,ol,lc⟩) (v:=v) (tm:=tm1) hw (by rw[hro];exact mS (aFn ha)) (by rw[hd];exact hput) (DK.aG hp n l _ _ l2 s2 es2 h k)
        ·cases h
       ·split at h
        ·rename_i v ob ha
         split at h
         ·rename_i tm1 ol1 hput hol;exact obj v ob tm1 ol1 ha hput hol h
         ·cases h
        ·cases h;exact k
    ·cases h;exact k
section
variable{l:List RI}{r:RI}{tm tm1:TM}{df:List AD}{u:Option AMode}{nx:Nat}{ol:OL}{lc:LM}{es:List ER}
theorem DK.dM{l2:List RI}{v:TV}{nx':Nat}{ol':OL}{lc':LM}(pd:PendR P gl fr.nt ⟨nx,og ol,lc⟩ anc es)(hw:aV r.gd (aF tm r.rd)=some true)(hop:DoesR P gl fr.nt (aF tm r.rd) ⟨nx,og ol,lc⟩ r.ro v ⟨nx',og ol',lc'⟩)(hp:bB fr.nt tm r.dst v=some tm1)
  (h:DK P gl fr ds K l2 r.anc hs (SL.toS ⟨tm1,df,u,nx',ol',lc'⟩) es QN QX):DK P gl fr ds K [] anc ((r,l2)::hs) (SL.toS ⟨tm,df,u,nx,ol,lc⟩) es QN QX:=
 DK.tT (s:=SL.toS ⟨tm,df,u,nx,ol,lc⟩) pd hw hop hp h
theorem DK.aBw{l2:List RI}{x:RX}{as:List RX}{f:FuncId}{first cap vs ws:List V}{v:V}{nx':Nat}{ol':OL}{u':Option AMode}(pd:PendR P gl fr.nt ⟨nx,og ol,lc⟩ anc es)(hr:r.ro=some (.call x as))(hw:aV r.gd (aF tm r.rd)=some true)
  (hx:rv gl (aF tm r.rd) x=some (.fn (.func f) first cap)) (hv:rvs gl (aF tm r.rd) as=some vs) (ha:(first++vs)++cap=ws) (sc:SCall P gl f ws none ⟨nx,og ol,lc⟩ (.ret v) u' ⟨nx',og ol',lc⟩) (hp:bB fr.nt tm r.dst (.v v)=some tm1)
  (h:DK P gl fr ds K l2 r.anc hs (SL.toS ⟨tm1,df,u,nx',ol',lc⟩) es QN QX):DK P gl fr ds K [] anc ((r,l2)::hs) (SL.toS ⟨tm,df,u,nx,ol,lc⟩) es QN QX:=
 DK.call (s:=SL.toS ⟨tm,df,u,nx,ol,lc⟩) pd hr hw hx hv ha sc hp h
theorem DK.eU{l2:List RI}{x:RX}{as:List RX}{f:FuncId}{first cap vs ws:List V}{v:V}{h':H}{nx':Nat}{ol':OL}{u':Option AMode}(pd:PendR P gl fr.nt ⟨nx,og ol,lc⟩ anc es)(hr:r.ro=some (.call x as))(hw:aV r.gd (aF tm r.rd)=some true)
  (hx:rv gl (aF tm r.rd) x=some (.fn (.func f) first cap)) (hv:rvs gl (aF tm r.rd) as=some vs) (ha:(first++vs)++cap=ws) (sc:SCall P gl f ws none ⟨nx,og ol,lc⟩ (.ret v) u' h') (hl:HL h' nx' ol' lc) (hp:bB fr.nt tm r.dst (.v v)=some tm1)
  (h:DK P gl fr ds K l2 r.anc hs (SL.toS ⟨tm1,df,u,nx',ol',lc⟩) es QN QX):DK P gl fr ds K [] anc ((r,l2)::hs) (SL.toS ⟨tm,df,u,nx,ol,lc⟩) es QN QX:=by
 rw[hl.eq]at sc;exact DK.aBw pd hr hw hx hv ha sc hp h
theorem DK.oW{v:TV}(hw:aV r.gd (aF tm r.rd)=some true)(ho:∀h,cG P gl fr.nt (aF tm r.rd) h r.ro v)(hp:bB fr.nt tm r.dst v=some tm1)
  (h:DK P gl fr ds K l anc hs (SL.toS ⟨tm1,df,u,nx,ol,lc⟩) es QN QX):DK P gl fr ds K (r::l) anc hs (SL.toS ⟨tm,df,u,nx,ol,lc⟩) es QN QX:=DK.pure (s:=SL.toS ⟨tm,df,u,nx,ol,lc⟩) hw ho hp h
end
end
structure FK where
 ph:List RI
 front:List (RI×List RI)
 pq:List (RI×List RI)
 qp:List (RI×List RI)
 ds:List Nat
def bEr(P:Program)(ops:Array Oper)(its:List It)(front:List It)(p q:It):Option FK:=
 match jK ops its&&aAi its&&jL (front++[p])&&jL (front++[q])with
 |true=>match aLb (jC its 0) 0 with
  |some m=>match yN its (gY its front 1) m with
   |some m1=>match yN its (gY its [p,q] (1+front.length)) m1,yN its (gY its [q,p] (1+front.length)) m1 with
    |some m2,some m3=>match Nat.beq m2 (2^ops.size-1)&&Nat.beq m3 (2^ops.size-1)with
     |true=>match zB P ops (jC its 0),pI P ops (gY its front 1),pI P ops (gY its [p,q] (1+front.length)),pI P ops (gY its [q,p] (1+front.length))with
      |some a,some b,some c,some d=>some ⟨a,b,c,d,dstsOf its⟩
      |_,_,_,_=>none
     |false=>none
    |_,_=>none
   |none=>none
  |none=>none
 |false=>none
def sR:List It→Option (List It×It×It)
 |[]=>none
 |[_]=>none
 |[p,q]=>some ([],p,q)
 |a::l=>match sR l with
  |some (f,p,q)=>some (a::f,p,q)
  |none=>none
theorem xR:∀{l f:List It} {p q:It},sR l=some (f,p,q)→l=f++[p,q]
 |[],f,p,q,h=>by cases h
 |[_],f,p,q,h=>by cases h
 |[a,b],f,p,q,h=>by simp only[sR]at h;cases h;rfl
 |a::b::c::l,f,p,q,h=>by
  simp only[sR]at h
  split at h
  ·rename_i f1 p1 q1 h1
   cases h
   have:=xR (l:=b::c::l) h1
   rw[this];rfl
  ·cases h
def aEz(P:Program)(c:Code):Option FK:=match c with
 |.region _ ops true=>match sR ((items P ops.toList).filter fun it=>Nat.ble 3 it.c)with
  |some (f,p,q)=>bEr P ops (items P ops.toList) f p q
  |none=>none
 |_=>none
section
variable{P:Program}{gl:List Nat}
theorem uT{fr:Fr}{ops:Array Oper}{its:List It}{K:X→S→S→List ER→Prop}{x:X}{s':S}{p q:It}(hl:∀k,∀it∈jC its k,it∈its){mE:Nat}
  (hK:∀(d:DS) (s:S) (es:List ER),K x s' s es→DSim P gl fr.nt d s mE es→DrF P gl fr ops its x s' [p,q] d):∀{hs:List It} {k:Nat} {rs:List (RI×List RI)} {d:DS} {s:S} {m:Nat} {es:List ER},jL (hs++[p])=true→jL (hs++[q])=true→pI P ops (gY its hs k)=some rs→yN its (gY its hs k) m=some mE→
  DrK P gl fr (dstsOf its) K x s' rs s es→DSim P gl fr.nt d s m es→DrF P gl fr ops its x s' (hs++[p,q]) d
 |[],k,rs,d,s,m,es,c1,c2,hr,hs,hp,hd=>by
  simp only[gY,pI]at hr;cases hr
  simp only[gY,yN]at hs;cases hs
  cases hp with
  |fin h=>exact hK d s es h hd
 |it::hs,k,rs,d,s,m,es,c1,c2,hr,hsim,hp,hd=>by
  simp only[gY,pI]at hr
  obtain⟨a1h,c1'⟩:=rL c1
  obtain⟨a2h,c2'⟩:=rL c2
  have ho:∀y∈hs++[p,q],y.anc.testBit it.i=true:=by
   intro y hy
   rcases List.mem_append.1 hy with h|h
   ·exact a1h y (List.mem_append_left _ h)
   ·cases h with
    |head=>exact a1h _ (List.mem_append_right _ (by simp))
    |tail _ h=>cases h with
     |head=>exact a2h _ (List.mem_append_right _ (by simp))
     |tail _ h=>cases h
  split at hr
  ·rename_i r rl rq h1 h2 h3
   cases hr
   obtain⟨e0,e00,e1,e4,e2,e3⟩:=uN h1
   simp only[gY,yN]at hsim
   split at hsim
   ·rename_i hq
    simp only[Bool.and_eq_true]at hq
    obtain⟨⟨q1,q2⟩,q3⟩:=hq
    have ht:dJ d it=true:=uV hd.m (by simp only[Bool.and_eq_true];exact⟨q1,q2⟩)
    have hwt:waits its it d=true:=by unfold waits;rw[hd.m];exact q3
    have ew:bS ops it.o (aF d.s.tm (tmpsOf ops it.o))=aV r.gd (aF s.tm r.rd):=by rw[tD e3,hd.s,e4]
    have et:aF d.s.tm (tmpsOf ops it.o)=aF s.tm r.rd:=by rw[hd.s,e4]
    split at hsim
    ·rename_i m2 hm2
     cases hp with
     | @skip _ _ _ _ hh2 tm1 tm2 _ es2 hw hput ph pd next=>
      have a1:=DS.add_eq (fr:=fr) (d:=d) (it:=it) (tmr:=aF d.s.tm (tmpsOf ops it.o)) (k:=0) (v:=.v bG) (s:=d.s) (tm:=tm1) (by rw[hd.s,e2];exact hput)
      have a2:DSim P gl fr.nt ⟨{d.s with tm:=tm1},⟨it,aF d.s.tm (tmpsOf ops it.o),0,.v bG,d.s.h.nxt⟩::d.evs,d.mask|||2^it.i⟩ {s with tm:=tm1} (m|||2^it.i) es:=⟨by rw[hd.s],by rw[hd.m],fun e he hk1=>(by
       cases he with
       |head=>cases hk1
       |tail _ he=>exact hd.ev e he hk1),hd.ok⟩
      obtain⟨d',b1,b2⟩:=fA (its:=its) (ops:=ops) (hl k) h2 hm2 ph a2
      refine .skip ho ht hwt (ew.trans hw) a1 b1 ?_ (uT hl hK c1' c2' h3 hsim next b2)
      rw[show d'.s.h=hh2 by rw[b2.s],←e00]
      exact iK pd b2
     | @go _ _ _ _ s2 v hh2 tm1 tm2 _ es2 hw hop hput ph pd next=>
      have hop':OpR P gl fr it.o {d.s with tm:=aF d.s.tm (tmpsOf ops it.o)} (.val v s2):=by rw[et,hd.s];exact hop it.o e1
      have a1:=DS.add_eq (fr:=fr) (d:=d) (it:=it) (tmr:=aF d.s.tm (tmpsOf ops it.o)) (k:=3) (v:=v) (s:=s2) (tm:=tm1) (by rw[hd.s,e2];exact hput)
      have a2:DSim P gl fr.nt ⟨{s2 with tm:=tm1},⟨it,aF d.s.tm (tmpsOf ops it.o),3,v,d.s.h.nxt⟩::d.evs,d.mask|||2^it.i⟩ {s2 with tm:=tm1} (m|||2^it.i) es:=⟨rfl,by rw[hd.m],fun e he hk1=>(by
       cases he with
       |head=>cases hk1
       |tail _ he=>exact hd.ev e he hk1),hd.ok⟩
      obtain⟨d',b1,b2⟩:=fA (its:=its) (ops:=ops) (s:={s2 with tm:=tm1}) (hl k) h2 hm2 ph a2
      refine .go ho ht hwt (ew.trans hw) hop' a1 b1 ?_ (uT hl hK c1' c2' h3 hsim next b2)
      rw[show d'.s.h=hh2 by rw[b2.s],←e00]
      exact iK pd b2
     | @stop _ _ _ _ s2 ch _ hw hop hx hse=>
      have hop':OpR P gl fr it.o {d.s with tm:=aF d.s.tm (tmpsOf ops it.o)} (.pan ch s2):=by rw[et,hd.s];exact hop it.o e1
      exact .stop ho ht hwt (ew.trans hw) hop' hx (by rw[hse,xU,hd.s])
    ·cases hsim
   ·cases hsim
  ·cases hr
def bIl(P:Program)(gl:List Nat)(fr:Fr)(fk:FK)(x:X)(s' s:S)(es:List ER):Prop:=
 x=.norm∧DrR P gl fr fk.ds x s' fk.pq s es∧∃s2,DrR P gl fr fk.ds x s2 fk.qp s es∧SW gl fr s2 s'
theorem aCw{fr:Fr}{id:Nat}{ops:Array Oper}{its:List It}{s:S}{x:X}{s':S}{d1:DS}{hs:List It}(aZ:P.follows .mixedOrders=true)(hits:items P ops.toList=its)(sl:jK ops its=true)(bk:aAi its=true)(hhs:(its.filter fun it=>Nat.ble 3 it.c)=hs)
  (ph:Ph P gl fr ops its ⟨s,[],0⟩ d1) (dr:DrF P gl fr ops its x s' hs d1) (pd:Pend P gl fr d1.s.h 0 d1.evs):SItem P gl fr (.code (.region id ops true)) s x s':=by
 subst hhs
 have ok:=aJj (P:=P) ops
 rw[hits]at ok
 intro E F w0 w b tmps df cs k st
 have hI:lst (Array.replicate ops.size false)=fun _=>false:=by
  funext j
  unfold lst
  simp[Array.getD_eq_getD_getElem?,Array.getElem?_replicate]
  split<;>rfl
 have m0:=st.mr.drawn (w.drawn+1)
 have v0:INV P gl fr ops its s.tm ⟨s,[],0⟩ (lst (Array.replicate ops.size false)) E F w0 {w with drawn:=w.drawn+1} b tmps df cs:=by
  rw[hI]
  exact⟨Good.nil,⟨m0,st.tr,st.dr,st.uk,st.fr,st.gl⟩,(fun i hi=>by cases hi),(fun e he=>by cases he),(fun e he=>by cases he),(fun e he=>by cases he),(fun e he=>by cases he),(fun e he=>by cases he),(fun e he=>by cases he)⟩
 obtain⟨v1,x1,bs1,u1⟩:=aDs (E0:=E) (h0:=s.h) ok ph v0 (Ext.refl _ _) (fun e he=>by cases he)
 obtain⟨E',F',tmps',df',cs',w',b1,b1f,b2,b3,b4,b5⟩:=aJi ok sl bk k ops.size (w.tape w.drawn (.order b.fn id)) (Array.replicate ops.size false) _ d1 E F {w with drawn:=w.drawn+1} tmps df cs
  (by simp) (by simp) v1
  (by
   intro e' he' hI' hk'
   exact pd.spec e' he' hk' (Nat.zero_testBit _))
  (by rw[hI];intro it hit hz;cases hz)
  (fun it hit=>by
   obtain⟨q1,q2⟩:=List.mem_filter.1 hit
   exact⟨q1,Nat.le_of_ble_eq_true q2⟩)
  (fun it hit hc=>.inl (List.mem_filter.2 ⟨hit,Nat.ble_eq_true_of_le hc⟩)) x1 bs1 dr
 refine⟨E',F',tmps',df',cs',w',b1,b1f,b2,u1▸b3,by rw[b4,u1],Arr.of (.one ?_) b5⟩
 rw[aOj]
 simp only[Region.schedule,aZ,Bool.true_or,if_true]
 rfl
theorem WC.fork{fr:Fr}{c:Code}{s:S}{fk:FK}{QN:S→Prop}{QX:X→S→Prop}(aZ:P.follows .mixedOrders=true)(hr:aEz P c=some fk)(h:DK P gl fr fk.ds (bIl P gl fr fk) fk.ph 0 fk.front s [] QN QX):WC P gl fr c s QN QX:=by
 obtain⟨h1,tm1,es1,x,s',p1,pd,p2,hq⟩:=h
 refine WC.post ?_ hq
 unfold aEz at hr
 split at hr
 ·rename_i id ops
  split at hr
  ·rename_i f p q hlt
   have hhs:=xR hlt
   unfold bEr at hr
   split at hr
   ·rename_i hok
    simp only[Bool.and_eq_true]at hok
    obtain⟨⟨⟨sl,bk⟩,ch1⟩,ch2⟩:=hok
    split at hr
    ·rename_i m hm
     split at hr
     ·rename_i m1 hm1
      split at hr
      ·rename_i m2 m3 hm2 hm3
       split at hr
       ·rename_i hfull
        simp only[Bool.and_eq_true]at hfull
        have f1:=Nat.eq_of_beq_eq_true hfull.1
        have f2:=Nat.eq_of_beq_eq_true hfull.2
        subst f1;subst f2
        split at hr
        ·rename_i a b c2 d2 ha hb hc hd2
         cases hr
         have hl:∀k,∀it∈jC (items P ops.toList) k,it∈items P ops.toList:=fun k it hit=>(List.mem_filter.1 hit).1
         have d0:DSim P gl fr.nt ⟨s,[],0⟩ s 0 []:=⟨rfl,rfl,(fun e he=>by cases he),(fun r hr=>by cases hr)⟩
         obtain⟨d',b1,b2⟩:=fA (its:=items P ops.toList) (ops:=ops) (hl 0) ha hm p1 d0
         refine aCw (d1:=d') aZ rfl sl bk hhs b1 (uT hl (mE:=m1) (fun d s1 es hk hds=>?_) ch1 ch2 hb hm1 p2 b2) ?_
         ·obtain⟨k1,k2,s2,k3,k4⟩:=hk
          exact .fork k1 (nF hl hc hm2 k2 hds) (nF hl hd2 hm3 k3 hds) k4
         ·rw[show d'.s.h=h1 by rw[b2.s]]
          exact iK pd b2
        ·cases hr
       ·cases hr
      ·cases hr
     ·cases hr
    ·cases hr
   ·cases hr
  ·cases hr
 ·cases hr
end
end Go.VM
end
section
/- The machine of values: the frame for calls that panic. -/
set_option maxRecDepth 100000
namespace Go.VM
open Go.RowKit
theorem aPu{ρ:Nat→Nat}{D:Nat→Prop}{E E':Env}(h:Onto ρ D E' E):∀{ch:List PE} {ch':List PanicEntry},(∀e∈ch,e.v.In (fun _=>False))→All₂ (PER E') ch ch'→All₂ (PER E) ch ch':=by
 intro ch ch' hv hall
 induction hall with
 |nil=>exact .nil
 | @cons a b l m ha ht ih=>
  refine .cons ?_ (ih fun e he=>hv e (List.mem_cons_of_mem _ he))
  have h1:=hv a (List.mem_cons_self ..)
  cases ha with
  |mk v v' rr r=>
   have h1:v.In (fun _=>False):=h1
   have:=AR.kF h (h1.mono fun _ q=>q.elim) r
   rw[V.rK (D:=fun _=>False) (fun _ q=>q.elim) h1]at this
   exact .mk v v' rr this
theorem SCall.bHf{P:Program}{gl:List Nat}{f:FuncId}{args:List V}{hc hc' h h':H}{ch:List PE}{ρ:Nat→Nat}{args2:List V}(hgl:gl.all (Nat.blt · aC)=true)(core:SCall P gl f args none hc (.pan ch) none hc')
  (ft:(∃E F w0 w args',Begun gl args2 h E F w0 w args')→Foot ρ hc h) (hargs:Ins (fun j=>j<aC∨(hc.ob j).isSome=true) args) (hv:∀e∈ch,e.v.In (fun _=>False)) (hk:∀i o,hc'.ob i=some o→o.In (wL hc))
  (ha:dB ρ args=args2) (hh:h'=mrg ρ hc h hc'):SCall P gl f args2 none h (.pan ch) none h':=by
 subst ha;subst hh
 refine⟨rfl,core.fn,fun E F w0 w args' kind cs hF m g ra huk=>?_⟩
 have ft:=ft ⟨E,F,w0,w,args',hF,m,g,ra⟩
 have hgl':∀x∈gl,x<aC:=fun x hx=>by have:=List.all_eq_true.1 hgl x hx;rwa[Nat.blt_eq]at this
 have gc:GL (gM ρ hc E) gl:=by
  intro x hx
  obtain⟨p,a,b⟩:=g x hx
  have hl:=hgl' x (by simpa using hx)
  refine⟨p,?_,b⟩
  simp only[gM];rw[if_pos (.inl hl),ft.low x hl];exact a
 obtain⟨E',F',w',cs',fr',a1,a2,a3,a4,a5,a6,a7,a8,a9,a10,a11,a12,ch',fnr,z1,z2,z3⟩:=core.run (gM ρ hc E) (bBv ρ hc h E F w) w0 w args' kind cs rfl (m.jF ft) gc (ARs.jF (aDm ft) hargs ra) huk
 obtain⟨E2,F2,b1,b2,b3,b4,b5⟩:=MR.frame ft m hF a1 a3 a4 hk
 exact⟨E2,F2,w',cs',fr',b2,b3,b4,b5,a5,a6,a7,a8,a9,a10,a11,a12,ch',fnr,z1,aPu b1 hv z2,z3⟩
theorem SCall.bBu{P:Program}{gl:List Nat}{f:FuncId}{args args2:List V}{ch:List PE}{ol ol':OL}{n:Nat}{h h':H}(bs:List Nat)(hgl:gl.all (Nat.blt · aC)=true)
  (core:SCall P gl f args none ⟨aC+bs.length,og ol,[]⟩ (.pan ch) none ⟨aC+bs.length+n,og ol',[]⟩)
  (hnd:bs.Nodup) (hbig:∀b∈bs,aC≤b) (hol:∀i,(og ol i).isSome=true↔aC≤i∧i<aC+bs.length) (hol':olB (aC+bs.length+n) ol'=true)
  (hobj:∀(i:Nat) (b:Nat) (o:Obj),bs[i]? =some b→og ol (aC+i)=some o→h.ob b=some (o.ren (ρL bs h.nxt)))
  (hin:gC (· <aC+bs.length) ol) (hargs:Ins (· <aC+bs.length) args) (hv:∀e∈ch,e.v.In (fun _=>False)) (hin':gC (· <aC+bs.length+n) ol')
  (ha:dB (ρL bs h.nxt) args=args2) (hlc:h'.lc=h.lc) (hnx:h'.nxt=h.nxt+n)
  (hfoot:∀i,i<bs.length+n→h'.ob (ρL bs h.nxt (aC+i))=(og ol' (aC+i)).map (Obj.ren (ρL bs h.nxt)))
  (hrest:∀b,(∀i,i<bs.length+n→ρL bs h.nxt (aC+i)≠b)→h'.ob b=h.ob b):SCall P gl f args2 none h (.pan ch) none h':=by
 refine SCall.known hlc core.fn fun bg=>?_
 obtain⟨E,F,w0,w,args',bg⟩:=bg
 have hD:∀i,i<aC+bs.length→i<aC∨(og ol i).isSome=true:=by
  intro i hi
  rcases Nat.lt_or_ge i aC with g|g
  ·exact .inl g
  ·exact .inr ((hol i).2 ⟨g,hi⟩)
 have hDO:∀i,i<aC+bs.length+n→wL ⟨aC+bs.length,og ol,[]⟩ i:=by
  intro i hi
  rcases Nat.lt_or_ge i (aC+bs.length)with g|g
  ·rcases hD i g with q|q
   ·exact .inl q
   ·exact .inr (.inl q)
  ·exact .inr (.inr g)
 have at_:∀i,aC≤i→i<aC+bs.length→∃b,bs[i-aC]? =some b∧ρL bs h.nxt i=b:=by
  intro i h1 h2
  have:i-aC<bs.length:=by omega
  refine⟨bs[i-aC],List.getElem?_eq_getElem this,?_⟩
  have:=xZ (nx:=h.nxt) (List.getElem?_eq_getElem this)
  rwa[show aC+(i-aC)=i by omega]at this
 refine SCall.bHf (ρ:=ρL bs h.nxt) hgl core (fun _=>?_) (Ins.mono hD hargs) hv (fun i o hi=>?_) ha ?_
 ·refine⟨fun i hi=>aJz hi,fun i h1 h2=>?_,fun i hi=>oD hi,fun i j hi hj hi' hj' e=>?_,Nat.le_add_right _ _,fun i hi=>?_,fun i o hi=>?_,fun i o hi=>?_⟩
  ·obtain⟨b,g1,g2⟩:=at_ i h1 h2
   rw[g2];exact hbig b (List.mem_of_getElem? g1)
  ·obtain⟨b,g1,g2⟩:=at_ i ((hol i).1 hi').1 hi
   obtain⟨c,k1,k2⟩:=at_ j ((hol j).1 hj').1 hj
   rw[g2,k2]at e
   subst e
   have:=(List.getElem?_inj (by
    have h2:i-aC<bs.length:=(List.getElem?_eq_some_iff.1 g1).1
    exact h2) hnd).1 (g1.trans k1.symm)
   have:=((hol i).1 hi').1
   have:=((hol j).1 hj').1
   omega
  ·cases hq:og ol i with
   |none=>exact hq
   |some o=>
    have:=((hol i).1 (by rw[hq];rfl)).2
    have hi':aC+bs.length≤i:=hi
    omega
  ·have hi':og ol i=some o:=hi
   obtain⟨g1,g2⟩:=(hol i).1 (by rw[hi'];rfl)
   obtain⟨b,k1,k2⟩:=at_ i g1 g2
   rw[k2]
   refine hobj (i-aC) b o k1 ?_
   rw[show aC+(i-aC)=i by omega];exact hi'
  ·have:=eK hin i o hi
   cases o with
   |cells op cs=>exact Ins.mono hD this
   |map es=>
    have go:∀es:List (V×V),qZ (· <aC+bs.length) es→qZ (fun j=>j<aC∨(og ol j).isSome=true) es:=by
     intro es
     induction es with
     |nil=>intro _;trivial
     |cons e es ih=>intro hh;obtain⟨a,b⟩:=e;exact⟨⟨hh.1.1.mono hD,hh.1.2.mono hD⟩,ih hh.2⟩
    exact go es this
   |loop l=>exact this
   |dfr c=>exact this
   |siter s p=>trivial
   |tok k=>trivial
 ·have:=eK hin' i o hi
  cases o with
  |cells op cs=>exact Ins.mono hDO this
  |map es=>
   have go:∀es:List (V×V),qZ (· <aC+bs.length+n) es→qZ (wL ⟨aC+bs.length,og ol,[]⟩) es:=by
    intro es
    induction es with
    |nil=>intro _;trivial
    |cons e es ih=>intro hh;obtain⟨a,b⟩:=e;exact⟨⟨hh.1.1.mono hDO,hh.1.2.mono hDO⟩,ih hh.2⟩
   exact go es this
  |loop l=>exact this
  |dfr c=>exact this
  |siter s p=>trivial
  |tok k=>trivial
 ·have hob:h'.ob=(mrg (ρL bs h.nxt) ⟨aC+bs.length,og ol,[]⟩ h ⟨aC+bs.length+n,og ol',[]⟩).ob:=by
   funext b
   simp only[mrg]
   split
   ·rename_i i hi
    obtain⟨h1,h2⟩:=eH hi
    have hgi:aC≤i:=by
     rcases h1 with h1|h1
     ·exact((hol i).1 h1).1
     ·have:aC+bs.length≤i:=h1;omega
    rcases Nat.lt_or_ge i (aC+bs.length+n)with g|g
    ·have:=hfoot (i-aC) (by omega)
     rw[show aC+(i-aC)=i by omega,h2]at this
     exact this
    ·rw[dR hol' i g]
     rw[oD (by omega)]at h2
     have hf:=(bg.mr.fresh b (by omega)).2.1
     rw[hrest b fun j hj e=>?_,hf];rfl
     rcases Nat.lt_or_ge j bs.length with q|q
     ·obtain⟨c,k1,k2⟩:=at_ (aC+j) (by omega) (by omega)
      rw[k2]at e
      cases ho:og ol (aC+j)with
      |none=>
       have:=(hol (aC+j)).2 ⟨by omega,by omega⟩
       rw[ho]at this;cases this
      |some o=>
       rw[show aC+j-aC=j by omega]at k1
       have:=hobj j c o k1 ho
       rw[e,hf]at this;cases this
     ·rw[oD (by omega)]at e;omega
   ·rename_i hi
    refine hrest b fun j hj e=>?_
    unfold inv at hi
    split at hi
    ·cases hi
    ·rename_i hn
     refine hn ⟨aC+j,?_,e⟩
     rcases Nat.lt_or_ge j bs.length with q|q
     ·exact .inl ((hol (aC+j)).2 ⟨by omega,by omega⟩)
     ·exact .inr (by show aC+bs.length≤aC+j;omega)
  cases h' with
  |mk nx ob lc=>
   simp only at hob hlc hnx
   subst hlc;subst hnx;subst hob
   simp only[mrg]
   congr 1
   omega
end Go.VM
end
section
/- The machine of values: calls over listed memory that end with a value or with a panic. -/
set_option maxRecDepth 100000
namespace Go.VM
open Go.RowKit
def aAq(P:Program)(fn:Func)(r:AEnd)(nx':Nat)(ol':OL)(s:S):Prop:=
 match r with
 |.ret v=>oB P fn v nx' ol' s
 |.pan _=>False
def aAl(P:Program)(fn:Func)(r:AEnd)(nx':Nat)(ol':OL):X→S→Prop
 |.ret,s=>aAq P fn r nx' ol' s
 |.panic ch,s=>r=.pan ch∧s.df=[]∧s.u=none∧∀b,b<nx'→og ol' b=s.h.ob b
 |_,_=>False
def AEnd.In(D:Nat→Prop):AEnd→Prop
 |.ret v=>v.In D
 |.pan ch=>∀e∈ch,e.v.In D
theorem SCall.aI{P:Program}{gl:List Nat}{f:FuncId}{fn:Func}{rc:RC}{args:List V}{nx nx':Nat}{ol ol':OL}{r:AEnd}(hfn:P.funcs[f]? =some fn)(hb:fn.body.bind (aE P)=some rc)(hname:(fn.name== "runtime.NumGoroutine")=false)
  (hle:Nat.ble args.length fn.ntmps=true) (hn:nx≤nx') (hol:olB nx' ol'=true) (hin:gC (· <nx') ol') (hv:r.In (· <nx'))
  (hw:WR P gl ⟨fn.ntmps,none,f⟩ rc (SL.toS ⟨kV 0 args,[],none,nx,ol,[]⟩) (aAq P fn r nx' ol') (aAl P fn r nx' ol')):
  SCall P gl f args none ⟨nx,og ol,[]⟩ r none ⟨nx',og ol',[]⟩:=by
 cases r with
 |ret v=>
  refine SCall.listed hfn hb hname hle hn hol hin hv (WR.mono hw (fun _ q=>q) fun x s q=>?_)
  cases x with
  |ret=>exact q
  |panic ch=>exact AEnd.noConfusion q.1
  |_=>exact q
 |pan ch=>
  cases hbd:fn.body with
  |none=>rw[hbd]at hb;cases hb
  |some body=>
   rw[hbd]at hb
   rcases hw body hb with⟨s',h1,h2⟩|⟨x,s',hx,h1,h2⟩
   ·exact h2.elim
   ·cases x with
    |norm=>exact absurd rfl hx
    |ret=>exact h2.elim
    |exit i=>exact h2.elim
    |panic ch'=>
     obtain⟨e,d1,d2,d3⟩:=h2
     cases e
     refine SCall.of (h:=⟨nx,og ol,[]⟩) (h':=⟨nx',og ol',[]⟩) (h1:=s'.h) (md:=.pan ch) (u':=none) hfn hbd hname hle h1 (.inr ⟨ch,rfl,rfl⟩) (by rw[d1,d2];exact SLeave.pan) rfl hn (dR hol) d3 fun _=>⟨fun k hk=>.inr fun o ho=>?_,fun e he=>(hv e he).bL,trivial⟩
     have ho:s'.h.ob k=some o:=ho
     rw[←d3 k hk]at ho
     exact(eK hin k o ho).bL
section
variable{P:Program}{gl:List Nat}{fr:Fr}{QN:S→Prop}{QX:X→S→Prop}{ds:List Nat}{anc:Nat}{hs:List (RI×List RI)}{l:List RI}{r:RI}{tm tm1:TM}{df:List AD}{u:Option AMode}{nx:Nat}{ol:OL}{lc:LM}{es:List ER}
theorem WQ.aL{x:RX}{as:List RX}{f:FuncId}{first cap vs ws:List V}{ch:List PE}{h':H}{nx':Nat}{ol':OL}{u':Option AMode}(hr:r.ro=some (.call x as))(hw:aV r.gd tm=some true)(hx:rv gl tm x=some (.fn (.func f) first cap))(hv:rvs gl tm as=some vs)
  (ha:(first++vs)++cap=ws) (sc:SCall P gl f ws none ⟨nx,og ol,lc⟩ (.pan ch) u' h') (hl:HL h' nx' ol' lc)
  (h:QX (.panic ch) (SL.toS ⟨tm,df,u,nx',ol',lc⟩)):WQ P gl fr (r::l) (SL.toS ⟨tm,df,u,nx,ol,lc⟩) QN QX:=by
 rw[hl.eq]at sc
 exact WQ.bIu (s:=SL.toS ⟨tm,df,u,nx,ol,lc⟩) hr hw hx hv ha sc h
theorem DW.aL{l2:List RI}{x:RX}{as:List RX}{f:FuncId}{first cap vs ws:List V}{ch:List PE}{h':H}{nx':Nat}{ol':OL}{u':Option AMode}(pd:PendR P gl fr.nt ⟨nx,og ol,lc⟩ anc es)(hr:r.ro=some (.call x as))(hw:aV r.gd (aF tm r.rd)=some true)
  (hx:rv gl (aF tm r.rd) x=some (.fn (.func f) first cap)) (hv:rvs gl (aF tm r.rd) as=some vs) (ha:(first++vs)++cap=ws) (sc:SCall P gl f ws none ⟨nx,og ol,lc⟩ (.pan ch) u' h') (hl:HL h' nx' ol' lc)
  (h:QX (.panic ch) (SL.toS ⟨mA tm ds,df,u,nx',ol',lc⟩)):DW P gl fr ds [] anc ((r,l2)::hs) (SL.toS ⟨tm,df,u,nx,ol,lc⟩) es QN QX:=by
 rw[hl.eq]at sc
 refine DW.stop (s:=SL.toS ⟨tm,df,u,nx,ol,lc⟩) (s2:=SL.toS ⟨aF tm r.rd,df,u,nx',ol',lc⟩) pd hw ?_ h
 rw[hr]
 intro o ho
 exact nE (r:=.pan ch) (s:=SL.toS ⟨aF tm r.rd,df,u,nx,ol,lc⟩) ho hx hv (by rw[ha];exact Weak.refl _) sc
theorem WQ.muS{ro:RO}{ol2:OL}{tm2:TM}(hr:r.ro=some ro)(hw:aV r.gd tm=some true)(hm:muC gl tm ol ro=some ol2)(hp:bB fr.nt tm r.dst (.v bG)=some tm2)(h:WQ P gl fr l (SL.toS ⟨tm2,df,u,nx,ol2,lc⟩) QN QX):
  WQ P gl fr (r::l) (SL.toS ⟨tm,df,u,nx,ol,lc⟩) QN QX:=by
 obtain⟨m1,m2⟩:=aPc (nx:=nx) (lc:=lc) hm
 refine WQ.dM hw (v:=.v bG) (nx':=nx) (ol':=ol2) (lc':=lc) ?_ hp h
 rw[hr]
 exact fun o ho=>⟨xJ ho m1,aLv ho (by revert m2;cases ro<;>simp)⟩
theorem WQ.aUd{x:RX}{t:Nat}{v:V}(hr:r.ro=some (.pan x))(hw:aV r.gd tm=some true)(hx:rv gl tm x=some (.iface t v))(h:QX (.panic [⟨.iface t v,false⟩]) (SL.toS ⟨tm,df,u,nx,ol,lc⟩)):WQ P gl fr (r::l) (SL.toS ⟨tm,df,u,nx,ol,lc⟩) QN QX:=by
 refine WQ.stop (s:=SL.toS ⟨tm,df,u,nx,ol,lc⟩) hw ?_ h
 rw[hr]
 intro o ho
 exact bAp ho hx
end
theorem SCall.wT{P:Program}{gl:List Nat}{f:FuncId}{args args2:List V}{r:AEnd}{ol ol':OL}{n:Nat}{h h':H}(bs:List Nat)(hgl:gl.all (Nat.blt · aC)=true)
  (core:SCall P gl f args none ⟨aC+bs.length,og ol,[]⟩ r none ⟨aC+bs.length+n,og ol',[]⟩)
  (hnd:bs.Nodup) (hbig:∀b∈bs,aC≤b) (hol:∀i,(og ol i).isSome=true↔aC≤i∧i<aC+bs.length) (hol':olB (aC+bs.length+n) ol'=true)
  (hobj:∀(i:Nat) (b:Nat) (o:Obj),bs[i]? =some b→og ol (aC+i)=some o→h.ob b=some (o.ren (ρL bs h.nxt)))
  (hin:gC (· <aC+bs.length) ol) (hargs:Ins (· <aC+bs.length) args) (hv:r.In (fun _=>False)) (hin':gC (· <aC+bs.length+n) ol')
  (ha:dB (ρL bs h.nxt) args=args2) (hlc:h'.lc=h.lc) (hnx:h'.nxt=h.nxt+n)
  (hfoot:∀i,i<bs.length+n→h'.ob (ρL bs h.nxt (aC+i))=(og ol' (aC+i)).map (Obj.ren (ρL bs h.nxt)))
  (hrest:∀b,(∀i,i<bs.length+n→ρL bs h.nxt (aC+i)≠b)→h'.ob b=h.ob b):SCall P gl f args2 none h r none h':=by
 cases r with
 |pan ch=>exact SCall.bBu bs hgl core hnd hbig hol hol' hobj hin hargs hv hin' ha hlc hnx hfoot hrest
 |ret v=>exact SCall.aLm bs hgl core hnd hbig hol hol' hobj hin hargs (V.In.mono (fun _ q=>q.elim) hv) hin' ha (V.rK (D:=fun _=>False) (fun _ q=>q.elim) hv) hlc hnx hfoot hrest
end Go.VM
end
section
/- The machine of values: a call's own numbers are forgotten. -/
set_option maxRecDepth 100000
namespace Go.VM
open Go.RowKit
theorem SCall.trim{P:Program}{gl:List Nat}{f:FuncId}{args:List V}{h h1 h2:H}{r:AEnd}(s:SCall P gl f args none h r none h1)(hlc:h2.lc=h1.lc)(hn:h.nxt≤h2.nxt)(hob:∀b,h2.nxt≤b→h2.ob b=none)(hob2:∀b,b<h2.nxt→h2.ob b=h1.ob b)
  (href:∀b,b<h2.nxt→(h1.ob b=h.ob b∨∀o,h1.ob b=some o→iD h2.nxt o)) (hr:match r with|.ret v=>RefLt h2.nxt v|.pan ch=>∀e∈ch,RefLt h2.nxt e.v):SCall P gl f args none h r none h2:=by
 refine⟨hlc.trans s.lc,s.fn,fun E F w0 w args' kind cs hF m g ra huk=>?_⟩
 obtain⟨E2,F2,w2,c2,fr2,x12,a2,a3,a4,a5,a6,a7,a8,a9,a10,a11,a12,a13⟩:=s.run E F w0 w args' kind cs hF m g ra huk
 have begun:Begun gl args h E F w0 w args':=⟨hF,m,g,ra⟩
 have hB:=begun.bound
 have mL:=a4.qH (L:=noL) (fun d p hp=>by cases hp)
 have mC:MR (E2.cut h2.nxt) {F2 with loc:=noL} ⟨h2.nxt,h2.ob,h2.lc⟩ w0 w2:=by
  refine mL.cut rfl (Nat.le_trans m.glo hn) hob hob2 fun k o p hk ho hp=>?_
  rcases href k hk with e|e
  ·rw[e]at ho
   have hlt:=m.mH ho
   have:E.ob k=some p:=by rw[←x12.old k hlt];exact hp
   exact ObjR.cut (fun j hj=>hB j (Nat.le_trans hn hj)) (m.obj k o p ho this)
  ·exact e o ho
 have cle:E.le (E2.cut h2.nxt):=by
  refine⟨fun k p hk=>?_,fun B i v hf=>x12.le.fz B i v hf,fun k n p hk=>?_⟩
  ·exact gQ (x12.le.ob k p hk) (Nat.lt_of_lt_of_le (hB.lt hk) hn)
  ·exact zI (x12.le.tk k n p hk) (Nat.lt_of_lt_of_le (hB.ltk hk) hn)
 have xC:Ext E h (E2.cut h2.nxt) h2:=by
  refine⟨cle,fun k hk=>?_,hn,fun k o hk he ho hnt=>?_⟩
  ·simp only[Env.cut];rw[if_pos (by omega)];exact x12.old k hk
  ·rw[hob2 k (by omega)];exact x12.ghost k o hk he ho hnt
 have pers:∀{l:List PE} {l':List PanicEntry},(∀e∈l,RefLt h2.nxt e.v)→All₂ (PER E2) l l'→All₂ (PER (E2.cut h2.nxt)) l l':=by
  intro l l' hl hall
  induction hall with
  |nil=>exact .nil
  | @cons a bb l m ha ht ih=>
   refine .cons ?_ (ih (fun e he=>hl e (List.mem_cons_of_mem _ he)))
   cases ha with
   |mk v v' rr hv=>exact .mk v v' rr (hl _ (List.mem_cons_self ..) _ _ hv)
 refine⟨E2.cut h2.nxt,{F2 with loc:=noL},w2,c2,fr2,xC,rfl,a3,mC,a5,a6,a7,a8,a9,a10,a11,a12,?_⟩
 cases r with
 |ret v=>
  obtain⟨z1,fnr,v',z2,z3,z4⟩:=a13
  exact⟨z1,fnr,v',z2,z3,hr _ _ z4⟩
 |pan ch=>
  obtain⟨ch',fnr,z1,z2,z3⟩:=a13
  exact⟨ch',fnr,z1,pers hr z2,z3⟩
theorem SCall.aNz{ι:Type}{P:Program}{gl:List Nat}{f:FuncId}{fn:Func}{body:Code}{args:List V}{nx:Nat}{nx':ι→Nat}{ol:OL}{ol':ι→OL}{r:AEnd}(hfn:P.funcs[f]? =some fn)(hb:fn.body=some body)(hname:(fn.name== "runtime.NumGoroutine")=false)
  (hle:Nat.ble args.length fn.ntmps=true) (hn:∀i,nx≤nx' i) (hol:∀i,olB (nx' i) (ol' i)=true) (hin:∀i,gC (· <nx' i) (ol' i)) (hv:∀i,r.In (· <nx' i))
  (hw:WC P gl ⟨fn.ntmps,none,f⟩ body (SL.toS ⟨kV 0 args,[],none,nx,ol,[]⟩) (fun s=>∃i,aAq P fn r (nx' i) (ol' i) s) (fun x s=>∃i,aAl P fn r (nx' i) (ol' i) x s)):
  ∃i,SCall P gl f args none ⟨nx,og ol,[]⟩ r none ⟨nx' i,og (ol' i),[]⟩:=by
 have fin:∀(x:X) (s':S) (i:ι),SItem P gl ⟨fn.ntmps,none,f⟩ (.code body) (SL.toS ⟨kV 0 args,[],none,nx,ol,[]⟩) x s'→(x=.norm∨x=.ret)→aAq P fn r (nx' i) (ol' i) s'→SCall P gl f args none ⟨nx,og ol,[]⟩ r none ⟨nx' i,og (ol' i),[]⟩:=by
  intro x s' i hi hx he
  cases r with
  |pan ch=>exact he.elim
  |ret v=>
   obtain⟨h1,h2,⟨vs,h3,h4⟩,h5⟩:=he
   refine SCall.of (h:=⟨nx,og ol,[]⟩) (h':=⟨nx' i,og (ol' i),[]⟩) (h1:=s'.h) (md:=.ret) (u':=none) hfn hb hname hle hi (.inl ⟨hx,rfl⟩) (by rw[h1,h2];exact SLeave.ret h3 h4) rfl (hn i) (dR (hol i)) h5 (fun _=>⟨fun b hb=>.inr fun o ho=>?_,(hv i).bL,trivial⟩)
   have ho:s'.h.ob b=some o:=ho
   rw[←h5 b hb]at ho
   exact(eK (hin i) b o ho).bL
 rcases hw with⟨s',h1,i,h2⟩|⟨x,s',hx,h1,i,h2⟩
 ·exact⟨i,fin .norm s' i h1 (.inl rfl) h2⟩
 ·cases x with
  |norm=>exact absurd rfl hx
  |ret=>exact⟨i,fin .ret s' i h1 (.inr rfl) h2⟩
  |exit _=>exact h2.elim
  |panic ch'=>
   obtain⟨e,d1,d2,d3⟩:=h2
   subst e
   refine⟨i,SCall.of (h:=⟨nx,og ol,[]⟩) (h':=⟨nx' i,og (ol' i),[]⟩) (h1:=s'.h) (md:=.pan ch') (u':=none) hfn hb hname hle h1 (.inr ⟨ch',rfl,rfl⟩) (by rw[d1,d2];exact SLeave.pan) rfl (hn i) (dR (hol i)) d3 fun _=>⟨fun k hk=>.inr fun o ho=>?_,fun e he=>(hv i e he).bL,trivial⟩⟩
   have ho:s'.h.ob k=some o:=ho
   rw[←d3 k hk]at ho
   exact(eK (hin i) k o ho).bL
end Go.VM
end
section
/- The machine of values: deferred calls and recover, over listed memory. -/
set_option maxRecDepth 100000
namespace Go.VM
open Go.RowKit
def UIn(D:Nat→Prop):Option AMode→Prop
 |none=>True
 |some .ret=>True
 |some (.pan ch)=>∀e∈ch,e.v.In D
def bGc(P:Program)(fn:Func)(v:V)(u':Option AMode)(nx':Nat)(ol':OL)(s':S):Prop:=
 s'.df=[]∧s'.u=u'∧(∃vs,rU P s'.h s'.tm fn.results.toList=some vs∧VLe (aDu vs) v)∧(∀b,b<nx'→og ol' b=s'.h.ob b)
theorem SCall.wW{P:Program}{gl:List Nat}{f:FuncId}{fn:Func}{rc:RC}{args:List V}{u u':Option AMode}{nx nx':Nat}{ol ol':OL}{v:V}(hfn:P.funcs[f]? =some fn)(hb:fn.body.bind (aE P)=some rc)(hname:(fn.name== "runtime.NumGoroutine")=false)
  (hle:Nat.ble args.length fn.ntmps=true) (hn:nx≤nx') (hol:olB nx' ol'=true) (hin:gC (· <nx') ol') (hv:v.In (· <nx')) (hu:UIn (· <nx') u')
  (hw:WR P gl ⟨fn.ntmps,none,f⟩ rc (SL.toS ⟨kV 0 args,[],u,nx,ol,[]⟩) (bGc P fn v u' nx' ol') (aAc (bGc P fn v u' nx' ol'))):
  SCall P gl f args u ⟨nx,og ol,[]⟩ (.ret v) u' ⟨nx',og ol',[]⟩:=by
 cases hbd:fn.body with
 |none=>rw[hbd]at hb;cases hb
 |some body=>
  rw[hbd]at hb
  have fin:∀(x:X) (s':S),SItem P gl ⟨fn.ntmps,none,f⟩ (.code body) (SL.toS ⟨kV 0 args,[],u,nx,ol,[]⟩) x s'→(x=.norm∨x=.ret)→bGc P fn v u' nx' ol' s'→SCall P gl f args u ⟨nx,og ol,[]⟩ (.ret v) u' ⟨nx',og ol',[]⟩:=by
   intro x s' hi hx ⟨h1,h2,⟨vs,h3,h4⟩,h5⟩
   refine SCall.of (h:=⟨nx,og ol,[]⟩) (h':=⟨nx',og ol',[]⟩) (h1:=s'.h) (md:=.ret) (u':=u') hfn hbd hname hle hi (.inl ⟨hx,rfl⟩) (by rw[h1,h2];exact SLeave.ret h3 h4) rfl hn (dR hol) h5 (fun _=>⟨fun b hb=>.inr fun o ho=>?_,hv.bL,?_⟩)
   ·have ho:s'.h.ob b=some o:=ho
    rw[←h5 b hb]at ho
    exact(eK hin b o ho).bL
   ·cases u' with
    |none=>trivial
    |some m=>cases m with
     |ret=>trivial
     |pan ch=>exact fun e he=>(hu e he).bL
  rcases hw body hb with⟨s',h1,h2⟩|⟨x,s',hx,h1,h2⟩
  ·exact fin .norm s' h1 (.inl rfl) h2
  ·cases x with
   |norm=>exact absurd rfl hx
   |ret=>exact fin .ret s' h1 (.inr rfl) h2
   |exit _=>exact h2.elim
   |panic _=>exact h2.elim
def bKc(P:Program)(gl:List Nat)(fn:Func)(r:AEnd)(nx':Nat)(ol':OL):X→S→Prop
 |.norm,s=>∃h1,SLeave P gl fn s.tm s.df .ret s.u s.h r none h1∧∀b,b<nx'→og ol' b=h1.ob b
 |.ret,s=>∃h1,SLeave P gl fn s.tm s.df .ret s.u s.h r none h1∧∀b,b<nx'→og ol' b=h1.ob b
 |.panic ch,s=>∃h1,SLeave P gl fn s.tm s.df (.pan ch) s.u s.h r none h1∧∀b,b<nx'→og ol' b=h1.ob b
 |_,_=>False
theorem SCall.aOt{P:Program}{gl:List Nat}{f:FuncId}{fn:Func}{rc:RC}{args:List V}{nx nx':Nat}{ol ol':OL}{r:AEnd}(hfn:P.funcs[f]? =some fn)(hb:fn.body.bind (aE P)=some rc)(hname:(fn.name== "runtime.NumGoroutine")=false)
  (hle:Nat.ble args.length fn.ntmps=true) (hn:nx≤nx') (hol:olB nx' ol'=true) (hin:gC (· <nx') ol') (hv:r.In (· <nx'))
  (hw:WR P gl ⟨fn.ntmps,none,f⟩ rc (SL.toS ⟨kV 0 args,[],none,nx,ol,[]⟩) (bKc P gl fn r nx' ol' .norm) (bKc P gl fn r nx' ol')):
  SCall P gl f args none ⟨nx,og ol,[]⟩ r none ⟨nx',og ol',[]⟩:=by
 cases hbd:fn.body with
 |none=>rw[hbd]at hb;cases hb
 |some body=>
  rw[hbd]at hb
  have fin:∀(x:X) (s':S) (md:AMode) (h1:H),SItem P gl ⟨fn.ntmps,none,f⟩ (.code body) (SL.toS ⟨kV 0 args,[],none,nx,ol,[]⟩) x s'→(((x=.norm∨x=.ret)∧md=.ret)∨∃ch,x=.panic ch∧md=.pan ch)→SLeave P gl fn s'.tm s'.df md s'.u s'.h r none h1→(∀b,b<nx'→og ol' b=h1.ob b)→
    SCall P gl f args none ⟨nx,og ol,[]⟩ r none ⟨nx',og ol',[]⟩:=by
   intro x s' md h1 hi hx hl h5
   refine SCall.of (h:=⟨nx,og ol,[]⟩) (h':=⟨nx',og ol',[]⟩) (h1:=h1) (md:=md) (u':=none) hfn hbd hname hle hi hx hl rfl hn (dR hol) h5 (fun _=>⟨fun b hb=>.inr fun o ho=>?_,?_,trivial⟩)
   ·have ho:h1.ob b=some o:=ho
    rw[←h5 b hb]at ho
    exact(eK hin b o ho).bL
   ·cases r with
    |ret v=>exact V.In.bL hv
    |pan ch=>exact fun e he=>(hv e he).bL
  rcases hw body hb with⟨s',h1,ha,h2,h3⟩|⟨x,s',hx,h1,h2⟩
  ·exact fin .norm s' .ret _ h1 (.inl ⟨.inl rfl,rfl⟩) h2 h3
  ·cases x with
   |norm=>exact absurd rfl hx
   |ret=>obtain⟨ha,h2,h3⟩:=h2;exact fin .ret s' .ret _ h1 (.inl ⟨.inr rfl,rfl⟩) h2 h3
   |exit _=>exact h2.elim
   |panic ch=>obtain⟨ha,h2,h3⟩:=h2;exact fin (.panic ch) s' (.pan ch) _ h1 (.inr ⟨ch,rfl,rfl⟩) h2 h3
section
variable{P:Program}{gl:List Nat}{fr:Fr}{QN:S→Prop}{QX:X→S→Prop}{l:List RI}{r:RI}{tm tm1:TM}{df:List AD}{u:Option AMode}{nx:Nat}{ol:OL}{lc:LM}
theorem WQ.aOp(hrn:fr.rnd=none)(hr:r.ro=some .reco)(hw:aV r.gd tm=some true)(hp:bB fr.nt tm r.dst (.v (sU u).1)=some tm1)(h:WQ P gl fr l (SL.toS ⟨tm1,df,(sU u).2,nx,ol,lc⟩) QN QX):
  WQ P gl fr (r::l) (SL.toS ⟨tm,df,u,nx,ol,lc⟩) QN QX:=by
 refine WQ.op (s:=SL.toS ⟨tm,df,u,nx,ol,lc⟩) (v:=.v (sU u).1) (s2:=SL.toS ⟨tm,df,(sU u).2,nx,ol,lc⟩) hw ?_ hp h
 rw[hr]
 intro o ho
 exact aXb (s:=SL.toS ⟨tm,df,u,nx,ol,lc⟩) hrn ho
theorem WQ.bMl{x:RX}{as:List RX}{f:FuncId}{first cap vs:List V}(hrn:fr.rnd=none)(hr:r.ro=some (.dfr x as))(hw:aV r.gd tm=some true)(hx:rv gl tm x=some (.fn (.func f) first cap))(hv:rvs gl tm as=some vs)(hp:bB fr.nt tm r.dst (.v bG)=some tm1)
  (h:WQ P gl fr l (SL.toS ⟨tm1,.call ⟨.func f,cap,first++vs⟩::df,u,nx,ol,lc⟩) QN QX):WQ P gl fr (r::l) (SL.toS ⟨tm,df,u,nx,ol,lc⟩) QN QX:=by
 refine WQ.op (s:=SL.toS ⟨tm,df,u,nx,ol,lc⟩) (v:=.v bG) (s2:=SL.toS ⟨tm,.call ⟨.func f,cap,first++vs⟩::df,u,nx,ol,lc⟩) hw ?_ hp h
 rw[hr]
 intro o ho
 exact bCy (s:=SL.toS ⟨tm,df,u,nx,ol,lc⟩) hrn ho hx hv
end
end Go.VM
end
section
/- The machine of values: a call whose value, too, is told by what was met. -/
namespace Go.VM
open Go.RowKit
end Go.VM
end
section
/- The machine of values: short forms. -/
namespace Go.VM
open Go.RowKit
abbrev RI.g(o:RO)(d k:Nat)(b:Bool):RI:=⟨0,0,some o,[],some d,some (k,b)⟩
abbrev RI.s(o:RO):RI:=⟨0,0,some o,[],none,none⟩
abbrev RI.w(i a:Nat)(o:RO)(rd:List Nat)(d:Nat):RI:=⟨i,a,some o,rd,some d,none⟩
abbrev RI.z(i a:Nat)(o:RO)(rd:List Nat):RI:=⟨i,a,some o,rd,none,none⟩
abbrev RO.c(f:Nat)(as:List RX):RO:=.call (.c (.fn (.func f) [] [])) as
abbrev RX.i(n:Int):RX:=.c (.int .i64 n)
abbrev RC.r(os:List RI)(b:RC):RC:=.seq (.reg os) b
abbrev V.o:V:=.int .i64 0
abbrev V.e:V:=.str []
abbrev V.n:V:=.lst [] (.ex 0)
section
variable{P:Program}{gl:List Nat}{fr:Fr}{QN:S→Prop}{QX:X→S→Prop}{ds:List Nat}{anc:Nat}{hs:List (RI×List RI)}{l l2:List RI}{r:RI}{tm tm1:TM}{df:List AD}{u:Option AMode}{nx:Nat}{ol:OL}{lc:LM}{es es2:List ER}{s s2:SL}
theorem WQ.q(h:sqS gl fr.nt [] 1000 l s=some ([],s2))(k:QN s2.toS):WQ P gl fr l s.toS QN QX:=WQ.aG [] 1000 _ _ _ _ h (WQ.aJ k)
theorem WR.q(h:sqS gl fr.nt [] 1000 l s=some ([],s2))(k:QN s2.toS):WR P gl fr (.reg l) s.toS QN QX:=WR.reg (WQ.q h k)
theorem WQ.m(n:Nat)(h:sqS gl fr.nt [] n l s=some (l2,s2))(k:WQ P gl fr l2 s2.toS QN QX):WQ P gl fr l s.toS QN QX:=WQ.aG [] n _ _ _ _ h k
theorem WR.m(n:Nat)(h:sqS gl fr.nt [] n l s=some (l2,s2))(k:WQ P gl fr l2 s2.toS QN QX):WR P gl fr (.reg l) s.toS QN QX:=WR.reg (WQ.m n h k)
theorem DW.m(n:Nat)(h:phS gl fr.nt [] n l s es=some (l2,s2,es2))(k:DW P gl fr ds l2 anc hs s2.toS es2 QN QX):DW P gl fr ds l anc hs s.toS es QN QX:=DW.aG [] n _ _ _ _ _ _ h k
theorem WR.k{s:S}{x:RX}{a:RC}(hv:rv gl s.tm x=some (.bool false))(h:QN s):WR P gl fr (.cond x a .skip) s QN QX:=WR.aO hv (WR.skip h)
def caX(gl:List Nat)(tm:TM)(r:RI):Option (FuncId×List V):=match r.ro with
 |some (.call x as)=>match aV r.gd tm with
  |some true=>match rv gl tm x with
   |some (.fn (.func f) first cap)=>match rvs gl tm as with
    |some vs=>some (f,(first++vs)++cap)
    |none=>none
   |_=>none
  |_=>none
 |_=>none
theorem bFx{f:FuncId}{ws:List V}(h:caX gl tm r=some (f,ws)):∃x as first cap vs,r.ro=some (.call x as)∧aV r.gd tm=some true∧rv gl tm x=some (.fn (.func f) first cap)∧rvs gl tm as=some vs∧(first++vs)++cap=ws:=by
 unfold caX at h
 split at h
 ·rename_i x as h1
  split at h
  ·rename_i h2
   split at h
   ·rename_i f' first cap h3
    split at h
    ·rename_i vs h4
     cases h
     exact⟨x,as,first,cap,vs,h1,h2,h3,h4,rfl⟩
    ·cases h
   ·cases h
  ·cases h
 ·cases h
theorem WQ.c{f:FuncId}{ws:List V}{v:V}{h':H}{nx':Nat}{ol':OL}{u':Option AMode}(hr:caX gl tm r=some (f,ws))(sc:SCall P gl f ws none ⟨nx,og ol,lc⟩ (.ret v) u' h')(hl:HL h' nx' ol' lc)(hp:bB fr.nt tm r.dst (.v v)=some tm1)
  (h:WQ P gl fr l (SL.toS ⟨tm1,df,u,nx',ol',lc⟩) QN QX):WQ P gl fr (r::l) (SL.toS ⟨tm,df,u,nx,ol,lc⟩) QN QX:=by
 obtain⟨x,as,first,cap,vs,h1,h2,h3,h4,h5⟩:=bFx hr
 exact WQ.eU h1 h2 h3 h4 h5 sc hl hp h
theorem pQ{nt:Nat}{h:H}(k:PendR P gl nt h anc es:=by repeat(first|exact .nil|refine PendR.bFi rfl ?_|refine PendR.bEy rfl ?_|refine PendR.aYz rfl ?_)):PendR P gl nt h anc es:=k
theorem vQ{v w:V}(k:VLe v w:=by repeat(first|exact VLe.refl _|exact VLe.unk _ _|refine VLe.tup ?_|refine VLe.agg ?_|exact VLL.nil|refine VLL.cons ?_ ?_)):VLe v w:=k
theorem tQ{tm1 tm2:TM}{lc:LM}(k:TellT tm1 lc tm2:=by repeat(first|exact .nil|refine .cons rfl (.v (VLe.refl _)) ?_|refine .cons rfl (.l _ _ rfl) ?_|refine .cons rfl (.v (VLe.unk _ _)) ?_)):TellT tm1 lc tm2:=k
theorem lQ{lc1 lc2:LM}(k:TellL lc1 lc2:=by repeat(first|exact .nil|refine .cons rfl (.inl rfl) ?_)):TellL lc1 lc2:=k
theorem cQ{us vs:List V}(k:CLe us vs:=by repeat(first|exact .nil|refine .cons (VLe.refl _) rfl ?_|refine .cons (VLe.unk _ _) rfl ?_)):CLe us vs:=k
theorem WR.e{s:S}(k:QX .ret s:=by exact⟨rfl,rfl,⟨_,rfl,Go.VM.vQ⟩,fun b _=>rfl⟩):WR P gl fr .ret s QN QX:=WR.ret k
theorem sQ{s:S}{a b:RC}(h:WR P gl fr a s (fun s1=>WR P gl fr b s1 QN QX) QX):WR P gl fr (.seq a b) s QN QX:=WR.seq h
end
end Go.VM
end
