/- laid for this seat: VmCode VmCut VmLeave VmRes VmRes2 -/
import Derived.Test.YtgadhdnnkdcgkaaGreatDoorVmD
import Derived.Defers
set_option linter.unusedVariables false
set_option linter.unusedSimpArgs false
section
/- The machine of values: pieces of code, told by what is so behind them. -/
namespace Go.VM
open Go.RowKit
theorem Arr.pass{P:Program}{E:Env}{x:X}{m:Machine}{b:Frame}{it:Item}{k:List Item}{tmps:Array Value}{df:List Deferred}{cs:List Frame}{w:World}
  (hx:∀id,exitTo id (it::k)=exitTo id k) (hn:x≠.norm) (a:Arr P E x m b (it::k) tmps df cs w):Arr P E x m b k tmps df cs w:=by
 cases x with
 |norm=>exact absurd rfl hn
 |exit id=>obtain⟨k',e,s⟩:=a;exact⟨k',e.trans (hx id),s⟩
 |ret=>exact a
 |panic ch=>exact a
section
variable{P:Program}{gl:List Nat}{fr:Fr}
theorem SItem.bBl{it it2:Item}{s:S}{x:X}{s':S}(h:SItem P gl fr it2 s x s')
  (hs:∀(b:Frame) (tmps:Array Value) (df:List Deferred) (cs:List Frame) (k:List Item) (w:World),step P (lone (mkF b tmps (it::k) df) cs w)=.next (lone (mkF b tmps (it2::k) df) cs w)):SItem P gl fr it s x s':=by
 intro E F w0 w b tmps df cs k st
 obtain⟨E',F',tmps',df',cs',w',a1,a0,a2,a3,a4,a5⟩:=h E F w0 w b tmps df cs k st
 exact⟨E',F',tmps',df',cs',w',a1,a0,a2,a3,a4,Arr.of (.one (hs b tmps df cs k w)) a5⟩
theorem SItem.norm{it:Item}{s:S}(hs:∀(b:Frame) (tmps:Array Value) (df:List Deferred) (cs:List Frame) (k:List Item) (w:World),step P (lone (mkF b tmps (it::k) df) cs w)=.next (lone (mkF b tmps k df) cs w)):
  SItem P gl fr it s .norm s:=by
 intro E F w0 w b tmps df cs k st
 exact⟨E,F,tmps,df,cs,w,Ext.refl _ _,rfl,st,CS.refl st.uk,rfl,.one (hs b tmps df cs k w)⟩
theorem SItem.seq{it it1 it2:Item}{s s1 s':S}{x:X}(h1:SItem P gl fr it1 s .norm s1)(h2:SItem P gl fr it2 s1 x s')
  (hs:∀(b:Frame) (tmps:Array Value) (df:List Deferred) (cs:List Frame) (k:List Item) (w:World),step P (lone (mkF b tmps (it::k) df) cs w)=.next (lone (mkF b tmps (it1::it2::k) df) cs w)):SItem P gl fr it s x s':=by
 intro E F w0 w b tmps df cs k st
 obtain⟨E1,F1,t1,d1,c1,w1,a1,a0,a2,a3,a4,a5⟩:=h1 E F w0 w b tmps df cs (it2::k) st
 obtain⟨E2,F2,t2,d2,c2,w2,b1,b0,b2,b3,b4,b5⟩:=h2 E1 F1 w0 w1 b t1 d1 c1 k a2
 exact⟨E2,F2,t2,d2,c2,w2,a1.trans b1,b0.trans a0,b2,a3.trans b3 a4,b4.trans a4,Arr.of (Steps.head (hs b tmps df cs k w) a5) b5⟩
theorem SItem.stop{it it1 it2:Item}{s s':S}{x:X}(h1:SItem P gl fr it1 s x s')(hx:x≠.norm)(he:∀id k,exitTo id (it2::k)=exitTo id k)
  (hs:∀(b:Frame) (tmps:Array Value) (df:List Deferred) (cs:List Frame) (k:List Item) (w:World),step P (lone (mkF b tmps (it::k) df) cs w)=.next (lone (mkF b tmps (it1::it2::k) df) cs w)):SItem P gl fr it s x s':=by
 intro E F w0 w b tmps df cs k st
 obtain⟨E1,F1,t1,d1,c1,w1,a1,a0,a2,a3,a4,a5⟩:=h1 E F w0 w b tmps df cs (it2::k) st
 exact⟨E1,F1,t1,d1,c1,w1,a1,a0,a2,a3,a4,Arr.of (.one (hs b tmps df cs k w)) (Arr.pass (fun id=>he id k) hx a5)⟩
def tpg(tm:TM)(d:Nat):TM:=tm.filter fun e=>match tg tm e.1 with|some (.l x _)=>!Nat.beq x d|_=>true
def SW(gl:List Nat)(fr:Fr)(s1 s:S):Prop:=
 s.u=s1.u∧∀(E:Env) (F:Fx) (w0 w:World) (b:Frame) (tmps:Array Value) (df:List Deferred) (cs:List Frame),StR gl E F fr s1 b tmps df cs w0 w→
  ∃E' F',Ext E s1.h E' s.h∧F'.prot=F.prot∧StR gl E' F' fr s b tmps df cs w0 w
theorem SW.refl(s:S):SW gl fr s s:=⟨rfl,fun E F w0 w b tmps df cs st=>⟨E,F,Ext.refl _ _,rfl,st⟩⟩
theorem SW.trans{s1 s2 s3:S}(h:SW gl fr s1 s2)(k:SW gl fr s2 s3):SW gl fr s1 s3:=by
 refine⟨k.1.trans h.1,fun E F w0 w b tmps df cs st=>?_⟩
 obtain⟨E1,F1,a1,a2,a3⟩:=h.2 E F w0 w b tmps df cs st
 obtain⟨E2,F2,b1,b2,b3⟩:=k.2 E1 F1 w0 w b tmps df cs a3
 exact⟨E2,F2,a1.trans b1,b2.trans a2,b3⟩
inductive Sq(P:Program)(gl:List Nat)(fr:Fr)(ops:Array Oper)(x:X)(s':S):List Oper→S→Prop where
 |nil {s:S} (hx:x=.norm) (hs:s'=s):Sq P gl fr ops x s' [] s
 |skip {o:Oper} {os:List Oper} {s:S} {tm:TM} (hw:bS ops o s.tm=some false) (hp:bB fr.nt s.tm o.dst (.v bG)=some tm) (next:Sq P gl fr ops x s' os {s with tm}):Sq P gl fr ops x s' (o::os) s
 |op {o:Oper} {os:List Oper} {s s2:S} {v:TV} {tm:TM} (hw:bS ops o s.tm=some true) (ho:OpR P gl fr o s (.val v s2)) (hp:bB fr.nt s2.tm o.dst v=some tm) (next:Sq P gl fr ops x s' os {s2 with tm}):Sq P gl fr ops x s' (o::os) s
 |loc {o:Oper} {os:List Oper} {s:S} {cs:List V} {d:Nat} (hw:bS ops o s.tm=some true) (ha:aJx P gl fr.nt s.tm o cs) (hd:o.dst=some d) (hc:(∀c,o.op≠.defer c)) (hn:Nat.blt d fr.nt=true)
   {s2:S} (hsw:SW gl fr {s with tm:=(d,.l d 0)::tpg s.tm d,h:={s.h with lc:=(d,cs)::s.h.lc}} s2) (next:Sq P gl fr ops x s' os s2):Sq P gl fr ops x s' (o::os) s
 |stop {o:Oper} {os:List Oper} {s:S} {ch:List PE} (hw:bS ops o s.tm=some true) (ho:OpR P gl fr o s (.pan ch s')) (hx:x=.panic ch):Sq P gl fr ops x s' (o::os) s
theorem aXv{ops:Array Oper}{x:X}{s':S}:∀(l:List Nat) (os:List Oper),All₂ (IxR ops) l os→∀(s:S),Sq P gl fr ops x s' os s→SItem P gl fr (.inRegion ops l) s x s':=by
 intro l os hl
 induction hl with
 |nil=>
  intro s h
  cases h with
  |nil hx hs=>
   subst hx;subst hs
   intro E F w0 w b tmps df cs k st
   exact⟨E,F,tmps,df,cs,w,Ext.refl _ _,rfl,st,CS.refl st.uk,rfl,.one aYp⟩
 | @cons i o l os hi ht ih=>
  intro s h
  intro E F w0 w b tmps df cs k st
  cases h with
  | @skip _ _ _ tm hw hp next=>
   have hw':=cE hw st.tr
   have st2:=st.put hp (.v _ _ (.tup [] #[] .nil))
   obtain⟨E',F',tmps',df',cs',w',a1,a0,a2,a3,a4,a5⟩:=ih _ next E F w0 w b _ df cs k st2
   exact⟨E',F',tmps',df',cs',w',a1,a0,a2,a3,a4,Arr.of (.one (oE hi hw')) a5⟩
  | @op _ _ _ s2 v tm hw ho hp next=>
   have hw':=cE hw st.tr
   obtain⟨e,E',F',df',cs',w',v',a1,a0,a00,a2,a3,a4,a5,a6⟩:=ho E F w0 w b tmps df cs k ops i l st hi hw'
   have st3:=a2.put hp a5
   obtain⟨E2,F2,tmps2,df2,cs2,w2,b1,b0,b2,b3,b4,b5⟩:=ih _ next E' F' w0 w' b _ df' cs' k st3
   exact⟨E2,F2,tmps2,df2,cs2,w2,a1.trans b1,b0.trans a00,b2,CS.trans a3 b3 a4,b4.trans a4,Arr.of a6 b5⟩
  | @loc _ _ _ cl d hw ha hd hc hn s2 hsw next=>
   have hw':=cE hw st.tr
   obtain⟨cob,p,h1,h2,h3,h4⟩:=ha E F.loc w tmps st.gl st.tr
   have m:=st.mr.local (d:=d) cob h2 h4
   have hle:Lle (fun k=>if k=d then none else F.loc k) (fun k=>if k=d then some p else F.loc k):=by
    intro k q hq
    simp only at hq⊢
    split at hq
    ·cases hq
    ·rename_i e;rw[if_neg e];exact hq
   have hv:TVR E (fun k=>if k=d then some p else F.loc k) (.l d 0) (.pointer (some ⟨w.heap.size,0,none⟩)):=by
    have:=TVR.l (E:=E) (L:=fun k=>if k=d then some p else F.loc k) d 0 p (by simp)
    rw[h2,h3]at this
    exact this
   have trp:TR E (fun k=>if k=d then some p else F.loc k) fr.nt (tpg s.tm d) tmps:=by
    refine⟨st.tr.1,fun t u hu=>?_⟩
    obtain⟨g1,g2⟩:=mM hu (fun _ _=>rfl)
    obtain⟨u',g3,g4⟩:=st.tr.2 t u g1
    rw[show tg s.tm (t,u).1=some u from g1]at g2
    refine⟨u',g3,?_⟩
    cases g4 with
    |v x _ hx=>exact .v _ _ hx
    |e cs blk off hfz=>exact .e _ _ _ hfz
    |l d' o' q hq=>
     refine .l _ _ _ ?_
     have hne:d'≠d:=by
      rintro rfl
      simp[Nat.beq_refl]at g2
     show(if d'=d then some p else F.loc d')=some q
     rw[if_neg hne];exact hq
   have st3:StR gl E {F with loc:=fun k=>if k=d then some p else F.loc k,own:=bQ F.own w.heap.size (.lc d)} fr {s with tm:=(d,.l d 0)::tpg s.tm d,h:={s.h with lc:=(d,cl)::s.h.lc}} b (jV tmps o.dst (.pointer (some ⟨w.heap.size,0,none⟩))) df cs w0 {w with heap:=w.heap.push cob}:=by
    refine⟨m,aDx trp ?_ hv,st.dr,st.uk,st.fr,st.gl⟩
    rw[hd];simp only[bB,hn]
   obtain⟨E1,F1,y1,y2,st4⟩:=hsw.2 _ _ _ _ _ _ _ _ st3
   obtain⟨E2,F2,tmps2,df2,cs2,w2,b1,b0,b2,b3,b4,b5⟩:=ih _ next E1 F1 w0 _ b _ df cs k st4
   have x1:Ext E s.h E ({s.h with lc:=(d,cl)::s.h.lc}:H):=⟨Env.le_refl E,fun _ _=>rfl,Nat.le_refl _,fun _ _ _ _ h _=>h⟩
   have hu:s2.u=s.u:=hsw.1
   exact⟨E2,F2,tmps2,df2,cs2,w2,(x1.trans y1).trans b1,b0.trans y2,b2,by rw[←hu];exact b3,by rw[←hu];exact b4,Arr.of (.one (zP hi hw' (.inr hc) h1)) b5⟩
  | @stop _ _ _ ch hw ho hx=>
   subst hx
   have hw':=cE hw st.tr
   obtain⟨e,E',F',df',cs',w',todo,ch',a1,a0,a00,a2,a3,a4,a5,a6⟩:=ho E F w0 w b tmps df cs k ops i l st hi hw'
   exact⟨E',F',tmps,df',cs',w',a1,a00,a2,a3,a4,todo,ch',a5,a6⟩
theorem aDb{id:Nat}{ops:Array Oper}{os:List Oper}{s:S}{x:X}{s':S}(ho:ops.toList=os)(h:Sq P gl fr ops x s' os s):SItem P gl fr (.code (.region id ops false)) s x s':=by
 subst ho
 exact SItem.bBl (aXv _ _ (aXf ops) s h) fun _ _ _ _ _ _=>aRe
def WI(P:Program)(gl:List Nat)(fr:Fr)(it:Item)(s:S)(QN:S→Prop)(QX:X→S→Prop):Prop:=
 (∃s',SItem P gl fr it s .norm s'∧QN s')∨∃x s',x≠.norm∧SItem P gl fr it s x s'∧QX x s'
abbrev WC(P:Program)(gl:List Nat)(fr:Fr)(c:Code)(s:S)(QN:S→Prop)(QX:X→S→Prop):Prop:=WI P gl fr (.code c) s QN QX
variable{s:S}{QN:S→Prop}{QX:X→S→Prop}
theorem WI.mono{it:Item}{QN':S→Prop}{QX':X→S→Prop}(h:WI P gl fr it s QN QX)(h1:∀s',QN s'→QN' s')(h2:∀x s',QX x s'→QX' x s'):WI P gl fr it s QN' QX':=by
 rcases h with⟨s',a,b⟩|⟨x,s',a,b,c⟩
 ·exact .inl ⟨s',a,h1 _ b⟩
 ·exact .inr ⟨x,s',a,b,h2 _ _ c⟩
theorem WC.skip(h:QN s):WC P gl fr .skip s QN QX:=.inl ⟨s,SItem.norm fun _ _ _ _ _ _=>bDa,h⟩
theorem WC.label{l:Nat}(h:QN s):WC P gl fr (.label l) s QN QX:=.inl ⟨s,SItem.norm fun _ _ _ _ _ _=>aYo,h⟩
theorem WC.seq{a d:Code}(h:WC P gl fr a s (fun s1=>WC P gl fr d s1 QN QX) QX):WC P gl fr (.seq a d) s QN QX:=by
 rcases h with⟨s1,h1,h2⟩|⟨x,s1,hx,h1,h2⟩
 ·rcases h2 with⟨s2,a1,a2⟩|⟨x,s2,hx,a1,a2⟩
  ·exact .inl ⟨s2,SItem.seq h1 a1 fun _ _ _ _ _ _=>aMn,a2⟩
  ·exact .inr ⟨x,s2,hx,SItem.seq h1 a1 fun _ _ _ _ _ _=>aMn,a2⟩
 ·exact .inr ⟨x,s1,hx,SItem.stop (it2:=.code d) h1 hx (fun id k=>rfl) fun _ _ _ _ _ _=>aMn,h2⟩
def WL(P:Program)(gl:List Nat)(fr:Fr)(c:Code)(s:S)(QN:S→Prop)(QX:X→S→Prop):Prop:=WC P gl fr c s (fun s1=>WI P gl fr (.inLoop c) s1 QN QX) QX
theorem WL.item{c:Code}{it:Item}(hst:∀(b:Frame) (tmps:Array Value) (df:List Deferred) (cs:List Frame) (k:List Item) (w:World),step P (lone (mkF b tmps (it::k) df) cs w)=.next (lone (mkF b tmps (.code c::.inLoop c::k) df) cs w))
  (h:WL P gl fr c s QN QX):WI P gl fr it s QN QX:=by
 rcases h with⟨s1,h1,h2⟩|⟨x,s1,hx,h1,h2⟩
 ·rcases h2 with⟨s2,a1,a2⟩|⟨x,s2,hx,a1,a2⟩
  ·exact .inl ⟨s2,SItem.seq h1 a1 hst,a2⟩
  ·exact .inr ⟨x,s2,hx,SItem.seq h1 a1 hst,a2⟩
 ·exact .inr ⟨x,s1,hx,SItem.stop (it2:=.inLoop c) h1 hx (fun id k=>rfl) hst,h2⟩
theorem WC.loop{c:Code}(h:WL P gl fr c s QN QX):WC P gl fr (.loop c) s QN QX:=WL.item (fun _ _ _ _ _ _=>bAq) h
theorem WL.again{c:Code}(h:WL P gl fr c s QN QX):WI P gl fr (.inLoop c) s QN QX:=WL.item (fun _ _ _ _ _ _=>aRf) h
theorem WC.cond{y:Operand}{a d:Code}{ro:RX}{t:Bool}(hr:rx y=some ro)(hv:rv gl s.tm ro=some (.bool t))(h1:t=true→WC P gl fr a s QN QX)(h2:t=false→WC P gl fr d s QN QX):WC P gl fr (.cond y a d) s QN QX:=by
 have key:∀(q:Bool) (c:Code),t=q→(match q with|true=>a|false=>d)=c→WC P gl fr c s QN QX→WC P gl fr (.cond y a d) s QN QX:=by
  intro q c ht hc hw
  subst ht
  have up:∀x s',SItem P gl fr (.code c) s x s'→SItem P gl fr (.code (.cond y a d)) s x s':=by
   intro x s' hi E F w0 w b tmps df cs k st
   have hr':=aH st.gl st.tr hr hv
   have hb:evT tmps y=.bool t:=by cases hq:evT tmps y<;>rw[hq]at hr'<;>cases hr';rfl
   obtain⟨E',F',t',d',c',w',a1,a0,a2,a3,a4,a5⟩:=hi E F w0 w b tmps df cs k st
   refine⟨E',F',t',d',c',w',a1,a0,a2,a3,a4,Arr.of (.one (bAx hb)) ?_⟩
   subst hc
   cases t<;>exact a5
  rcases hw with⟨s1,q1,q2⟩|⟨x,s1,hx,q1,q2⟩
  ·exact .inl ⟨s1,up _ _ q1,q2⟩
  ·exact .inr ⟨x,s1,hx,up _ _ q1,q2⟩
 cases ht:t with
 |true=>exact key true a ht rfl (h1 ht)
 |false=>exact key false d ht rfl (h2 ht)
def vF(id:Nat)(QN:S→Prop)(QX:X→S→Prop):X→S→Prop
 |.exit i,s=>match Nat.beq i id with
  |true=>QN s
  |false=>QX (.exit i) s
 |x,s=>QX x s
theorem WC.block{id:Nat}{d:Code}(h:WC P gl fr d s QN (vF id QN QX)):WC P gl fr (.block id d) s QN QX:=by
 have go:∀y s2,SItem P gl fr (.code d) s y s2→∀(E:Env) (F:Fx) (w0 w:World) (b:Frame) (tmps:Array Value) (df:List Deferred) (cs:List Frame) (k:List Item),StR gl E F fr s b tmps df cs w0 w→
   ∃E' F' tmps' df' cs' w',Ext E s.h E' s2.h∧F'.prot=F.prot∧StR gl E' F' fr s2 b tmps' df' cs' w0 w'∧CS s.u cs cs'∧s2.u.isSome=s.u.isSome∧Arr P E' y (lone (mkF b tmps (.code (.block id d)::k) df) cs w) b (.inBlock id::k) tmps' df' cs' w':=by
  intro y s2 hy E F w0 w b tmps df cs k st
  obtain⟨E',F',t',d',c',w',a1,a0,a2,a3,a4,a5⟩:=hy E F w0 w b tmps df cs (.inBlock id::k) st
  exact⟨E',F',t',d',c',w',a1,a0,a2,a3,a4,Arr.of (.one aZz) a5⟩
 rcases h with⟨s1,q1,q2⟩|⟨x,s1,hx,q1,q2⟩
 ·refine .inl ⟨s1,?_,q2⟩
  intro E F w0 w b tmps df cs k st
  obtain⟨E',F',t',d',c',w',a1,a0,a2,a3,a4,a5⟩:=go _ _ q1 E F w0 w b tmps df cs k st
  exact⟨E',F',t',d',c',w',a1,a0,a2,a3,a4,a5.trans (.one aLy)⟩
 ·cases x with
  |norm=>exact absurd rfl hx
  |ret=>
   refine .inr ⟨.ret,s1,hx,?_,q2⟩
   intro E F w0 w b tmps df cs k st
   exact go _ _ q1 E F w0 w b tmps df cs k st
  |panic ch=>
   refine .inr ⟨.panic ch,s1,hx,?_,q2⟩
   intro E F w0 w b tmps df cs k st
   exact go _ _ q1 E F w0 w b tmps df cs k st
  |exit i=>
   simp only[vF]at q2
   split at q2
   ·rename_i hi
    have hi:=Nat.eq_of_beq_eq_true hi
    subst hi
    refine .inl ⟨s1,?_,q2⟩
    intro E F w0 w b tmps df cs k st
    obtain⟨E',F',t',d',c',w',a1,a0,a2,a3,a4,k',e,a5⟩:=go _ _ q1 E F w0 w b tmps df cs k st
    rw[oT,if_pos (by simp)]at e
    exact⟨E',F',t',d',c',w',a1,a0,a2,a3,a4,a5.trans (.one (bDr e))⟩
   ·rename_i hi
    refine .inr ⟨.exit i,s1,hx,?_,q2⟩
    intro E F w0 w b tmps df cs k st
    obtain⟨E',F',t',d',c',w',a1,a0,a2,a3,a4,k',e,a5⟩:=go _ _ q1 E F w0 w b tmps df cs k st
    rw[oT,if_neg (by intro q;simp at q;rw[q,Nat.beq_refl]at hi;cases hi)]at e
    exact⟨E',F',t',d',c',w',a1,a0,a2,a3,a4,k',e,a5⟩
theorem WC.scope{d:Code}(h:WC P gl fr d s QN QX):WC P gl fr (.scope d) s QN QX:=by
 have go:∀x s',SItem P gl fr (.code d) s x s'→SItem P gl fr (.code (.scope d)) s x s':=by
  intro x s' hy E F w0 w b tmps df cs k st
  obtain⟨E',F',t',d',c',w',a1,a0,a2,a3,a4,a5⟩:=hy E F w0 w b tmps df cs (.inScope d::k) st
  refine⟨E',F',t',d',c',w',a1,a0,a2,a3,a4,Arr.of (.one aUg) ?_⟩
  cases x with
  |norm=>exact a5.trans (.one aKt)
  |exit i=>obtain⟨k',e,s⟩:=a5;exact⟨k',e,s⟩
  |ret=>exact a5
  |panic ch=>exact a5
 rcases h with⟨s1,q1,q2⟩|⟨x,s1,hx,q1,q2⟩
 ·exact .inl ⟨s1,go _ _ q1,q2⟩
 ·exact .inr ⟨x,s1,hx,go _ _ q1,q2⟩
theorem WC.exit{id:Nat}(h:QX (.exit id) s):WC P gl fr (.exit id) s QN QX:=by
 refine .inr ⟨.exit id,s,by simp,?_,h⟩
 intro E F w0 w b tmps df cs k st
 exact⟨E,F,tmps,df,cs,w,Ext.refl _ _,rfl,st,CS.refl st.uk,rfl,k,rfl,Steps.refl _ _⟩
theorem WC.ret(h:QX .ret s):WC P gl fr .ret s QN QX:=by
 refine .inr ⟨.ret,s,by simp,?_,h⟩
 intro E F w0 w b tmps df cs k st
 exact⟨E,F,tmps,df,cs,w,Ext.refl _ _,rfl,st,CS.refl st.uk,rfl,k,Steps.refl _ _⟩
theorem WC.of{c:Code}{x:X}{s':S}(h:SItem P gl fr (.code c) s x s')(hq:match x with|.norm=>QN s'|x=>QX x s'):WC P gl fr c s QN QX:=by
 cases x with
 |norm=>exact .inl ⟨s',h,hq⟩
 |exit i=>exact .inr ⟨_,s',by simp,h,hq⟩
 |ret=>exact .inr ⟨_,s',by simp,h,hq⟩
 |panic ch=>exact .inr ⟨_,s',by simp,h,hq⟩
theorem SItem.weak{it:Item}{s1 s s':S}{x:X}(h:SW gl fr s1 s)(k:SItem P gl fr it s x s'):SItem P gl fr it s1 x s':=by
 intro E F w0 w b tmps df cs kk st
 obtain⟨E1,F1,a1,a2,a3⟩:=h.2 E F w0 w b tmps df cs st
 obtain⟨E2,F2,t2,d2,c2,w2,b1,b0,b2,b3,b4,b5⟩:=k E1 F1 w0 w b tmps df cs kk a3
 exact⟨E2,F2,t2,d2,c2,w2,a1.trans b1,b0.trans a2,b2,by rw[←h.1];exact b3,by rw[←h.1];exact b4,b5⟩
theorem WI.weak{it:Item}{s1:S}(h:SW gl fr s1 s)(k:WI P gl fr it s QN QX):WI P gl fr it s1 QN QX:=by
 rcases k with⟨s',a,b⟩|⟨x,s',a,b,c⟩
 ·exact .inl ⟨s',a.weak h,b⟩
 ·exact .inr ⟨x,s',a,b.weak h,c⟩
theorem WL.weak{c:Code}{s1:S}(h:SW gl fr s1 s)(k:WL P gl fr c s QN QX):WL P gl fr c s1 QN QX:=WI.weak h k
end
def VLe(v v':V):Prop:=∀(E:Env) (x:Value),AR E v x→AR E v' x
theorem VLe.refl(v:V):VLe v v:=fun _ _ h=>h
theorem VLe.trans{a b c:V}(h:VLe a b)(k:VLe b c):VLe a c:=fun E x r=>k E x (h E x r)
theorem VLe.unk(es:List (List V))(c:LC):VLe (.lst es c) (.lst es .unk):=fun _ _ h=>h.bV
theorem aKl{tm:TM}{t:Nat}{v:TV}:tg tm t=some v→(t,v)∈tm:=by
 induction tm with
 |nil=>intro h;simp[tg]at h
 |cons e r ih=>
  intro h
  rcases aEm h with⟨h1,h2⟩|⟨_,h2⟩
  ·subst h1;subst h2;exact List.mem_cons_self ..
  ·exact List.mem_cons_of_mem _ (ih h2)
theorem bGz{lc:LM}{d:Nat}{v:List V}:lg lc d=some v→(d,v)∈lc:=by
 induction lc with
 |nil=>intro h;simp[lg]at h
 |cons e r ih=>
  intro h
  obtain⟨a,c⟩:=e
  rw[jM]at h
  split at h
  ·rename_i e;cases h;subst e;exact List.mem_cons_self ..
  ·exact List.mem_cons_of_mem _ (ih h)
inductive CLe:List V→List V→Prop where
 |nil:CLe [] []
 |cons {a b:V} {l m:List V} (h:VLe a b) (hc:b.aW=true) (t:CLe l m):CLe (a::l) (b::m)
theorem CLe.get{l m:List V}(h:CLe l m):m.length=l.length∧∀(i:Nat) (b:V),m[i]? =some b→∃a,l[i]? =some a∧VLe a b∧b.aW=true:=by
 induction h with
 |nil=>exact⟨rfl,fun i b h=>by simp at h⟩
 |cons h hc t ih=>
  refine⟨by simp[ih.1],fun i b hb=>?_⟩
  cases i with
  |zero=>simp at hb;subst hb;exact⟨_,rfl,h,hc⟩
  |succ i=>simpa using ih.2 i b (by simpa using hb)
theorem CLe.refl{l:List V}(h:l.all V.aW=true):CLe l l:=by
 induction l with
 |nil=>exact .nil
 |cons a l ih=>simp only[List.all_cons,Bool.and_eq_true]at h;exact .cons (.refl a) h.1 (ih h.2)
inductive TLe(d:LM):TV→TV→Prop where
 |v {a b:V} (h:VLe a b):TLe d (.v a) (.v b)
 |l (i o:Nat) (h:(lg d i).isSome=true):TLe d (.l i o) (.l i o)
 |e (cs:List V):TLe d (.e cs) (.e cs)
theorem SW.tell{gl:List Nat}{fr:Fr}{s1:S}{tm:TM}{lc:LM}(ht:∀e∈tm,∃u,tg s1.tm e.1=some u∧TLe lc u e.2)(hl:∀e∈lc,∃cs,lg s1.h.lc e.1=some cs∧(cs=e.2∨CLe cs e.2)):
  SW gl fr s1 {s1 with tm,h:={s1.h with lc}}:=by
 refine⟨rfl,fun E F w0 w b tmps df cs st=>?_⟩
 let L:Nat→Option Place:=fun d=>match lg lc d with|some _=>F.loc d|none=>none
 have hL:Lle L F.loc:=by
  intro d p hp
  simp only[L]at hp
  split at hp
  ·exact hp
  ·cases hp
 have m:=st.mr.qH hL
 refine⟨E,{F with loc:=L},⟨Env.le_refl E,fun _ _=>rfl,Nat.le_refl _,fun _ _ _ _ h _=>h⟩,rfl,⟨?_,⟨st.tr.1,fun t v hv=>?_⟩,st.dr,st.uk,st.fr,st.gl⟩⟩
 ·refine⟨m.below,m.fresh,m.glo,m.glb,m.gbl,m.lto,m.obj,m.oOb,m.fz,m.oFz,m.tok,m.tokn,m.toko,fun d p hp=>?_,m.prot⟩
  obtain⟨a1,a2,cs0,a3,a4⟩:=m.loc d p hp
  refine⟨a1,a2,?_⟩
  have hp':L d=some p:=hp
  simp only[L]at hp'
  split at hp'
  ·rename_i cs1 hcs1
   refine⟨cs1,hcs1,?_⟩
   obtain⟨cs2,g1,g2⟩:=hl _ (bGz hcs1)
   rw[a3]at g1
   cases g1
   rcases g2 with rfl|g2
   ·exact a4
   ·obtain⟨c,el,lo,hi,b1,b2,b3,b4,b5⟩:=a4
    obtain⟨q1,q2⟩:=g2.get
    refine⟨c,el,lo,hi,b1,b2,b3,by have q1':cs1.length=cs0.length:=q1;omega,fun i v hv=>?_⟩
    obtain⟨a,g3,g4,g5⟩:=q2 i v hv
    obtain⟨_,v',g6,g7⟩:=b5 i a g3
    exact⟨g5,v',g6,g4 E v' g7⟩
  ·cases hp'
 ·obtain⟨u,g1,g2⟩:=ht _ (aKl hv)
  obtain⟨u',g3,g4⟩:=st.tr.2 t u g1
  refine⟨u',g3,?_⟩
  cases g2 with
  |v h=>cases g4 with|v _ _ h'=>exact .v _ _ (h E _ h')
  |e cs=>cases g4 with|e _ blk off h'=>exact .e _ _ _ h'
  |l i o h=>
   cases g4 with
   |l _ _ p hp=>
    refine .l _ _ _ ?_
    show(match lg lc i with|some _=>F.loc i|none=>none)=some p
    cases hq:lg lc i with
    |none=>rw[hq]at h;cases h
    |some c=>exact hp
theorem SW.tok{gl:List Nat}{fr:Fr}{s1:S}:SW gl fr s1 {s1 with h:=s1.h.new (.tok 0)}:=by
 refine⟨rfl,fun E F w0 w b tmps df cs st=>?_⟩
 obtain⟨m,x,_,_⟩:=st.mr.ghost (.tok 0) (fun n e=>by cases e;rfl)
 exact⟨E,F,x,rfl,st.mono x rfl m⟩
theorem VLe.bFw(id:Nat):VLe (.lst [] (.ex 0)) (.lst [] (.tk id)):=by
 intro E x r
 cases r with
 |lst0 c a cap h=>
  have:cap=0:=h
  subst this
  exact .lst0 _ _ _ rfl
end Go.VM
end
section
/- The machine of values: what no reference names may be forgotten. -/
namespace Go.VM
open Go.RowKit
def Env.cut(E:Env)(N:Nat):Env where
 ob:=fun b=>if b<N then E.ob b else none
 fz:=E.fz
 tk:=fun b n=>if b<N then E.tk b n else none
def Bound(E:Env)(N:Nat):Prop:=∀b,N≤b→E.ob b=none∧∀n,E.tk b n=none
theorem Bound.lt{E:Env}{N b:Nat}{p:Place}(h:Bound E N)(hb:E.ob b=some p):b<N:=by
 rcases Nat.lt_or_ge b N with g|g
 ·exact g
 ·have:=(h b g).1;rw[this]at hb;cases hb
theorem Bound.ltk{E:Env}{N b n:Nat}{p:Place}(h:Bound E N)(hb:E.tk b n=some p):b<N:=by
 rcases Nat.lt_or_ge b N with g|g
 ·exact g
 ·have:=(h b g).2 n;rw[this]at hb;cases hb
theorem gQ{E:Env}{N b:Nat}{p:Place}(h:E.ob b=some p)(hb:b<N):(E.cut N).ob b=some p:=by
 simp only[Env.cut];rw[if_pos hb];exact h
theorem zI{E:Env}{N b n:Nat}{p:Place}(h:E.tk b n=some p)(hb:b<N):(E.cut N).tk b n=some p:=by
 simp only[Env.cut];rw[if_pos hb];exact h
theorem CapR.cut{E0 E:Env}{N:Nat}(hB:Bound E0 N){c:LC}{b0 o0 z0 n0 c0 blk off z n cap:Nat}(h0:CapR E0 c b0 o0 z0 n0 c0)(h:CapR E c blk off z n cap):CapR (E.cut N) c blk off z n cap:=by
 cases c with
 |tk id=>exact zI h (hB.ltk h0)
 |_=>exact h
mutual
theorem AR.cut{E0 E:Env}{N:Nat}(hB:Bound E0 N):∀{v:V} {x0 x:Value},AR E0 v x0→AR E v x→AR (E.cut N) v x
 |.bool b,_,_,_,h=>by cases h;exact .bool b
 |.int k n,_,_,_,h=>by cases h;exact .int k n
 |.str s,_,_,_,h=>by cases h with|str _ x h=>exact .str s x h
 |.iR,_,_,_,h=>by cases h;exact .iR
 |.ptr b o,_,_,h0,h=>by cases h0 with|ptr _ _ p0 e0=>cases h with|ptr _ _ p e=>exact .ptr b o p (gQ e (hB.lt e0))
 |.lst [] c,_,_,_,h=>by cases h with|lst0 _ a cap h=>exact .lst0 c a cap h
 |.lst (e::es) c,_,_,h0,h=>by
  cases h0 with
  |lst _ _ _ b0 o0 n0 c0 z0 f0 hn0 hc0 r0=>cases h with
   |lst _ _ _ blk off n cap z f hn hc hr=>exact .lst e es c blk off n cap z (FZs.cut hB f0 f) hn hc (CapR.cut hB r0 hr)
 |.sl b o n c,_,_,h0,h=>by
  have hb:b<N:=by cases h0 with
   |sl _ _ _ p0 _ e0=>exact hB.lt e0
   |slo _ _ _ _ p0 _ e0=>exact hB.lt e0
   |sl0 _ _ _ _ _ p0 e0=>exact hB.lt e0
  cases h with
  |sl _ _ _ p c e hn=>exact .sl b o n p c (gQ e hb) hn
  |slo _ _ _ z p c e hc hn=>exact .slo b o n z p c (gQ e hb) hc hn
  |sl0 _ _ c a hc p e hz=>exact .sl0 b o c a hc p (gQ e hb) hz
 |.fX,_,_,_,h=>by cases h;exact .fX
 |.map r,_,_,h0,h=>by cases h0 with|map _ p0 e0=>cases h with|map _ p e=>exact .map r p (gQ e (hB.lt e0))
 |.fn f a c,_,_,h0,h=>by
  cases h0 with
  |fn f _ _ a0 c0 ha0 hc0=>cases h with
   |fn _ _ _ a' c' ha hc=>exact .fn f a c a' c' (ARs.cut hB ha0 ha) (ARs.cut hB hc0 hc)
  |yld l p0 e0=>cases h with
   |yld _ p e=>exact .yld l p (gQ e (hB.lt e0))
 |.hY,_,_,_,h=>by cases h;exact .hY
 |.iface t v,_,_,h0,h=>by cases h0 with|iface _ _ v0 r0=>cases h with|iface _ _ v' r=>exact .iface t v v' (AR.cut hB r0 r)
 |.fF,_,_,_,h=>by cases h;exact .fF
 |.agg l,_,_,h0,h=>by cases h0 with|agg _ c0 r0=>cases h with|agg _ cs r=>exact .agg l cs (ARs.cut hB r0 r)
 |.tup l,_,_,h0,h=>by cases h0 with|tup _ c0 r0=>cases h with|tup _ cs r=>exact .tup l cs (ARs.cut hB r0 r)
theorem ARs.cut{E0 E:Env}{N:Nat}(hB:Bound E0 N):∀{l:List V} {l0 l':List Value},ARs E0 l l0→ARs E l l'→ARs (E.cut N) l l'
 |[],_,_,_,h=>by cases h;exact .nil
 |v::l,_,_,h0,h=>by cases h0 with|cons _ v0 _ m0 a0 t0=>cases h with|cons _ v' _ m a t=>exact .cons v v' l m (AR.cut hB a0 a) (ARs.cut hB t0 t)
theorem FZ.cut{E0 E:Env}{N:Nat}(hB:Bound E0 N):∀{l:List V} {b0 o0 blk off:Nat},FZ E0 b0 o0 l→FZ E blk off l→FZ (E.cut N) blk off l
 |[],_,_,blk,off,_,_=>.nil blk off
 |v::l,_,_,blk,off,h0,h=>by cases h0 with|cons _ _ _ v0 _ f0 c0 a0 t0=>cases h with|cons _ _ _ v' _ f c a t=>exact .cons blk off v v' l f c (AR.cut hB a0 a) (FZ.cut hB t0 t)
theorem FZs.cut{E0 E:Env}{N:Nat}(hB:Bound E0 N):∀{es:List (List V)} {b0 o0 z0 blk off z:Nat},FZs E0 b0 o0 z0 es→FZs E blk off z es→FZs (E.cut N) blk off z es
 |[],_,_,_,blk,off,z,_,_=>.nil blk off z
 |e::es,_,_,_,blk,off,z,h0,h=>by cases h0 with|cons _ _ _ _ _ z0 f0 t0=>cases h with|cons _ _ _ _ _ hz f t=>exact .cons blk off z e es hz (FZ.cut hB f0 f) (FZs.cut hB t0 t)
end
def RefLt(N:Nat)(v:V):Prop:=∀(E:Env) (x:Value),AR E v x→AR (E.cut N) v x
def iD(N:Nat)(o:Obj):Prop:=∀(E:Env) (p:Place) (w:World),ObjR E o p w→ObjR (E.cut N) o p w
theorem TR.cut{E0 E:Env}{N:Nat}(hB:Bound E0 N){nt:Nat}{tm:TM}{t0 tmps:Array Value}(h0:TR E0 noL nt tm t0)(h:TR E noL nt tm tmps):TR (E.cut N) noL nt tm tmps:=by
 refine⟨h.1,fun t v hv=>?_⟩
 obtain⟨x0,a0,r0⟩:=h0.2 t v hv
 obtain⟨x,a,r⟩:=h.2 t v hv
 refine⟨x,a,?_⟩
 cases r0 with
 |v v x0 q0=>cases r with|v _ _ q=>exact .v _ _ (AR.cut hB q0 q)
 |l d o p e=>cases e
 |e cs b0 o0 q0=>cases r with|e _ blk off q=>exact .e _ _ _ (FZ.cut hB q0 q)
theorem ADR.cut{E0 E:Env}{N:Nat}(hB:Bound E0 N){d:AD}{d0 d':Deferred}(h0:ADR E0 d d0)(h:ADR E d d'):ADR (E.cut N) d d':=by
 cases h0 with
 |call f c a c0 a0 hc0 ha0=>cases h with|call _ _ _ c' a' hc ha=>exact .call f c a c' a' (ARs.cut hB hc0 hc) (ARs.cut hB ha0 ha)
 |collected r p0 e0=>cases h with|collected _ p e=>exact .collected r p (gQ e (hB.lt e0))
theorem All₂.cut{α β:Type}{R S T:α→β→Prop}(hh:∀a b0 b,R a b0→S a b→T a b):∀{l:List α} {m0 m:List β},All₂ R l m0→All₂ S l m→All₂ T l m
 |_,_,_,.nil,h=>by cases h;exact .nil
 |_,_,_,.cons h0 t0,h=>by cases h with|cons h t=>exact .cons (hh _ _ _ h0 h) (All₂.cut hh t0 t)
theorem ObjR.cut{E0:Env}{N:Nat}(hB:Bound E0 N){o:Obj}{p0:Place}{w0:World}(h0:ObjR E0 o p0 w0):iD N o:=by
 intro E p w h
 cases o with
 |cells opn cs=>
  obtain⟨_,_,_,_,_,_,_,_,g0⟩:=h0
  obtain⟨c,el,lo,hi,a1,a2,a3,a4,a5⟩:=h
  refine⟨c,el,lo,hi,a1,a2,a3,a4,fun i v hv=>?_⟩
  obtain⟨_,x0,_,r0⟩:=g0 i v hv
  obtain⟨q,x,b1,r⟩:=a5 i v hv
  exact⟨q,x,b1,AR.cut hB r0 r⟩
 |map es=>
  obtain⟨_,_,_,g0⟩:=h0
  obtain⟨ents,clock,a1,a2⟩:=h
  exact⟨ents,clock,a1,All₂.cut (fun _ _ _ r0 r=>⟨AR.cut hB r0.1 r.1,AR.cut hB r0.2 r.2⟩) g0 a2⟩
 |loop l=>
  obtain⟨_,_,_,_,_,_,_,_,g0⟩:=h0
  obtain⟨L,h1,h2,h3,h4,h5,h6,h7,h8⟩:=h
  exact⟨L,h1,h2,h3,h4,h5,h6,h7,TR.cut hB g0 h8⟩
 |dfr c=>
  cases c with
  |none=>exact h
  |some ds=>
   obtain⟨_,_,g0⟩:=h0
   obtain⟨c,a1,a2⟩:=h
   exact⟨c,a1,All₂.cut (T:=ADR (E.cut N)) (fun(_:AD) _ _ r0 r=>ADR.cut hB r0 r) g0 a2⟩
 |siter s pos=>exact h
 |tok n=>exact h
theorem RefLt.mono{N M:Nat}{v:V}(h:RefLt N v)(hl:N≤M):RefLt M v:=by
 intro E x r
 have hle:(E.cut N).le (E.cut M):=by
  refine⟨fun b p hb=>?_,fun _ _ _ h=>h,fun b n p hb=>?_⟩<;>simp only[Env.cut]at hb⊢<;>split at hb<;>first|(rw[if_pos (by omega)];exact hb)|cases hb
 exact(h E x r).mono hle
theorem RefLt.int{N:Nat}(k:IntKind)(n:Int):RefLt N (.int k n):=fun _ _ h=>by cases h;exact .int k n
theorem RefLt.bool{N:Nat}(b:Bool):RefLt N (.bool b):=fun _ _ h=>by cases h;exact .bool b
theorem RefLt.str{N:Nat}(s:List Nat):RefLt N (.str s):=fun _ _ h=>by cases h with|str _ x h=>exact .str s x h
theorem RefLt.iR{N:Nat}:RefLt N .iR:=fun _ _ h=>by cases h;exact .iR
theorem RefLt.fX{N:Nat}:RefLt N .fX:=fun _ _ h=>by cases h;exact .fX
theorem RefLt.hY{N:Nat}:RefLt N .hY:=fun _ _ h=>by cases h;exact .hY
theorem RefLt.fF{N:Nat}:RefLt N .fF:=fun _ _ h=>by cases h;exact .fF
theorem RefLt.ptr{N b:Nat}(o:Nat)(hb:b<N):RefLt N (.ptr b o):=fun _ _ h=>by cases h with|ptr _ _ p e=>exact .ptr b o p (gQ e hb)
theorem RefLt.map{N b:Nat}(hb:b<N):RefLt N (.map b):=fun _ _ h=>by cases h with|map _ p e=>exact .map b p (gQ e hb)
theorem RefLt.iface{N t:Nat}{v:V}(h:RefLt N v):RefLt N (.iface t v):=fun _ _ r=>by cases r with|iface _ _ v' r=>exact .iface t v v' (h _ _ r)
theorem RefLt.sl{N b o n:Nat}{c:Cp}(hb:b<N):RefLt N (.sl b o n c):=fun _ _ h=>by
 cases h with
 |sl _ _ _ p c e hn=>exact .sl b o n p c (gQ e hb) hn
 |slo _ _ _ z p c e hc hn=>exact .slo b o n z p c (gQ e hb) hc hn
 |sl0 _ _ c a hc p e hz=>exact .sl0 b o c a hc p (gQ e hb) hz
theorem ARs.bL{N:Nat}{l:List V}(h:∀v∈l,RefLt N v){E:Env}{l':List Value}(r:ARs E l l'):ARs (E.cut N) l l':=by
 induction l generalizing l' with
 |nil=>cases r;exact .nil
 |cons v l ih=>cases r with|cons _ v' _ m a t=>exact .cons _ _ _ _ (h v (List.mem_cons_self ..) _ _ a) (ih (fun v hv=>h v (List.mem_cons_of_mem _ hv)) t)
theorem RefLt.agg{N:Nat}{l:List V}(h:∀v∈l,RefLt N v):RefLt N (.agg l):=fun _ _ r=>by cases r with|agg _ c r=>exact .agg l c (ARs.bL h r)
theorem RefLt.tup{N:Nat}{l:List V}(h:∀v∈l,RefLt N v):RefLt N (.tup l):=fun _ _ r=>by cases r with|tup _ c r=>exact .tup l c (ARs.bL h r)
theorem RefLt.fn{N:Nat}{f:Nat}{a c:List V}(ha:∀v∈a,RefLt N v)(hc:∀v∈c,RefLt N v):RefLt N (.fn (.func f) a c):=fun _ _ r=>by cases r with|fn _ _ _ a' c' ra rc=>exact .fn f a c a' c' (ARs.bL ha ra) (ARs.bL hc rc)
theorem FZ.bL{N:Nat}{E:Env}:∀{l:List V} {blk off:Nat},(∀v∈l,RefLt N v)→FZ E blk off l→FZ (E.cut N) blk off l
 |[],blk,off,_,_=>.nil blk off
 |v::l,blk,off,h,r=>by cases r with|cons _ _ _ v' _ f c a t=>exact .cons blk off v v' l f c (h v (List.mem_cons_self ..) _ _ a) (FZ.bL (fun v hv=>h v (List.mem_cons_of_mem _ hv)) t)
theorem FZs.bL{N:Nat}{E:Env}:∀{es:List (List V)} {blk off z:Nat},(∀e∈es,∀v∈e,RefLt N v)→FZs E blk off z es→FZs (E.cut N) blk off z es
 |[],blk,off,z,_,_=>.nil blk off z
 |e::es,blk,off,z,h,r=>by cases r with|cons _ _ _ _ _ hz f t=>exact .cons blk off z e es hz (FZ.bL (h e (List.mem_cons_self ..)) f) (FZs.bL (fun e he=>h e (List.mem_cons_of_mem _ he)) t)
theorem RefLt.lst{N:Nat}{es:List (List V)}{c:LC}(h:∀e∈es,∀v∈e,RefLt N v)(hc:∀id,c=.tk id→id<N):RefLt N (.lst es c):=by
 intro E x r
 cases r with
 |lst0 _ a cap h=>exact .lst0 c a cap h
 |lst e es _ blk off n cap z f hn hcc hr=>
  refine .lst e es c blk off n cap z (FZs.bL h f) hn hcc ?_
  cases c with
  |tk id=>exact zI hr (hc id rfl)
  |_=>exact hr
theorem MR.cut{E:Env}{F:Fx}{h:H}{w0 w:World}{N:Nat}{ob:Nat→Option Obj}{lc:LM}(m:MR E F h w0 w)(hF:F.loc=noL)(hg:aC≤N)(hob:∀b,N≤b→ob b=none)(hob2:∀b,b<N→ob b=h.ob b)
  (href:∀b o p,b<N→h.ob b=some o→E.ob b=some p→iD N o):MR (E.cut N) F ⟨N,ob,lc⟩ w0 w:=by
 have key:∀b o,ob b=some o→b<N∧h.ob b=some o:=by
  intro b o hb
  rcases Nat.lt_or_ge b N with g|g
  ·exact⟨g,by rw[←hob2 b g];exact hb⟩
  ·rw[hob b g]at hb;cases hb
 have ke:∀b p,(E.cut N).ob b=some p→b<N∧E.ob b=some p:=by
  intro b p hb
  simp only[Env.cut]at hb
  split at hb
  ·rename_i g;exact⟨g,hb⟩
  ·cases hb
 have kt:∀b n p,(E.cut N).tk b n=some p→b<N∧E.tk b n=some p:=by
  intro b n p hb
  simp only[Env.cut]at hb
  split at hb
  ·rename_i g;exact⟨g,hb⟩
  ·cases hb
 refine⟨m.below,fun b hb=>⟨by simp only[Env.cut];rw[if_neg (by have:N≤b:=hb;omega)],hob b hb,fun n=>by simp only[Env.cut];rw[if_neg (by have:N≤b:=hb;omega)]⟩,hg,fun b o hb ho=>m.glb b o hb (key b o ho).2,fun b p hb hp=>m.gbl b p hb (ke b p hp).2,
  m.lto,fun b o p ho hp=>?_,fun b o p hb ho hp=>m.oOb b o p hb (key b o ho).2 (ke b p hp).2,m.fz,m.oFz,fun b n p ho hp=>m.tok b n p (key b _ ho).2 (kt b n p hp).2,fun b n k ho hk=>?_,fun b n ho=>?_,fun d p hp=>(by rw[hF]at hp;cases hp),m.prot⟩
 ·obtain⟨a,a'⟩:=key b o ho
  obtain⟨_,c⟩:=ke b p hp
  exact href b o p a a' c E p w (m.obj b o p a' c)
 ·have:=m.tokn b n k (key b _ ho).2 hk
  simp only[Env.cut]
  split
  ·exact this
  ·rfl
 ·have:=m.toko b n (key b _ ho).2
  simp only[Env.cut]
  split
  ·exact this
  ·rfl
end Go.VM
end
section
/- The machine of values: leaving a function; calls, by what their bodies do. -/
namespace Go.VM
open Go.RowKit
variable{P:Program}{gl:List Nat}
def rU(P:Program)(h:H)(tm:TM):List ResultVar→Option (List V)
 |[]=>some []
 |.tmp t::rs=>match tg tm t,rU P h tm rs with
  |some (.v v),some l=>some (v::l)
  |_,_=>none
 |.cell a t::rs=>match tg tm a,uL P t,rU P h tm rs with
  |some av,some n,some l=>(ldA h av n).map (· ::l)
  |_,_,_=>none
def aDu:List V→V
 |[v]=>v
 |vs=>.tup vs
theorem rJ{E:Env}{F:Fx}{h:H}{w0 w:World}{nt:Nat}{tm:TM}{tmps:Array Value}(m:MR E F h w0 w)(r:TR E F.loc nt tm tmps):∀{rs:List ResultVar} {vs:List V},rU P h tm rs=some vs→
  ∃vs':List Value,(rs.mapM (m:=Sem) (aSy tmps)).run P w=.ok vs' w∧ARs E vs vs'
 |[],vs,hv=>by simp[rU]at hv;subst hv;exact⟨[],rfl,.nil⟩
 |.tmp t::rs,vs,hv=>by
  simp only[rU]at hv
  split at hv
  ·rename_i v l ht hl
   cases hv
   obtain⟨v',a1,a2⟩:=r.2 t _ ht
   have a2:=bJh a2
   obtain⟨l',b1,b2⟩:=rJ m r hl
   refine⟨v'::l',?_,.cons _ _ _ _ a2 b2⟩
   rw[List.mapM_cons]
   have hg:tmps.getD t undef=v':=by simp[Array.getD_eq_getD_getElem?,a1]
   simp only[Sem.run_bind,aUf,hg,Sem.run_pure,Result.andThen_ok,b1]
  ·cases hv
 |.cell a t::rs,vs,hv=>by
  simp only[rU]at hv
  split at hv
  ·rename_i av n l ht hn hl
   simp only[Option.map_eq_some_iff]at hv
   obtain⟨v,hv1,rfl⟩:=hv
   obtain⟨a',a1,a2⟩:=r.2 a _ ht
   obtain⟨l',b1,b2⟩:=rJ m r hl
   obtain⟨v',c1,c2⟩:=aBr m a2 hn hv1
   have hA:∃A,a'=.pointer (some A):=by
    cases a2 with
    |v x _ rx=>
     cases rx with
     |ptr b o p e=>exact⟨_,rfl⟩
     |_=>simp[ldA]at hv1
    |l d o p e=>exact⟨_,rfl⟩
    |e cs blk off e=>exact⟨_,rfl⟩
   obtain⟨A,rfl⟩:=hA
   have hget:tmps.getD a undef=.pointer (some A):=by simp[Array.getD_eq_getD_getElem?,a1]
   have c1':(loadVar t A).run P w=.ok v' w:=by simpa [Instr.loadAt,Instr.sureAddr] using c1
   refine⟨v'::l',?_,.cons _ _ _ _ c2 b2⟩
   rw[List.mapM_cons]
   simp only[Sem.run_bind,aRk hget,c1',Sem.run_pure,Result.andThen_ok,b1]
  ·cases hv
theorem aAm{E:Env}{F:Fx}{h:H}{w0 w:World}{nt:Nat}{tm:TM}{tmps:Array Value}(m:MR E F h w0 w)(r:TR E F.loc nt tm tmps){fn:Func}{vs:List V}(hv:rU P h tm fn.results.toList=some vs):
  ∃v',(results fn tmps).run P w=.ok v' w∧AR E (aDu vs) v':=by
 obtain⟨vs',h1,h2⟩:=rJ (P:=P) m r hv
 have hm:(fn.results.mapM (m:=Sem) (aSy tmps)).run P w=.ok vs'.toArray w:=by
  rw[Array.mapM_eq_mapM_toList,Sem.run_map,h1];rfl
 have hres:results fn tmps=(do let vs←fn.results.mapM (aSy tmps);pure (if h:vs.size=1 then vs[0]else .tuple vs)):=by
  unfold results
  congr 2
 refine⟨if h:vs'.toArray.size=1 then vs'.toArray[0]else .tuple vs'.toArray,?_,?_⟩
 ·rw[hres]
  simp only[Sem.run_bind,hm,Result.andThen_ok,Sem.run_pure]
 ·cases h2 with
  |nil=>exact AR.tup (E:=E) [] #[] .nil
  |cons v v' l l' hv2 ht=>cases ht with
   |nil=>simpa [aDu] using hv2
   |cons a a' l l' ha hl=>
    have h0:¬((v'::a'::l').toArray.size=1):=by simp
    rw[dif_neg h0]
    exact AR.tup (E:=E) (v::a::l) (v'::a'::l').toArray (.cons _ _ _ _ hv2 (.cons _ _ _ _ ha hl))
def aDr:AMode→AMode
 |.pan (⟨_,true⟩::_)=>.ret
 |m=>m
def aOg:AMode→List PE→AMode
 |.ret,ch=>.pan ch
 |.pan o,ch=>.pan (ch++o)
theorem aCj{E:Env}:∀{ch:List PE} {ch':List PanicEntry},All₂ (PER E) ch ch'→ch'.dropWhile (!·.goexit)=[]
 |_,_,.nil=>rfl
 |_,_,.cons h t=>by cases h;simp[List.dropWhile,aCj t]
theorem aEw{E:Env}{m:AMode}{m':FrameMode}(r:ModeR E m m'):ModeR E (aDr m) (settle m'):=by
 cases r with
 |ret=>exact .ret
 |pan ch ch' h=>
  cases h with
  |nil=>exact .pan [] [] .nil
  |cons h t=>
   cases h with
   |mk v v' b hv=>
    cases b with
    |true=>simp only[settle,aCj t,aDr];exact .ret
    |false=>exact .pan _ _ (.cons (.mk v v' false hv) t)
theorem aEl{E:Env}{m:AMode}{m':FrameMode}{ch:List PE}{ch':List PanicEntry}(r:ModeR E m m')(h:All₂ (PER E) ch ch'):ModeR E (aOg m ch) (raised m' ch'):=by
 cases r with
 |ret=>exact .pan _ _ h
 |pan o o' ho=>exact .pan _ _ (h.append ho)
theorem aBc{E:Env}{m:AMode}{m':FrameMode}(r:ModeR E m m'):m'≠.run:=by cases r<;>simp
theorem SLeave.ret{fn:Func}{tm:TM}{u:Option AMode}{h:H}{vs:List V}{v:V}(hv:rU P h tm fn.results.toList=some vs)(hle:VLe (aDu vs) v):SLeave P gl fn tm [] .ret u h (.ret v) u h:=by
 intro E F w0 w fr cs nt mr g tr dr mo uk hfn hro
 have hd:fr.defers=[]:=by cases hdd:fr.defers with|nil=>rfl|cons a l=>rw[hdd]at dr;cases dr
 have hmm:fr.mode=.returning:=by cases hmm:fr.mode<;>rw[hmm]at mo<;>cases mo
 obtain⟨v',h1,h2⟩:=aAm (P:=P) mr tr hv
 exact⟨E,F,w,cs,fr,Ext.refl _ _,rfl,mr,uk,CS.refl uk,rfl,Steps.refl _ _,rfl,rfl,hro,hd,hmm,fn,v',hfn,h1,hle E v' h2⟩
theorem SLeave.pan{fn:Func}{tm:TM}{u:Option AMode}{h:H}{ch:List PE}:SLeave P gl fn tm [] (.pan ch) u h (.pan ch) u h:=by
 intro E F w0 w fr cs nt mr g tr dr mo uk hfn hro
 have hd:fr.defers=[]:=by cases hdd:fr.defers with|nil=>rfl|cons a l=>rw[hdd]at dr;cases dr
 obtain⟨ch',hmm,hch⟩:∃ch',fr.mode=.panicking ch'∧All₂ (PER E) ch ch':=by
  cases hmm:fr.mode<;>rw[hmm]at mo<;>cases mo
  exact⟨_,rfl,by assumption⟩
 exact⟨E,F,w,cs,fr,Ext.refl _ _,rfl,mr,uk,CS.refl uk,rfl,Steps.refl _ _,rfl,rfl,hro,hd,ch',fn,hmm,hch,hfn⟩
def aZs(m:AMode):AEnd→AMode
 |.ret _=>aDr m
 |.pan ch=>aOg m ch
theorem SLeave.call{fn:Func}{tm:TM}{u u':Option AMode}{h h2 h':H}{f:FuncId}{cap args ws:List V}{ds:List AD}{m m2:AMode}{q r:AEnd}(hw:Weak (args++cap) ws)
  (sc:SCall P gl f ws (some m) h q (some m2) h2) (next:SLeave P gl fn tm ds (aZs m2 q) u h2 r u' h'):SLeave P gl fn tm (.call ⟨.func f,cap,args⟩::ds) m u h r u' h':=by
 intro E F w0 w fr cs nt mr g tr dr mo uk hfn hro
 cases hdd:fr.defers with
 |nil=>rw[hdd]at dr;cases dr
 |cons d0 ds'=>
  rw[hdd]at dr
  cases dr with
  |cons hd0 hds=>
   cases hd0 with
   |call _ _ _ c' a' hc ha=>
    have rargs:ARs E ws (a'++c').toList:=by rw[Array.toList_append];exact hw _ _ (ha.append hc)
    let fr1:Frame:={fr with defers:=ds'}
    have huk:UK E (some m) .deferred (fr1::cs):=⟨rfl,fr1,cs,rfl,mo⟩
    obtain⟨fn1,hfn1,hb1,hname⟩:=sc.fn
    obtain⟨E2,F2,w2,c2,fr2,x2,l2,p2,mr2,uk2,cs2,is2,steps2,b1,b2,b3,b4,lv⟩:=sc.run E (vL F w) w0 w _ .deferred (fr1::cs) rfl mr.enter g rargs huk
    have mX:=mr.exit x2.le p2 sc.lc mr2
    obtain⟨c,rst,mm,e1,e2⟩:=cs2
    cases e1
    subst e2
    obtain⟨_,c3,rst3,e3,mo2⟩:=uk2
    cases e3
    have hinv:(invoke (.fn (.func f) c') a').run P w=.ok (.enter f (a'++c')) w:=by
     simp only[invoke];exact nT hfn1 hb1 hname _ _
    have hst0:=step_defer (P:=P) (cs:=cs) (aBc mo) hdd rfl hinv
    have last:∃mx:FrameMode,ModeR E2 (aZs m2 q) mx∧Steps P (lone fr cs w) (lone {fr1 with mode:=mx} cs w2):=by
     cases q with
     |ret v=>
      obtain⟨hm,fnr,v',hfnr,hres,hav⟩:=lv
      have hgo:fr2.going P w2 (.returned v'):=⟨hm,b4,fnr,hfnr,hres⟩
      have hs2:=step_going_returned (cs:=cs) (c:={fr1 with mode:=mm}) b2 hgo
      exact⟨settle mm,aEw mo2,.head hst0 (steps2.trans (.one hs2))⟩
     |pan ch=>
      obtain⟨ch',fnr,hm,hch,hfnr⟩:=lv
      have hgo:fr2.going P w2 (.panicked ch'):=⟨hm,b4,fnr,hfnr⟩
      have hs2:=step_going_panicked (cs:=cs) (c:={fr1 with mode:=mm}) hgo
      exact⟨raised mm ch',aEl mo2 hch,.head hst0 (steps2.trans (.one hs2))⟩
    obtain⟨mx,hmx,hsteps⟩:=last
    obtain⟨E4,F4,w4,c4,fr4,a1,a0,a2,a3,a4,a5,a6,a7,a8,a9,a10,a11⟩:=next E2 (lG F F2) w0 w2 {fr1 with mode:=mx} cs nt mX (g.mono x2.le) (tr.mono x2.le (fun _ _ e=>e)) (hds.mono fun _ _=>ADR.mono x2.le) hmx (uk.mono x2.le) hfn hro
    exact⟨E4,F4,w4,c4,fr4,x2.trans a1,a0,a2,a3,a4,a5,hsteps.trans a6,a7,a8,a9,a10,a11⟩
def kV:Nat→List V→TM
 |_,[]=>[]
 |i,v::vs=>(i,.v v)::kV (i+1) vs
theorem aIb:∀{vs:List V} {i t:Nat} {v:TV},tg (kV i vs) t=some v→∃u,v=.v u∧i≤t∧vs[t-i]? =some u
 |[],i,t,v,h=>by simp[kV,tg]at h
 |a::vs,i,t,v,h=>by
  simp only[kV]at h
  rw[lW]at h
  split at h
  ·rename_i e;cases h;subst e;exact⟨a,rfl,Nat.le_refl _,by simp⟩
  ·obtain⟨u,h1,h2,h3⟩:=aIb h
   refine⟨u,h1,by omega,?_⟩
   rw[show t-i=(t-(i+1))+1 by omega];simpa using h3
structure Begun(gl:List Nat)(args:List V)(h:H)(E:Env)(F:Fx)(w0 w:World)(args':Array Value):Prop where
 loc:F.loc=noL
 mr:MR E F h w0 w
 gl:GL E gl
 args:ARs E args args'.toList
theorem Begun.bound{args:List V}{h:H}{E:Env}{F:Fx}{w0 w:World}{args':Array Value}(b:Begun gl args h E F w0 w args'):Bound E h.nxt:=fun k hk=>⟨(b.mr.fresh k hk).1,(b.mr.fresh k hk).2.2⟩
theorem SCall.of{f:FuncId}{fn:Func}{body:Code}{args:List V}{u:Option AMode}{h:H}{x:X}{s':S}{md:AMode}{r:AEnd}{u':Option AMode}{h1 h':H}(hfn:P.funcs[f]? =some fn)(hb:fn.body=some body)(hname:(fn.name== "runtime.NumGoroutine")=false)
  (hle:Nat.ble args.length fn.ntmps=true) (hbody:SItem P gl ⟨fn.ntmps,none,f⟩ (.code body) ⟨kV 0 args,[],u,{h with lc:=[]}⟩ x s')
  (hx:((x=.norm∨x=.ret)∧md=.ret)∨∃ch,x=.panic ch∧md=.pan ch) (hlv:SLeave P gl fn s'.tm s'.df md s'.u s'.h r u' h1)
  (hlc:h'.lc=h.lc) (hn:h.nxt≤h'.nxt) (hob:∀b,h'.nxt≤b→h'.ob b=none) (hob2:∀b,b<h'.nxt→h'.ob b=h1.ob b)
  (href:(∃E F w0 w args',Begun gl args h E F w0 w args')→(∀b,b<h'.nxt→(h1.ob b=h.ob b∨∀o,h1.ob b=some o→iD h'.nxt o))∧(match r with|.ret v=>RefLt h'.nxt v|.pan ch=>∀e∈ch,RefLt h'.nxt e.v)∧
   (match u' with|none=>True|some .ret=>True|some (.pan ch)=>∀e∈ch,RefLt h'.nxt e.v)):
  SCall P gl f args u h r u' h':=by
 refine⟨hlc,⟨fn,hfn,by rw[hb];rfl,hname⟩,?_⟩
 intro E F w0 w args' kind cs hF m g ra huk
 have begun:Begun gl args h E F w0 w args':=⟨hF,m,g,ra⟩
 have hle':args.length≤fn.ntmps:=Nat.le_of_ble_eq_true hle
 let b:Frame:={(default:Frame)with fn:=f,kind:=kind}
 have hlen:args'.size=args.length:=by rw[ra.length];simp
 let tmps:=args'++Array.replicate (fn.ntmps-args'.size) undef
 have henter:Frame.enter P f args' kind=mkF b tmps [.code body] []:=by
  simp only[Frame.enter,mkF,hfn,b,tmps]
  simp[hb];rfl
 have hro:b.roundOf=none:=rfl
 have m0:MR E F {h with lc:=[]} w0 w:=m.forget rfl (fun _ _ h=>h) (fun d p cs hp=>by rw[hF]at hp;cases hp)
 have st:StR gl E F ⟨fn.ntmps,none,f⟩ ⟨kV 0 args,[],u,{h with lc:=[]}⟩ b tmps [] cs w0 w:=by
  refine⟨m0,⟨by simp[tmps];omega,fun t v ht=>?_⟩,.nil,?_,⟨rfl,rfl⟩,g⟩
  ·obtain⟨u1,rfl,_,h3⟩:=aIb ht
   obtain⟨v',h4,h5⟩:=ra.get _ _ h3
   have h2':args'[t]? =some v':=by simpa using h4
   have:t<args'.size:=(Array.getElem?_eq_some_iff.1 h2').1
   exact⟨v',by simp only[tmps];rw[Array.getElem?_append_left this];exact h2',.v _ _ h5⟩
  ·cases u with
   |none=>exact huk
   |some mm=>exact huk
 obtain⟨E1,F1,t1,d1,c1,w1,a1,a0,a2,a3,a4,a5⟩:=hbody E F w0 w b tmps [] cs [] st
 have mid:∃fr1:Frame,Steps P (lone (Frame.enter P f args' kind) cs w) (lone fr1 c1 w1)∧ModeR E1 md fr1.mode∧fr1.tmps=t1∧fr1.defers=d1∧fr1.kind=kind∧fr1.fn=f∧fr1.roundOf=none:=by
  rcases hx with⟨hx|hx,rfl⟩|⟨ch,hx,rfl⟩
  ·subst hx;exact⟨_,by rw[henter];exact a5.trans (.one (bBo hro)),.ret,rfl,rfl,rfl,rfl,rfl⟩
  ·subst hx;obtain⟨k',a5⟩:=a5;exact⟨_,by rw[henter];exact a5.trans (.one (bGk hro)),.ret,rfl,rfl,rfl,rfl,rfl⟩
  ·subst hx;obtain⟨todo,ch',hch,a5⟩:=a5;exact⟨_,by rw[henter];exact a5,.pan _ _ hch,rfl,rfl,rfl,rfl,rfl⟩
 obtain⟨fr1,q1,q2,q3,q4,q5,q6,q7⟩:=mid
 obtain⟨E2,F2,w2,c2,fr2,b1,b0,b2,b3,b4,b5,b6,b7,b8,b9,b10,b11⟩:=hlv E1 F1 w0 w1 fr1 c1 fn.ntmps a2.mr a2.gl (by rw[q3];exact a2.tr) (by rw[q4];exact a2.dr) q2 (by rw[q5];exact a2.uk) (by rw[q6];exact hfn) q7
 have x12:Ext E {h with lc:=[]} E2 h1:=a1.trans b1
 have mL:=b2.qH (L:=noL) (fun d p hp=>by cases hp)
 obtain⟨r1,r2,r3⟩:=href ⟨E,F,w0,w,args',begun⟩
 have hB:=begun.bound
 have mC:MR (E2.cut h'.nxt) {F2 with loc:=noL} ⟨h'.nxt,h'.ob,h'.lc⟩ w0 w2:=by
  refine mL.cut rfl (Nat.le_trans m.glo hn) hob hob2 fun k o p hk ho hp=>?_
  rcases r1 k hk with e|e
  ·rw[e]at ho
   have hlt:=m.mH ho
   have:E.ob k=some p:=by rw[←x12.old k hlt];exact hp
   exact ObjR.cut (fun j hj=>hB j (Nat.le_trans hn hj)) (m.obj k o p ho this)
  ·exact e o ho
 have cle:E.le (E2.cut h'.nxt):=by
  refine⟨fun k p hk=>?_,fun B i v hf=>x12.le.fz B i v hf,fun k n p hk=>?_⟩
  ·exact gQ (x12.le.ob k p hk) (Nat.lt_of_lt_of_le (hB.lt hk) hn)
  ·exact zI (x12.le.tk k n p hk) (Nat.lt_of_lt_of_le (hB.ltk hk) hn)
 have xC:Ext E h (E2.cut h'.nxt) h':=by
  refine⟨cle,fun k hk=>?_,hn,fun k o hk he ho hnt=>?_⟩
  ·simp only[Env.cut];rw[if_pos (by omega)];exact x12.old k hk
  ·rw[hob2 k (by omega)];exact x12.ghost k o hk he ho hnt
 have pers:∀{l:List PE} {l':List PanicEntry},(∀e∈l,RefLt h'.nxt e.v)→All₂ (PER E2) l l'→All₂ (PER (E2.cut h'.nxt)) l l':=by
  intro l l' hl hall
  induction hall with
  |nil=>exact .nil
  | @cons a bb l m ha ht ih=>
   refine .cons ?_ (ih (fun e he=>hl e (List.mem_cons_of_mem _ he)))
   cases ha with
   |mk v v' rr hv=>exact .mk v v' rr (hl _ (List.mem_cons_self ..) _ _ hv)
 have ukC:UK (E2.cut h'.nxt) u' kind c2:=by
  rw[q5]at b3
  cases u' with
  |none=>exact b3
  |some mm=>
   obtain⟨z1,c,rest,z2,z3⟩:=b3
   refine⟨z1,c,rest,z2,?_⟩
   cases mm with
   |ret=>cases hcm:c.mode<;>rw[hcm]at z3<;>cases z3;exact .ret
   |pan ch=>
    cases hcm:c.mode<;>rw[hcm]at z3<;>cases z3
    exact .pan _ _ (pers r3 (by assumption))
 refine⟨E2.cut h'.nxt,{F2 with loc:=noL},w2,c2,fr2,xC,rfl,b0.trans a0,mC,ukC,CS.trans a3 b4 a4,b5.trans a4,q1.trans b6,b7.trans q6,b8.trans q5,b9,b10,?_⟩
 cases r with
 |ret v=>
  obtain⟨z1,fnr,v',z2,z3,z4⟩:=b11
  exact⟨z1,fnr,v',z2,z3,r2 _ _ z4⟩
 |pan ch=>
  obtain⟨ch',fnr,z1,z2,z3⟩:=b11
  exact⟨ch',fnr,z1,pers r2 z2,z3⟩
def Ret(P:Program)(fn:Func)(args:List V)(gl:List Nat)(h:H)(v:V)(h':H)(s':S):Prop:=
 s'.df=[]∧s'.u=none∧(∃vs,rU P s'.h s'.tm fn.results.toList=some vs∧VLe (aDu vs) v)∧(∀b,b<h'.nxt→h'.ob b=s'.h.ob b)∧
  ((∃E F w0 w args',Begun gl args h E F w0 w args')→(∀b,b<h'.nxt→(s'.h.ob b=h.ob b∨∀o,s'.h.ob b=some o→iD h'.nxt o))∧RefLt h'.nxt v)
def aAc(Q:S→Prop):X→S→Prop
 |.ret,s=>Q s
 |_,_=>False
theorem SCall.ret{f:FuncId}{fn:Func}{body:Code}{args:List V}{h h':H}{v:V}(hfn:P.funcs[f]? =some fn)(hb:fn.body=some body)(hname:(fn.name== "runtime.NumGoroutine")=false)
  (hle:Nat.ble args.length fn.ntmps=true) (hlc:h'.lc=h.lc) (hn:h.nxt≤h'.nxt) (hob:∀b,h'.nxt≤b→h'.ob b=none)
  (hw:WC P gl ⟨fn.ntmps,none,f⟩ body ⟨kV 0 args,[],none,{h with lc:=[]}⟩ (Ret P fn args gl h v h') (aAc (Ret P fn args gl h v h'))):SCall P gl f args none h (.ret v) none h':=by
 have fin:∀(x:X) (s':S),SItem P gl ⟨fn.ntmps,none,f⟩ (.code body) ⟨kV 0 args,[],none,{h with lc:=[]}⟩ x s'→(x=.norm∨x=.ret)→Ret P fn args gl h v h' s'→SCall P gl f args none h (.ret v) none h':=by
  intro x s' hi hx hr
  obtain⟨h1,h2,⟨vs,h3,h4⟩,h5,h6⟩:=hr
  refine SCall.of (h1:=s'.h) (md:=.ret) (u':=none) hfn hb hname hle hi (.inl ⟨hx,rfl⟩) ?_ hlc hn hob h5 (fun hbg=>⟨(h6 hbg).1,(h6 hbg).2,trivial⟩)
  rw[h1,h2]
  exact SLeave.ret h3 h4
 rcases hw with⟨s',a,b⟩|⟨x,s',hx,a,b⟩
 ·exact fin _ s' a (.inl rfl) b
 ·cases x with
  |norm=>exact absurd rfl hx
  |ret=>exact fin _ s' a (.inr rfl) b
  |exit i=>exact b.elim
  |panic ch=>exact b.elim
theorem SCall.known{f:FuncId}{args:List V}{u u':Option AMode}{h h':H}{r:AEnd}(hlc:h'.lc=h.lc)(hfn:∃fn,P.funcs[f]? =some fn∧fn.body.isSome=true∧(fn.name== "runtime.NumGoroutine")=false)
  (k:(∃E F w0 w args',Begun gl args h E F w0 w args')→SCall P gl f args u h r u' h'):SCall P gl f args u h r u' h':=
 ⟨hlc,hfn,fun E F w0 w args' kind cs hF m g ra huk=>(k ⟨E,F,w0,w,args',hF,m,g,ra⟩).run E F w0 w args' kind cs hF m g ra huk⟩
def bGr(P:Program)(fn:Func)(h:H)(v:V)(s':S):Prop:=
 s'.df=[]∧s'.u=none∧(∃vs,rU P s'.h s'.tm fn.results.toList=some vs∧VLe (aDu vs) v)∧(∀b,b<h.nxt→s'.h.ob b=h.ob b)∧RefLt h.nxt v
theorem SCall.pure{f:FuncId}{fn:Func}{body:Code}{args:List V}{h:H}{v:V}(hfn:P.funcs[f]? =some fn)(hb:fn.body=some body)(hname:(fn.name== "runtime.NumGoroutine")=false)
  (hle:Nat.ble args.length fn.ntmps=true)
  (hw:(∃E F w0 w args',Begun gl args h E F w0 w args')→WC P gl ⟨fn.ntmps,none,f⟩ body ⟨kV 0 args,[],none,{h with lc:=[]}⟩ (bGr P fn h v) (aAc (bGr P fn h v))):SCall P gl f args none h (.ret v) none h:=by
 refine SCall.known rfl ⟨fn,hfn,by rw[hb];rfl,hname⟩ fun bg=>?_
 obtain⟨E,F,w0,w,args',begun⟩:=bg
 have up:∀s',bGr P fn h v s'→Ret P fn args gl h v h s':=by
  intro s' ⟨a,b,c,d,e⟩
  exact⟨a,b,c,fun k hk=>(d k hk).symm,fun _=>⟨fun k hk=>.inl (d k hk),e⟩⟩
 refine SCall.ret hfn hb hname hle rfl (Nat.le_refl _) (fun b hb=>(begun.mr.fresh b hb).2.1) ((hw ⟨E,F,w0,w,args',begun⟩).mono up fun x s' hx=>?_)
 cases x with
 |ret=>exact up s' hx
 |_=>exact hx.elim
theorem SCall.weak{f:FuncId}{args:List V}{u u':Option AMode}{h h':H}{v v':V}(s:SCall P gl f args u h (.ret v) u' h')(hv:VLe v v'):SCall P gl f args u h (.ret v') u' h':=by
 refine⟨s.lc,s.fn,fun E F w0 w args' kind cs hF m g ra huk=>?_⟩
 obtain⟨E',F',w',cs',fr',a1,a2,a3,a4,a5,a6,a7,a8,a9,a10,a11,a12,z1,fnr,x,z2,z3,z4⟩:=s.run E F w0 w args' kind cs hF m g ra huk
 exact⟨E',F',w',cs',fr',a1,a2,a3,a4,a5,a6,a7,a8,a9,a10,a11,a12,z1,fnr,x,z2,z3,hv E' x z4⟩
theorem SCall.args{f:FuncId}{args args2:List V}{u u':Option AMode}{h h':H}{r:AEnd}(s:SCall P gl f args u h r u' h')(hw:Weak args2 args):SCall P gl f args2 u h r u' h':=
 ⟨s.lc,s.fn,fun E F w0 w args' kind cs hF m g ra huk=>s.run E F w0 w args' kind cs hF m g (hw _ _ ra) huk⟩
end Go.VM
end
section
/- The machine of values: code with all that hangs on types told. -/
namespace Go.VM
open Go.RowKit
structure RI where
 i:Nat
 anc:Nat
 ro:Option RO
 rd:List Nat
 dst:Option Nat
 gd:Option (Nat×Bool)
inductive RC where
 |skip
 |seq (a b:RC)
 |cond (x:RX) (a b:RC)
 |block (id:Nat) (a:RC)
 |scope (a:RC)
 |loop (a:RC)
 |exit (id:Nat)
 |ret
 |reg (os:List RI)
 |aP (ph:List RI) (hs:List (RI×List RI)) (ds:List Nat)
 |rng (x:RX) (ps:List Nat) (as bd:RC)
def aQo(ops:Array Oper)(o:Oper):Option (Option (Nat×Bool)):=
 match o.guard with
 |none=>some none
 |some (j,w)=>match(ops[j]?).bind (·.dst)with
  |some d=>some (some (d,w))
  |none=>none
def aV:Option (Nat×Bool)→TM→Option Bool
 |none,_=>some true
 |some (d,w),tm=>match tg tm d with
  |some (.v (.bool b))=>some (b==w)
  |some _=>some false
  |none=>none
theorem tD{ops:Array Oper}{o:Oper}{g:Option (Nat×Bool)}(h:aQo ops o=some g)(tm:TM):bS ops o tm=aV g tm:=by
 unfold aQo at h
 unfold bS
 split at h
 ·rename_i e;cases h;rw[e];rfl
 ·rename_i j w e
  rw[e]
  split at h
  ·rename_i d hd;cases h;simp only[hd,aV];rfl
  ·cases h
def bBi(P:Program)(ops:Array Oper)(it:It):Option RI:=
 match aQo ops it.o with
 |some g=>some ⟨it.i,it.anc,rop P it.o,tmpsOf ops it.o,it.o.dst,g⟩
 |none=>none
def zB(P:Program)(ops:Array Oper):List It→Option (List RI)
 |[]=>some []
 |it::its=>match bBi P ops it,zB P ops its with
  |some r,some rs=>some (r::rs)
  |_,_=>none
def bGm(P:Program)(ops:Array Oper)(o:Oper):Option RI:=
 match aQo ops o with
 |some g=>some ⟨0,0,rop P o,[],o.dst,g⟩
 |none=>none
def aBs(P:Program)(ops:Array Oper):List Oper→Option (List RI)
 |[]=>some []
 |o::os=>match bGm P ops o,aBs P ops os with
  |some r,some rs=>some (r::rs)
  |_,_=>none
def pI(P:Program)(ops:Array Oper):List (It×List It)→Option (List (RI×List RI))
 |[]=>some []
 |(it,l)::hs=>match bBi P ops it,zB P ops l,pI P ops hs with
  |some r,some rs,some q=>some ((r,rs)::q)
  |_,_,_=>none
def jC(its:List It)(k:Nat):List It:=its.filter fun it=>Nat.blt it.c 3&&Nat.beq it.lo k
def gY(its:List It):List It→Nat→List (It×List It)
 |[],_=>[]
 |h::hs,k=>(h,jC its k)::gY its hs (k+1)
def aLb:List It→Nat→Option Nat
 |[],m=>some m
 |it::l,m=>match Nat.beq (it.anc&&&m) it.anc&&!m.testBit it.i&&Nat.blt it.c 3 with
  |true=>aLb l (m|||2^it.i)
  |false=>none
def yN(its:List It):List (It×List It)→Nat→Option Nat
 |[],m=>some m
 |(it,l)::hs,m=>match Nat.beq (it.anc&&&m) it.anc&&!m.testBit it.i&&(its.all fun x=>Nat.ble 3 x.c||m.testBit x.i||x.anc.testBit it.i)with
  |true=>match aLb l (m|||2^it.i)with
   |some m2=>yN its hs m2
   |none=>none
  |false=>none
def bEo(n:Nat)(its:List It):Bool:=
 match aLb (jC its 0) 0 with
 |some m=>match yN its (gY its (its.filter fun it=>Nat.ble 3 it.c) 1) m with
  |some m2=>Nat.beq m2 (2^n-1)
  |none=>false
 |none=>false
def dstsOf:List It→List Nat
 |[]=>[]
 |it::its=>match it.o.dst with
  |some d=>d::dstsOf its
  |none=>dstsOf its
def aRs(P:Program)(ops:Array Oper)(its:List It):Option RC:=
 match aVs P ops its&&bEo ops.size its with
 |true=>match zB P ops (jC its 0),pI P ops (gY its (its.filter fun it=>Nat.ble 3 it.c) 1)with
  |some a,some b=>some (.aP a b (dstsOf its))
  |_,_=>none
 |false=>none
def aE(P:Program):Code→Option RC
 |.skip=>some .skip
 |.label _=>some .skip
 |.seq a b=>match aE P a,aE P b with
  |some a,some b=>some (.seq a b)
  |_,_=>none
 |.cond x a b=>match rx x,aE P a,aE P b with
  |some x,some a,some b=>some (.cond x a b)
  |_,_,_=>none
 |.block id a=>(aE P a).map (.block id)
 |.scope a=>(aE P a).map .scope
 |.loop a=>(aE P a).map .loop
 |.exit id=>some (.exit id)
 |.ret=>some .ret
 |.region _ ops false=>(aBs P ops ops.toList).map .reg
 |.region _ ops true=>aRs P ops (items P ops.toList)
 |.rangeFunc f ps as bd=>match rx f,aE P as,aE P bd with
  |some x,some a,some b=>some (.rng x ps.toList a b)
  |_,_,_=>none
 |_=>none
section
variable(P:Program)(gl:List Nat)
def cG(nt:Nat)(tm:TM)(h:H)(ro:Option RO)(tv:TV):Prop:=∀o,rop P o=ro→Light P gl nt tm h o tv
def uB(nt:Nat)(tm:TM)(ro:Option RO)(b:Nat)(ob:Obj)(v:V):Prop:=(∀o,rop P o=ro→AllocO P gl nt tm o b ob v)∧∀n,ob≠.tok n
def tR(nt:Nat)(tm:TM)(ro:Option RO)(v:V):Prop:=∀o,rop P o=ro→AllocF P gl nt tm o v
def aPj(nt:Nat)(tm:TM)(ro:Option RO)(cs:List V):Prop:=∀o,rop P o=ro→aJx P gl nt tm o cs∧∀c,o.op≠.defer c
def sN(fr:Fr)(ro:Option RO)(s:S)(r:OR):Prop:=∀o,rop P o=ro→OpR P gl fr o s r
def DoesR(nt:Nat)(tm:TM)(h:H)(ro:Option RO)(tv:TV)(h':H):Prop:=∀o,rop P o=ro→Does P gl nt tm h o tv h'∧∀c,o.op≠.defer c
structure ER where
 i:Nat
 ro:Option RO
 tmr:TM
 v:TV
 h:H
inductive PhR(nt:Nat):List RI→H→TM→List ER→H→TM→List ER→Prop where
 |nil {h:H} {tm:TM} {es:List ER}:PhR nt [] h tm es h tm es
 |skip {r:RI} {l:List RI} {h h2:H} {tm tm1 tm2:TM} {es es2:List ER} (hw:aV r.gd (aF tm r.rd)=some false) (hp:bB nt tm r.dst (.v bG)=some tm1) (next:PhR nt l h tm1 es h2 tm2 es2):PhR nt (r::l) h tm es h2 tm2 es2
 |pure {r:RI} {l:List RI} {h h2:H} {tm tm1 tm2:TM} {es es2:List ER} {v:TV} (hw:aV r.gd (aF tm r.rd)=some true) (hl:∀h,cG P gl nt (aF tm r.rd) h r.ro v) (hp:bB nt tm r.dst v=some tm1) (next:PhR nt l h tm1 es h2 tm2 es2):PhR nt (r::l) h tm es h2 tm2 es2
 |fZ {r:RI} {l:List RI} {h h2:H} {tm tm1 tm2:TM} {es es2:List ER} {v:TV} (hw:aV r.gd (aF tm r.rd)=some true) (hl:cG P gl nt (aF tm r.rd) h r.ro v) (hp:bB nt tm r.dst v=some tm1)
   (next:PhR nt l h tm1 (⟨r.i,r.ro,aF tm r.rd,v,h⟩::es) h2 tm2 es2):PhR nt (r::l) h tm es h2 tm2 es2
 |obj {r:RI} {l:List RI} {h h2:H} {tm tm1 tm2:TM} {es es2:List ER} {v:V} {ob:Obj} (hw:aV r.gd (aF tm r.rd)=some true) (hl:uB P gl nt (aF tm r.rd) r.ro h.nxt ob v) (hp:bB nt tm r.dst (.v v)=some tm1)
   (next:PhR nt l (h.new ob) tm1 es h2 tm2 es2):PhR nt (r::l) h tm es h2 tm2 es2
 |list {r:RI} {l:List RI} {h h2:H} {tm tm1 tm2:TM} {es es2:List ER} {v:V} (hw:aV r.gd (aF tm r.rd)=some true) (hl:tR P gl nt (aF tm r.rd) r.ro v) (hp:bB nt tm r.dst (.v v)=some tm1)
   (next:PhR nt l h tm1 es h2 tm2 es2):PhR nt (r::l) h tm es h2 tm2 es2
inductive PendR(nt:Nat)(h:H)(anc:Nat):List ER→Prop where
 |nil:PendR nt h anc []
 |pass {e:ER} {es:List ER} (hp:anc.testBit e.i=true) (next:PendR nt h anc es):PendR nt h anc (e::es)
 |same {e:ER} {es:List ER} (hp:e.h=h) (next:PendR nt h anc es):PendR nt h anc (e::es)
 |fZ {e:ER} {es:List ER} (hl:cG P gl nt e.tmr h e.ro e.v) (next:PendR nt h anc es):PendR nt h anc (e::es)
def mA(tm:TM):List Nat→TM
 |[]=>tm
 |d::ds=>mA (bFr tm d) ds
inductive DrR(fr:Fr)(ds:List Nat)(x:X)(s':S):List (RI×List RI)→S→List ER→Prop where
 |fin {s:S} {es:List ER} (hx:x=.norm) (hs:s'=s):DrR fr ds x s' [] s es
 |skip {r:RI} {l:List RI} {hs:List (RI×List RI)} {s:S} {h2:H} {tm1 tm2:TM} {es es2:List ER} (hw:aV r.gd (aF s.tm r.rd)=some false) (hp:bB fr.nt s.tm r.dst (.v bG)=some tm1)
   (ph:PhR P gl fr.nt l s.h tm1 es h2 tm2 es2) (pd:PendR P gl fr.nt h2 r.anc es2) (next:DrR fr ds x s' hs {s with tm:=tm2,h:=h2} es2):DrR fr ds x s' ((r,l)::hs) s es
 |go {r:RI} {l:List RI} {hs:List (RI×List RI)} {s s2:S} {v:TV} {h2:H} {tm1 tm2:TM} {es es2:List ER} (hw:aV r.gd (aF s.tm r.rd)=some true) (hop:sN P gl fr r.ro {s with tm:=aF s.tm r.rd} (.val v s2))
   (hp:bB fr.nt s.tm r.dst v=some tm1) (ph:PhR P gl fr.nt l s2.h tm1 es h2 tm2 es2) (pd:PendR P gl fr.nt h2 r.anc es2) (next:DrR fr ds x s' hs {s2 with tm:=tm2,h:=h2} es2):DrR fr ds x s' ((r,l)::hs) s es
 |stop {r:RI} {l:List RI} {hs:List (RI×List RI)} {s s2:S} {ch:List PE} {es:List ER} (hw:aV r.gd (aF s.tm r.rd)=some true) (hop:sN P gl fr r.ro {s with tm:=aF s.tm r.rd} (.pan ch s2))
   (hx:x=.panic ch) (hse:s'={s2 with tm:=mA s.tm ds}):DrR fr ds x s' ((r,l)::hs) s es
inductive SqR(fr:Fr)(x:X)(s':S):List RI→S→Prop where
 |nil {s:S} (hx:x=.norm) (hs:s'=s):SqR fr x s' [] s
 |skip {r:RI} {l:List RI} {s:S} {tm:TM} (hw:aV r.gd s.tm=some false) (hp:bB fr.nt s.tm r.dst (.v bG)=some tm) (next:SqR fr x s' l {s with tm}):SqR fr x s' (r::l) s
 |op {r:RI} {l:List RI} {s s2:S} {v:TV} {tm:TM} (hw:aV r.gd s.tm=some true) (ho:sN P gl fr r.ro s (.val v s2)) (hp:bB fr.nt s2.tm r.dst v=some tm) (next:SqR fr x s' l {s2 with tm}):SqR fr x s' (r::l) s
 |loc {r:RI} {l:List RI} {s:S} {cs:List V} {d:Nat} (hw:aV r.gd s.tm=some true) (ha:aPj P gl fr.nt s.tm r.ro cs) (hd:r.dst=some d) (hn:Nat.blt d fr.nt=true)
   {s2:S} (hsw:SW gl fr {s with tm:=(d,.l d 0)::tpg s.tm d,h:={s.h with lc:=(d,cs)::s.h.lc}} s2) (next:SqR fr x s' l s2):SqR fr x s' (r::l) s
 |stop {r:RI} {l:List RI} {s:S} {ch:List PE} (hw:aV r.gd s.tm=some true) (ho:sN P gl fr r.ro s (.pan ch s')) (hx:x=.panic ch):SqR fr x s' (r::l) s
end
section
variable{P:Program}{gl:List Nat}
theorem aTi{ops:Array Oper}{o:Oper}{r:RI}(h:bGm P ops o=some r):rop P o=r.ro∧o.dst=r.dst∧aQo ops o=some r.gd:=by
 unfold bGm at h
 split at h
 ·rename_i g hg;cases h;exact⟨rfl,rfl,hg⟩
 ·cases h
theorem uN{ops:Array Oper}{it:It}{r:RI}(h:bBi P ops it=some r):r.i=it.i∧r.anc=it.anc∧rop P it.o=r.ro∧r.rd=tmpsOf ops it.o∧it.o.dst=r.dst∧aQo ops it.o=some r.gd:=by
 unfold bBi at h
 split at h
 ·rename_i g hg;cases h;exact⟨rfl,rfl,rfl,rfl,rfl,hg⟩
 ·cases h
theorem qW{fr:Fr}{ops:Array Oper}{x:X}{s':S}:∀{os:List Oper} {rs:List RI} {s:S},aBs P ops os=some rs→SqR P gl fr x s' rs s→Sq P gl fr ops x s' os s
 |[],rs,s,hr,h=>by
  simp only[aBs]at hr;cases hr
  cases h with|nil hx hs=>exact .nil hx hs
 |o::os,rs,s,hr,h=>by
  simp only[aBs]at hr
  split at hr
  ·rename_i r rs' h1 h2
   cases hr
   obtain⟨e1,e2,e3⟩:=aTi h1
   have ew:=tD e3 s.tm
   cases h with
   |skip hw hp next=>exact .skip (ew.trans hw) (by rw[e2];exact hp) (qW h2 next)
   |op hw ho hp next=>exact .op (ew.trans hw) (ho o e1) (by rw[e2];exact hp) (qW h2 next)
   |loc hw ha hd hn hsw next=>exact .loc (ew.trans hw) (ha o e1).1 (by rw[e2];exact hd) (ha o e1).2 hn hsw (qW h2 next)
   |stop hw ho hx=>exact .stop (ew.trans hw) (ho o e1) hx
  ·cases hr
structure DSim(P:Program)(gl:List Nat)(nt:Nat)(d:DS)(s:S)(m:Nat)(es:List ER):Prop where
 s:d.s=s
 m:d.mask=m
 ev:∀e∈d.evs,e.k=1→(∀h,Light P gl nt e.tmr h e.it.o e.v)∨∃r∈es,r.i=e.it.i∧rop P e.it.o=r.ro∧e.tmr=r.tmr∧e.v=r.v
 ok:∀r∈es,cG P gl nt r.tmr r.h r.ro r.v
theorem uV{it:It}{d:DS}{m:Nat}(hm:d.mask=m)(h:(Nat.beq (it.anc&&&m) it.anc&&!m.testBit it.i)=true):dJ d it=true:=by
 subst hm;exact h
theorem DS.add_eq{fr:Fr}{d:DS}{it:It}{tmr:TM}{k:Nat}{v:TV}{s:S}{tm:TM}(h:bB fr.nt d.s.tm it.o.dst v=some tm):
  d.add fr it tmr k v s=some {s:={s with tm},evs:=⟨it,tmr,k,v,d.s.h.nxt⟩::d.evs,mask:=d.mask|||2^it.i}:=by
 unfold DS.add;rw[h]
theorem fA{fr:Fr}{ops:Array Oper}{its:List It}:∀{l:List It} {rs:List RI} {d:DS} {s:S} {m m2:Nat} {es es2:List ER} {h2:H} {tm2:TM},(∀it∈l,it∈its)→zB P ops l=some rs→aLb l m=some m2→
  PhR P gl fr.nt rs s.h s.tm es h2 tm2 es2→DSim P gl fr.nt d s m es→∃d',Ph P gl fr ops its d d'∧DSim P gl fr.nt d' {s with tm:=tm2,h:=h2} m2 es2
 |[],rs,d,s,m,m2,es,es2,h2,tm2,hl,hr,hs,hp,hd=>by
  simp only[zB]at hr;cases hr
  simp only[aLb]at hs;cases hs
  cases hp with|nil=>exact⟨d,.nil d,hd⟩
 |it::l,rs,d,s,m,m2,es,es2,h2,tm2,hl,hr,hs,hp,hd=>by
  simp only[zB]at hr
  split at hr
  ·rename_i r rs' h1 hrs
   cases hr
   obtain⟨e0,e00,e1,e4,e2,e3⟩:=uN h1
   simp only[aLb]at hs
   split at hs
   ·rename_i hq
    simp only[Bool.and_eq_true]at hq
    obtain⟨⟨q1,q2⟩,hc⟩:=hq
    have hit:=hl it (List.mem_cons_self ..)
    have hl':=fun x hx=>hl x (List.mem_cons_of_mem it hx)
    have ht:dJ d it=true:=uV hd.m (by simp only[Bool.and_eq_true];exact⟨q1,q2⟩)
    have ew:bS ops it.o (aF d.s.tm (tmpsOf ops it.o))=aV r.gd (aF s.tm r.rd):=by rw[tD e3,hd.s,e4]
    have et:aF d.s.tm (tmpsOf ops it.o)=aF s.tm r.rd:=by rw[hd.s,e4]
    have mkA:∀(k:Nat) (v:TV) (s1:S) (tm1:TM),bB fr.nt s.tm r.dst v=some tm1→(k≠1∨∀h,Light P gl fr.nt (aF s.tm r.rd) h it.o v)→
      ∃d1,d.add fr it (aF d.s.tm (tmpsOf ops it.o)) k v s1=some d1∧DSim P gl fr.nt d1 {s1 with tm:=tm1} (m|||2^it.i) es:=by
     intro k v s1 tm1 hput hk
     refine⟨_,DS.add_eq (tm:=tm1) (by rw[hd.s,e2];exact hput),rfl,by rw[←hd.m],fun e he hk1=>?_,hd.ok⟩
     cases he with
     |head=>
      rcases hk with hk|hk
      ·exact absurd hk1 hk
      ·left;rw[et];exact hk
     |tail _ he=>exact hd.ev e he hk1
    have mkB:∀(v:TV) (s1:S) (tm1:TM),bB fr.nt s.tm r.dst v=some tm1→cG P gl fr.nt (aF s.tm r.rd) s.h r.ro v→
      ∃d1,d.add fr it (aF d.s.tm (tmpsOf ops it.o)) 1 v s1=some d1∧DSim P gl fr.nt d1 {s1 with tm:=tm1} (m|||2^it.i) (⟨r.i,r.ro,aF s.tm r.rd,v,s.h⟩::es):=by
     intro v s1 tm1 hput hk
     refine⟨_,DS.add_eq (tm:=tm1) (by rw[hd.s,e2];exact hput),rfl,by rw[←hd.m],fun e he hk1=>?_,fun q hq=>?_⟩
     ·cases he with
      |head=>exact .inr ⟨_,List.mem_cons_self ..,e0,e1,et,rfl⟩
      |tail _ he=>
       rcases hd.ev e he hk1 with g|⟨q,g1,g2⟩
       ·exact .inl g
       ·exact .inr ⟨q,List.mem_cons_of_mem _ g1,g2⟩
     ·cases hq with
      |head=>exact hk
      |tail _ hq=>exact hd.ok q hq
    cases hp with
    | @skip _ _ _ _ _ tm1 _ _ _ hw hput next=>
     obtain⟨d1,a1,a2⟩:=mkA 0 (.v bG) s tm1 hput (.inl (by omega))
     obtain⟨d',b1,b2⟩:=fA (s:={s with tm:=tm1}) hl' hrs hs next a2
     exact⟨d',.skip it hit hc ht (ew.trans hw) (by rw[hd.s]at a1⊢;exact a1) b1,b2⟩
    | @pure _ _ _ _ _ tm1 _ _ _ v hw hlt hput next=>
     obtain⟨d1,a1,a2⟩:=mkA 1 v s tm1 hput (.inr fun h=>hlt h it.o e1)
     obtain⟨d',b1,b2⟩:=fA (s:={s with tm:=tm1}) hl' hrs hs next a2
     exact⟨d',.fZ it hit hc ht (ew.trans hw) (by rw[et];exact hlt d.s.h it.o e1) (by rw[hd.s]at a1⊢;exact a1) b1,b2⟩
    | @fZ _ _ _ _ _ tm1 _ _ _ v hw hlt hput next=>
     obtain⟨d1,a1,a2⟩:=mkB v s tm1 hput hlt
     obtain⟨d',b1,b2⟩:=fA (s:={s with tm:=tm1}) hl' hrs hs next a2
     exact⟨d',.fZ it hit hc ht (ew.trans hw) (by rw[et,hd.s];exact hlt it.o e1) (by rw[hd.s]at a1⊢;exact a1) b1,b2⟩
    | @obj _ _ _ _ _ tm1 _ _ _ v ob hw hlt hput next=>
     obtain⟨d1,a1,a2⟩:=mkA 2 (.v v) {s with h:=s.h.new ob} tm1 hput (.inl (by omega))
     obtain⟨d',b1,b2⟩:=fA (s:={s with tm:=tm1,h:=s.h.new ob}) hl' hrs hs next a2
     exact⟨d',.obj it hit hc ht (ew.trans hw) ⟨by rw[et,hd.s];exact hlt.1 it.o e1,hlt.2⟩ (by rw[hd.s]at a1⊢;exact a1) b1,b2⟩
    | @list _ _ _ _ _ tm1 _ _ _ v hw hlt hput next=>
     obtain⟨d1,a1,a2⟩:=mkA 4 (.v v) s tm1 hput (.inl (by omega))
     obtain⟨d',b1,b2⟩:=fA (s:={s with tm:=tm1}) hl' hrs hs next a2
     exact⟨d',.list it hit hc ht (ew.trans hw) (by rw[et];exact hlt it.o e1) (by rw[hd.s]at a1⊢;exact a1) b1,b2⟩
   ·cases hs
  ·cases hr
end
end Go.VM
end
section
/- The machine of values: resolved code, told by what is so behind it. -/
namespace Go.VM
open Go.RowKit
section
variable{P:Program}{gl:List Nat}
theorem PendR.spec{nt:Nat}{h:H}{anc:Nat}{es:List ER}(p:PendR P gl nt h anc es)(ok:∀r∈es,cG P gl nt r.tmr r.h r.ro r.v):∀r∈es,anc.testBit r.i=false→cG P gl nt r.tmr h r.ro r.v:=by
 induction p with
 |nil=>intro r hr;cases hr
 |pass hp _ ih=>
  intro r hr ha
  cases hr with
  |head=>rw[hp]at ha;cases ha
  |tail _ hr=>exact ih (fun r hr=>ok r (List.mem_cons_of_mem _ hr)) r hr ha
 |same hp _ ih=>
  intro r hr ha
  cases hr with
  |head=>rw[←hp];exact ok _ (List.mem_cons_self ..)
  |tail _ hr=>exact ih (fun r hr=>ok r (List.mem_cons_of_mem _ hr)) r hr ha
 |fZ hl _ ih=>
  intro r hr ha
  cases hr with
  |head=>exact hl
  |tail _ hr=>exact ih (fun r hr=>ok r (List.mem_cons_of_mem _ hr)) r hr ha
theorem aOr{fr:Fr}{h:H}{anc:Nat}:∀{evs:List Ev},(∀e∈evs,e.k=1→anc.testBit e.it.i=false→Light P gl fr.nt e.tmr h e.it.o e.v)→Pend P gl fr h anc evs
 |[],_=>.nil
 |e::evs,hl=>by
  have ih:=aOr (evs:=evs) (fun e he=>hl e (List.mem_cons_of_mem _ he))
  by_cases hk:(!Nat.beq e.k 1||anc.testBit e.it.i)=true
  ·exact .pass hk ih
  ·simp only[Bool.or_eq_true,Bool.not_eq_true',not_or,Bool.not_eq_false,Bool.not_eq_true]at hk
   exact .fZ (hl e (List.mem_cons_self ..) (Nat.eq_of_beq_eq_true hk.1) hk.2) ih
theorem iK{fr:Fr}{d:DS}{s:S}{m anc:Nat}{h:H}{es:List ER}(p:PendR P gl fr.nt h anc es)(hd:DSim P gl fr.nt d s m es):Pend P gl fr h anc d.evs:=by
 refine aOr fun e he hk ha=>?_
 rcases hd.ev e he hk with g|⟨r,g1,g2,g3,g4,g5⟩
 ·exact g h
 ·rw[g4,g5]
  exact p.spec hd.ok r g1 (by rw[g2];exact ha) e.it.o g3
theorem xU{its:List It}:∀tm:TM,mA tm (dstsOf its)=pB tm its:=by
 induction its with
 |nil=>intro tm;rfl
 |cons it its ih=>
  intro tm
  simp only[dstsOf,pB]
  cases it.o.dst with
  |none=>exact ih _
  |some d=>exact ih _
theorem nF{fr:Fr}{ops:Array Oper}{its:List It}{x:X}{s':S}(hl:∀k,∀it∈jC its k,it∈its):∀{hs:List It} {k:Nat} {rs:List (RI×List RI)} {d:DS} {s:S} {m:Nat} {es:List ER},pI P ops (gY its hs k)=some rs→yN its (gY its hs k) m=some (2^ops.size-1)→
  DrR P gl fr (dstsOf its) x s' rs s es→DSim P gl fr.nt d s m es→Dr P gl fr ops its x s' hs d
 |[],k,rs,d,s,m,es,hr,hs,hp,hd=>by
  simp only[gY,pI]at hr;cases hr
  simp only[gY,yN]at hs;cases hs
  cases hp with
  |fin hx hs=>
   refine .fin hx (hs.trans hd.s.symm) ?_
   unfold aXe;rw[hd.m];exact Nat.beq_refl _
 |it::hs,k,rs,d,s,m,es,hr,hsim,hp,hd=>by
  simp only[gY,pI]at hr
  split at hr
  ·rename_i r rl rq h1 h2 h3
   cases hr
   obtain⟨e0,e00,e1,e4,e2,e3⟩:=uN h1
   simp only[gY,yN]at hsim
   split at hsim
   ·rename_i hq
    simp only[Bool.and_eq_true]at hq
    obtain⟨⟨q1,q2⟩,q3⟩:=hq
    have ht:dJ d it=true:=uV hd.m (by simp only[Bool.and_eq_true];exact⟨q1,q2⟩)
    have hwt:waits its it d=true:=by unfold waits;rw[hd.m];exact q3
    have ew:bS ops it.o (aF d.s.tm (tmpsOf ops it.o))=aV r.gd (aF s.tm r.rd):=by rw[tD e3,hd.s,e4]
    have et:aF d.s.tm (tmpsOf ops it.o)=aF s.tm r.rd:=by rw[hd.s,e4]
    split at hsim
    ·rename_i m2 hm2
     cases hp with
     | @skip _ _ _ _ hh2 tm1 tm2 _ es2 hw hput ph pd next=>
      have a1:=DS.add_eq (fr:=fr) (d:=d) (it:=it) (tmr:=aF d.s.tm (tmpsOf ops it.o)) (k:=0) (v:=.v bG) (s:=d.s) (tm:=tm1) (by rw[hd.s,e2];exact hput)
      have a2:DSim P gl fr.nt ⟨{d.s with tm:=tm1},⟨it,aF d.s.tm (tmpsOf ops it.o),0,.v bG,d.s.h.nxt⟩::d.evs,d.mask|||2^it.i⟩ {s with tm:=tm1} (m|||2^it.i) es:=⟨by rw[hd.s],by rw[hd.m],fun e he hk1=>(by
       cases he with
       |head=>cases hk1
       |tail _ he=>exact hd.ev e he hk1),hd.ok⟩
      obtain⟨d',b1,b2⟩:=fA (its:=its) (ops:=ops) (hl k) h2 hm2 ph a2
      refine .skip ht hwt (ew.trans hw) a1 b1 ?_ (nF hl h3 hsim next b2)
      rw[show d'.s.h=hh2 by rw[b2.s],←e00]
      exact iK pd b2
     | @go _ _ _ _ s2 v hh2 tm1 tm2 _ es2 hw hop hput ph pd next=>
      have hop':OpR P gl fr it.o {d.s with tm:=aF d.s.tm (tmpsOf ops it.o)} (.val v s2):=by rw[et,hd.s];exact hop it.o e1
      have a1:=DS.add_eq (fr:=fr) (d:=d) (it:=it) (tmr:=aF d.s.tm (tmpsOf ops it.o)) (k:=3) (v:=v) (s:=s2) (tm:=tm1) (by rw[hd.s,e2];exact hput)
      have a2:DSim P gl fr.nt ⟨{s2 with tm:=tm1},⟨it,aF d.s.tm (tmpsOf ops it.o),3,v,d.s.h.nxt⟩::d.evs,d.mask|||2^it.i⟩ {s2 with tm:=tm1} (m|||2^it.i) es:=⟨rfl,by rw[hd.m],fun e he hk1=>(by
       cases he with
       |head=>cases hk1
       |tail _ he=>exact hd.ev e he hk1),hd.ok⟩
      obtain⟨d',b1,b2⟩:=fA (its:=its) (ops:=ops) (s:={s2 with tm:=tm1}) (hl k) h2 hm2 ph a2
      refine .go ht hwt (ew.trans hw) hop' a1 b1 ?_ (nF hl h3 hsim next b2)
      rw[show d'.s.h=hh2 by rw[b2.s],←e00]
      exact iK pd b2
     | @stop _ _ _ _ s2 ch _ hw hop hx hse=>
      have hop':OpR P gl fr it.o {d.s with tm:=aF d.s.tm (tmpsOf ops it.o)} (.pan ch s2):=by rw[et,hd.s];exact hop it.o e1
      exact .stop ht hwt (ew.trans hw) hop' hx (by rw[hse,xU,hd.s])
    ·cases hsim
   ·cases hsim
  ·cases hr
theorem aLt{fr:Fr}{id:Nat}{ops:Array Oper}{ph:List RI}{hs:List (RI×List RI)}{ds:List Nat}{s:S}{x:X}{s':S}{h1:H}{tm1:TM}{es1:List ER}(aZ:P.follows .mixedOrders=true)(hr:aRs P ops (items P ops.toList)=some (.aP ph hs ds))
  (p1:PhR P gl fr.nt ph s.h s.tm [] h1 tm1 es1) (pd:PendR P gl fr.nt h1 0 es1) (p2:DrR P gl fr ds x s' hs {s with tm:=tm1,h:=h1} es1):SItem P gl fr (.code (.region id ops true)) s x s':=by
 unfold aRs at hr
 split at hr
 ·rename_i hok
  simp only[Bool.and_eq_true]at hok
  split at hr
  ·rename_i a b ha hb
   cases hr
   have hsim:=hok.2
   unfold bEo at hsim
   split at hsim
   ·rename_i m hm
    split at hsim
    ·rename_i m2 hm2
     have hm2':=Nat.eq_of_beq_eq_true hsim
     subst hm2'
     have hl:∀k,∀it∈jC (items P ops.toList) k,it∈items P ops.toList:=fun k it hit=>(List.mem_filter.1 hit).1
     have d0:DSim P gl fr.nt ⟨s,[],0⟩ s 0 []:=⟨rfl,rfl,(fun e he=>by cases he),(fun r hr=>by cases hr)⟩
     obtain⟨d',b1,b2⟩:=fA (its:=items P ops.toList) (ops:=ops) (hl 0) ha hm p1 d0
     refine aFy (d1:=d') aZ rfl hok.1 b1 (nF hl hb hm2 p2 b2) ?_
     rw[show d'.s.h=h1 by rw[b2.s]]
     exact iK pd b2
    ·cases hsim
   ·cases hsim
  ·cases hr
 ·cases hr
def WR(P:Program)(gl:List Nat)(fr:Fr)(c:RC)(s:S)(QN:S→Prop)(QX:X→S→Prop):Prop:=∀c',aE P c'=some c→WC P gl fr c' s QN QX
def WLr(P:Program)(gl:List Nat)(fr:Fr)(c:RC)(s:S)(QN:S→Prop)(QX:X→S→Prop):Prop:=∀c',aE P c'=some c→WL P gl fr c' s QN QX
def WIr(P:Program)(gl:List Nat)(fr:Fr)(c:RC)(s:S)(QN:S→Prop)(QX:X→S→Prop):Prop:=∀c',aE P c'=some c→WI P gl fr (.inLoop c') s QN QX
variable{fr:Fr}{s:S}{QN:S→Prop}{QX:X→S→Prop}
theorem dA{id:Nat}{ops:Array Oper}{dr:Bool}{c:RC}(h:aE P (.region id ops dr)=some c):(dr=false∧∃os,aBs P ops ops.toList=some os∧c=.reg os)∨(dr=true∧aRs P ops (items P ops.toList)=some c):=by
 cases dr with
 |false=>simp only[aE,Option.map_eq_some_iff]at h;obtain⟨os,h1,h2⟩:=h;exact .inl ⟨rfl,os,h1,h2.symm⟩
 |true=>simp only[aE]at h;exact .inr ⟨rfl,h⟩
theorem fQ{ops:Array Oper}{its:List It}{c:RC}(h:aRs P ops its=some c):∃a b d,c=.aP a b d:=by
 unfold aRs at h
 split at h
 ·split at h
  ·cases h;exact⟨_,_,_,rfl⟩
  ·cases h
 ·cases h
theorem WR.skip(h:QN s):WR P gl fr .skip s QN QX:=by
 intro c hc
 cases c with
 |skip=>exact WC.skip h
 |label l=>exact WC.label h
 |region id ops dr=>
  rcases dA hc with⟨_,os,_,e⟩|⟨_,e⟩
  ·cases e
  ·obtain⟨_,_,_,e⟩:=fQ e;cases e
 |seq a b=>simp only[aE]at hc;split at hc<;>cases hc
 |cond x a b=>simp only[aE]at hc;split at hc<;>cases hc
 |block id a=>simp only[aE,Option.map_eq_some_iff]at hc;obtain⟨_,_,e⟩:=hc;cases e
 |scope a=>simp only[aE,Option.map_eq_some_iff]at hc;obtain⟨_,_,e⟩:=hc;cases e
 |loop a=>simp only[aE,Option.map_eq_some_iff]at hc;obtain⟨_,_,e⟩:=hc;cases e
 |exit id=>simp only[aE]at hc;cases hc
 |ret=>simp only[aE]at hc;cases hc
 |rangeFunc f ps as bd=>simp only[aE]at hc;split at hc<;>cases hc
 |_=>simp[aE]at hc
theorem WR.seq{a b:RC}(h:WR P gl fr a s (fun s1=>WR P gl fr b s1 QN QX) QX):WR P gl fr (.seq a b) s QN QX:=by
 intro c hc
 cases c with
 |seq a' b'=>
  simp only[aE]at hc
  split at hc
  ·rename_i a2 b2 ha hb
   cases hc
   exact WC.seq ((h _ ha).mono (fun s1 h1=>h1 _ hb) (fun _ _ h=>h))
  ·cases hc
 |region id ops dr=>
  rcases dA hc with⟨_,os,_,e⟩|⟨_,e⟩
  ·cases e
  ·obtain⟨_,_,_,e⟩:=fQ e;cases e
 |skip=>simp only[aE]at hc;cases hc
 |label l=>simp only[aE]at hc;cases hc
 |cond x a b=>simp only[aE]at hc;split at hc<;>cases hc
 |block id a=>simp only[aE,Option.map_eq_some_iff]at hc;obtain⟨_,_,e⟩:=hc;cases e
 |scope a=>simp only[aE,Option.map_eq_some_iff]at hc;obtain⟨_,_,e⟩:=hc;cases e
 |loop a=>simp only[aE,Option.map_eq_some_iff]at hc;obtain⟨_,_,e⟩:=hc;cases e
 |exit id=>simp only[aE]at hc;cases hc
 |ret=>simp only[aE]at hc;cases hc
 |rangeFunc f ps as bd=>simp only[aE]at hc;split at hc<;>cases hc
 |_=>simp[aE]at hc
theorem WR.cond{x:RX}{a b:RC}{t:Bool}(hv:rv gl s.tm x=some (.bool t))(h1:t=true→WR P gl fr a s QN QX)(h2:t=false→WR P gl fr b s QN QX):WR P gl fr (.cond x a b) s QN QX:=by
 intro c hc
 cases c with
 |cond y a' b'=>
  simp only[aE]at hc
  split at hc
  ·rename_i x2 a2 b2 hx ha hb
   cases hc
   exact WC.cond hx hv (fun e=>h1 e _ ha) (fun e=>h2 e _ hb)
  ·cases hc
 |region id ops dr=>
  rcases dA hc with⟨_,os,_,e⟩|⟨_,e⟩
  ·cases e
  ·obtain⟨_,_,_,e⟩:=fQ e;cases e
 |seq a b=>simp only[aE]at hc;split at hc<;>cases hc
 |skip=>simp only[aE]at hc;cases hc
 |label l=>simp only[aE]at hc;cases hc
 |block id a=>simp only[aE,Option.map_eq_some_iff]at hc;obtain⟨_,_,e⟩:=hc;cases e
 |scope a=>simp only[aE,Option.map_eq_some_iff]at hc;obtain⟨_,_,e⟩:=hc;cases e
 |loop a=>simp only[aE,Option.map_eq_some_iff]at hc;obtain⟨_,_,e⟩:=hc;cases e
 |exit id=>simp only[aE]at hc;cases hc
 |ret=>simp only[aE]at hc;cases hc
 |rangeFunc f ps as bd=>simp only[aE]at hc;split at hc<;>cases hc
 |_=>simp[aE]at hc
theorem WR.aD{x:RX}{a b:RC}(hv:rv gl s.tm x=some (.bool true))(h1:WR P gl fr a s QN QX):WR P gl fr (.cond x a b) s QN QX:=WR.cond hv (fun _=>h1) (fun e=>by cases e)
theorem WR.aO{x:RX}{a b:RC}(hv:rv gl s.tm x=some (.bool false))(h1:WR P gl fr b s QN QX):WR P gl fr (.cond x a b) s QN QX:=WR.cond hv (fun e=>by cases e) (fun _=>h1)
theorem WR.block{id:Nat}{a:RC}(h:WR P gl fr a s QN (vF id QN QX)):WR P gl fr (.block id a) s QN QX:=by
 intro c hc
 cases c with
 |block i a'=>simp only[aE,Option.map_eq_some_iff]at hc;obtain⟨_,ha,e⟩:=hc;cases e;exact WC.block (h _ ha)
 |region id ops dr=>
  rcases dA hc with⟨_,os,_,e⟩|⟨_,e⟩
  ·cases e
  ·obtain⟨_,_,_,e⟩:=fQ e;cases e
 |seq a b=>simp only[aE]at hc;split at hc<;>cases hc
 |cond x a b=>simp only[aE]at hc;split at hc<;>cases hc
 |skip=>simp only[aE]at hc;cases hc
 |label l=>simp only[aE]at hc;cases hc
 |scope a=>simp only[aE,Option.map_eq_some_iff]at hc;obtain⟨_,_,e⟩:=hc;cases e
 |loop a=>simp only[aE,Option.map_eq_some_iff]at hc;obtain⟨_,_,e⟩:=hc;cases e
 |exit id=>simp only[aE]at hc;cases hc
 |ret=>simp only[aE]at hc;cases hc
 |rangeFunc f ps as bd=>simp only[aE]at hc;split at hc<;>cases hc
 |_=>simp[aE]at hc
theorem WR.scope{a:RC}(h:WR P gl fr a s QN QX):WR P gl fr (.scope a) s QN QX:=by
 intro c hc
 cases c with
 |scope a'=>simp only[aE,Option.map_eq_some_iff]at hc;obtain⟨_,ha,e⟩:=hc;cases e;exact WC.scope (h _ ha)
 |region id ops dr=>
  rcases dA hc with⟨_,os,_,e⟩|⟨_,e⟩
  ·cases e
  ·obtain⟨_,_,_,e⟩:=fQ e;cases e
 |seq a b=>simp only[aE]at hc;split at hc<;>cases hc
 |cond x a b=>simp only[aE]at hc;split at hc<;>cases hc
 |skip=>simp only[aE]at hc;cases hc
 |label l=>simp only[aE]at hc;cases hc
 |block id a=>simp only[aE,Option.map_eq_some_iff]at hc;obtain⟨_,_,e⟩:=hc;cases e
 |loop a=>simp only[aE,Option.map_eq_some_iff]at hc;obtain⟨_,_,e⟩:=hc;cases e
 |exit id=>simp only[aE]at hc;cases hc
 |ret=>simp only[aE]at hc;cases hc
 |rangeFunc f ps as bd=>simp only[aE]at hc;split at hc<;>cases hc
 |_=>simp[aE]at hc
theorem WR.loop{a:RC}(h:WLr P gl fr a s QN QX):WR P gl fr (.loop a) s QN QX:=by
 intro c hc
 cases c with
 |loop a'=>simp only[aE,Option.map_eq_some_iff]at hc;obtain⟨_,ha,e⟩:=hc;cases e;exact WC.loop (h _ ha)
 |region id ops dr=>
  rcases dA hc with⟨_,os,_,e⟩|⟨_,e⟩
  ·cases e
  ·obtain⟨_,_,_,e⟩:=fQ e;cases e
 |seq a b=>simp only[aE]at hc;split at hc<;>cases hc
 |cond x a b=>simp only[aE]at hc;split at hc<;>cases hc
 |skip=>simp only[aE]at hc;cases hc
 |label l=>simp only[aE]at hc;cases hc
 |block id a=>simp only[aE,Option.map_eq_some_iff]at hc;obtain⟨_,_,e⟩:=hc;cases e
 |scope a=>simp only[aE,Option.map_eq_some_iff]at hc;obtain⟨_,_,e⟩:=hc;cases e
 |exit id=>simp only[aE]at hc;cases hc
 |ret=>simp only[aE]at hc;cases hc
 |rangeFunc f ps as bd=>simp only[aE]at hc;split at hc<;>cases hc
 |_=>simp[aE]at hc
theorem WLr.of{a:RC}(h:WR P gl fr a s (fun s1=>WIr P gl fr a s1 QN QX) QX):WLr P gl fr a s QN QX:=fun c hc=>(h c hc).mono (fun s1 h1=>h1 c hc) (fun _ _ h=>h)
theorem WIr.again{a:RC}(h:WLr P gl fr a s QN QX):WIr P gl fr a s QN QX:=fun c hc=>WL.again (h c hc)
theorem WR.exit{id:Nat}(h:QX (.exit id) s):WR P gl fr (.exit id) s QN QX:=by
 intro c hc
 cases c with
 |exit i=>simp only[aE]at hc;cases hc;exact WC.exit h
 |region id ops dr=>
  rcases dA hc with⟨_,os,_,e⟩|⟨_,e⟩
  ·cases e
  ·obtain⟨_,_,_,e⟩:=fQ e;cases e
 |seq a b=>simp only[aE]at hc;split at hc<;>cases hc
 |cond x a b=>simp only[aE]at hc;split at hc<;>cases hc
 |skip=>simp only[aE]at hc;cases hc
 |label l=>simp only[aE]at hc;cases hc
 |block id a=>simp only[aE,Option.map_eq_some_iff]at hc;obtain⟨_,_,e⟩:=hc;cases e
 |scope a=>simp only[aE,Option.map_eq_some_iff]at hc;obtain⟨_,_,e⟩:=hc;cases e
 |loop a=>simp only[aE,Option.map_eq_some_iff]at hc;obtain⟨_,_,e⟩:=hc;cases e
 |ret=>simp only[aE]at hc;cases hc
 |rangeFunc f ps as bd=>simp only[aE]at hc;split at hc<;>cases hc
 |_=>simp[aE]at hc
theorem WR.ret(h:QX .ret s):WR P gl fr .ret s QN QX:=by
 intro c hc
 cases c with
 |ret=>exact WC.ret h
 |region id ops dr=>
  rcases dA hc with⟨_,os,_,e⟩|⟨_,e⟩
  ·cases e
  ·obtain⟨_,_,_,e⟩:=fQ e;cases e
 |seq a b=>simp only[aE]at hc;split at hc<;>cases hc
 |cond x a b=>simp only[aE]at hc;split at hc<;>cases hc
 |skip=>simp only[aE]at hc;cases hc
 |label l=>simp only[aE]at hc;cases hc
 |block id a=>simp only[aE,Option.map_eq_some_iff]at hc;obtain⟨_,_,e⟩:=hc;cases e
 |scope a=>simp only[aE,Option.map_eq_some_iff]at hc;obtain⟨_,_,e⟩:=hc;cases e
 |loop a=>simp only[aE,Option.map_eq_some_iff]at hc;obtain⟨_,_,e⟩:=hc;cases e
 |exit id=>simp only[aE]at hc;cases hc
 |rangeFunc f ps as bd=>simp only[aE]at hc;split at hc<;>cases hc
 |_=>simp[aE]at hc
def Post(QN:S→Prop)(QX:X→S→Prop):X→S→Prop
 |.norm,s=>QN s
 |x,s=>QX x s
theorem WC.post{c:Code}{x:X}{s':S}(h:SItem P gl fr (.code c) s x s')(hq:Post QN QX x s'):WC P gl fr c s QN QX:=by
 refine WC.of h ?_
 cases x<;>exact hq
theorem WR.bMu{os:List RI}{x:X}{s':S}(h:SqR P gl fr x s' os s)(hq:Post QN QX x s'):WR P gl fr (.reg os) s QN QX:=by
 intro c hc
 cases c with
 |region id ops dr=>
  rcases dA hc with⟨rfl,os',ho,e⟩|⟨_,e⟩
  ·cases e
   exact WC.post (aDb rfl (qW ho h)) hq
  ·obtain⟨_,_,_,e⟩:=fQ e;cases e
 |seq a b=>simp only[aE]at hc;split at hc<;>cases hc
 |cond x a b=>simp only[aE]at hc;split at hc<;>cases hc
 |skip=>simp only[aE]at hc;cases hc
 |label l=>simp only[aE]at hc;cases hc
 |block id a=>simp only[aE,Option.map_eq_some_iff]at hc;obtain⟨_,_,e⟩:=hc;cases e
 |scope a=>simp only[aE,Option.map_eq_some_iff]at hc;obtain⟨_,_,e⟩:=hc;cases e
 |loop a=>simp only[aE,Option.map_eq_some_iff]at hc;obtain⟨_,_,e⟩:=hc;cases e
 |exit id=>simp only[aE]at hc;cases hc
 |ret=>simp only[aE]at hc;cases hc
 |rangeFunc f ps as bd=>simp only[aE]at hc;split at hc<;>cases hc
 |_=>simp[aE]at hc
theorem WR.bKh{ph:List RI}{hs:List (RI×List RI)}{ds:List Nat}{x:X}{s':S}{h1:H}{tm1:TM}{es1:List ER}(aZ:P.follows .mixedOrders=true)
  (p1:PhR P gl fr.nt ph s.h s.tm [] h1 tm1 es1) (pd:PendR P gl fr.nt h1 0 es1) (p2:DrR P gl fr ds x s' hs {s with tm:=tm1,h:=h1} es1) (hq:Post QN QX x s'):WR P gl fr (.aP ph hs ds) s QN QX:=by
 intro c hc
 cases c with
 |region id ops dr=>
  rcases dA hc with⟨_,os,_,e⟩|⟨rfl,e⟩
  ·cases e
  ·exact WC.post (aLt aZ e p1 pd p2) hq
 |seq a b=>simp only[aE]at hc;split at hc<;>cases hc
 |cond x a b=>simp only[aE]at hc;split at hc<;>cases hc
 |skip=>simp only[aE]at hc;cases hc
 |label l=>simp only[aE]at hc;cases hc
 |block id a=>simp only[aE,Option.map_eq_some_iff]at hc;obtain⟨_,_,e⟩:=hc;cases e
 |scope a=>simp only[aE,Option.map_eq_some_iff]at hc;obtain⟨_,_,e⟩:=hc;cases e
 |loop a=>simp only[aE,Option.map_eq_some_iff]at hc;obtain⟨_,_,e⟩:=hc;cases e
 |exit id=>simp only[aE]at hc;cases hc
 |ret=>simp only[aE]at hc;cases hc
 |rangeFunc f ps as bd=>simp only[aE]at hc;split at hc<;>cases hc
 |_=>simp[aE]at hc
theorem WR.weak{c:RC}{s1:S}(h:SW gl fr s1 s)(k:WR P gl fr c s QN QX):WR P gl fr c s1 QN QX:=fun c' hc=>WI.weak h (k c' hc)
theorem WLr.weak{c:RC}{s1:S}(h:SW gl fr s1 s)(k:WLr P gl fr c s QN QX):WLr P gl fr c s1 QN QX:=fun c' hc=>WL.weak h (k c' hc)
theorem WR.mono{c:RC}{QN':S→Prop}{QX':X→S→Prop}(h:WR P gl fr c s QN QX)(h1:∀s',QN s'→QN' s')(h2:∀x s',QX x s'→QX' x s'):WR P gl fr c s QN' QX':=fun c' hc=>(h c' hc).mono h1 h2
end
end Go.VM
end
