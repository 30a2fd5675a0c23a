/- laid for this seat: VfV VfW -/
import Derived.Test.YtgadhdnnkdcgkaaGreatDoorVh9
import Derived.Test.YtgadhdnnkdcgkaaGreatDoorVh8
import Derived.Test.YtgadhdnnkdcgkaaGreatDoorVh5
set_option linter.unusedVariables false
set_option linter.unusedSimpArgs false
section
/- Files: what a reading gives is small; what comes of a text with a declaration behind. -/
set_option maxRecDepth 100000
namespace Go.VM
open Go.RowKit
section
variable{l:List Tz}{K:Nat}
theorem vX(hK:1≤K){a:Nat}{x:Tx}{a1:Nat}(h:cC l a=.ok x a1):okT K x:=by
 unfold cC at h
 split at h
 ·rename_i h1;cases h;exact aXh hK h1
 ·cases h
 ·cases h
theorem qG(hK:1≤K){a:Nat}{x:Pm}{a1:Nat}(h:cZ l a=.ok x a1):okT K x.t:=by
 obtain⟨t,a2,h1,h⟩:=R.aA h
 obtain⟨y,a3,h2,h⟩:=R.aA h
 cases h
 exact vX hK h2
theorem aOd(hK:1≤K){to:List Nat}{a:Nat}{r:Bool×Tx}{a1:Nat}(h:oO l to a=.ok r a1):okT K r.2:=by
 unfold oO at h
 split at h
 ·cases h;exact mO
 ·obtain⟨x,a2,h2,h⟩:=R.aA h
  cases h
  exact vX hK h2
theorem pM{α:Type}{rd:Nat→R α}{Q:α→Prop}(hq:∀a x a1,rd a=.ok x a1→Q x)(hr:∀a x a1,rd a=.ok x a1→a<a1∧a1≤l.length){to:List Nat}{none:Bool}{m a:Nat}{xs:List α}{a':Nat}(h:bH l rd to none m a=.ok xs a'):∀x∈xs,Q x:=by
 unfold bH at h
 split at h
 ·cases h;intro x hx;cases hx
 ·exact aZm (Q:=fun _ _ x=>Q x) (fun a x a1 e=>hq a x a1 e) (fun _ _ _ _ _ q _ _=>q) hr _ _ _ _ _ a h (Nat.le_refl _) (fun x hx=>by cases hx)
theorem aYr{α:Type}{rd:Nat→R α}{Q:α→Prop}(hq:∀a x a1,rd a=.ok x a1→a≤l.length→Q x)(hr:∀a x a1,a≤l.length→rd a=.ok x a1→a<a1∧a1≤l.length):∀(m:Nat) (acc:List α) (a:Nat) (xs:List α) (a':Nat),a≤l.length→fTo l rd m acc a=.ok xs a'→(∀x∈acc,Q x)→∀x∈xs,Q x:=by
 intro m
 induction m with
 |zero=>intro acc a xs a' _ h;cases h
 |succ m ih=>
  intro acc a xs a' ha h hacc
  unfold fTo at h
  split at h
  ·cases h;exact hacc
  ·obtain⟨x,a1,h1,h⟩:=R.aA h
   refine ih _ _ _ _ (hr _ _ _ ha h1).2 h fun y hy=>?_
   rcases List.mem_append.1 hy with hy|hy
   ·exact hacc y hy
   ·rw[List.mem_singleton]at hy;subst hy;exact hq _ _ _ h1 ha
theorem aKk(hK:1≤K)(hl:l.length<big){m a:Nat}{x:Mx}{a':Nat}(h:dJ l m a=.ok x a'):okM K x:=by
 obtain⟨t,a1,h1,h⟩:=R.aA h
 obtain⟨_,a2,h2,h⟩:=R.aA h
 obtain⟨ps,a3,h3,h⟩:=R.aA h
 obtain⟨r,a4,h4,h⟩:=R.aA h
 obtain⟨_,a5,h5,h⟩:=R.aA h
 cases h
 exact⟨pM (Q:=okT K) (fun _ _ _=>vX hK) (fun _ _ _=>dS) h3,Nat.lt_of_le_of_lt (kE (fun _ _ _=>dS) h3) hl,aOd hK h4⟩
theorem aXi(hl:l.length<19999)(hT:∀t∈l,t.t.length<big){a:Nat}{v:List Sx}{a':Nat}(h:ST l a=.ok v a'):vM (l.length+2) v∧v.length≤l.length:=by
 have hP:=aOc l hl hT
 rcases uH l a with e|⟨ha,r,⟨N,hm⟩,e⟩
 ·rw[e]at h;cases h
 ·rw[e]at h
  unfold rO at h
  cases hf:bZ r.2 with
  |false=>rw[hf]at h;cases h
  |true=>
   rw[hf]at h
   cases h
   exact(aNv hP (bLf l) N).block 0 ⟨a,0,0⟩ r.1 r.2 ha (hm N (Nat.le_refl _)) (fM.1 hf)
theorem aWk(hl:l.length<19999)(hT:∀t∈l,t.t.length<big){m a:Nat}{d:Dx}{a':Nat}(h:fB l (ST l) m a=.ok d a'):okD (l.length+2) d:=by
 have hb:l.length<big:=Nat.lt_trans hl (by unfold big;omega)
 have h0:(0:Nat)<big:=by unfold big;omega
 have nil0:∀{α:Type} {Q:α→Prop},∀p∈([]:List α),Q p:=fun p hp=>by cases hp
 have j3:∀{p nm mt rv bs b d a'},fJ3 l (ST l) m p nm mt rv bs b=.ok d a'→okT (l.length+2) rv.t→(∀p∈bs,okT (l.length+2) p.t)→bs.length<big→okD (l.length+2) d:=by
  intro p nm mt rv bs b d a' h hrv hbs hbl
  obtain⟨_,a1,h1,h⟩:=R.aA h
  obtain⟨fs,a2,h2,h⟩:=R.aA h
  obtain⟨r,a3,h3,h⟩:=R.aA h
  unfold lA at h
  split at h
  ·rename_i v n hs
   have q:=aXi hl hT hs
   cases h
   exact⟨hrv,hbs,hbl,pM (Q:=fun p:Pm=>okT (l.length+2) p.t) (fun _ _ _=>qG (by omega)) (fun _ _ _=>bL) h2,Nat.lt_of_le_of_lt (kE (fun _ _ _=>bL) h2) hb,nil0,h0,aOd (by omega) h3,q.1,by show v.length≤_;omega⟩
  ·cases h
  ·cases h
 have j4:∀{mt rv b d a'},fJ4 l (ST l) m mt rv b=.ok d a'→okT (l.length+2) rv.t→okD (l.length+2) d:=by
  intro mt rv b d a' h hrv
  obtain⟨t,a1,h1,h⟩:=R.aA h
  split at h
  ·obtain⟨bs,a2,h2,h⟩:=R.aA h
   exact j3 h hrv (pM (Q:=fun p:Pm=>okT (l.length+2) p.t) (fun _ _ _=>qG (by omega)) (fun _ _ _=>bL) h2) (Nat.lt_of_le_of_lt (kE (fun _ _ _=>bL) h2) hb)
  ·exact j3 h hrv nil0 h0
 unfold fB at h
 split at h
 ·obtain⟨t,a1,h1,h⟩:=R.aA h
  split at h
  ·obtain⟨_,a2,h2,h⟩:=R.aA h
   obtain⟨ms,a3,h3,h⟩:=R.aA h
   have q2:=aM (by decide) h2
   have q3:=kW (fun _ _ _ _=>fL) _ _ _ _ _ q2.2.1 h3
   have ln:=aDf (fun _ _ _=>fL) _ _ _ _ _ h3 (Nat.zero_le _)
   have al:=aYr (Q:=okM (l.length+2)) (fun _ _ _ e _=>aKk (by omega) hb e) (fun _ _ _ _=>fL) _ _ _ _ _ q2.2.1 h3 nil0
   cases h
   exact⟨mO,nil0,h0,nil0,h0,al,Nat.lt_of_le_of_lt (Nat.le_trans ln q3.2) hb,mO,trivial,Nat.zero_le _⟩
  ·obtain⟨_,a2,h2,h⟩:=R.aA h
   obtain⟨_,a3,h3,h⟩:=R.aA h
   obtain⟨fs,a4,h4,h⟩:=R.aA h
   have q3:=aM (by decide) h3
   have q4:=kW (fun _ _ _ _=>fV) _ _ _ _ _ q3.2.1 h4
   have ln:=aDf (fun _ _ _=>fV) _ _ _ _ _ h4 (Nat.zero_le _)
   have al:=aYr (Q:=fun p:Pm=>okT (l.length+2) p.t) (fun _ _ _ e _=>by
    obtain⟨p,b1,e1,e⟩:=R.aA e
    obtain⟨u,b2,e2,e⟩:=R.aA e
    cases e
    exact qG (by omega) e1) (fun _ _ _ _=>fV) _ _ _ _ _ q3.2.1 h4 nil0
   cases h
   exact⟨mO,nil0,h0,al,Nat.lt_of_le_of_lt (Nat.le_trans ln q4.2) hb,nil0,h0,mO,trivial,Nat.zero_le _⟩
 ·split at h
  ·unfold gU at h
   split at h
   ·obtain⟨p,a1,h1,h⟩:=R.aA h
    obtain⟨_,a2,h2,h⟩:=R.aA h
    exact j4 h (qG (by omega) h1)
   ·exact j4 h mO
  ·cases h
theorem bGh(hl:l.length<19999)(hT:∀t∈l,t.t.length<big){f:FileX}{a:Nat}(h:FL l=.ok f a):okF (l.length+2) f:=by
 have bd:=bIc hl hT h
 unfold FL at h
 obtain⟨_,a1,h1,h⟩:=R.aA h
 obtain⟨t,a2,h2,h⟩:=R.aA h
 obtain⟨_,a3,h3,h⟩:=R.aA h
 obtain⟨is,a4,h4,h⟩:=R.aA h
 obtain⟨ds,a5,h5,h⟩:=R.aA h
 have go:∀(m:Nat) (acc:List Dx) (a:Nat) (xs:List Dx) (a':Nat),cL l (ST l) (l.length+1) m acc a=.ok xs a'→(∀d∈acc,okD (l.length+2) d)→∀d∈xs,okD (l.length+2) d:=by
  intro m
  induction m with
  |zero=>intro acc a xs a' h;cases h
  |succ m ih=>
   intro acc a xs a' h hacc
   unfold cL at h
   split at h
   ·cases h;exact hacc
   ·obtain⟨d,b1,e1,h⟩:=R.aA h
    refine ih _ _ _ _ h fun y hy=>?_
    rcases List.mem_append.1 hy with hy|hy
    ·exact hacc y hy
    ·rw[List.mem_singleton]at hy;subst hy;exact aWk hl hT e1
 have gd:=go _ _ _ _ _ h5 (fun d hd=>by cases hd)
 cases h
 exact⟨bd.1,gd,bd.2.1⟩
end
theorem aHs{s r:List Nat}{T0:List Tk}{M0:List Tz}{n0 m0:Nat}{D0:Dx}(hb:Behind r T0 M0 n0 m0 D0)(hs:(s++10::r).length<big):
  ∃(f:FileX) (p c:Int) (g:FileX) (q e:Int),qZ s=.tup [mF f,.agg (dgX p c)]∧qZ (s++10::r)=.tup [mF g,.agg (dgX q e)]∧
   ((c≠0∧e≠0)∨(c=0∧e=6)∨(c=0∧e=0∧g=⟨f.n,f.a,f.is,f.ds++[shD s.length D0]⟩∧∃K,K<big∧okF K f)):=by
 have hlen:(s++10::r).length=s.length+(10::r).length:=List.length_append
 have fileV:∀{t:List Nat},t.length<big→(bF t).2.2=0→(∃f a,FL ((bF t).1.map toZ)=.ok f a∧qZ t=.tup [mF f,.agg (dgX 0 0)])∨∃p c:Int,c≠0∧qZ t=.tup [mF tI,.agg (dgX p c)]∧∀f a,FL ((bF t).1.map toZ)≠.ok f a:=by
  intro t ht hc
  obtain⟨g,h2,h3⟩:=qM ht hc
  have kn:=tF h2 h3
  have er:=bGy g
  unfold qZ
  rw[hc]
  cases hF:FL ((bF t).1.map toZ)with
  |out=>rw[hF]at kn;cases kn
  |er a d p c=>exact .inr ⟨p,c,(er _ _ _ _ hF).2.2,rfl,fun f a e=>by cases e⟩
  |ok f a=>exact .inl ⟨f,a,rfl,rfl⟩
 have lexV:∀{t:List Nat} {c:Nat},(bF t).2.2=c+1→qZ t=.tup [mF tI,.agg (dgX ((bF t).2.1:Nat) ((c+1:Nat):Int))]:=by
  intro t c hc
  unfold qZ
  rw[hc]
  rfl
 rcases aVx (s:=s) (r:=r) hb.lex with⟨c,h1,h2⟩|⟨q,x,h1,hk,h2⟩
 ·exact⟨_,_,_,_,_,_,lexV h1,lexV h2,.inl ⟨by omega,by omega⟩⟩
 ·have h10:(bF s).2.2=0:=by rw[h1]
  rcases h2 with h2|⟨y,h2⟩
  ·rcases fileV (t:=s) (by omega) h10 with⟨f,a,e1,e2⟩|⟨p,c,e1,e2,_⟩
   ·exact⟨_,_,_,_,_,_,e2,lexV (c:=5) h2,.inr (.inl ⟨rfl,rfl⟩)⟩
   ·exact⟨_,_,_,_,_,_,e2,lexV (c:=5) h2,.inl ⟨e1,by decide⟩⟩
  ·have h20:(bF (s++10::r)).2.2=0:=by rw[h2]
   have mt:=aRm hb hs h1 hk h2
   rcases fileV (t:=s) (by omega) h10 with⟨f,a,e1,e2⟩|⟨p,c,e1,e2,e3⟩
   ·have e4:=mt.ok e1
    refine⟨f,0,0,_,0,0,e2,?_,.inr (.inr ⟨rfl,rfl,rfl,?_⟩)⟩
    ·unfold qZ
     rw[h20,e4]
     rfl
    ·exact⟨_,by have:=mt.hl;unfold big;omega,bGh mt.hl mt.hT e1⟩
   ·rcases fileV (t:=s++10::r) hs h20 with⟨g,a,g1,g2⟩|⟨p2,c2,g1,g2,_⟩
    ·obtain⟨f,a2,e4⟩:=mt.of g1
     exact absurd e4 (e3 f a2)
    ·exact⟨_,_,_,_,_,_,e2,g2,.inl ⟨e1,g1⟩⟩
end Go.VM
end
section
/- Files: the law FilexMore, walked. -/
set_option maxRecDepth 100000
namespace Go.VM
open Go.RowKit
theorem aZs{P:Program}{gl:List Nat}{nt:Nat}{tm:TM}{h:H}{x hi:RX}{k:IntKind}{es:List (List V)}{n sz:Nat}(hx:rv gl tm x=some (.lst es .unk))(hhi:rv gl tm hi=some (.int k n))(hn:n≤es.length):cB P gl nt tm h (some (.slc (.slice sz) x none (some hi) none)) (.v (.lst (es.take n) .unk)):=by
 refine bE ?_
 have e2:rvo gl tm (some hi)=some (some (.int k n)):=by simp[rvo,hhi]
 have e3:rvo gl tm none=some none:=rfl
 simp only[eK,rl,hx,e2,e3]
 simp[pC,nat?,hH,hn,LC.cut]
theorem aBo(s r:List Nat){f:FileX}{p c:Int}{g:FileX}{q e:Int}{D0:Dx}(h8:∀x∈s++10::r,x<256)(hs:(s++10::r).length<5000)
  (e2:qZ (s++10::r)=.tup [mF g,.agg (dgX q e)])
  (ho:(c≠0∧e≠0)∨(c=0∧e=6)∨(c=0∧e=0∧g=⟨f.n,f.a,f.is,f.ds++[shD s.length D0]⟩∧∃K,K<big∧okF K f)) (hD:D0.n=[90]∧D0.fs.length=1∧D0.e=((10::r).length:Int)) {tm:TM} {lc:LM}
  (htm:TellT tm [(6,wJ f),(7,dgX p c)] [(0,.v (.str s)),(5,.v (.bool true)),(6,.l 6 0),(7,.l 7 0),(8,.v (.str (10::r)))]) (hlc:TellL lc [(6,wJ f),(7,dgX p c)]):
  WR Go.Proofs.Tryz.prog [0] ⟨Go.Proofs.Tryz.f6.ntmps,none,6⟩ aKj (SL.toS ⟨tm,[],none,1000,tOl,lc⟩) (mH Go.Proofs.Tryz.prog Go.Proofs.Tryz.f6 (.bool true) 1000 tOl) (wQ (mH Go.Proofs.Tryz.prog Go.Proofs.Tryz.f6 (.bool true) 1000 tOl)):=by
 have tx:=aGn (s++10::r) h8 (Nat.lt_trans hs (by unfold big;omega))
 rw[e2]at tx
 have hlen:(s++10::r).length=s.length+(10::r).length:=List.length_append
 refine WR.weak (SW.aQ htm hlc) ?_
 obtain⟨fn,fa,is,ds⟩:=f
 obtain⟨gn,ga,gi,gd⟩:=g
 unfold aKj
 repeat apply sQ
 refine WR.m 2 rfl ?_
 refine WQ.cE rfl rfl rfl (aZg rfl rfl (by rw[←hlen];unfold bAo;omega) _) rfl ?_
 refine WQ.c rfl (SCall.eJ tx _) .base rfl ?_
 refine WQ.q rfl ?_
 repeat apply sQ
 refine WR.m 2 rfl ?_
 refine WQ.m 1 rfl ?_
 rcases ho with⟨h1,h2⟩|⟨h1,h2⟩|⟨h1,h2,h3,K,hK,ok⟩
 ·rw[show decide (c=0)=false from decide_eq_false h1]
  refine WQ.q rfl ?_
  repeat apply sQ
  refine WR.aD rfl ?_
  repeat apply sQ
  refine WR.m 4 rfl ?_
  refine WQ.m 1 rfl ?_
  rw[show decide (e=0)=false from decide_eq_false h2]
  refine WQ.q rfl ?_
  exact WR.e
 ·subst h1
  subst h2
  refine WQ.q rfl ?_
  repeat apply sQ
  refine WR.k rfl ?_
  repeat apply sQ
  refine WR.q rfl ?_
  repeat apply sQ
  refine WR.aD rfl ?_
  repeat apply sQ
  refine WR.q rfl ?_
  exact WR.e
 ·subst h1
  subst h2
  have h3:(⟨gn,ga,gi,gd⟩:FileX)=⟨fn,fa,is,ds++[shD s.length D0]⟩:=h3
  cases h3
  have sf:=fun h=>aRj hK ⟨fn,fa,is,ds⟩ ok h
  have hdl:ds.length<big:=ok.dl
  obtain⟨dk,da,de,dn,dmt,drv,dbs,dfs,dms,dhas,dres,dbody⟩:=D0
  obtain⟨rfl,hfl,rfl⟩:=hD
  dsimp only at hfl
  have hx:shD s.length ⟨dk,da,((10::r).length:Int),[90],dmt,drv,dbs,dfs,dms,dhas,dres,dbody⟩=⟨dk,da+s.length,((10::r).length:Int)+s.length,[90],dmt,shV s.length dmt drv,dbs.map (shP s.length),dfs.map (shP s.length),dms.map (shM s.length),dhas,shI s.length dhas dres,hJ s.length dbody⟩:=rfl
  rw[hx]
  generalize shV s.length dmt drv=rv
  generalize dbs.map (shP s.length)=bs
  have hfl2:(dfs.map (shP s.length)).length=1:=by rw[List.length_map];exact hfl
  generalize dfs.map (shP s.length)=fs at hfl2
  generalize dms.map (shM s.length)=ms
  generalize shI s.length dhas dres=res
  generalize hJ s.length dbody=body
  obtain⟨rn,ra,⟨k1,b1,q1,m1,l1⟩⟩:=rv
  obtain⟨k2,b2,q2,m2,l2⟩:=res
  obtain⟨X,hX⟩:∃X:Dx,X=⟨dk,da+s.length,((10::r).length:Int)+s.length,[90],dmt,⟨rn,ra,.mk k1 b1 q1 m1 l1⟩,bs,fs,ms,dhas,.mk k2 b2 q2 m2 l2,body⟩:=⟨_,rfl⟩
  rw[←hX]
  have hi:((ds++[X]).map dR)[(ds.map dR).length]? =some (dR X):=by
   rw[List.map_append,List.getElem?_append_right (Nat.le_refl _),Nat.sub_self];rfl
  have htk:((ds++[X]).map dR).take (ds.map dR).length=ds.map dR:=by
   rw[List.map_append,List.take_left]
  refine WQ.q rfl ?_
  repeat apply sQ
  refine WR.k rfl ?_
  repeat apply sQ
  refine WR.q rfl ?_
  repeat apply sQ
  refine WR.k rfl ?_
  repeat apply sQ
  refine WR.m 11 rfl ?_
  rw[show IntKind.i64.wrap (((ds.map dR).length:Int)+1)=(((ds.map dR).length+1:Nat):Int)from by rw[List.length_map,bJ (by omega)]]
  refine WQ.m 1 rfl ?_
  rw[show decide ((((ds++[X]).map dR).length:Int)=(((ds.map dR).length+1:Nat):Int))=true from decide_eq_true (by simp)]
  refine WQ.q rfl ?_
  repeat apply sQ
  refine WR.k rfl ?_
  repeat apply sQ
  refine WR.m 5 rfl ?_
  refine WQ.cE rfl rfl rfl (bT (cs:=dR X) rfl rfl hi (uZ X)) rfl ?_
  subst hX
  refine WQ.q rfl ?_
  repeat apply sQ
  refine WR.m 5 rfl ?_
  refine WQ.cE rfl rfl rfl (aZs rfl rfl (by simp)) rfl ?_
  rw[htk]
  refine WQ.q rfl ?_
  repeat apply sQ
  refine WR.m 2 rfl ?_
  refine WQ.c rfl (SCall.more (sf _)) .base rfl ?_
  refine WQ.q rfl ?_
  repeat apply sQ
  refine WR.m 7 rfl ?_
  refine WQ.m 1 rfl ?_
  refine WQ.m 5 rfl ?_
  rw[List.length_map,hfl2]
  refine WQ.m 10 rfl ?_
  rw[show IntKind.i64.wrap ((s.length:Int)+((10::r).length:Int))=((10::r).length:Int)+(s.length:Int)from by rw[wrap64 (by omega) (by omega)];omega]
  refine WQ.m 1 rfl ?_
  rw[show decide (((10::r).length:Int)+(s.length:Int)=((10::r).length:Int)+(s.length:Int))=true from decide_eq_true rfl]
  refine WQ.q rfl ?_
  exact WR.e
theorem aHj{r:List Nat}(h:r=r1∨r=r2){s:List Nat}(h8:∀x∈s,x<256):∀x∈s++10::r,x<256:=by
 intro x hx
 rcases List.mem_append.1 hx with hx|hx
 ·exact h8 x hx
 ·rcases h with rfl|rfl
  ·have:∀x∈10::r1,x<256:=by decide
   exact this x hx
  ·have:∀x∈10::r2,x<256:=by decide
   exact this x hx
theorem aTe(s:List Nat)(z:Int)(h8:∀c∈s,c<256)(hl:s.length<big):
  SCall Go.Proofs.Tryz.prog [0] 6 [.str s,.int .i64 z] none ⟨1000,og tOl,[]⟩ (.ret (.bool true)) none ⟨1000,og tOl,[]⟩:=by
 have tx:=aGn s h8 hl
 have awk:=aTl
 refine SCall.listed (fn:=Go.Proofs.Tryz.f6) (by kernel_rfl) bMs (by kernel_rfl) (by kernel_rfl) (Nat.le_refl _) rfl ((by exact⟨lS,trivial⟩)) trivial ?_
 unfold rc6
 repeat apply sQ
 refine WR.q rfl ?_
 repeat apply sQ
 refine WR.reg (WQ.c rfl awk .base rfl ?_)
 refine WQ.q rfl ?_
 repeat apply sQ
 refine WR.m 3 rfl ?_
 by_cases h3:s.length>3000
 ·rw[show decide ((s.length:Int)>3000)=true from decide_eq_true (by omega)]
  refine WQ.q rfl ?_
  repeat apply sQ
  refine WR.aD rfl ?_
  repeat apply sQ
  refine WR.q rfl ?_
  exact WR.e
 rw[show decide ((s.length:Int)>3000)=false from decide_eq_false (by omega)]
 have n1:(s++10::r1).length<5000:=by rw[List.length_append];show s.length+25<5000;omega
 have n2:(s++10::r2).length<5000:=by rw[List.length_append];show s.length+21<5000;omega
 refine WQ.q rfl ?_
 repeat apply sQ
 refine WR.k rfl ?_
 cases hb:decide (z.tmod 2=0)with
 |false=>
  obtain⟨f,p,c,g,q,e,e1,e2,e3⟩:=aHs bDi (s:=s) (Nat.lt_trans n1 (by unfold big;omega))
  rw[e1]at tx
  have tail:=fun tm lc h1 h2=>aBo s r1 (p:=p) (aHj (.inl rfl) h8) n1 e2 e3 ⟨rfl,rfl,rfl⟩ (tm:=tm) (lc:=lc) h1 h2
  clear e2 e3 e1
  obtain⟨fn,fa,is,ds⟩:=f
  repeat apply sQ
  refine WR.m 1 rfl ?_
  refine WQ.c rfl tx .base rfl ?_
  refine WQ.q rfl ?_
  repeat apply sQ
  refine WR.q rfl ?_
  repeat apply sQ
  refine WR.m 2 rfl ?_
  refine WQ.m 1 rfl ?_
  rw[hb]
  refine WQ.q rfl ?_
  repeat apply sQ
  refine WR.k rfl ?_
  refine tail _ _ ?_ ?_
  ·exact tQ
  ·exact lQ
 |true=>
  obtain⟨f,p,c,g,q,e,e1,e2,e3⟩:=aHs bCz (s:=s) (Nat.lt_trans n2 (by unfold big;omega))
  rw[e1]at tx
  have tail:=fun tm lc h1 h2=>aBo s r2 (p:=p) (aHj (.inr rfl) h8) n2 e2 e3 ⟨rfl,rfl,rfl⟩ (tm:=tm) (lc:=lc) h1 h2
  clear e2 e3 e1
  obtain⟨fn,fa,is,ds⟩:=f
  repeat apply sQ
  refine WR.m 1 rfl ?_
  refine WQ.c rfl tx .base rfl ?_
  refine WQ.q rfl ?_
  repeat apply sQ
  refine WR.q rfl ?_
  repeat apply sQ
  refine WR.m 2 rfl ?_
  refine WQ.m 1 rfl ?_
  rw[hb]
  refine WQ.q rfl ?_
  repeat apply sQ
  refine WR.aD rfl ?_
  repeat apply sQ
  refine WR.q rfl ?_
  refine tail _ _ ?_ ?_
  ·exact tQ
  ·exact lQ
theorem aSb(s:List Nat)(z:Int)(h8:∀c∈s,c<256)(hl:s.length<big):SCall Go.Proofs.Tryz.prog [0] 6 [.str s,.int .i64 z] none (Go.VM.hT 0 .u8 aDy) (.ret (.bool true)) none (Go.VM.hT 0 .u8 aDy):=aTe s z h8 hl
end Go.VM
end
