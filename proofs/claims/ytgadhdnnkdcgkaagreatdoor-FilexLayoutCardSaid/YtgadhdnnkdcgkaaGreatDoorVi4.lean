/- laid for this seat: VhF VhG VhH -/
import Derived.Test.YtgadhdnnkdcgkaaGreatDoorVi3
import Derived.Test.YtgadhdnnkdcgkaaGreatDoorVi2
import Derived.Test.YtgadhdnnkdcgkaaGreatDoorVh5
set_option linter.unusedVariables false
set_option linter.unusedSimpArgs false
section
/- Files: calls over the table in any memory; the wide text, walked. -/
set_option maxRecDepth 100000
namespace Go.VM
open Go.RowKit
theorem SCall.bLr{P:Program}{f:FuncId}{args:List V}{v:V}(core:SCall P [0] f args none ⟨1000,og tOl,[]⟩ (.ret v) none ⟨1000,og tOl,[]⟩)(ha:Ins (fun _=>False) args)(hv:v.In (fun _=>False)){h:H}(h0:h.ob 0=some mG):
  SCall P [0] f args none h (.ret v) none h:=by
 refine SCall.known rfl core.fn fun bg=>?_
 obtain⟨E,F,w0,w,args',bg⟩:=bg
 let ρ:Nat→Nat:=fun i=>if i<aC then i else h.nxt+(i-aC)
 have hρ:∀i,i<aC→ρ i=i:=fun i hi=>by simp only[ρ];rw[if_pos hi]
 have at0:∀i o,og tOl i=some o→i=0∧o=mG:=by
  intro i o hi
  simp only[tOl,aR]at hi
  split at hi
  ·rename_i e;exact⟨e,(Option.some.inj hi).symm⟩
  ·cases hi
 have ren0:mG.ren ρ=mG:=by
  show Obj.cells false (dB ρ (kZ .u8 zJ))=_
  rw[fG (D:=fun _=>False) (fun _ q=>q.elim) qM]
  rfl
 refine SCall.frame (ρ:=ρ) rfl core (fun _=>?_) (Ins.mono (fun _ q=>q.elim) ha) (hv.mono fun _ q=>q.elim) (fun i o hi=>?_) (fG (D:=fun _=>False) (fun _ q=>q.elim) ha) (V.rK (D:=fun _=>False) (fun _ q=>q.elim) hv) ?_
 ·refine⟨hρ,fun i h1 h2=>absurd h2 (Nat.not_lt.2 h1),(fun i hi=>by simp only[ρ];rw[if_neg (show ¬i<aC from Nat.not_lt.2 hi)];rfl),(fun i j _ _ hi hj _=>?_),Nat.le_refl _,fun i hi=>?_,(fun i o hi=>?_),(fun i o hi=>?_)⟩
  ·obtain⟨o,ho⟩:=Option.isSome_iff_exists.1 hi
   obtain⟨o2,ho2⟩:=Option.isSome_iff_exists.1 hj
   rw[(at0 i o ho).1,(at0 j o2 ho2).1]
  ·cases hq:og tOl i with
   |none=>exact hq
   |some o=>
    have:=(at0 i o hq).1
    have hi:1000≤i:=hi
    omega
  ·obtain⟨rfl,rfl⟩:=at0 i o hi
   rw[hρ 0 (by decide),ren0]
   exact h0
  ·obtain⟨rfl,rfl⟩:=at0 i o hi
   exact jN
 ·obtain⟨rfl,rfl⟩:=at0 i o hi
  exact jN
 ·have hob:(mrg ρ ⟨1000,og tOl,[]⟩ h ⟨1000,og tOl,[]⟩).ob=h.ob:=by
   funext b
   simp only[mrg]
   split
   ·rename_i i hi
    obtain⟨h1,h2⟩:=eH hi
    rcases h1 with h1|h1
    ·obtain⟨o,ho⟩:=Option.isSome_iff_exists.1 h1
     obtain⟨e1,e2⟩:=at0 i o ho
     have ho':og tOl i=some o:=ho
     rw[ho',e2]
     rw[e1,hρ 0 (by decide)]at h2
     rw[←h2,h0]
     show some (mG.ren ρ)=_
     rw[ren0]
    ·have h1:1000≤i:=h1
     have hg:aC=1000:=rfl
     have:b=h.nxt+(i-aC):=by rw[←h2];simp only[ρ];rw[if_neg (by omega)]
     cases hq:og tOl i with
     |none=>exact((bg.mr.fresh b (by omega)).2.1).symm
     |some o=>have:=(at0 i o hq).1;omega
   ·rfl
  cases h with
  |mk nx ob lc=>simp only[mrg,Nat.sub_self,Nat.add_zero]at hob⊢;rw[hob]
theorem aBf(s:List Nat)(h8:∀c∈s,c<256)(hl:s.length<big)(hin:(aBd s).In (fun _=>False)){h:H}(h0:h.ob 0=some mG):SCall Go.Proofs.Tryz.prog [0] 8 [.str s] none h (.ret (aBd s)) none h:=
 SCall.bLr (aYr s h8 hl) (by exact⟨trivial,trivial⟩) hin h0
def plF:Nat→List Tk→List Int
 |_,[]=>[]
 |p,t::r=>((p+6:Nat):Int)::plF (p+6+t.text.length) r
theorem aJh(t:Tk):∀l:List Tk,dF (l++[t])=(dF l++comm)++t.text
 |[]=>by simp[dF]
 |u::l=>by simp[dF,aJh t l]
theorem aVf(t:Tk):∀(p:Nat) (l:List Tk),plF p (l++[t])=plF p l++[((p+(dF l).length+6:Nat):Int)]
 |p,[]=>by simp[plF,dF]
 |p,u::l=>by
  simp only[List.cons_append,plF,dF,aVf t _ l,List.length_append]
  congr 3
  show _=((p+(6+(u.text.length+(dF l).length))+6:Nat):Int)
  congr 1
  omega
theorem aJt:∀(p:Nat) (l:List Tk),(plF p l).length=l.length
 |_,[]=>rfl
 |p,t::l=>by simp[plF,aJt _ l]
theorem zY:∀(l:List Tk),(∀t∈l,t.text.length≤2000)→(dF l).length≤l.length*2006
 |[],_=>Nat.zero_le _
 |t::l,h=>by
  have:=zY l (fun x hx=>h x (List.mem_cons_of_mem _ hx))
  have:=h t (by simp)
  show(comm++(t.text++dF l)).length≤_
  rw[List.length_append,List.length_append,List.length_cons,Nat.succ_mul]
  show 6+(_+_)≤_
  omega
theorem aUu:∀(p:Nat) (l:List Tk) (i:Nat) (t:Tk),l[i]? =some t→∃q,(rA p l)[i]? =some ⟨t.kind,q,q+t.text.length,t.text⟩∧(plF p l)[i]? =some (q:Int)
 |p,[],i,t,h=>by cases h
 |p,u::l,0,t,h=>by cases h;exact⟨p+6,rfl,rfl⟩
 |p,u::l,i+1,t,h=>aUu _ l i t h
theorem aKc:∀(p:Nat) (l:List Tk),(rA p l).length=l.length
 |_,[]=>rfl
 |p,t::l=>by simp[rA,aKc _ l]
def aVr(l:List Int):OL:=(0,mG)::aGi l
def bNl(s:List Nat)(Z:List Tz)(W:List Nat)(pl:List Int)(i:Int):TM:=[(0,.v (.str s)),(3,.v (.bool true)),(4,.v (lsV Z)),(6,.v (.str W)),(7,.v (lvI pl)),(8,.v (.int .i64 i))]
theorem bBr{QN:S→Prop}{QX:X→S→Prop}(s:List Nat)(T:List Tk)(hT:∀t∈T,t.text.length≤2000)(hb:T.length≤4001)
  (h0:∀tm,TellT tm [] [(0,.v (.str s)),(3,.v (.bool true)),(4,.v (lsV (T.map toZ))),(6,.v (.str (dF T))),(7,.v (lvI (plF 0 T)))]→QX (.exit 0) (SL.toS ⟨tm,[],none,nxI (plF 0 T),aVr (plF 0 T),[]⟩)):∀m i,i+m=T.length→
  WLr Go.Proofs.Tryz.prog [0] ⟨Go.Proofs.Tryz.f5.ntmps,none,5⟩ aFo (SL.toS ⟨bNl s (T.map toZ) (dF (T.take i)) (plF 0 (T.take i)) i,[],none,nxI (plF 0 (T.take i)),aVr (plF 0 (T.take i)),[]⟩) QN QX:=by
 intro m
 induction m with
 |zero=>
  intro i hi
  have:T.take i=T:=List.take_of_length_le (by omega)
  rw[this]
  unfold aFo
  refine WLr.of ?_
  repeat apply sQ
  refine WR.m 3 rfl ?_
  rw[List.length_map,List.length_map]
  refine WQ.m 1 rfl ?_
  rw[show decide ((i:Int)<(T.length:Int))=false from decide_eq_false (by omega)]
  refine WQ.q rfl ?_
  repeat apply sQ
  refine WR.aO rfl (WR.exit (h0 _ ?_))
  exact tQ
 |succ m ih=>
  intro i hi
  obtain⟨t,hp⟩:∃t,T[i]? =some t:=⟨T[i],List.getElem?_eq_getElem (by omega)⟩
  have htx:=hT t (List.mem_of_getElem? hp)
  have ih:=ih (i+1) (by omega)
  have htk:T.take (i+1)=T.take i++[t]:=by rw[List.take_add_one,hp];rfl
  rw[htk,aJh,aVf,Nat.zero_add]at ih
  have hwl:(dF (T.take i)).length≤4001*2006:=by
   have h1:=zY (T.take i) (fun x hx=>hT x (List.mem_of_mem_take hx))
   have h2:(T.take i).length≤4001:=by rw[List.length_take];omega
   exact Nat.le_trans h1 (Nat.mul_le_mul_right _ h2)
  have hpl:(plF 0 (T.take i)).length≤4001:=by rw[aJt,List.length_take];omega
  generalize dF (T.take i)=W at ih hwl⊢
  generalize plF 0 (T.take i)=pl at ih hpl⊢
  have hW6:(W++comm).length=W.length+6:=List.length_append
  obtain⟨tk,ta,te,tt⟩:=t
  have hpe:((T.map toZ).map cD)[i]? =some (cD ⟨tk,ta,te,tt⟩):=by rw[List.getElem?_map,List.getElem?_map,hp];rfl
  have htx:tt.length≤2000:=htx
  unfold aFo
  refine WLr.of ?_
  repeat apply sQ
  refine WR.m 3 rfl ?_
  rw[List.length_map,List.length_map]
  refine WQ.m 1 rfl ?_
  rw[show decide ((i:Int)<(T.length:Int))=true from decide_eq_true (by omega)]
  refine WQ.q rfl ?_
  repeat apply sQ
  refine WR.aD rfl (WR.skip ?_)
  repeat(first|refine WR.seq ?_|refine WR.block ?_)
  refine WR.m 1 rfl ?_
  refine WQ.bD rfl rfl rfl (eJ rfl rfl (by show W.length+6≤iE;unfold iE;omega) _) rfl ?_
  refine WQ.q rfl ?_
  repeat apply sQ
  refine WR.m 3 rfl ?_
  have hW7:(W++[32,47,47,32,99,10]).length=W.length+6:=hW6
  rw[hW7]
  refine WQ.m 1 rfl ?_
  cases pl with
  |nil=>
   refine WQ.dM rfl (iU (n2:=1) (es2:=[iY ((W.length+6:Nat):Int)]) rfl rfl (Nat.zero_lt_one) (by simp) (by simp) (by show 8*1≤lim;decide) rfl rfl rfl rfl) rfl ?_
   refine WQ.q rfl ?_
   repeat apply sQ
   refine WR.m 3 rfl ?_
   refine WQ.bD rfl rfl rfl (gL (cs:=cD ⟨tk,ta,te,tt⟩) rfl rfl hpe rfl) rfl (WQ.m 2 rfl ?_)
   refine WQ.bD rfl rfl rfl (eJ rfl rfl (by show(W++comm).length+tt.length≤iE;rw[hW6];unfold iE;omega) _) rfl ?_
   refine WQ.q rfl ?_
   unfold aKj
   repeat apply sQ
   refine WR.m 2 rfl ?_
   rw[bI (by unfold big;omega)]
   refine WQ.q rfl ?_
   refine WIr.again (WLr.weak ?_ ih)
   refine SW.aM ?_ ?_
   ·exact tQ
   ·exact lQ
  |cons q r=>
   refine WQ.dM rfl (jD (n:=(q::r).length) (n2:=(q::r++[((W.length+6:Nat):Int)]).length) (es2:=(q::r++[((W.length+6:Nat):Int)]).map iY) rfl rfl rfl (List.length_map ..).symm ?_ ?_ ?_ rfl ?_ ?_ rfl) rfl ?_
   ·simp[iY]
   ·simp[iY]
   ·simp only[List.length_map,List.length_cons,List.length_nil]at hpl⊢;unfold lim;omega
   ·simp[iY,V.bV]
   ·simp
   refine WQ.q rfl ?_
   repeat apply sQ
   refine WR.m 3 rfl ?_
   refine WQ.bD rfl rfl rfl (gL (cs:=cD ⟨tk,ta,te,tt⟩) rfl rfl hpe rfl) rfl (WQ.m 2 rfl ?_)
   refine WQ.bD rfl rfl rfl (eJ rfl rfl (by show(W++comm).length+tt.length≤iE;rw[hW6];unfold iE;omega) _) rfl ?_
   refine WQ.q rfl ?_
   unfold aKj
   repeat apply sQ
   refine WR.m 2 rfl ?_
   rw[bI (by unfold big;omega)]
   refine WQ.q rfl ?_
   refine WIr.again (WLr.weak ?_ ih)
   refine SW.aM ?_ ?_
   ·exact tQ
   ·exact lQ
end Go.VM
end
section
/- Files: the law FilexLayout, walked. -/
set_option maxRecDepth 100000
namespace Go.VM
open Go.RowKit
theorem aTy(pl:List Int)(b:Nat)(h:b<1000):og tOl b=og (aVr pl) b:=by
 cases pl with
 |nil=>rfl
 |cons p l=>
  simp only[tOl,aVr,aGi,aR]
  split
  ·rfl
  ·rw[if_neg (by omega)]
def bNb(Z:List Tz)(pl:List Int)(cc:LC)(i:Int):TM:=[(3,.v (.bool true)),(4,.v (lsV Z)),(7,.v (.lst (pl.map iY) cc)),(10,.l 10 0),(12,.l 12 0),(13,.v (.int .i64 i))]
def bNc(p p' c:Int):LM:=[(10,dgX p c),(12,dgX p' c)]
theorem bBn{QN:S→Prop}{QX:X→S→Prop}(Z:List Tz)(pl:List Int)(cc:LC)(p p' c:Int)(nx:Nat)(ol:OL)(hb:Z.length<big)(hl:pl.length=Z.length)(hp:c≠0→∀i t,Z[i]? =some t→t.a=p→i+1<Z.length→pl[i]? =some p')
  (h0:∀tm lc,TellT tm [] [(3,.v (.bool true))]→QX (.exit 2) (SL.toS ⟨tm,[],none,nx,ol,lc⟩)):∀m i,i+m=Z.length→
  WLr Go.Proofs.Tryz.prog [0] ⟨Go.Proofs.Tryz.f5.ntmps,none,5⟩ aEu (SL.toS ⟨bNb Z pl cc i,[],none,nx,ol,bNc p p' c⟩) QN QX:=by
 intro m
 induction m with
 |zero=>
  intro i hi
  unfold aEu
  refine WLr.of ?_
  repeat apply sQ
  refine WR.m 3 rfl ?_
  rw[List.length_map]
  refine WQ.m 1 rfl ?_
  rw[show decide ((i:Int)<(Z.length:Int))=false from decide_eq_false (by omega)]
  refine WQ.q rfl ?_
  repeat apply sQ
  refine WR.aO rfl (WR.exit (h0 _ _ ?_))
  exact tQ
 |succ m ih=>
  intro i hi
  obtain⟨t,ht⟩:∃t,Z[i]? =some t:=⟨Z[i],List.getElem?_eq_getElem (by omega)⟩
  obtain⟨q,hq⟩:∃q,pl[i]? =some q:=⟨pl[i],List.getElem?_eq_getElem (by omega)⟩
  have ih:=ih (i+1) (by omega)
  have hpe:(Z.map cD)[i]? =some (cD t):=by rw[List.getElem?_map,ht];rfl
  have hqe:(pl.map iY)[i]? =some (iY q):=by rw[List.getElem?_map,hq];rfl
  have hk:=fun h1 h2 h3=>hp h1 i t ht h2 h3
  rw[hq]at hk
  obtain⟨tk,ta,te,tt⟩:=t
  dsimp only at hk
  unfold aEu
  refine WLr.of ?_
  repeat apply sQ
  refine WR.m 3 rfl ?_
  rw[List.length_map]
  refine WQ.m 1 rfl ?_
  rw[show decide ((i:Int)<(Z.length:Int))=true from decide_eq_true (by omega)]
  refine WQ.q rfl ?_
  repeat apply sQ
  refine WR.aD rfl (WR.skip ?_)
  repeat(first|refine WR.seq ?_|refine WR.block ?_)
  refine WR.aP aZ ?_
  refine DW.m 2 rfl ?_
  refine DW.m 1 rfl ?_
  by_cases h1:c=0
  ·rw[show decide (c=0)=true from decide_eq_true h1]
   refine DW.m 1000 rfl (DW.cC pQ ?_)
   repeat apply sQ
   refine WR.k rfl ?_
   unfold zR
   repeat apply sQ
   refine WR.m 2 rfl ?_
   rw[bI (by omega)]
   refine WQ.q rfl ?_
   refine WIr.again (WLr.weak ?_ ih)
   refine SW.aM ?_ ?_
   ·exact tQ
   ·exact lQ
  ·rw[show decide (c=0)=false from decide_eq_false h1]
   refine DW.m 3 rfl ?_
   refine DW.oW rfl (fun h=>gL (cs:=cD ⟨tk,ta,te,tt⟩) rfl rfl hpe rfl) rfl (DW.m 4 rfl ?_)
   refine DW.m 1 rfl ?_
   by_cases h2:ta=p
   ·rw[show decide (ta=p)=true from decide_eq_true h2]
    refine DW.m 5 rfl ?_
    rw[List.length_map]
    refine DW.m 1 rfl ?_
    rw[pF (by omega) (by omega)]
    refine DW.m 1 rfl ?_
    by_cases h3:i+1<Z.length
    ·rw[show decide ((i:Int)<((Z.length-1:Nat):Int))=true from decide_eq_true (by omega)]
     have e:=Option.some.inj (hk h1 h2 h3)
     subst e
     refine DW.m 6 rfl ?_
     refine DW.oW rfl (fun h=>gL (cs:=iY q) rfl rfl hqe rfl) rfl (DW.m 1 rfl ?_)
     refine DW.m 1 rfl ?_
     rw[show decide (q=q)=true from decide_eq_true rfl]
     refine DW.m 1000 rfl (DW.cC pQ ?_)
     repeat apply sQ
     refine WR.k rfl ?_
     unfold zR
     repeat apply sQ
     refine WR.m 2 rfl ?_
     rw[bI (by omega)]
     refine WQ.q rfl ?_
     refine WIr.again (WLr.weak ?_ ih)
     refine SW.aM ?_ ?_
     ·exact tQ
     ·exact lQ
    ·rw[show decide ((i:Int)<((Z.length-1:Nat):Int))=false from decide_eq_false (by omega)]
     refine DW.m 1000 rfl (DW.cC pQ ?_)
     repeat apply sQ
     refine WR.k rfl ?_
     unfold zR
     repeat apply sQ
     refine WR.m 2 rfl ?_
     rw[bI (by omega)]
     refine WQ.q rfl ?_
     refine WIr.again (WLr.weak ?_ ih)
     refine SW.aM ?_ ?_
     ·exact tQ
     ·exact lQ
   ·rw[show decide (ta=p)=false from decide_eq_false h2]
    refine DW.m 1000 rfl (DW.cC pQ ?_)
    repeat apply sQ
    refine WR.k rfl ?_
    unfold zR
    repeat apply sQ
    refine WR.m 2 rfl ?_
    rw[bI (by omega)]
    refine WQ.q rfl ?_
    refine WIr.again (WLr.weak ?_ ih)
    refine SW.aM ?_ ?_
    ·exact tQ
    ·exact lQ
theorem aLk{s:List Nat}(h8:∀c∈s,c<256)(hs:s.length≤2000){T:List Tk}{x:Nat}(h:bK s=(T,x,0)):
  T.length≤4001∧(∀t∈T,t.text.length≤2000)∧(∀c∈dF T,c<256)∧(dF T).length<big∧∃(f:FileX) (p c:Int) (g:FileX) (p':Int),
   aBd s=.tup [qY f,.agg (dgX p c)]∧aBd (dF T)=.tup [qY g,.agg (dgX p' c)]∧smF 5000 f∧smF 5000 g∧rC g=rC f∧
   (c≠0→∀i t,(T.map toZ)[i]? =some t→t.a=p→i+1<(T.map toZ).length→(plF 0 T)[i]? =some p'):=by
 have hb:s.length<big:=by unfold big;omega
 have hz:(bK s).2.2=0:=by rw[h]
 obtain⟨g1,g2,g3⟩:=uS hb hz
 have hlen:=aGu s _ _ _ _ _ (Nat.zero_le _) h
 rw[h]at g1 g2 g3
 have htx:∀t∈T,t.text.length≤2000:=by
  intro t ht
  obtain⟨i,hi⟩:=List.mem_iff_getElem?.1 ht
  have hlt:=(List.getElem?_eq_some_iff.1 hi).1
  have hi2:(T.map toZ)[i]? =some (toZ t):=by rw[List.getElem?_map,hi];rfl
  rcases Nat.lt_or_ge (i+1) (T.map toZ).length with q|q
  ·have:=(g1.tok i _ hi2 q).2.2.2
   exact Nat.le_trans this hs
  ·have:=g1.last (toZ t) (by rw[show(T.map toZ).length-1=i by rw[List.length_map]at q⊢;omega];exact hi2)
   have e:t.text=[]:=congrArg Tz.t this
   rw[e];exact Nat.zero_le _
 have hw8:∀c∈dF T,c<256:=by
  have htb:∀t∈T,∀c∈t.text,c<256:=by
   intro t ht c hc
   rcases aRp s _ _ _ _ _ h t ht with q|q|q
   ·cases q
   ·rw[q]at hc;cases hc
   ·rw[q]at hc;exact h8 c (List.mem_of_mem_drop (List.mem_of_mem_take hc))
  have go:∀l:List Tk,(∀t∈l,∀c∈t.text,c<256)→∀c∈dF l,c<256:=by
   intro l
   induction l with
   |nil=>intro _ c hc;cases hc
   |cons t l ih=>
    intro hl c hc
    rcases List.mem_append.1 (show c∈comm++(t.text++dF l)from hc)with q|q
    ·have:∀c∈comm,c<256:=by decide
     exact this c q
    ·rcases List.mem_append.1 q with q|q
     ·exact hl t (by simp) c q
     ·exact ih (fun y hy=>hl y (List.mem_cons_of_mem _ hy)) c q
  exact go T htb
 have hwl:(dF T).length<big:=by
  have h1:=zY T htx
  have h2:T.length*2006≤4001*2006:=Nat.mul_le_mul_right _ hlen
  unfold big
  omega
 have hW:=aPz h8 h
 have hzW:(bK (dF T)).2.2=0:=by rw[hW]
 obtain⟨k1,k2,k3⟩:=uS hwl hzW
 rw[hW]at k1 k2 k3
 dsimp only at g1 g2 g3 k1 k2 k3
 have al:Alike (T.map toZ) ((rA 0 T).map toZ):=by
  have e:∀i,(aA ((rA 0 T).map toZ) i).k=(aA (T.map toZ) i).k∧(aA ((rA 0 T).map toZ) i).t=(aA (T.map toZ) i).t:=by
   intro i
   rcases Nat.lt_or_ge i T.length with q|q
   ·obtain⟨t,ht⟩:∃t,T[i]? =some t:=⟨T[i],List.getElem?_eq_getElem q⟩
    obtain⟨y,hy,_⟩:=aUu 0 T i t ht
    rw[fP (l:=(rA 0 T).map toZ) (by rw[List.getElem?_map,hy];rfl),fP (l:=T.map toZ) (by rw[List.getElem?_map,ht];rfl)]
    exact⟨rfl,rfl⟩
   ·rw[gJ (l:=(rA 0 T).map toZ) (by rw[List.length_map,aKc];exact q),gJ (l:=T.map toZ) (by rw[List.length_map];exact q)]
    exact⟨rfl,rfl⟩
  exact⟨by rw[List.length_map,List.length_map,aKc],fun i=>(e i).1,fun i=>(e i).2⟩
 have hWn:∀i,(aA (T.map toZ) i).t.length≤5000:=fun i=>aVn (N:=5000) (fun t ht=>by
  obtain⟨y,hy,rfl⟩:=List.mem_map.1 ht
  exact Nat.le_trans (htx y hy) (by omega)) i
 have hWn':∀i,(aA ((rA 0 T).map toZ) i).t.length≤5000:=fun i=>by rw[al.t];exact hWn i
 have nt:=bHs al g2 g3 k3
 have kn:=sK g2 g3
 have er:=bId g1
 have sz:smF 5000 rE:=⟨Nat.zero_le _,fun p hp=>(by cases hp),Nat.zero_le _,fun d hd=>(by cases hd),Nat.zero_le _⟩
 have sm:=fun f a=>aFt (f:=f) (a:=a) hWn g2 g3
 have sm':=fun f a=>aFt (f:=f) (a:=a) hWn' k2 k3
 refine⟨hlen,htx,hw8,hwl,?_⟩
 unfold aBd
 rw[hz,hzW,h,hW]
 dsimp only
 generalize FL (T.map toZ)=r at nt kn er sm
 generalize FL ((rA 0 T).map toZ)=r' at nt sm'
 cases r with
 |out=>cases kn
 |ok f a=>cases r' with
  |ok f' a'=>exact⟨f,0,0,f',0,rfl,rfl,sm f a rfl,sm' f' a' rfl,bBs nt.1,fun e=>absurd rfl e⟩
  |er _ _ _ _=>cases nt
  |out=>cases nt
 |er a d p c=>cases r' with
  |ok _ _=>cases nt
  |out=>cases nt
  |er a' d' p' c'=>
   obtain⟨_,_,rfl,j,hj,hj'⟩:=nt
   refine⟨rE,p,c',rE,p',rfl,rfl,sz,sz,rfl,fun _ i t hi hta hlt=>?_⟩
   have hil:=(List.getElem?_eq_some_iff.1 hi).1
   have en:aA (T.map toZ) i=t:=fP hi
   have hij:j=i:=by
    have l1:=g1.lt (i:=i) hlt
    rw[en]at l1
    rcases Nat.lt_trichotomy j i with q|q|q
    ·exfalso
     have a1:=g1.sorted (i:=j) (j:=i) q hil
     have a2:=g1.lt (i:=j) (by omega)
     rw[en]at a1
     omega
    ·exact q
    ·exfalso
     rcases Nat.lt_or_ge j (T.map toZ).length with q2|q2
     ·have a1:=g1.sorted (i:=i) (j:=j) q q2
      rw[en]at a1
      omega
     ·rw[gJ q2]at hj
      have a3:wG (T.map toZ)=(s.length:Int):=by
       have:=g1.last _ (kK (i:=(T.map toZ).length-1) (by omega))
       rw[nK (kK (i:=(T.map toZ).length-1) (by omega)),this]
      have a4:=(g1.tok i t hi hlt).2.2.1
      dsimp only at hj
      omega
   subst hij
   rw[List.length_map]at hil
   obtain⟨u,hu⟩:∃u,T[j]? =some u:=⟨T[j],List.getElem?_eq_getElem hil⟩
   obtain⟨y,hy,hy2⟩:=aUu 0 T j u hu
   rw[fP (l:=(rA 0 T).map toZ) (a:=j) (by rw[List.getElem?_map,hy];rfl)]at hj'
   rw[hy2]
   exact congrArg some hj'.symm
end Go.VM
end
section
/- Files: the law FilexLayout. -/
set_option maxRecDepth 100000
namespace Go.VM
open Go.RowKit
theorem aFu(s:List Nat)(h8:∀c∈s,c<256)(hl:s.length<big):
  SCall Go.Proofs.Tryz.prog [0] 5 [.str s] none ⟨1000,og tOl,[]⟩ (.ret (.bool true)) none ⟨1000,og tOl,[]⟩:=by
 have al:=aWl s h8 hl
 unfold aGp at al
 rw[aHk]at al
 have al:SCall Go.Proofs.Tryz.prog [0] 12 [.str s] none ⟨1000,og tOl,[]⟩ (.ret (.tup [lsV ((match(bK s).2.2 with|0=>(bK s).1|_+1=>[]).map toZ),.agg (dg (bK s).2.1 (bK s).2.2)])) none ⟨1000,og tOl,[]⟩:=al
 have ef:(bK s).2.2=0→bK s=((bK s).1,(bK s).2.1,0):=fun hc=>by rw[←hc]
 generalize(bK s).2.2=ec at al ef
 generalize(bK s).2.1=w at al ef
 generalize(bK s).1=T at al ef
 refine SCall.listed (fn:=Go.Proofs.Tryz.f5) (by kernel_rfl) bNe (by kernel_rfl) (by kernel_rfl) (Nat.le_refl _) rfl ((by exact⟨jN,trivial⟩)) trivial ?_
 unfold rc5
 repeat apply sQ
 refine WR.q rfl ?_
 repeat apply sQ
 refine WR.reg (WQ.c rfl aQv .base rfl ?_)
 refine WQ.q rfl ?_
 repeat apply sQ
 refine WR.m 3 rfl ?_
 by_cases h1:s.length>2000
 ·rw[show decide ((s.length:Int)>2000)=true from decide_eq_true (by omega)]
  refine WQ.q rfl ?_
  repeat apply sQ
  refine WR.aD rfl ?_
  repeat apply sQ
  refine WR.q rfl ?_
  exact WR.e
 rw[show decide ((s.length:Int)>2000)=false from decide_eq_false (by omega)]
 refine WQ.q rfl ?_
 repeat apply sQ
 refine WR.k rfl ?_
 repeat apply sQ
 refine WR.m 1 rfl ?_
 refine WQ.c rfl (SCall.fI al _) .base rfl ?_
 refine WQ.q rfl ?_
 repeat apply sQ
 refine WR.m 2 rfl ?_
 refine WQ.m 1 rfl ?_
 by_cases k1:ec=0
 rotate_left
 ·rw[show decide ((ec:Int)=0)=false from decide_eq_false (by omega)]
  refine WQ.q rfl ?_
  repeat apply sQ
  refine WR.aD rfl ?_
  repeat apply sQ
  refine WR.q rfl ?_
  exact WR.e
 subst k1
 obtain⟨hT,htx,hw8,hwl,f,p,c,g,p',e1,e2,sf,sg,fe,hp⟩:=aLk h8 (by omega) (ef rfl)
 have t1:=fun(h:H)=>aBf (h:=h) s h8 hl (by rw[e1];exact⟨jO f,(by exact⟨trivial,trivial,trivial⟩),trivial⟩)
 have t2:=fun(h:H)=>aBf (h:=h) (dF T) hw8 hwl (by rw[e2];exact⟨jO g,(by exact⟨trivial,trivial,trivial⟩),trivial⟩)
 rw[e1]at t1
 rw[e2]at t2
 have f1:=fun h=>SCall.more (gl:=[0]) (aOw f sf h)
 have f2:=fun h=>SCall.more (gl:=[0]) (aOw g sg h)
 rw[fe]at f2
 have wi:=fun QN QX h0=>bBr (QN:=QN) (QX:=QX) s T htx hT h0 T.length 0 (by omega)
 rw[List.take_zero]at wi
 obtain⟨cc,hcc⟩:∃cc,lvI (plF 0 T)=.lst ((plF 0 T).map iY) cc:=by
  cases plF 0 T with
  |nil=>exact⟨_,rfl⟩
  |cons q r=>exact⟨_,rfl⟩
 rw[hcc]at wi
 have hpl:(plF 0 T).length=(T.map toZ).length:=by rw[aJt,List.length_map]
 have sh:=fun QN QX h0=>bBn (QN:=QN) (QX:=QX) (T.map toZ) (plF 0 T) cc p p' c (nxI (plF 0 T)) (aVr (plF 0 T)) (by rw[List.length_map];unfold big;omega) hpl hp h0 (T.map toZ).length 0 (by omega)
 clear hp hpl hcc e1 e2 ef al hwl hw8 htx
 generalize dF T=W at wi t2
 refine WQ.q rfl ?_
 repeat apply sQ
 refine WR.k rfl ?_
 repeat apply sQ
 refine WR.q rfl ?_
 repeat apply sQ
 refine WR.q rfl ?_
 repeat apply sQ
 refine WR.q rfl ?_
 repeat(first|refine WR.seq ?_|refine WR.block ?_)
 refine WR.loop (WLr.weak ?_ (wi _ _ (fun tm htm=>?_)))
 ·refine SW.aM ?_ ?_
  ·exact tQ
  ·exact lQ
 refine WR.weak (SW.aM htm .nil) ?_
 unfold aYh
 repeat apply sQ
 refine WR.m 1 rfl ?_
 refine WQ.c rfl (t1 _ rfl) .base rfl ?_
 refine WQ.q rfl ?_
 repeat apply sQ
 refine WR.m 1 rfl ?_
 refine WQ.c rfl (t2 _ rfl) .base rfl ?_
 refine WQ.q rfl ?_
 repeat apply sQ
 refine WR.aP aZ ?_
 refine DW.m 5 rfl ?_
 rw[show decide (c=c)=true from decide_eq_true rfl]
 refine DW.m 1000 rfl ?_
 refine DW.eU pQ rfl rfl rfl rfl rfl (f1 _) .base rfl (DW.m 1000 rfl ?_)
 refine DW.eU pQ rfl rfl rfl rfl rfl (f2 _) .base rfl (DW.m 1 rfl ?_)
 rw[show decide (rC f=rC f)=true from decide_eq_true rfl]
 refine DW.m 1000 rfl (DW.cC pQ ?_)
 repeat apply sQ
 refine WR.k rfl ?_
 repeat apply sQ
 refine WR.q rfl ?_
 repeat(first|refine WR.seq ?_|refine WR.block ?_)
 refine WR.loop (WLr.weak ?_ (sh _ _ (fun tm lc htm=>?_)))
 ·refine SW.aM ?_ ?_
  ·exact tQ
  ·exact lQ
 refine WR.weak (SW.aM htm (.nil)) ?_
 unfold aYn
 repeat apply sQ
 refine WR.q rfl ?_
 exact WR.ret ⟨rfl,rfl,⟨_,rfl,VLe.refl _⟩,fun b hb=>aTy _ b hb⟩
theorem aFv(s:List Nat)(h8:∀c∈s,c<256)(hl:s.length<big):SCall Go.Proofs.Tryz.prog [0] 5 [.str s] none (Go.VM.hT 0 .u8 zJ) (.ret (.bool true)) none (Go.VM.hT 0 .u8 zJ):=aFu s h8 hl
end Go.VM
end
