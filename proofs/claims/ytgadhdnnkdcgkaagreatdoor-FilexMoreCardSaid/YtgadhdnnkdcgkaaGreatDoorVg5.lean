/- laid for this seat: VxN VxO VxP VxQ VxR VxS -/
import Derived.Test.YtgadhdnnkdcgkaaGreatDoorVg4
import Derived.Test.YtgadhdnnkdcgkaaGreatDoorVmS
import Derived.Test.YtgadhdnnkdcgkaaGreatDoorVmR
set_option linter.unusedVariables false
set_option linter.unusedSimpArgs false
section
/- Expressions: a new. -/
set_option maxRecDepth 100000
namespace Go.VM
open Go.RowKit
theorem aBd(l:List Tz):∀(m a:Nat) (ls:List Int) (p c:Int),cI l m a ls=.er p c→c≠0
 |0,a,ls,p,c,h=>by
  simp only[cI]at h
  split at h
  ·cases h
  ·cases h;decide
 |m+1,a,ls,p,c,h=>by
  simp only[cI]at h
  split at h
  ·cases h
  ·split at h
   ·cases h;decide
   ·exact aBd l m (a+2) _ p c h
theorem aTm{l:List Tz}{a a' d':Nat}{p c:Int}(h:eY l a=.er a' d' p c):c≠0:=by
 unfold eY at h
 split at h
 ·cases h
 ·split at h
  ·split at h
   ·split at h
    ·cases h
    ·cases h;decide
   ·cases h
  ·cases h;decide
theorem zB{l:List Tz}{a a' d':Nat}{p c:Int}(h:tyF l a=.er a' d' p c):c≠0∧a'=0∧d'=0:=by
 unfold tyF at h
 split at h
 ·rename_i p' c' ho;cases h;exact⟨aBd l 30 a [] p c ho,rfl,rfl⟩
 ·split at h
  ·cases h
  ·rename_i hb;cases h;exact⟨aTm hb,rfl,rfl⟩
  ·cases h
theorem eI{o1 o2:Obj}:∀{rest:OL},(rest.all fun e=>Nat.ble 1002 e.1)=true→∀b,b<1002→og [(1000,o1),(1001,o2)] b=og ((1000,o1)::(1001,o2)::rest) b:=by
 intro rest hr b hb
 have go:∀rest:OL,(rest.all fun e=>Nat.ble 1002 e.1)=true→og rest b=none:=by
  intro rest
  induction rest with
  |nil=>intro _;rfl
  |cons e rest ih=>
   intro hr
   obtain⟨k,o⟩:=e
   simp only[List.all_cons,Bool.and_eq_true,Nat.ble_eq]at hr
   rw[aT,if_neg (by omega)]
   exact ih hr.2
 simp only[aT]
 split
 ·rfl
 ·split
  ·rfl
  ·exact(go rest hr).symm
def xV(p e:Int):List V:=[.int .i64 0,.int .i64 p,.int .i64 e,.str [],.int .i64 0,.int .i64 0,.int .i64 0,.str [],.str [],.lst [] (.ex 0),.lst [] (.ex 0)]
theorem aXr{D:Nat→Prop}(p e:Int):Ins D (xV p e):=⟨trivial,trivial,trivial,trivial,trivial,trivial,trivial,trivial,trivial,⟨trivial,trivial⟩,⟨trivial,trivial⟩,trivial⟩
theorem aRa(l:List Tz)(hl:l.length<4294967296)(f:Fns)(hs:SpecF l f)(p e:Int)(a d:Nat)(ha:a<l.length)(hd:d≤30):Sp 133 [.agg (xV p e)] l a d lN (oM l f p a d):=by
 unfold oM
 cases ht:tyF l (a+1)with
 |out=>intro ho;cases ho
 |er a' d' p' c=>
  obtain⟨hc,rfl,rfl⟩:=zB ht
  intro _
  refine SCall.aJ (fn:=Go.Proofs.Tryz.f133) (by kernel_rfl) aFc (by kernel_rfl) (by kernel_rfl) (Nat.le_refl _) rfl ((dW (by show 1001<1002;decide) _ _ _)) bB ?_
  unfold aIv
  repeat apply sQ
  refine WR.q rfl ?_
  repeat apply sQ
  refine WR.aN aZ (DW.m 9 rfl ?_)
  rw[bJ (by unfold big;omega)]
  refine DW.m 1000 rfl ?_
  refine DW.dX pQ rfl rfl rfl rfl rfl (tH l hl (a+1) (by omega) _) .base rfl ?_
  rw[ht]
  refine DW.m 1000 rfl ?_
  refine DW.stS pQ rfl rfl rfl rfl (DW.m 1000 rfl ?_)
  refine DW.stS pQ rfl rfl rfl rfl (DW.m 1000 rfl (DW.bS pQ ?_))
  repeat apply sQ
  refine WR.m 3 rfl ?_
  rw[show decide (c=0)=false from decide_eq_false hc]
  refine WQ.q rfl ?_
  repeat apply sQ
  refine WR.aD rfl ?_
  repeat apply sQ
  refine WR.m 2 rfl ?_
  refine WQ.aXn rfl rfl rfl ⟨rfl,rfl,rfl,eI rfl⟩
 |ok ty a1=>
  obtain⟨tk,ta,tp,tn,tl⟩:=ty
  obtain⟨h1,h2⟩:=nP ht
  cases hi:isF l a1 4 [123]with
  |false=>
   intro _
   simp only[hi]
   refine SCall.aJ (fn:=Go.Proofs.Tryz.f133) (by kernel_rfl) aFc (by kernel_rfl) (by kernel_rfl) (Nat.le_refl _) rfl ((dW (by show 1001<1002;decide) _ _ _)) bB ?_
   unfold aIv
   repeat apply sQ
   refine WR.q rfl ?_
   repeat apply sQ
   refine WR.aN aZ (DW.m 9 rfl ?_)
   rw[bJ (by unfold big;omega)]
   refine DW.m 1000 rfl ?_
   refine DW.dX pQ rfl rfl rfl rfl rfl (tH l hl (a+1) (by omega) _) .base rfl ?_
   rw[ht]
   refine DW.m 1000 rfl ?_
   refine DW.stS pQ rfl rfl rfl rfl (DW.m 1000 rfl ?_)
   refine DW.stS pQ rfl rfl rfl rfl (DW.m 1000 rfl (DW.bS pQ ?_))
   repeat apply sQ
   refine WR.q rfl ?_
   repeat apply sQ
   refine WR.k rfl ?_
   unfold sN
   repeat apply sQ
   refine WR.q rfl ?_
   repeat apply sQ
   refine WR.m 1 rfl ?_
   refine WQ.c rfl (kC (l:=l) (a:=a1) (d:=d) (M:=1001) hl (by decide) (by decide) (by decide) rfl rfl) .base rfl (WQ.q rfl ?_)
   rw[hi]
   refine WR.aD rfl ?_
   repeat apply sQ
   refine WR.m 1 rfl ?_
   refine WQ.aL rfl rfl rfl rfl rfl (hY (l:=l) (a:=a1) (d:=d) (M:=1001) hl (by decide) (by decide) (by decide) rfl rfl) .base ⟨rfl,rfl,rfl,eI rfl⟩
  |true=>
   simp only[hi]
   have sp:=hs.list [125] a1 d (bI hi (by decide)) hd
   cases hy:f.list [125] a1 d with
   |out=>intro ho;cases ho
   |er a2 d2 p2 c2=>
    rw[hy]at sp
    intro _
    refine SCall.aJ (fn:=Go.Proofs.Tryz.f133) (by kernel_rfl) aFc (by kernel_rfl) (by kernel_rfl) (Nat.le_refl _) rfl ((dW (by show 1001<1002;decide) _ _ _)) bB ?_
    unfold aIv
    repeat apply sQ
    refine WR.q rfl ?_
    repeat apply sQ
    refine WR.aN aZ (DW.m 9 rfl ?_)
    rw[bJ (by unfold big;omega)]
    refine DW.m 1000 rfl ?_
    refine DW.dX pQ rfl rfl rfl rfl rfl (tH l hl (a+1) (by omega) _) .base rfl ?_
    rw[ht]
    refine DW.m 1000 rfl ?_
    refine DW.stS pQ rfl rfl rfl rfl (DW.m 1000 rfl ?_)
    refine DW.stS pQ rfl rfl rfl rfl (DW.m 1000 rfl (DW.bS pQ ?_))
    repeat apply sQ
    refine WR.q rfl ?_
    repeat apply sQ
    refine WR.k rfl ?_
    unfold sN
    repeat apply sQ
    refine WR.q rfl ?_
    repeat apply sQ
    refine WR.m 1 rfl ?_
    refine WQ.c rfl (kC (l:=l) (a:=a1) (d:=d) (M:=1001) hl (by decide) (by decide) (by decide) rfl rfl) .base rfl (WQ.q rfl ?_)
    rw[hi]
    refine WR.k rfl ?_
    unfold yZ
    repeat apply sQ
    refine WR.aN aZ (DW.m 1000 rfl ?_)
    refine DW.stS pQ rfl rfl rfl rfl (DW.m 1000 rfl ?_)
    refine DW.stS pQ rfl rfl rfl rfl (DW.m 1000 rfl (DW.bS pQ ?_))
    repeat apply sQ
    refine WR.m 1 rfl ?_
    refine WQ.aL rfl rfl rfl rfl rfl (sp.er ((by exact⟨trivial,trivial⟩)) (R:=1000) (M:=1001) (by decide) (by decide) (by decide) rfl rfl) (.put .base rfl) ⟨rfl,rfl,rfl,eI rfl⟩
   |ok r a2=>
    rw[hy]at sp
    intro _
    refine SCall.aJ (fn:=Go.Proofs.Tryz.f133) (by kernel_rfl) aFc (by kernel_rfl) (by kernel_rfl) (Nat.le_refl _) rfl ((dW (by show 1001<1002;decide) _ _ _)) (by exact cH _) ?_
    unfold aIv
    repeat apply sQ
    refine WR.q rfl ?_
    repeat apply sQ
    refine WR.aN aZ (DW.m 9 rfl ?_)
    rw[bJ (by unfold big;omega)]
    refine DW.m 1000 rfl ?_
    refine DW.dX pQ rfl rfl rfl rfl rfl (tH l hl (a+1) (by omega) _) .base rfl ?_
    rw[ht]
    refine DW.m 1000 rfl ?_
    refine DW.stS pQ rfl rfl rfl rfl (DW.m 1000 rfl ?_)
    refine DW.stS pQ rfl rfl rfl rfl (DW.m 1000 rfl (DW.bS pQ ?_))
    repeat apply sQ
    refine WR.q rfl ?_
    repeat apply sQ
    refine WR.k rfl ?_
    unfold sN
    repeat apply sQ
    refine WR.q rfl ?_
    repeat apply sQ
    refine WR.m 1 rfl ?_
    refine WQ.c rfl (kC (l:=l) (a:=a1) (d:=d) (M:=1001) hl (by decide) (by decide) (by decide) rfl rfl) .base rfl (WQ.q rfl ?_)
    rw[hi]
    refine WR.k rfl ?_
    unfold yZ
    repeat apply sQ
    refine WR.aN aZ (DW.m 1000 rfl ?_)
    refine DW.stS pQ rfl rfl rfl rfl (DW.m 1000 rfl ?_)
    refine DW.stS pQ rfl rfl rfl rfl (DW.m 1000 rfl (DW.bS pQ ?_))
    repeat apply sQ
    refine WR.m 1 rfl ?_
    refine WQ.c rfl (sp.ok ((by exact⟨trivial,trivial⟩)) (sZ _) (R:=1000) (M:=1001) (by decide) (by decide) (by decide) rfl rfl) (.put .base rfl) rfl ?_
    refine WQ.q rfl ?_
    repeat apply sQ
    refine WR.q rfl ?_
    refine WR.ret ⟨rfl,rfl,⟨_,rfl,vQ⟩,eI rfl⟩
end Go.VM
end
section
/- Expressions: what stands by itself. -/
set_option maxRecDepth 100000
namespace Go.VM
open Go.RowKit
inductive VLL:List V→List V→Prop where
 |nil:VLL [] []
 |cons {a b:V} {l m:List V} (h:VLe a b) (t:VLL l m):VLL (a::l) (b::m)
theorem VLL.ars{E:Env}:∀{l m:List V} {xs:List Value},VLL l m→ARs E l xs→ARs E m xs
 |_,_,_,.nil,r=>r
 |_,_,_,.cons h t,.cons _ _ _ _ r1 r2=>.cons _ _ _ _ (h E _ r1) (t.ars r2)
theorem VLe.agg{l m:List V}(h:VLL l m):VLe (.agg l) (.agg m):=fun E x r=>by
 cases r with|agg _ cs q=>exact .agg _ _ (h.ars q)
theorem VLe.tup{l m:List V}(h:VLL l m):VLe (.tup l) (.tup m):=fun E x r=>by
 cases r with|tup _ cs q=>exact .tup _ _ (h.ars q)
theorem R.isIn{α:Type}{enc:α→V}(h:∀(D:Nat→Prop) v,(enc v).In D)(r:R α)(D:Nat→Prop):(r.pL enc).In D:=by
 cases r with
 |ok y _=>exact h D y
 |er _ _ _ _=>exact bB
 |out=>exact trivial
theorem aQn(l:List Tz)(hl:l.length<4294967296)(hT:∀t∈l,t.t.length<big)(f:Fns)(hs:SpecF l f)(fw:FwdF l f)(a d:Nat)(ha:a≤l.length)(hd:d≤30):Sp 127 [] l a d lN (eR l f a d):=by
 intro ho
 obtain⟨r,hr⟩:∃r,r=eR l f a d:=⟨_,rfl⟩
 rw[←hr]at ho⊢
 have hnt:(aB l a).t.length<big:=by
  unfold aB
  cases hc:l[a]? with
  |some t=>exact hT t (List.mem_of_getElem? hc)
  |none=>show 0<big;decide
 have hlt:(aB l a).k≠0→a<l.length:=cS
 have hmst:=qP l
 have hi1:isF l a 5 [116,114,117,101]=true→a<l.length:=fun h=>bI h (by decide)
 have hi2:isF l a 5 [102,97,108,115,101]=true→a<l.length:=fun h=>bI h (by decide)
 have hi3:isF l a 4 [40]=true→a<l.length:=fun h=>bI h (by decide)
 have hi4:isF l a 5 [110,101,119]=true→a<l.length:=fun h=>bI h (by decide)
 unfold eR at hr
 unfold aTs aKm bHi at hr
 refine SCall.aJ (fn:=Go.Proofs.Tryz.f127) (by kernel_rfl) bGj (by kernel_rfl) (by kernel_rfl) (Nat.le_refl _) rfl ((dW (by show 1001<1002;decide) _ _ _)) (by exact R.isIn (fun _=>cH) _ _) ?_
 unfold bEr
 repeat apply sQ
 refine WR.reg (WQ.aG [1,4] 1000 _ _ _ _ rfl (WQ.aK ?_))
 repeat apply sQ
 refine WR.reg (WQ.aG [1,4] 1 _ _ _ _ rfl ?_)
 refine WQ.c rfl (rZ (l:=l) (a:=a) (d:=d) (M:=1001) hl (by decide) (by decide) (by decide) rfl rfl) .base rfl (WQ.aG [1,4] 1000 _ _ _ _ rfl (WQ.aK ?_))
 repeat apply sQ
 refine WR.reg (WQ.aG [1,4] 1000 _ _ _ _ rfl (WQ.aK ?_))
 cases h2:decide ((aB l a).k=2)with
 |true=>
  simp only[h2]at hr
  have ha:=hlt (by rw[of_decide_eq_true h2];decide)
  repeat apply sQ
  refine WR.block ?_
  repeat apply sQ
  refine WR.reg (WQ.aG [1,4] 1000 _ _ _ _ rfl (WQ.aK ?_))
  rw[h2]
  repeat apply sQ
  refine WR.aD rfl ?_
  have sp:=aFr l a d hl (aB l a).t hnt
  repeat apply sQ
  refine WR.reg (WQ.aG [1,4] 3 _ _ _ _ rfl ?_)
  unfold gN at sp hr
  cases hn:wG (aB l a).t with
  |true=>
   rw[hn]at sp hr
   refine WQ.c rfl (sp.ok ⟨trivial,trivial⟩ trivial (R:=1000) (M:=1001) (by decide) (by decide) (by decide) rfl rfl) (.put .base rfl) rfl ?_
   refine WQ.aG [1,4] 1000 _ _ _ _ rfl (WQ.aK ?_)
   have hr:r=.ok (.mk 1 (aB l a).a (aB l a).e [] (aDd (aB l a).t) zT []) (a+1):=hr
   subst hr
   unfold mM
   repeat apply sQ
   refine WR.m 5 rfl ?_
   rw[bJ (by unfold big;omega)]
   refine WQ.q rfl ?_
   repeat apply sQ
   refine WR.q rfl ?_
   refine WR.ret ⟨rfl,rfl,⟨_,rfl,vQ⟩,eI rfl⟩
  |false=>
   rw[hn]at sp hr
   have hr:r=fZ l a d 2:=hr
   subst hr
   refine WQ.aL rfl rfl rfl rfl rfl (sp.er ⟨trivial,trivial⟩ (R:=1000) (M:=1001) (by decide) (by decide) (by decide) rfl rfl) (.put .base rfl) ⟨rfl,rfl,rfl,eI rfl⟩
 |false=>
  simp only[h2]at hr
  repeat apply sQ
  refine WR.block ?_
  repeat apply sQ
  refine WR.reg (WQ.aG [1,4] 1000 _ _ _ _ rfl (WQ.aK ?_))
  rw[h2]
  refine WR.aO rfl ?_
  repeat apply sQ
  refine WR.reg (WQ.aG [1,4] 1000 _ _ _ _ rfl (WQ.aK ?_))
  cases h3:decide ((aB l a).k=3)with
  |true=>
   simp only[h3]at hr
   have ha:=hlt (by rw[of_decide_eq_true h3];decide)
   unfold aYv bFb at hr
   generalize hs0:(aB l a).t=s at hr hnt
   repeat apply sQ
   refine WR.aD rfl ?_
   repeat apply sQ
   refine WR.reg (WQ.aG [1,4] 1000 _ _ _ _ rfl (WQ.aK ?_))
   repeat apply sQ
   refine WR.reg (WQ.aG [1,4] 2 _ _ _ _ rfl ?_)
   by_cases hlen:s.length<2
   ·rw[show decide ((s.length:Int)<2)=true from decide_eq_true (by omega)]
    rw[decide_eq_true hlen]at hr
    have hr:r=fZ l a d 3:=hr
    subst hr
    refine WQ.aG [1,4] 1000 _ _ _ _ rfl (WQ.aK ?_)
    repeat apply sQ
    refine WR.aD rfl ?_
    repeat apply sQ
    refine WR.reg (WQ.aG [1,4] 1 _ _ _ _ rfl ?_)
    refine WQ.aL rfl rfl rfl rfl rfl (hY (l:=l) (a:=a) (d:=d) (M:=1001) hl (by decide) (by decide) (by decide) rfl rfl) .base ⟨rfl,rfl,rfl,eI rfl⟩
   ·rw[show decide ((s.length:Int)<2)=false from decide_eq_false (by omega)]
    rw[decide_eq_false hlen]at hr
    obtain⟨c0,hc0⟩:∃c,s[0]? =some c:=⟨s[0],List.getElem?_eq_getElem (by omega)⟩
    obtain⟨c1,hc1⟩:∃c,s[s.length-1]? =some c:=⟨s[s.length-1],List.getElem?_eq_getElem (by omega)⟩
    rw[hc0,hc1]at hr
    refine WQ.aG [1,4] 3 _ _ _ _ rfl ?_
    refine WQ.cE rfl rfl rfl (uA (n:=0) rfl rfl hc0) rfl (WQ.aG [1,4] 1 _ _ _ _ rfl ?_)
    by_cases h34:c0=34
    ·subst h34
     refine WQ.aG [1,4] 6 _ _ _ _ rfl ?_
     rw[rB (by omega) hnt]
     refine WQ.cE rfl rfl rfl (uA rfl rfl hc1) rfl (WQ.aG [1,4] 1 _ _ _ _ rfl ?_)
     by_cases h35:c1=34
     ·subst h35
      have hr:r=.ok (.mk 2 (aB l a).a (aB l a).e ((s.drop 1).take (s.length-1-1)) 0 zT []) (a+1):=hr
      refine WQ.aG [1,4] 1000 _ _ _ _ rfl (WQ.aK ?_)
      repeat apply sQ
      refine WR.k rfl ?_
      unfold aGa
      refine WR.aN aZ (DW.m 4 rfl ?_)
      rw[rB (by omega) hnt]
      refine DW.cX rfl (fun h=>aEp (a:=1) (c:=s.length-1) rfl rfl rfl (by omega) (by omega)) rfl (DW.m 1000 rfl ?_)
      refine DW.stS pQ rfl rfl rfl rfl (DW.m 1000 rfl ?_)
      refine DW.stS pQ rfl rfl rfl rfl (DW.m 1000 rfl (DW.bS pQ ?_))
      subst hr
      unfold mM
      repeat apply sQ
      refine WR.m 5 rfl ?_
      rw[bJ (by unfold big;omega)]
      refine WQ.q rfl ?_
      repeat apply sQ
      refine WR.q rfl ?_
      refine WR.ret ⟨rfl,rfl,⟨_,rfl,vQ⟩,eI rfl⟩
     ·have hr:r=fZ l a d 3:=by
       rw[hr,decide_eq_false (show ¬(some c1=some 34)from fun e=>h35 (Option.some.inj e))];rfl
      subst hr
      rw[show decide ((c1:Int)=34)=false from decide_eq_false (by omega)]
      refine WQ.aG [1,4] 1000 _ _ _ _ rfl (WQ.aK ?_)
      repeat apply sQ
      refine WR.aD rfl ?_
      repeat apply sQ
      refine WR.reg (WQ.aG [1,4] 1 _ _ _ _ rfl ?_)
      refine WQ.aL rfl rfl rfl rfl rfl (hY (l:=l) (a:=a) (d:=d) (M:=1001) hl (by decide) (by decide) (by decide) rfl rfl) .base ⟨rfl,rfl,rfl,eI rfl⟩
    ·have hr:r=fZ l a d 3:=by
      rw[hr,decide_eq_false (show ¬(some c0=some 34)from fun e=>h34 (Option.some.inj e))];rfl
     subst hr
     rw[show decide ((c0:Int)=34)=false from decide_eq_false (by omega)]
     refine WQ.aG [1,4] 1000 _ _ _ _ rfl (WQ.aK ?_)
     repeat apply sQ
     refine WR.aD rfl ?_
     repeat apply sQ
     refine WR.reg (WQ.aG [1,4] 1 _ _ _ _ rfl ?_)
     refine WQ.aL rfl rfl rfl rfl rfl (hY (l:=l) (a:=a) (d:=d) (M:=1001) hl (by decide) (by decide) (by decide) rfl rfl) .base ⟨rfl,rfl,rfl,eI rfl⟩
  |false=>
   simp only[h3]at hr
   refine WR.aO rfl ?_
   repeat apply sQ
   refine WR.reg (WQ.aG [1,4] 1 _ _ _ _ rfl ?_)
   refine WQ.c rfl (kC (l:=l) (a:=a) (d:=d) (M:=1001) hl (by decide) (by decide) (by decide) rfl rfl) .base rfl (WQ.aG [1,4] 1000 _ _ _ _ rfl (WQ.aK ?_))
   cases h4:isF l a 5 [116,114,117,101]with
   |true=>
    have ha:=hi1 h4
    simp only[h4]at hr
    repeat apply sQ
    refine WR.aD rfl ?_
    repeat apply sQ
    refine WR.reg (WQ.aG [1,4] 1000 _ _ _ _ rfl (WQ.aK ?_))
    subst hr
    unfold mM
    repeat apply sQ
    refine WR.m 5 rfl ?_
    rw[bJ (by unfold big;omega)]
    refine WQ.q rfl ?_
    repeat apply sQ
    refine WR.q rfl ?_
    refine WR.ret ⟨rfl,rfl,⟨_,rfl,vQ⟩,eI rfl⟩
   |false=>
   simp only[h4]at hr
   refine WR.aO rfl ?_
   repeat apply sQ
   refine WR.reg (WQ.aG [1,4] 1 _ _ _ _ rfl ?_)
   refine WQ.c rfl (kC (l:=l) (a:=a) (d:=d) (M:=1001) hl (by decide) (by decide) (by decide) rfl rfl) .base rfl (WQ.aG [1,4] 1000 _ _ _ _ rfl (WQ.aK ?_))
   cases h5:isF l a 5 [102,97,108,115,101]with
   |true=>
    have ha:=hi2 h5
    simp only[h5]at hr
    repeat apply sQ
    refine WR.aD rfl ?_
    repeat apply sQ
    refine WR.reg (WQ.aG [1,4] 1000 _ _ _ _ rfl (WQ.aK ?_))
    subst hr
    unfold mM
    repeat apply sQ
    refine WR.m 5 rfl ?_
    rw[bJ (by unfold big;omega)]
    refine WQ.q rfl ?_
    repeat apply sQ
    refine WR.q rfl ?_
    refine WR.ret ⟨rfl,rfl,⟨_,rfl,vQ⟩,eI rfl⟩
   |false=>
   simp only[h5]at hr
   refine WR.aO rfl ?_
   repeat apply sQ
   refine WR.reg (WQ.aG [1,4] 1000 _ _ _ _ rfl (WQ.aK ?_))
   cases h6:decide ((aB l a).k=1)with
   |true=>
    have ha:=hlt (by rw[of_decide_eq_true h6];decide)
    simp only[h6]at hr
    repeat apply sQ
    refine WR.aD rfl ?_
    refine WR.aN aZ (DW.m 1000 rfl ?_)
    refine DW.stS pQ rfl rfl rfl rfl (DW.m 1000 rfl ?_)
    refine DW.stS pQ rfl rfl rfl rfl (DW.m 1000 rfl (DW.bS pQ ?_))
    subst hr
    unfold mM
    repeat apply sQ
    refine WR.m 5 rfl ?_
    rw[bJ (by unfold big;omega)]
    refine WQ.q rfl ?_
    repeat apply sQ
    refine WR.q rfl ?_
    refine WR.ret ⟨rfl,rfl,⟨_,rfl,vQ⟩,eI rfl⟩
   |false=>
   simp only[h6]at hr
   refine WR.aO rfl ?_
   repeat apply sQ
   refine WR.reg (WQ.aG [1,4] 1 _ _ _ _ rfl ?_)
   refine WQ.c rfl (kC (l:=l) (a:=a) (d:=d) (M:=1001) hl (by decide) (by decide) (by decide) rfl rfl) .base rfl (WQ.aG [1,4] 1000 _ _ _ _ rfl (WQ.aK ?_))
   cases h7:isF l a 4 [40]with
   |true=>
    have ha:=hi3 h7
    simp only[h7]at hr
    have wi:=vY (f:=132) hl ha hd (F:=f.expr 1) (fun hd30=>bNc l hl (a+1) (d+1) _ (hs.expr 1 (a+1) (d+1) (by decide) (by decide) (by omega) (by omega))) (xV (aB l a).a (aB l a).e) rfl (aXr _ _)
    repeat apply sQ
    refine WR.aD rfl ?_
    repeat apply sQ
    refine WR.reg (WQ.aG [1,4] 2 _ _ _ _ rfl ?_)
    cases hw:bC l a d (f.expr 1)with
    |out=>rw[hw]at hr;subst hr;cases ho
    |er a1 d1 p c=>
     rw[hw]at hr wi
     have hr:r=.er a1 d1 p c:=hr
     subst hr
     exact WQ.aL rfl rfl rfl rfl rfl (SCall.eJ wi _) .base ⟨rfl,rfl,rfl,eI rfl⟩
    |ok y a1=>
     rw[hw]at hr wi
     obtain⟨yk,ya,ye,yn,yv,⟨ytk,yta,ytp,ytn,ytl⟩,ys⟩:=y
     refine WQ.c rfl (SCall.eJ wi _) .base rfl ?_
     refine WQ.aG [1,4] 1000 _ _ _ _ rfl (WQ.aK ?_)
     have sp:=qP l a1 d hl [41]
     have hr:r=(cN l a1 d [41]).bind fun _ a2=>.ok (.mk yk ya ye yn yv (.mk ytk yta ytp ytn ytl) ys) a2:=hr
     repeat apply sQ
     refine WR.reg (WQ.aG [1,4] 1 _ _ _ _ rfl ?_)
     cases hm:cN l a1 d [41]with
     |out=>rw[hm]at hr;subst hr;cases ho
     |er a2 d2 p c=>
      rw[hm]at hr sp
      have hr:r=.er a2 d2 p c:=hr
      subst hr
      exact WQ.aL rfl rfl rfl rfl rfl (sp.er ⟨trivial,trivial⟩ (R:=1000) (M:=1001) (by decide) (by decide) (by decide) rfl rfl) (.put .base rfl) ⟨rfl,rfl,rfl,eI rfl⟩
     |ok e a2=>
      rw[hm]at sp hr
      have hr:r=.ok (.mk yk ya ye yn yv (.mk ytk yta ytp ytn ytl) ys) a2:=hr
      subst hr
      refine WQ.c rfl (sp.ok ⟨trivial,trivial⟩ trivial (R:=1000) (M:=1001) (by decide) (by decide) (by decide) rfl rfl) (.put .base rfl) rfl ?_
      refine WQ.aG [1,4] 1000 _ _ _ _ rfl (WQ.aK ?_)
      repeat apply sQ
      refine WR.reg (WQ.aG [1,4] 1000 _ _ _ _ rfl (WQ.aK ?_))
      refine WR.ret ⟨rfl,rfl,⟨_,rfl,vQ⟩,eI rfl⟩
   |false=>
   simp only[h7]at hr
   refine WR.aO rfl ?_
   repeat apply sQ
   refine WR.reg (WQ.aG [1,4] 1 _ _ _ _ rfl ?_)
   refine WQ.c rfl (kC (l:=l) (a:=a) (d:=d) (M:=1001) hl (by decide) (by decide) (by decide) rfl rfl) .base rfl (WQ.aG [1,4] 1000 _ _ _ _ rfl (WQ.aK ?_))
   cases h8:isF l a 5 [110,101,119]with
   |true=>
    have ha:=hi4 h8
    simp only[h8]at hr
    have sp:=aRa l hl f hs (aB l a).a (aB l a).e a d ha hd
    rw[←hr]at sp
    repeat apply sQ
    refine WR.aD rfl ?_
    repeat apply sQ
    refine WR.reg (WQ.aG [1,4] 2 _ _ _ _ rfl ?_)
    cases hr2:r with
    |out=>subst hr2;cases ho
    |er a1 d1 p c=>
     subst hr2
     exact WQ.aL rfl rfl rfl rfl rfl (sp.er ⟨aXr _ _,trivial⟩ (R:=1000) (M:=1001) (by decide) (by decide) (by decide) rfl rfl) (.put .base rfl) ⟨rfl,rfl,rfl,eI rfl⟩
    |ok y a1=>
     subst hr2
     obtain⟨yk,ya,ye,yn,yv,⟨ytk,yta,ytp,ytn,ytl⟩,ys⟩:=y
     refine WQ.c rfl (sp.ok ⟨aXr _ _,trivial⟩ (cH _) (R:=1000) (M:=1001) (by decide) (by decide) (by decide) rfl rfl) (.put .base rfl) rfl ?_
     refine WQ.aG [1,4] 1000 _ _ _ _ rfl (WQ.aK ?_)
     refine WR.ret ⟨rfl,rfl,⟨_,rfl,vQ⟩,eI rfl⟩
   |false=>
    simp only[h8]at hr
    have hr:r=fZ l a d 5:=hr
    subst hr
    refine WR.aO rfl ?_
    repeat apply sQ
    refine WR.reg (WQ.aG [1,4] 1 _ _ _ _ rfl ?_)
    refine WQ.aL rfl rfl rfl rfl rfl (hY (l:=l) (a:=a) (d:=d) (M:=1001) hl (by decide) (by decide) (by decide) rfl rfl) .base ⟨rfl,rfl,rfl,eI rfl⟩
end Go.VM
end
section
/- Expressions: the elements of a list: rows and code. -/
set_option maxRecDepth 100000
namespace Go.VM
open Go.RowKit
def aTv:Code→Code|.seq a _=>a|c=>c
def aBm:Code→Code|.seq _ b=>b|c=>c
def cIn:Code→Code|.block _ a=>a|.loop a=>a|c=>c
noncomputable def bdL:Code:=(Go.Proofs.Tryz.f134).body.getD .skip
noncomputable def bdA:Code:=aTv bdL
noncomputable def bdH:Code:=aTv (cIn (cIn (aBm bdL)))
noncomputable def bdF:Code:=aTv (cIn (aBm (cIn (cIn (aBm bdL)))))
noncomputable def bdT:Code:=aBm (cIn (aBm (cIn (cIn (aBm bdL)))))
theorem aWe:bdL=.seq bdA (.block 0 (.loop (.seq bdH (.block 1 (.seq bdF bdT))))):=by kernel_rfl
theorem aHq:(Go.Proofs.Tryz.f134).body=some bdL:=by kernel_rfl
def rcA:RC:=.reg [⟨0,0,some (.ld (.t 0) none),[],some 4,none⟩,⟨0,0,some (.ld (.t 1) none),[],some 5,none⟩,⟨0,0,some (.call (.c (.fn (.func 124) [] [])) [.t 4,.c (.int .i64 4),.t 5]),[],some 6,none⟩,⟨0,0,some (.un .not (.t 6)),[],some 7,none⟩,⟨0,0,some (.mv (.t 7)),[],some 3,none⟩]
def rcH:RC:=.seq (.reg [⟨0,0,some (.mv (.t 3)),[],some 8,none⟩]) (.cond (.t 8) .skip (.exit 0))
def rcT:RC:=.seq (.reg [⟨0,0,some (.ld (.t 0) none),[],some 16,none⟩,⟨0,0,some (.call (.c (.fn (.func 124) [] [])) [.t 16,.c (.int .i64 4),.c (.str [44])]),[],some 17,none⟩,⟨0,0,some (.mv (.t 17)),[],some 3,none⟩]) (.seq (.reg [⟨0,0,some (.mv (.t 3)),[],some 18,none⟩]) (.cond (.t 18) (.reg [⟨0,0,some (.ld (.t 0) none),[],some 19,none⟩,⟨0,0,some (.nc (.t 19)),[],some 20,none⟩,⟨0,0,some (.fa (.t 20) 1),[],some 21,none⟩,⟨0,0,some (.ld (.t 21) none),[],some 22,none⟩,⟨0,0,some (.bin .add (.t 22) (.c (.int .i64 1))),[],some 23,none⟩,⟨0,0,some (.nc (.t 19)),[],some 24,none⟩,⟨0,0,some (.fa (.t 24) 1),[],some 25,none⟩,⟨0,0,some (.st (.t 25) (.t 23) 1),[],none,none⟩]) .skip))
def z11:List V:=[.int .i64 0,.int .i64 0,.int .i64 0,.str [],.int .i64 0,.int .i64 0,.int .i64 0,.str [],.str [],.lst [] (.ex 0),.lst [] (.ex 0)]
def fkF:FK:=.mk [⟨0,0,some (.ld (.t 2) none),[2],some 9,none⟩,⟨1,0,some (.ld (.t 0) none),[0],some 10,none⟩,⟨3,1,some (.lenL (.t 9)),[9],some 12,none⟩,⟨4,0,some (.bs 11 1 z11 [(0,.c (.agg z11))]),[],some 13,none⟩]
 [(⟨2,2,some (.call (.c (.fn (.func 117) [] [])) [.t 10,.c (.int .i64 1)]),[10],some 11,none⟩,[]),(⟨5,31,some (.app (.t 9) (.t 13) 11 144 z11),[9,13],some 14,none⟩,[⟨6,63,some (.ia (.t 14) (.t 12) 11),[14,12],some 15,none⟩])]
 [(⟨7,127,some (.st (.t 15) (.t 11) 11),[15,11],none,none⟩,[]),(⟨8,63,some (.st (.t 2) (.t 14) 1),[2,14],none,none⟩,[])]
 [(⟨8,63,some (.st (.t 2) (.t 14) 1),[2,14],none,none⟩,[]),(⟨7,127,some (.st (.t 15) (.t 11) 11),[15,11],none,none⟩,[])] [9,10,11,12,13,14,15]
theorem aYp:aE Go.Proofs.Tryz.prog bdA=some rcA:=by kernel_rfl
theorem aXj:aE Go.Proofs.Tryz.prog bdH=some rcH:=by kernel_rfl
theorem bGf:aE Go.Proofs.Tryz.prog bdT=some rcT:=by kernel_rfl
theorem bBb:aFd Go.Proofs.Tryz.prog bdF=some fkF:=by kernel_rfl
theorem aGv:∀(cs:List V) {z vs:List V},z.length=vs.length→lK (cs++z) cs.length vs=some (cs++vs)
 |[],z,vs,h=>by
  show lK z 0 vs=some vs
  cases z with
  |nil=>cases vs with
   |nil=>rfl
   |cons _ _=>simp at h
  |cons a z=>
   show rD (a::z) vs=some vs
   rw[aAb (by omega),List.drop_eq_nil_iff.2 (by omega),List.append_nil]
 |c::cs,z,vs,h=>by
  show(match lK (cs++z) cs.length vs with|some r=>some (c::r)|none=>none)=_
  rw[aGv cs h];rfl
theorem aDk{gl:List Nat}{tm:TM}{x y:RX}{vs cs z:List V}{opn:Bool}{N k n:Nat}{lc:LM}{p:OL}(hp:keysLt p N)(hN:aC≤N)(hx:rvt gl tm x=some (.v (.ptr N k)))(hy:rv gl tm y=some (.agg vs))(hall:vs.all V.aY=true)
  (hk:cs.length=k) (hz:z.length=vs.length) (hn:vs.length=n):aIx gl tm (p++[(N,.cells opn (cs++z))]) lc (.st x y n)=some (p++[(N,.cells opn (cs++vs))],lc):=by
 subst hk;subst hn
 have hg:Nat.ble aC N=true:=Nat.ble_eq.mpr hN
 simp only[aIx,hx,hy,sS,hall,rowAt _ hp,hg,Nat.beq_refl,aGv cs hz,aFg _ _ hp]
section
variable{P:Program}{gl:List Nat}{fr:Fr}{ds:List Nat}{x:X}{s':S}{hs:List (RI×List RI)}{r:RI}{tm:TM}{df:List AD}{u:Option AMode}{nx:Nat}{ol ol':OL}{lc lc':LM}{es:List ER}
theorem DrR.stS{a y:RX}{n:Nat}(hr:r.ro=some (.st a y n))(hw:aX r.gd (aF tm r.rd)=some true)(hop:aIx gl (aF tm r.rd) ol lc (.st a y n)=some (ol',lc'))(hp:r.dst=none)(pd:PendR P gl fr.nt ⟨nx,og ol',lc'⟩ r.anc es)
  (next:DrR P gl fr ds x s' hs (SL.toS ⟨tm,df,u,nx,ol',lc'⟩) es):DrR P gl fr ds x s' ((r,[])::hs) (SL.toS ⟨tm,df,u,nx,ol,lc⟩) es:=by
 refine .go (v:=.v bG) (s2:=⟨aF tm r.rd,df,u,⟨nx,og ol',lc'⟩⟩) (tm1:=tm) (tm2:=tm) (h2:=⟨nx,og ol',lc'⟩) (es2:=es) hw ?_ (by rw[hp];rfl) .nil pd next
 exact kL (s:=⟨aF tm r.rd,df,u,⟨nx,og ol,lc⟩⟩) (by rw[hr];exact DoesR.store hop rfl)
end
def mD:Nat→V
 |0=>.lst [] (.ex 0)
 |n+1=>.sl (1005+n) 0 (n+1) (.op 11)
def aMt:Nat→List V→OL
 |0,_=>[]
 |n+1,cs=>[(1005+n,.cells true cs)]
def plO(l:List Tz)(a d:Nat)(to:List Nat)(v:V):OL:=[(1000,rdO 1001 l a d),(1001,pD),(1002,aAw),(1003,.cells false [.str to]),(1004,.cells false [v])]
def plM(l:List Tz)(a d:Nat)(to:List Nat)(n:Nat)(cs:List V):OL:=plO l a d to (mD n)++aMt n cs
theorem rF{l:List Tz}{a d:Nat}{to:List Nat}{v:V}{N:Nat}(h:1005≤N):keysLt (plO l a d to v) N:=by
 intro e he
 simp only[plO,List.mem_cons,List.not_mem_nil,or_false]at he
 rcases he with rfl|rfl|rfl|rfl|rfl<;>simp only<;>omega
def flE(l:List Ex):List V:=(iI l).flatten
theorem aMj:∀l:List Ex,(flE l).length=l.length*11
 |[]=>rfl
 |x::l=>by
  show(cA x++flE l).length=_
  rw[List.length_append,eM,aMj l,List.length_cons];omega
theorem aMf(l:List Ex)(x:Ex):flE (l++[x])=flE l++cA x:=by
 unfold flE
 rw[cJ,cJ,List.map_append,List.flatten_append]
 simp
theorem uW{D:Nat→Prop}:∀l:List Ex,Ins D (flE l)
 |[]=>trivial
 |x::l=>by
  have go:∀(a b:List V),Ins D a→Ins D b→Ins D (a++b):=by
   intro a
   induction a with
   |nil=>intro b _ hb;exact hb
   |cons v a ih=>intro b ha hb;exact⟨ha.1,ih b ha.2 hb⟩
  exact go (cA x) (flE l) (iX x) (uW l)
end Go.VM
end
section
/- Expressions: the elements of a list. -/
set_option maxRecDepth 100000
namespace Go.VM
open Go.RowKit
section
variable{P:Program}{gl:List Nat}{fr:Fr}{QN:S→Prop}{QX:X→S→Prop}{ds:List Nat}{anc:Nat}{hs:List (RI×List RI)}{r:RI}{tm:TM}{df:List AD}{u:Option AMode}{nx:Nat}{ol:OL}{lc:LM}{es:List ER}{K:X→S→S→List ER→Prop}
theorem DK.aL{l2:List RI}{x:RX}{xs:List RX}{f:FuncId}{first cap vs ws:List V}{ch:List PE}{h':H}{nx':Nat}{ol':OL}{u':Option AMode}(pd:PendR P gl fr.nt ⟨nx,og ol,lc⟩ anc es)(hr:r.ro=some (.call x xs))(hw:aX r.gd (aF tm r.rd)=some true)
  (hx:rv gl (aF tm r.rd) x=some (.fn (.func f) first cap)) (hv:rvs gl (aF tm r.rd) xs=some vs) (ha:(first++vs)++cap=ws) (sc:SCall P gl f ws none ⟨nx,og ol,lc⟩ (.pan ch) u' h') (hl:HL h' nx' ol' lc)
  (h:QX (.panic ch) (SL.toS ⟨lY tm ds,df,u,nx',ol',lc⟩)):DK P gl fr ds K [] anc ((r,l2)::hs) (SL.toS ⟨tm,df,u,nx,ol,lc⟩) es QN QX:=by
 rw[hl.eq]at sc
 refine DK.stop (s:=SL.toS ⟨tm,df,u,nx,ol,lc⟩) (s2:=SL.toS ⟨aF tm r.rd,df,u,nx',ol',lc⟩) pd hw ?_ h
 rw[hr]
 intro o ho
 exact nD (r:=.pan ch) (s:=SL.toS ⟨aF tm r.rd,df,u,nx,ol,lc⟩) ho hx hv (by rw[ha];exact Weak.refl _) sc
end
theorem DK.both{P:Program}{gl:List Nat}{fr:Fr}{QN:S→Prop}{QX:X→S→Prop}{fk:FK}{anc:Nat}{s sA:S}{es:List ER}(pd:PendR P gl fr.nt s.h anc es)(h1:DrR P gl fr fk.ds .norm sA fk.pq s es)(h2:DrR P gl fr fk.ds .norm sA fk.qp s es)(q:QN sA):
  DK P gl fr fk.ds (bMn P gl fr fk) [] anc [] s es QN QX:=DK.fin (x:=.norm) (s':=sA) pd ⟨rfl,h1,sA,h2,SW.refl _⟩ q
def aRc(m:Bool):TM:=[(0,.v (.ptr 1002 0)),(1,.v (.ptr 1003 0)),(2,.v (.ptr 1004 0)),(3,.v (.bool m))]
noncomputable def aIh:Fr:=⟨Go.Proofs.Tryz.f134.ntmps,none,134⟩
def aGk:List V:=[.int .i64 0,.int .i64 0,.int .i64 0,.str [],.int .i64 0,.int .i64 0,.int .i64 0,.str [],.str [],.lst [] .unk,.lst [] .unk]
theorem aWn{QN:S→Prop}{QX:X→S→Prop}(l:List Tz)(hl:l.length<20000)(to:List Nat)(d a:Nat)(ha:a≤l.length)(acc:List Ex)(n:Nat)(hn:acc.length=n)(hna:n≤a)(r:R Ex)(fw:Fwd l a r)(sp:Sp 117 [.int .i64 1] l a d lN r)(ho:r.bA=false)
  (hq:∀y a1,r=.ok y a1→∀tm,TellT tm [] [(0,.v (.ptr 1002 0)),(1,.v (.ptr 1003 0)),(2,.v (.ptr 1004 0))]→QN (SL.toS ⟨tm,[],none,1005+(n+1),plM l a1 d to (n+1) (flE (acc++[y])),[]⟩))
  (hp:∀a1 d1 p c,r=.er a1 d1 p c→∀tm,QX (.panic (dB p c)) (SL.toS ⟨tm,[],none,1005+n,plM l a1 d1 to n (flE acc),[]⟩)):
  WC Go.Proofs.Tryz.prog [] aIh bdF (SL.toS ⟨aRc true,[],none,1005+n,plM l a d to n (flE acc),[]⟩) QN QX:=by
 refine WC.fork aZ bBb ?_
 have hfl:=aMj acc
 rw[hn]at hfl
 cases n with
 |zero=>
  have hacc:acc=[]:=List.eq_nil_of_length_eq_zero hn
  subst hacc
  refine DK.aG [] 1000 _ _ _ _ _ _ rfl ?_
  cases r with
  |out=>cases ho
  |er a1 d1 p c=>exact DK.aL pQ rfl rfl rfl rfl rfl (sp.er ⟨trivial,trivial⟩ (R:=1000) (M:=1001) (by decide) (by decide) (by decide) rfl rfl) (.put .base rfl) (hp _ _ _ _ rfl _)
  |ok y a1=>
   refine DK.dX pQ rfl rfl rfl rfl rfl (sp.ok ⟨trivial,trivial⟩ (cH _) (R:=1000) (M:=1001) (by decide) (by decide) (by decide) rfl rfl) (.put .base rfl) rfl (DK.aG [] 1000 _ _ _ _ _ _ rfl ?_)
   have hq':=hq y a1 rfl
   rw[aMf]at hq'
   have hq2:∀tm,TellT tm [] [(0,.v (.ptr 1002 0)),(1,.v (.ptr 1003 0)),(2,.v (.ptr 1004 0))]→QN (SL.toS ⟨tm,[],none,1006,plO l a1 d to (mD 1)++[(1005,.cells true (flE []++cA y))],[]⟩):=hq'
   refine DK.eC pQ rfl (bAl (n2:=1) (fl:=flE []++aGk) (p:=plO l a1 d to (mD 0)) (rF (Nat.le_refl _)) rfl rfl (by simp) (by decide) (by decide) rfl rfl) rfl ?_
   refine DK.cX rfl (fun h=>bDp (n:=0) rfl rfl (by decide)) rfl ?_
   refine DK.both pQ
    (DrR.stS rfl rfl (aDk (p:=plO l a1 d to (mD 0)) (cs:=flE []) (z:=aGk) (vs:=cA y) (rF (Nat.le_refl _)) (by decide) rfl rfl (nR y) rfl (eM y).symm (eM y)) rfl pQ
     (DrR.stS (ol':=plO l a1 d to (mD 1)++[(1005,.cells true (flE []++cA y))]) rfl rfl rfl rfl pQ (.fin rfl rfl)))
    (DrR.stS (ol':=plO l a1 d to (mD 1)++[(1005,.cells true (flE []++aGk))]) rfl rfl rfl rfl pQ
     (DrR.stS rfl rfl (aDk (p:=plO l a1 d to (mD 1)) (cs:=flE []) (z:=aGk) (vs:=cA y) (rF (Nat.le_refl _)) (by decide) rfl rfl (nR y) rfl (eM y).symm (eM y)) rfl pQ (.fin rfl rfl)))
    (hq2 _ ?_)
   exact tQ
 |succ k=>
  refine DK.aG [] 1000 _ _ _ _ _ _ rfl ?_
  cases r with
  |out=>cases ho
  |er a1 d1 p c=>exact DK.aL pQ rfl rfl rfl rfl rfl (sp.er ⟨trivial,trivial⟩ (R:=1000) (M:=1001) (by decide) (by decide) (by decide) rfl rfl) (.put .base rfl) (hp _ _ _ _ rfl _)
  |ok y a1=>
   refine DK.dX pQ rfl rfl rfl rfl rfl (sp.ok ⟨trivial,trivial⟩ (cH _) (R:=1000) (M:=1001) (by decide) (by decide) (by decide) rfl rfl) (.put .base rfl) rfl (DK.aG [] 1000 _ _ _ _ _ _ rfl ?_)
   have hq':=hq y a1 rfl
   rw[aMf]at hq'
   have hq2:∀tm,TellT tm [] [(0,.v (.ptr 1002 0)),(1,.v (.ptr 1003 0)),(2,.v (.ptr 1004 0))]→QN (SL.toS ⟨tm,[],none,1005+(k+1+1),plO l a1 d to (mD (k+1+1))++[(1005+(k+1),.cells true (flE acc++cA y))],[]⟩):=hq'
   have g1:aC≤1005+k:=by show 1000≤_;omega
   have g2:aC≤1005+(k+1):=by show 1000≤_;omega
   refine DK.eC pQ rfl (bFn (n:=k+1) (n2:=k+1+1) (N:=1005+k) (nx:=1005+(k+1)) (cs:=flE acc) (fl:=flE acc++aGk) (p:=plO l a1 d to (mD (k+1))) (rF (by omega)) g1 (by omega) rfl hfl (by omega) rfl (by simp) (by decide) (by show 144*(k+1+1)≤4294967296;omega) rfl rfl) rfl ?_
   refine DK.cX rfl (fun h=>bDp (n:=k+1) rfl rfl (by omega)) rfl ?_
   refine DK.both pQ
    (DrR.stS rfl rfl (aDk (p:=plO l a1 d to (mD (k+1))) (cs:=flE acc) (z:=aGk) (vs:=cA y) (rF (by omega)) g2 rfl rfl (nR y) (by omega) (eM y).symm (eM y)) rfl pQ
     (DrR.stS (ol':=plO l a1 d to (mD (k+1+1))++[(1005+(k+1),.cells true (flE acc++cA y))]) rfl rfl rfl rfl pQ (.fin rfl rfl)))
    (DrR.stS (ol':=plO l a1 d to (mD (k+1+1))++[(1005+(k+1),.cells true (flE acc++aGk))]) rfl rfl rfl rfl pQ
     (DrR.stS rfl rfl (aDk (p:=plO l a1 d to (mD (k+1+1))) (cs:=flE acc) (z:=aGk) (vs:=cA y) (rF (by omega)) g2 rfl rfl (nR y) (by omega) (eM y).symm (eM y)) rfl pQ (.fin rfl rfl)))
    (hq2 _ ?_)
   exact tQ
end Go.VM
end
section
/- Expressions: a list. -/
set_option maxRecDepth 100000
namespace Go.VM
open Go.RowKit
noncomputable def bdB:Code:=.seq bdH (.block 1 (.seq bdF bdT))
theorem aCl{QN:S→Prop}{QX:X→S→Prop}(nx:Nat)(ol:OL){tm:TM}(ht:TellT tm [] (aRc false))(hq:∀tm,QX (.exit 0) (SL.toS ⟨tm,[],none,nx,ol,[]⟩)):WL Go.Proofs.Tryz.prog [] aIh bdB (SL.toS ⟨tm,[],none,nx,ol,[]⟩) QN QX:=by
 refine WL.weak (SW.aQ ht .nil) ?_
 show WC _ _ _ _ _ _ _
 refine WC.seq ((?_:WR Go.Proofs.Tryz.prog [] aIh rcH _ _ _) bdH aXj)
 unfold rcH
 repeat apply sQ
 refine WR.q rfl ?_
 exact WR.aO rfl (WR.exit (hq _))
theorem aCp{QN:S→Prop}{QX:X→S→Prop}(l:List Tz)(hl:l.length<20000)(to:List Nat)(d:Nat)(hd:d≤30):∀(n:Nat),(∀m,m<n→SpecF l (fns l m))→∀(acc:List Ex) (a:Nat),a≤l.length→acc.length≤a→((fns l n).elts acc a d).bA=false→
  (∀es a',(fns l n).elts acc a d=.ok es a'→∀tm,QX (.exit 0) (SL.toS ⟨tm,[],none,1005+es.length,plM l a' d to es.length (flE es),[]⟩))→
  (∀a' d' p c,(fns l n).elts acc a d=.er a' d' p c→∀es tm,QX (.panic (dB p c)) (SL.toS ⟨tm,[],none,1005+List.length es,plM l a' d' to es.length (flE es),[]⟩))→
  WL Go.Proofs.Tryz.prog [] aIh bdB (SL.toS ⟨aRc true,[],none,1005+acc.length,plM l a d to acc.length (flE acc),[]⟩) QN QX:=by
 intro n
 induction n with
 |zero=>intro _ acc a _ _ ho;cases ho
 |succ n ih=>
  intro hs acc a ha hna ho hq hp
  have hl':l.length<4294967296:=by omega
  have hb:(fns l (n+1)).elts acc a d=eF l (fns l n) acc a d:=rfl
  rw[hb]at ho hq hp
  unfold eF at ho hq hp
  have sp:=(hs n (Nat.lt_succ_self _)).expr 1 a d (by decide) (by decide) ha hd
  have fw:=(dM l n).expr 1 a d
  show WC _ _ _ _ _ _ _
  refine WC.seq ((?_:WR Go.Proofs.Tryz.prog [] aIh rcH _ _ _) bdH aXj)
  unfold rcH
  repeat apply sQ
  refine WR.q rfl ?_
  refine WR.aD rfl (WR.skip ?_)
  refine WI.weak (s:=SL.toS ⟨aRc true,[],none,1005+acc.length,plM l a d to acc.length (flE acc),[]⟩) ?_ (WC.block (WC.seq (aWn l hl to d a ha acc acc.length rfl hna _ fw sp ?_ (fun y a1 e tm ht=>?_) (fun a1 d1 p c e tm=>?_))))
  ·refine SW.aQ ?_ ?_
   ·exact tQ
   ·exact lQ
  ·cases hr:(fns l n).expr 1 a d with
   |out=>rw[hr]at ho;cases ho
   |ok _ _=>rfl
   |er _ _ _ _=>rfl
  ·rw[e]at ho hq hp fw
   have fw:=fw _ _ rfl
   have ha1:=fw.2 ha
   refine(?_:WR Go.Proofs.Tryz.prog [] aIh rcT _ _ _) bdT bGf
   refine WR.weak (SW.aQ ht .nil) ?_
   unfold rcT
   have hlen:(acc++[y]).length=acc.length+1:=by simp
   repeat apply sQ
   refine WR.m 1 rfl ?_
   refine WQ.c rfl (kC (l:=l) (a:=a1) (d:=d) (M:=1001) hl' (by decide) (by decide) (by decide) rfl rfl) .base rfl (WQ.q rfl ?_)
   repeat apply sQ
   refine WR.q rfl ?_
   cases hi:isF l a1 4 [44]with
   |true=>
    have hlt:=bI hi (by decide)
    have ho:((fns l n).elts (acc++[y]) (a1+1) d).bA=false:=by
     have:=ho;simp only[R.bind,hi]at this;exact this
    have hq:∀es a',(fns l n).elts (acc++[y]) (a1+1) d=.ok es a'→∀tm,QX (.exit 0) (SL.toS ⟨tm,[],none,1005+es.length,plM l a' d to es.length (flE es),[]⟩):=by
     have:=hq;simp only[R.bind,hi]at this;exact this
    have hp:∀a' d' p c,(fns l n).elts (acc++[y]) (a1+1) d=.er a' d' p c→∀es tm,QX (.panic (dB p c)) (SL.toS ⟨tm,[],none,1005+List.length es,plM l a' d' to es.length (flE es),[]⟩):=by
     have:=hp;simp only[R.bind,hi]at this;exact this
    have ih':=ih (fun m hm=>hs m (Nat.lt_succ_of_lt hm)) (acc++[y]) (a1+1) (by omega) (by rw[hlen];omega) ho hq hp
    rw[hlen]at ih'
    refine WR.aD rfl ?_
    repeat apply sQ
    refine WR.m 5 rfl ?_
    rw[bJ (by unfold big;omega)]
    refine WQ.q rfl ?_
    refine WL.again (WL.weak ?_ ih')
    refine SW.aQ ?_ ?_
    ·exact tQ
    ·exact lQ
   |false=>
    have hq:=hq (acc++[y]) a1 (by simp only[R.bind,hi])
    rw[hlen]at hq
    refine WR.k rfl ?_
    refine WL.again (aCl _ _ ?_ hq)
    exact tQ
  ·rw[e]at hp
   exact hp _ _ _ _ rfl acc tm
end Go.VM
end
section
/- Expressions: a list within two symbols. -/
set_option maxRecDepth 100000
namespace Go.VM
open Go.RowKit
theorem aDm{D:Nat→Prop}(h0:D 1000)(h1:D 1001)(l:List Tz)(a d:Nat)(to:List Nat){n:Nat}(hn:n=0∨D (1004+n)){cs:List V}(hc:Ins D cs):gP D (plM l a d to n cs):=by
 have hb:Obj.In D aAw:=⟨h0,trivial⟩
 cases n with
 |zero=>exact⟨oZ h1 l a d,lR,hb,⟨trivial,trivial⟩,⟨⟨trivial,trivial⟩,trivial⟩,trivial⟩
 |succ n=>
  have:D (1005+n):=by
   rcases hn with h|h
   ·omega
   ·rwa[show 1004+(n+1)=1005+n by omega]at h
  exact⟨oZ h1 l a d,lR,hb,⟨trivial,trivial⟩,⟨this,trivial⟩,hc,trivial⟩
theorem aNp(l:List Tz)(a d:Nat)(to:List Nat)(n:Nat)(cs:List V):olB (1005+n) (plM l a d to n cs)=true:=by
 have h:∀k,k<1005→Nat.blt k (1005+n)=true:=fun k hk=>by rw[Nat.blt_eq];omega
 cases n with
 |zero=>rfl
 |succ n=>
  show(Nat.blt 1000 _&&(Nat.blt 1001 _&&(Nat.blt 1002 _&&(Nat.blt 1003 _&&(Nat.blt 1004 _&&(Nat.blt (1005+n) (1005+(n+1))&&true))))))=true
  rw[h 1000 (by decide),h 1001 (by decide),h 1002 (by decide),h 1003 (by decide),h 1004 (by decide),show Nat.blt (1005+n) (1005+(n+1))=true by rw[Nat.blt_eq];omega]
  rfl
theorem uL(l:List Tz)(a d:Nat)(to:List Nat)(n:Nat)(cs:List V)(b:Nat)(hb:b<1002):og (rdL l a d) b=og (plM l a d to n cs) b:=by
 have go:og (aMt n cs) b=none:=by
  cases n with
  |zero=>rfl
  |succ n=>simp only[aMt,aT];rw[if_neg (by omega)];rfl
 simp only[plM,rQ,plO,aT,rdL]
 by_cases h0:b=1000
 ·simp[h0]
 ·by_cases h1:b=1001
  ·simp[h1]
  ·rw[if_neg h0,if_neg h1,if_neg h0,if_neg h1,if_neg (by omega),if_neg (by omega),if_neg (by omega)]
   simp only[og,go]
theorem aXw(l:List Tz)(hl:l.length<20000)(n:Nat)(hs:∀m,m<n→SpecF l (fns l m))(to:List Nat)(a d:Nat)(ha:a≤l.length)(hd:d≤30){es:List Ex}{a':Nat}(hr:fG l (fns l n) to a d=.ok es a'):
  SCall Go.Proofs.Tryz.prog [] 134 [.ptr 1002 0,.ptr 1003 0,.ptr 1004 0] none ⟨1005,og (plM l a d to 0 []),[]⟩ (.ret (.tup [])) none ⟨1005+es.length,og (plM l a' d to es.length (flE es)),[]⟩:=by
 have hl':l.length<4294967296:=by omega
 unfold fG at hr
 suffices H:∃_i:Unit,SCall Go.Proofs.Tryz.prog [] 134 [.ptr 1002 0,.ptr 1003 0,.ptr 1004 0] none ⟨1005,og (plM l a d to 0 []),[]⟩ (.ret (.tup [])) none ⟨1005+es.length,og (plM l a' d to es.length (flE es)),[]⟩from let⟨_,h⟩:=H;h
 refine SCall.aPk (ι:=Unit) (nx':=fun _=>1005+es.length) (ol':=fun _=>plM l a' d to es.length (flE es)) (fn:=Go.Proofs.Tryz.f134) (body:=bdL) (P:=Go.Proofs.Tryz.prog) (gl:=[]) (f:=134) (args:=[.ptr 1002 0,.ptr 1003 0,.ptr 1004 0]) (nx:=1005) (ol:=plM l a d to 0 []) (r:=.ret (.tup []))
  (by kernel_rfl) aHq (by kernel_rfl) (by kernel_rfl) (fun _=>by omega) (fun _=>aNp _ _ _ _ _ _) (fun _=>aDm (by show 1000<_;omega) (by show 1001<_;omega) _ _ _ _ (.inr (by show 1004+_<_;omega)) (uW _)) (fun _=>trivial) ?_
 rw[aWe]
 refine WC.seq ((?_:WR Go.Proofs.Tryz.prog [] aIh rcA _ _ _) bdA aYp)
 unfold rcA
 repeat apply sQ
 refine WR.m 2 rfl ?_
 refine WQ.c rfl (kC (l:=l) (a:=a) (d:=d) (M:=1001) hl' (by decide) (by decide) (by decide) rfl rfl) .base rfl (WQ.q rfl ?_)
 have fin:∀tm:TM,aAx Go.Proofs.Tryz.prog Go.Proofs.Tryz.f134 (.ret (.tup [])) (1005+es.length) (plM l a' d to es.length (flE es)) (SL.toS ⟨tm,[],none,1005+es.length,plM l a' d to es.length (flE es),[]⟩):=fun tm=>⟨rfl,rfl,⟨_,rfl,VLe.refl _⟩,fun b _=>rfl⟩
 cases hi:isF l a 4 to with
 |true=>
  rw[hi]at hr
  cases hr
  refine WC.block (WC.loop (aCl _ _ ?_ fun tm=>⟨(),fin tm⟩))
  exact tQ
 |false=>
  rw[hi]at hr
  have hr:(fns l n).elts [] a d=.ok es a':=hr
  refine WC.block (WC.loop (WL.weak (s:=SL.toS ⟨aRc true,[],none,1005+([]:List Ex).length,plM l a d to ([]:List Ex).length (flE []),[]⟩) ?_ (aCp l hl to d hd n hs [] a ha (Nat.zero_le _) (by rw[hr];rfl) (fun es2 a2 e tm=>?_) (fun a2 d2 p c e=>by rw[hr]at e;cases e))))
  ·refine SW.aQ ?_ ?_
   ·exact tQ
   ·exact lQ
  ·rw[hr]at e
   cases e
   exact⟨(),fin tm⟩
theorem aUb(l:List Tz)(hl:l.length<20000)(n:Nat)(hs:∀m,m<n→SpecF l (fns l m))(to:List Nat)(a d:Nat)(ha:a≤l.length)(hd:d≤30){a' d':Nat}{p c:Int}(hr:fG l (fns l n) to a d=.er a' d' p c):
  ∃es:List Ex,SCall Go.Proofs.Tryz.prog [] 134 [.ptr 1002 0,.ptr 1003 0,.ptr 1004 0] none ⟨1005,og (plM l a d to 0 []),[]⟩ (.pan (dB p c)) none ⟨1005+es.length,og (plM l a' d' to es.length (flE es)),[]⟩:=by
 have hl':l.length<4294967296:=by omega
 unfold fG at hr
 refine SCall.aPk (ι:=List Ex) (nx':=fun es=>1005+es.length) (ol':=fun es=>plM l a' d' to es.length (flE es)) (fn:=Go.Proofs.Tryz.f134) (body:=bdL) (P:=Go.Proofs.Tryz.prog) (gl:=[]) (f:=134) (args:=[.ptr 1002 0,.ptr 1003 0,.ptr 1004 0]) (nx:=1005) (ol:=plM l a d to 0 []) (r:=.pan (dB p c))
  (by kernel_rfl) aHq (by kernel_rfl) (by kernel_rfl) (fun _=>by omega) (fun _=>aNp _ _ _ _ _ _) (fun _=>aDm (by show 1000<_;omega) (by show 1001<_;omega) _ _ _ _ (.inr (by show 1004+_<_;omega)) (uW _)) (fun _=>bB) ?_
 rw[aWe]
 refine WC.seq ((?_:WR Go.Proofs.Tryz.prog [] aIh rcA _ _ _) bdA aYp)
 unfold rcA
 repeat apply sQ
 refine WR.m 2 rfl ?_
 refine WQ.c rfl (kC (l:=l) (a:=a) (d:=d) (M:=1001) hl' (by decide) (by decide) (by decide) rfl rfl) .base rfl (WQ.q rfl ?_)
 cases hi:isF l a 4 to with
 |true=>rw[hi]at hr;cases hr
 |false=>
  rw[hi]at hr
  have hr:(fns l n).elts [] a d=.er a' d' p c:=hr
  refine WC.block (WC.loop (WL.weak (s:=SL.toS ⟨aRc true,[],none,1005+([]:List Ex).length,plM l a d to ([]:List Ex).length (flE []),[]⟩) ?_ (aCp l hl to d hd n hs [] a ha (Nat.zero_le _) (by rw[hr];rfl) (fun es2 a2 e tm=>by rw[hr]at e;cases e) (fun a2 d2 p c e es tm=>?_))))
  ·refine SW.aQ ?_ ?_
   ·exact tQ
   ·exact lQ
  ·rw[hr]at e
   cases e
   exact⟨es,rfl,rfl,rfl,fun _ _=>rfl⟩
end Go.VM
end
