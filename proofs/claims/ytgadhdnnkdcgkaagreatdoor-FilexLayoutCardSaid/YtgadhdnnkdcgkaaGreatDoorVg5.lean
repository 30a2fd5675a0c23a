/- laid for this seat: VxN VxO VxP VxQ VxR VxS -/
import Derived.Test.YtgadhdnnkdcgkaaGreatDoorVg4
import Derived.Test.YtgadhdnnkdcgkaaGreatDoorVmS
import Derived.Test.YtgadhdnnkdcgkaaGreatDoorVmR
set_option linter.unusedVariables false
set_option linter.unusedSimpArgs false
section
/- Expressions: a new. -/
set_option maxRecDepth 100000
namespace Go.VM
open Go.RowKit
theorem aAz(l:List Tz):∀(m a:Nat) (ls:List Int) (p c:Int),bT l m a ls=.er p c→c≠0
 |0,a,ls,p,c,h=>by
  simp only[bT]at h
  split at h
  ·cases h
  ·cases h;decide
 |m+1,a,ls,p,c,h=>by
  simp only[bT]at h
  split at h
  ·cases h
  ·split at h
   ·cases h;decide
   ·exact aAz l m (a+2) _ p c h
theorem aPr{l:List Tz}{a a' d':Nat}{p c:Int}(h:cY l a=.er a' d' p c):c≠0:=by
 unfold cY at h
 split at h
 ·cases h
 ·split at h
  ·split at h
   ·split at h
    ·cases h
    ·cases h;decide
   ·cases h
  ·cases h;decide
theorem xP{l:List Tz}{a a' d':Nat}{p c:Int}(h:tyF l a=.er a' d' p c):c≠0∧a'=0∧d'=0:=by
 unfold tyF at h
 split at h
 ·rename_i p' c' ho;cases h;exact⟨aAz l 30 a [] p c ho,rfl,rfl⟩
 ·split at h
  ·cases h
  ·rename_i hb;cases h;exact⟨aPr hb,rfl,rfl⟩
  ·cases h
theorem eD{o1 o2:Obj}:∀{rest:OL},(rest.all fun e=>Nat.ble 1002 e.1)=true→∀b,b<1002→og [(1000,o1),(1001,o2)] b=og ((1000,o1)::(1001,o2)::rest) b:=by
 intro rest hr b hb
 have go:∀rest:OL,(rest.all fun e=>Nat.ble 1002 e.1)=true→og rest b=none:=by
  intro rest
  induction rest with
  |nil=>intro _;rfl
  |cons e rest ih=>
   intro hr
   obtain⟨k,o⟩:=e
   simp only[List.all_cons,Bool.and_eq_true,Nat.ble_eq]at hr
   rw[aR,if_neg (by omega)]
   exact ih hr.2
 simp only[aR]
 split
 ·rfl
 ·split
  ·rfl
  ·exact(go rest hr).symm
def xV(p e:Int):List V:=[.int .i64 0,.int .i64 p,.int .i64 e,.str [],.int .i64 0,.int .i64 0,.int .i64 0,.str [],.str [],.lst [] (.ex 0),.lst [] (.ex 0)]
theorem aWy{D:Nat→Prop}(p e:Int):Ins D (xV p e):=⟨trivial,trivial,trivial,trivial,trivial,trivial,trivial,trivial,trivial,⟨trivial,trivial⟩,⟨trivial,trivial⟩,trivial⟩
theorem aSg(l:List Tz)(hl:l.length<4294967296)(f:Fns)(hs:SpecF l f)(p e:Int)(a d:Nat)(ha:a<l.length)(hd:d≤30):Sp 133 [.agg (xV p e)] l a d lK (oL l f p a d):=by
 unfold oL
 cases ht:tyF l (a+1)with
 |out=>intro ho;cases ho
 |er a' d' p' c=>
  obtain⟨hc,rfl,rfl⟩:=xP ht
  intro _
  refine SCall.aI (fn:=Go.Proofs.Tryz.f133) (by kernel_rfl) aEo (by kernel_rfl) (by kernel_rfl) (Nat.le_refl _) rfl ((dU (by show 1001<1002;decide) _ _ _)) bA ?_
  unfold aGj
  repeat apply sQ
  refine WR.q rfl ?_
  repeat apply sQ
  refine WR.aP aZ (DW.m 9 rfl ?_)
  rw[bI (by unfold big;omega)]
  refine DW.m 1000 rfl ?_
  refine DW.eU pQ rfl rfl rfl rfl rfl (tF l hl (a+1) (by omega) _) .base rfl ?_
  rw[ht]
  refine DW.m 1000 rfl ?_
  refine DW.stS pQ rfl rfl rfl rfl (DW.m 1000 rfl ?_)
  refine DW.stS pQ rfl rfl rfl rfl (DW.m 1000 rfl (DW.cC pQ ?_))
  repeat apply sQ
  refine WR.m 3 rfl ?_
  rw[show decide (c=0)=false from decide_eq_false hc]
  refine WQ.q rfl ?_
  repeat apply sQ
  refine WR.aD rfl ?_
  repeat apply sQ
  refine WR.m 2 rfl ?_
  refine WQ.aUd rfl rfl rfl ⟨rfl,rfl,rfl,eD rfl⟩
 |ok ty a1=>
  obtain⟨tk,ta,tp,tn,tl⟩:=ty
  obtain⟨h1,h2⟩:=nO ht
  cases hi:isF l a1 4 [123]with
  |false=>
   intro _
   simp only[hi]
   refine SCall.aI (fn:=Go.Proofs.Tryz.f133) (by kernel_rfl) aEo (by kernel_rfl) (by kernel_rfl) (Nat.le_refl _) rfl ((dU (by show 1001<1002;decide) _ _ _)) bA ?_
   unfold aGj
   repeat apply sQ
   refine WR.q rfl ?_
   repeat apply sQ
   refine WR.aP aZ (DW.m 9 rfl ?_)
   rw[bI (by unfold big;omega)]
   refine DW.m 1000 rfl ?_
   refine DW.eU pQ rfl rfl rfl rfl rfl (tF l hl (a+1) (by omega) _) .base rfl ?_
   rw[ht]
   refine DW.m 1000 rfl ?_
   refine DW.stS pQ rfl rfl rfl rfl (DW.m 1000 rfl ?_)
   refine DW.stS pQ rfl rfl rfl rfl (DW.m 1000 rfl (DW.cC pQ ?_))
   repeat apply sQ
   refine WR.q rfl ?_
   repeat apply sQ
   refine WR.k rfl ?_
   unfold uA
   repeat apply sQ
   refine WR.q rfl ?_
   repeat apply sQ
   refine WR.m 1 rfl ?_
   refine WQ.c rfl (kC (l:=l) (a:=a1) (d:=d) (M:=1001) hl (by decide) (by decide) (by decide) rfl rfl) .base rfl (WQ.q rfl ?_)
   rw[hi]
   refine WR.aD rfl ?_
   repeat apply sQ
   refine WR.m 1 rfl ?_
   refine WQ.aL rfl rfl rfl rfl rfl (gZ (l:=l) (a:=a1) (d:=d) (M:=1001) hl (by decide) (by decide) (by decide) rfl rfl) .base ⟨rfl,rfl,rfl,eD rfl⟩
  |true=>
   simp only[hi]
   have sp:=hs.list [125] a1 d (bH hi (by decide)) hd
   cases hy:f.list [125] a1 d with
   |out=>intro ho;cases ho
   |er a2 d2 p2 c2=>
    rw[hy]at sp
    intro _
    refine SCall.aI (fn:=Go.Proofs.Tryz.f133) (by kernel_rfl) aEo (by kernel_rfl) (by kernel_rfl) (Nat.le_refl _) rfl ((dU (by show 1001<1002;decide) _ _ _)) bA ?_
    unfold aGj
    repeat apply sQ
    refine WR.q rfl ?_
    repeat apply sQ
    refine WR.aP aZ (DW.m 9 rfl ?_)
    rw[bI (by unfold big;omega)]
    refine DW.m 1000 rfl ?_
    refine DW.eU pQ rfl rfl rfl rfl rfl (tF l hl (a+1) (by omega) _) .base rfl ?_
    rw[ht]
    refine DW.m 1000 rfl ?_
    refine DW.stS pQ rfl rfl rfl rfl (DW.m 1000 rfl ?_)
    refine DW.stS pQ rfl rfl rfl rfl (DW.m 1000 rfl (DW.cC pQ ?_))
    repeat apply sQ
    refine WR.q rfl ?_
    repeat apply sQ
    refine WR.k rfl ?_
    unfold uA
    repeat apply sQ
    refine WR.q rfl ?_
    repeat apply sQ
    refine WR.m 1 rfl ?_
    refine WQ.c rfl (kC (l:=l) (a:=a1) (d:=d) (M:=1001) hl (by decide) (by decide) (by decide) rfl rfl) .base rfl (WQ.q rfl ?_)
    rw[hi]
    refine WR.k rfl ?_
    unfold xY
    repeat apply sQ
    refine WR.aP aZ (DW.m 1000 rfl ?_)
    refine DW.stS pQ rfl rfl rfl rfl (DW.m 1000 rfl ?_)
    refine DW.stS pQ rfl rfl rfl rfl (DW.m 1000 rfl (DW.cC pQ ?_))
    repeat apply sQ
    refine WR.m 1 rfl ?_
    refine WQ.aL rfl rfl rfl rfl rfl (sp.er ((by exact⟨trivial,trivial⟩)) (R:=1000) (M:=1001) (by decide) (by decide) (by decide) rfl rfl) (.put .base rfl) ⟨rfl,rfl,rfl,eD rfl⟩
   |ok r a2=>
    rw[hy]at sp
    intro _
    refine SCall.aI (fn:=Go.Proofs.Tryz.f133) (by kernel_rfl) aEo (by kernel_rfl) (by kernel_rfl) (Nat.le_refl _) rfl ((dU (by show 1001<1002;decide) _ _ _)) (by exact cJ _) ?_
    unfold aGj
    repeat apply sQ
    refine WR.q rfl ?_
    repeat apply sQ
    refine WR.aP aZ (DW.m 9 rfl ?_)
    rw[bI (by unfold big;omega)]
    refine DW.m 1000 rfl ?_
    refine DW.eU pQ rfl rfl rfl rfl rfl (tF l hl (a+1) (by omega) _) .base rfl ?_
    rw[ht]
    refine DW.m 1000 rfl ?_
    refine DW.stS pQ rfl rfl rfl rfl (DW.m 1000 rfl ?_)
    refine DW.stS pQ rfl rfl rfl rfl (DW.m 1000 rfl (DW.cC pQ ?_))
    repeat apply sQ
    refine WR.q rfl ?_
    repeat apply sQ
    refine WR.k rfl ?_
    unfold uA
    repeat apply sQ
    refine WR.q rfl ?_
    repeat apply sQ
    refine WR.m 1 rfl ?_
    refine WQ.c rfl (kC (l:=l) (a:=a1) (d:=d) (M:=1001) hl (by decide) (by decide) (by decide) rfl rfl) .base rfl (WQ.q rfl ?_)
    rw[hi]
    refine WR.k rfl ?_
    unfold xY
    repeat apply sQ
    refine WR.aP aZ (DW.m 1000 rfl ?_)
    refine DW.stS pQ rfl rfl rfl rfl (DW.m 1000 rfl ?_)
    refine DW.stS pQ rfl rfl rfl rfl (DW.m 1000 rfl (DW.cC pQ ?_))
    repeat apply sQ
    refine WR.m 1 rfl ?_
    refine WQ.c rfl (sp.ok ((by exact⟨trivial,trivial⟩)) (tJ _) (R:=1000) (M:=1001) (by decide) (by decide) (by decide) rfl rfl) (.put .base rfl) rfl ?_
    refine WQ.q rfl ?_
    repeat apply sQ
    refine WR.q rfl ?_
    refine WR.ret ⟨rfl,rfl,⟨_,rfl,vQ⟩,eD rfl⟩
end Go.VM
end
section
/- Expressions: what stands by itself. -/
set_option maxRecDepth 100000
namespace Go.VM
open Go.RowKit
inductive VLL:List V→List V→Prop where
 |nil:VLL [] []
 |cons {a b:V} {l m:List V} (h:VLe a b) (t:VLL l m):VLL (a::l) (b::m)
theorem VLL.ars{E:Env}:∀{l m:List V} {xs:List Value},VLL l m→ARs E l xs→ARs E m xs
 |_,_,_,.nil,r=>r
 |_,_,_,.cons h t,.cons _ _ _ _ r1 r2=>.cons _ _ _ _ (h E _ r1) (t.ars r2)
theorem VLe.agg{l m:List V}(h:VLL l m):VLe (.agg l) (.agg m):=fun E x r=>by
 cases r with|agg _ cs q=>exact .agg _ _ (h.ars q)
theorem VLe.tup{l m:List V}(h:VLL l m):VLe (.tup l) (.tup m):=fun E x r=>by
 cases r with|tup _ cs q=>exact .tup _ _ (h.ars q)
theorem R.isIn{α:Type}{enc:α→V}(h:∀(D:Nat→Prop) v,(enc v).In D)(r:R α)(D:Nat→Prop):(r.pP enc).In D:=by
 cases r with
 |ok y _=>exact h D y
 |er _ _ _ _=>exact bA
 |out=>exact trivial
theorem aRq(l:List Tz)(hl:l.length<4294967296)(hT:∀t∈l,t.t.length<big)(f:Fns)(hs:SpecF l f)(fw:FwdF l f)(a d:Nat)(ha:a≤l.length)(hd:d≤30):Sp 127 [] l a d lK (dG l f a d):=by
 intro ho
 obtain⟨r,hr⟩:∃r,r=dG l f a d:=⟨_,rfl⟩
 rw[←hr]at ho⊢
 have hnt:(aA l a).t.length<big:=by
  unfold aA
  cases hc:l[a]? with
  |some t=>exact hT t (List.mem_of_getElem? hc)
  |none=>show 0<big;decide
 have hlt:(aA l a).k≠0→a<l.length:=cP
 have hmst:=qS l
 have hi1:isF l a 5 [116,114,117,101]=true→a<l.length:=fun h=>bH h (by decide)
 have hi2:isF l a 5 [102,97,108,115,101]=true→a<l.length:=fun h=>bH h (by decide)
 have hi3:isF l a 4 [40]=true→a<l.length:=fun h=>bH h (by decide)
 have hi4:isF l a 5 [110,101,119]=true→a<l.length:=fun h=>bH h (by decide)
 unfold dG at hr
 unfold aWx aMg bGj at hr
 refine SCall.aI (fn:=Go.Proofs.Tryz.f127) (by kernel_rfl) bHe (by kernel_rfl) (by kernel_rfl) (Nat.le_refl _) rfl ((dU (by show 1001<1002;decide) _ _ _)) (by exact R.isIn (fun _=>cJ) _ _) ?_
 unfold bEz
 repeat apply sQ
 refine WR.reg (WQ.aG [1,4] 1000 _ _ _ _ rfl (WQ.aJ ?_))
 repeat apply sQ
 refine WR.reg (WQ.aG [1,4] 1 _ _ _ _ rfl ?_)
 refine WQ.c rfl (rZ (l:=l) (a:=a) (d:=d) (M:=1001) hl (by decide) (by decide) (by decide) rfl rfl) .base rfl (WQ.aG [1,4] 1000 _ _ _ _ rfl (WQ.aJ ?_))
 repeat apply sQ
 refine WR.reg (WQ.aG [1,4] 1000 _ _ _ _ rfl (WQ.aJ ?_))
 cases h2:decide ((aA l a).k=2)with
 |true=>
  simp only[h2]at hr
  have ha:=hlt (by rw[of_decide_eq_true h2];decide)
  repeat apply sQ
  refine WR.block ?_
  repeat apply sQ
  refine WR.reg (WQ.aG [1,4] 1000 _ _ _ _ rfl (WQ.aJ ?_))
  rw[h2]
  repeat apply sQ
  refine WR.aD rfl ?_
  have sp:=aIv l a d hl (aA l a).t hnt
  repeat apply sQ
  refine WR.reg (WQ.aG [1,4] 3 _ _ _ _ rfl ?_)
  unfold fV at sp hr
  cases hn:wB (aA l a).t with
  |true=>
   rw[hn]at sp hr
   refine WQ.c rfl (sp.ok ⟨trivial,trivial⟩ trivial (R:=1000) (M:=1001) (by decide) (by decide) (by decide) rfl rfl) (.put .base rfl) rfl ?_
   refine WQ.aG [1,4] 1000 _ _ _ _ rfl (WQ.aJ ?_)
   have hr:r=.ok (.mk 1 (aA l a).a (aA l a).e [] (aCr (aA l a).t) zT []) (a+1):=hr
   subst hr
   unfold nJ
   repeat apply sQ
   refine WR.m 5 rfl ?_
   rw[bI (by unfold big;omega)]
   refine WQ.q rfl ?_
   repeat apply sQ
   refine WR.q rfl ?_
   refine WR.ret ⟨rfl,rfl,⟨_,rfl,vQ⟩,eD rfl⟩
  |false=>
   rw[hn]at sp hr
   have hr:r=fD l a d 2:=hr
   subst hr
   refine WQ.aL rfl rfl rfl rfl rfl (sp.er ⟨trivial,trivial⟩ (R:=1000) (M:=1001) (by decide) (by decide) (by decide) rfl rfl) (.put .base rfl) ⟨rfl,rfl,rfl,eD rfl⟩
 |false=>
  simp only[h2]at hr
  repeat apply sQ
  refine WR.block ?_
  repeat apply sQ
  refine WR.reg (WQ.aG [1,4] 1000 _ _ _ _ rfl (WQ.aJ ?_))
  rw[h2]
  refine WR.aO rfl ?_
  repeat apply sQ
  refine WR.reg (WQ.aG [1,4] 1000 _ _ _ _ rfl (WQ.aJ ?_))
  cases h3:decide ((aA l a).k=3)with
  |true=>
   simp only[h3]at hr
   have ha:=hlt (by rw[of_decide_eq_true h3];decide)
   unfold aWm bEn at hr
   generalize hs0:(aA l a).t=s at hr hnt
   repeat apply sQ
   refine WR.aD rfl ?_
   repeat apply sQ
   refine WR.reg (WQ.aG [1,4] 1000 _ _ _ _ rfl (WQ.aJ ?_))
   repeat apply sQ
   refine WR.reg (WQ.aG [1,4] 2 _ _ _ _ rfl ?_)
   by_cases hlen:s.length<2
   ·rw[show decide ((s.length:Int)<2)=true from decide_eq_true (by omega)]
    rw[decide_eq_true hlen]at hr
    have hr:r=fD l a d 3:=hr
    subst hr
    refine WQ.aG [1,4] 1000 _ _ _ _ rfl (WQ.aJ ?_)
    repeat apply sQ
    refine WR.aD rfl ?_
    repeat apply sQ
    refine WR.reg (WQ.aG [1,4] 1 _ _ _ _ rfl ?_)
    refine WQ.aL rfl rfl rfl rfl rfl (gZ (l:=l) (a:=a) (d:=d) (M:=1001) hl (by decide) (by decide) (by decide) rfl rfl) .base ⟨rfl,rfl,rfl,eD rfl⟩
   ·rw[show decide ((s.length:Int)<2)=false from decide_eq_false (by omega)]
    rw[decide_eq_false hlen]at hr
    obtain⟨c0,hc0⟩:∃c,s[0]? =some c:=⟨s[0],List.getElem?_eq_getElem (by omega)⟩
    obtain⟨c1,hc1⟩:∃c,s[s.length-1]? =some c:=⟨s[s.length-1],List.getElem?_eq_getElem (by omega)⟩
    rw[hc0,hc1]at hr
    refine WQ.aG [1,4] 3 _ _ _ _ rfl ?_
    refine WQ.bD rfl rfl rfl (sS (n:=0) rfl rfl hc0) rfl (WQ.aG [1,4] 1 _ _ _ _ rfl ?_)
    by_cases h34:c0=34
    ·subst h34
     refine WQ.aG [1,4] 6 _ _ _ _ rfl ?_
     rw[pF (by omega) hnt]
     refine WQ.bD rfl rfl rfl (sS rfl rfl hc1) rfl (WQ.aG [1,4] 1 _ _ _ _ rfl ?_)
     by_cases h35:c1=34
     ·subst h35
      have hr:r=.ok (.mk 2 (aA l a).a (aA l a).e ((s.drop 1).take (s.length-1-1)) 0 zT []) (a+1):=hr
      refine WQ.aG [1,4] 1000 _ _ _ _ rfl (WQ.aJ ?_)
      repeat apply sQ
      refine WR.k rfl ?_
      unfold aGn
      refine WR.aP aZ (DW.m 4 rfl ?_)
      rw[pF (by omega) hnt]
      refine DW.oW rfl (fun h=>aDn (a:=1) (c:=s.length-1) rfl rfl rfl (by omega) (by omega)) rfl (DW.m 1000 rfl ?_)
      refine DW.stS pQ rfl rfl rfl rfl (DW.m 1000 rfl ?_)
      refine DW.stS pQ rfl rfl rfl rfl (DW.m 1000 rfl (DW.cC pQ ?_))
      subst hr
      unfold nJ
      repeat apply sQ
      refine WR.m 5 rfl ?_
      rw[bI (by unfold big;omega)]
      refine WQ.q rfl ?_
      repeat apply sQ
      refine WR.q rfl ?_
      refine WR.ret ⟨rfl,rfl,⟨_,rfl,vQ⟩,eD rfl⟩
     ·have hr:r=fD l a d 3:=by
       rw[hr,decide_eq_false (show ¬(some c1=some 34)from fun e=>h35 (Option.some.inj e))];rfl
      subst hr
      rw[show decide ((c1:Int)=34)=false from decide_eq_false (by omega)]
      refine WQ.aG [1,4] 1000 _ _ _ _ rfl (WQ.aJ ?_)
      repeat apply sQ
      refine WR.aD rfl ?_
      repeat apply sQ
      refine WR.reg (WQ.aG [1,4] 1 _ _ _ _ rfl ?_)
      refine WQ.aL rfl rfl rfl rfl rfl (gZ (l:=l) (a:=a) (d:=d) (M:=1001) hl (by decide) (by decide) (by decide) rfl rfl) .base ⟨rfl,rfl,rfl,eD rfl⟩
    ·have hr:r=fD l a d 3:=by
      rw[hr,decide_eq_false (show ¬(some c0=some 34)from fun e=>h34 (Option.some.inj e))];rfl
     subst hr
     rw[show decide ((c0:Int)=34)=false from decide_eq_false (by omega)]
     refine WQ.aG [1,4] 1000 _ _ _ _ rfl (WQ.aJ ?_)
     repeat apply sQ
     refine WR.aD rfl ?_
     repeat apply sQ
     refine WR.reg (WQ.aG [1,4] 1 _ _ _ _ rfl ?_)
     refine WQ.aL rfl rfl rfl rfl rfl (gZ (l:=l) (a:=a) (d:=d) (M:=1001) hl (by decide) (by decide) (by decide) rfl rfl) .base ⟨rfl,rfl,rfl,eD rfl⟩
  |false=>
   simp only[h3]at hr
   refine WR.aO rfl ?_
   repeat apply sQ
   refine WR.reg (WQ.aG [1,4] 1 _ _ _ _ rfl ?_)
   refine WQ.c rfl (kC (l:=l) (a:=a) (d:=d) (M:=1001) hl (by decide) (by decide) (by decide) rfl rfl) .base rfl (WQ.aG [1,4] 1000 _ _ _ _ rfl (WQ.aJ ?_))
   cases h4:isF l a 5 [116,114,117,101]with
   |true=>
    have ha:=hi1 h4
    simp only[h4]at hr
    repeat apply sQ
    refine WR.aD rfl ?_
    repeat apply sQ
    refine WR.reg (WQ.aG [1,4] 1000 _ _ _ _ rfl (WQ.aJ ?_))
    subst hr
    unfold nJ
    repeat apply sQ
    refine WR.m 5 rfl ?_
    rw[bI (by unfold big;omega)]
    refine WQ.q rfl ?_
    repeat apply sQ
    refine WR.q rfl ?_
    refine WR.ret ⟨rfl,rfl,⟨_,rfl,vQ⟩,eD rfl⟩
   |false=>
   simp only[h4]at hr
   refine WR.aO rfl ?_
   repeat apply sQ
   refine WR.reg (WQ.aG [1,4] 1 _ _ _ _ rfl ?_)
   refine WQ.c rfl (kC (l:=l) (a:=a) (d:=d) (M:=1001) hl (by decide) (by decide) (by decide) rfl rfl) .base rfl (WQ.aG [1,4] 1000 _ _ _ _ rfl (WQ.aJ ?_))
   cases h5:isF l a 5 [102,97,108,115,101]with
   |true=>
    have ha:=hi2 h5
    simp only[h5]at hr
    repeat apply sQ
    refine WR.aD rfl ?_
    repeat apply sQ
    refine WR.reg (WQ.aG [1,4] 1000 _ _ _ _ rfl (WQ.aJ ?_))
    subst hr
    unfold nJ
    repeat apply sQ
    refine WR.m 5 rfl ?_
    rw[bI (by unfold big;omega)]
    refine WQ.q rfl ?_
    repeat apply sQ
    refine WR.q rfl ?_
    refine WR.ret ⟨rfl,rfl,⟨_,rfl,vQ⟩,eD rfl⟩
   |false=>
   simp only[h5]at hr
   refine WR.aO rfl ?_
   repeat apply sQ
   refine WR.reg (WQ.aG [1,4] 1000 _ _ _ _ rfl (WQ.aJ ?_))
   cases h6:decide ((aA l a).k=1)with
   |true=>
    have ha:=hlt (by rw[of_decide_eq_true h6];decide)
    simp only[h6]at hr
    repeat apply sQ
    refine WR.aD rfl ?_
    refine WR.aP aZ (DW.m 1000 rfl ?_)
    refine DW.stS pQ rfl rfl rfl rfl (DW.m 1000 rfl ?_)
    refine DW.stS pQ rfl rfl rfl rfl (DW.m 1000 rfl (DW.cC pQ ?_))
    subst hr
    unfold nJ
    repeat apply sQ
    refine WR.m 5 rfl ?_
    rw[bI (by unfold big;omega)]
    refine WQ.q rfl ?_
    repeat apply sQ
    refine WR.q rfl ?_
    refine WR.ret ⟨rfl,rfl,⟨_,rfl,vQ⟩,eD rfl⟩
   |false=>
   simp only[h6]at hr
   refine WR.aO rfl ?_
   repeat apply sQ
   refine WR.reg (WQ.aG [1,4] 1 _ _ _ _ rfl ?_)
   refine WQ.c rfl (kC (l:=l) (a:=a) (d:=d) (M:=1001) hl (by decide) (by decide) (by decide) rfl rfl) .base rfl (WQ.aG [1,4] 1000 _ _ _ _ rfl (WQ.aJ ?_))
   cases h7:isF l a 4 [40]with
   |true=>
    have ha:=hi3 h7
    simp only[h7]at hr
    have wi:=vE (f:=132) hl ha hd (F:=f.expr 1) (fun hd30=>bNk l hl (a+1) (d+1) _ (hs.expr 1 (a+1) (d+1) (by decide) (by decide) (by omega) (by omega))) (xV (aA l a).a (aA l a).e) rfl (aWy _ _)
    repeat apply sQ
    refine WR.aD rfl ?_
    repeat apply sQ
    refine WR.reg (WQ.aG [1,4] 2 _ _ _ _ rfl ?_)
    cases hw:aX l a d (f.expr 1)with
    |out=>rw[hw]at hr;subst hr;cases ho
    |er a1 d1 p c=>
     rw[hw]at hr wi
     have hr:r=.er a1 d1 p c:=hr
     subst hr
     exact WQ.aL rfl rfl rfl rfl rfl (SCall.fI wi _) .base ⟨rfl,rfl,rfl,eD rfl⟩
    |ok y a1=>
     rw[hw]at hr wi
     obtain⟨yk,ya,ye,yn,yv,⟨ytk,yta,ytp,ytn,ytl⟩,ys⟩:=y
     refine WQ.c rfl (SCall.fI wi _) .base rfl ?_
     refine WQ.aG [1,4] 1000 _ _ _ _ rfl (WQ.aJ ?_)
     have sp:=qS l a1 d hl [41]
     have hr:r=(cH l a1 d [41]).bind fun _ a2=>.ok (.mk yk ya ye yn yv (.mk ytk yta ytp ytn ytl) ys) a2:=hr
     repeat apply sQ
     refine WR.reg (WQ.aG [1,4] 1 _ _ _ _ rfl ?_)
     cases hm:cH l a1 d [41]with
     |out=>rw[hm]at hr;subst hr;cases ho
     |er a2 d2 p c=>
      rw[hm]at hr sp
      have hr:r=.er a2 d2 p c:=hr
      subst hr
      exact WQ.aL rfl rfl rfl rfl rfl (sp.er ⟨trivial,trivial⟩ (R:=1000) (M:=1001) (by decide) (by decide) (by decide) rfl rfl) (.put .base rfl) ⟨rfl,rfl,rfl,eD rfl⟩
     |ok e a2=>
      rw[hm]at sp hr
      have hr:r=.ok (.mk yk ya ye yn yv (.mk ytk yta ytp ytn ytl) ys) a2:=hr
      subst hr
      refine WQ.c rfl (sp.ok ⟨trivial,trivial⟩ trivial (R:=1000) (M:=1001) (by decide) (by decide) (by decide) rfl rfl) (.put .base rfl) rfl ?_
      refine WQ.aG [1,4] 1000 _ _ _ _ rfl (WQ.aJ ?_)
      repeat apply sQ
      refine WR.reg (WQ.aG [1,4] 1000 _ _ _ _ rfl (WQ.aJ ?_))
      refine WR.ret ⟨rfl,rfl,⟨_,rfl,vQ⟩,eD rfl⟩
   |false=>
   simp only[h7]at hr
   refine WR.aO rfl ?_
   repeat apply sQ
   refine WR.reg (WQ.aG [1,4] 1 _ _ _ _ rfl ?_)
   refine WQ.c rfl (kC (l:=l) (a:=a) (d:=d) (M:=1001) hl (by decide) (by decide) (by decide) rfl rfl) .base rfl (WQ.aG [1,4] 1000 _ _ _ _ rfl (WQ.aJ ?_))
   cases h8:isF l a 5 [110,101,119]with
   |true=>
    have ha:=hi4 h8
    simp only[h8]at hr
    have sp:=aSg l hl f hs (aA l a).a (aA l a).e a d ha hd
    rw[←hr]at sp
    repeat apply sQ
    refine WR.aD rfl ?_
    repeat apply sQ
    refine WR.reg (WQ.aG [1,4] 2 _ _ _ _ rfl ?_)
    cases hr2:r with
    |out=>subst hr2;cases ho
    |er a1 d1 p c=>
     subst hr2
     exact WQ.aL rfl rfl rfl rfl rfl (sp.er ⟨aWy _ _,trivial⟩ (R:=1000) (M:=1001) (by decide) (by decide) (by decide) rfl rfl) (.put .base rfl) ⟨rfl,rfl,rfl,eD rfl⟩
    |ok y a1=>
     subst hr2
     obtain⟨yk,ya,ye,yn,yv,⟨ytk,yta,ytp,ytn,ytl⟩,ys⟩:=y
     refine WQ.c rfl (sp.ok ⟨aWy _ _,trivial⟩ (cJ _) (R:=1000) (M:=1001) (by decide) (by decide) (by decide) rfl rfl) (.put .base rfl) rfl ?_
     refine WQ.aG [1,4] 1000 _ _ _ _ rfl (WQ.aJ ?_)
     refine WR.ret ⟨rfl,rfl,⟨_,rfl,vQ⟩,eD rfl⟩
   |false=>
    simp only[h8]at hr
    have hr:r=fD l a d 5:=hr
    subst hr
    refine WR.aO rfl ?_
    repeat apply sQ
    refine WR.reg (WQ.aG [1,4] 1 _ _ _ _ rfl ?_)
    refine WQ.aL rfl rfl rfl rfl rfl (gZ (l:=l) (a:=a) (d:=d) (M:=1001) hl (by decide) (by decide) (by decide) rfl rfl) .base ⟨rfl,rfl,rfl,eD rfl⟩
end Go.VM
end
section
/- Expressions: the elements of a list: rows and code. -/
set_option maxRecDepth 100000
namespace Go.VM
open Go.RowKit
def aXh:Code→Code|.seq a _=>a|c=>c
def aCo:Code→Code|.seq _ b=>b|c=>c
def cIn:Code→Code|.block _ a=>a|.loop a=>a|c=>c
noncomputable def bdL:Code:=(Go.Proofs.Tryz.f134).body.getD .skip
noncomputable def bdA:Code:=aXh bdL
noncomputable def bdH:Code:=aXh (cIn (cIn (aCo bdL)))
noncomputable def bdF:Code:=aXh (cIn (aCo (cIn (cIn (aCo bdL)))))
noncomputable def bdT:Code:=aCo (cIn (aCo (cIn (cIn (aCo bdL)))))
theorem aWf:bdL=.seq bdA (.block 0 (.loop (.seq bdH (.block 1 (.seq bdF bdT))))):=by kernel_rfl
theorem aHx:(Go.Proofs.Tryz.f134).body=some bdL:=by kernel_rfl
def rcA:RC:=.reg [⟨0,0,some (.ld (.t 0) none),[],some 4,none⟩,⟨0,0,some (.ld (.t 1) none),[],some 5,none⟩,⟨0,0,some (.call (.c (.fn (.func 124) [] [])) [.t 4,.c (.int .i64 4),.t 5]),[],some 6,none⟩,⟨0,0,some (.un .not (.t 6)),[],some 7,none⟩,⟨0,0,some (.mv (.t 7)),[],some 3,none⟩]
def rcH:RC:=.seq (.reg [⟨0,0,some (.mv (.t 3)),[],some 8,none⟩]) (.cond (.t 8) .skip (.exit 0))
def rcT:RC:=.seq (.reg [⟨0,0,some (.ld (.t 0) none),[],some 16,none⟩,⟨0,0,some (.call (.c (.fn (.func 124) [] [])) [.t 16,.c (.int .i64 4),.c (.str [44])]),[],some 17,none⟩,⟨0,0,some (.mv (.t 17)),[],some 3,none⟩]) (.seq (.reg [⟨0,0,some (.mv (.t 3)),[],some 18,none⟩]) (.cond (.t 18) (.reg [⟨0,0,some (.ld (.t 0) none),[],some 19,none⟩,⟨0,0,some (.nc (.t 19)),[],some 20,none⟩,⟨0,0,some (.fa (.t 20) 1),[],some 21,none⟩,⟨0,0,some (.ld (.t 21) none),[],some 22,none⟩,⟨0,0,some (.bin .add (.t 22) (.c (.int .i64 1))),[],some 23,none⟩,⟨0,0,some (.nc (.t 19)),[],some 24,none⟩,⟨0,0,some (.fa (.t 24) 1),[],some 25,none⟩,⟨0,0,some (.st (.t 25) (.t 23) 1),[],none,none⟩]) .skip))
def z11:List V:=[.int .i64 0,.int .i64 0,.int .i64 0,.str [],.int .i64 0,.int .i64 0,.int .i64 0,.str [],.str [],.lst [] (.ex 0),.lst [] (.ex 0)]
def fkF:FK:=.mk [⟨0,0,some (.ld (.t 2) none),[2],some 9,none⟩,⟨1,0,some (.ld (.t 0) none),[0],some 10,none⟩,⟨3,1,some (.lenL (.t 9)),[9],some 12,none⟩,⟨4,0,some (.bs 11 1 z11 [(0,.c (.agg z11))]),[],some 13,none⟩]
 [(⟨2,2,some (.call (.c (.fn (.func 117) [] [])) [.t 10,.c (.int .i64 1)]),[10],some 11,none⟩,[]),(⟨5,31,some (.app (.t 9) (.t 13) 11 144 z11),[9,13],some 14,none⟩,[⟨6,63,some (.ia (.t 14) (.t 12) 11),[14,12],some 15,none⟩])]
 [(⟨7,127,some (.st (.t 15) (.t 11) 11),[15,11],none,none⟩,[]),(⟨8,63,some (.st (.t 2) (.t 14) 1),[2,14],none,none⟩,[])]
 [(⟨8,63,some (.st (.t 2) (.t 14) 1),[2,14],none,none⟩,[]),(⟨7,127,some (.st (.t 15) (.t 11) 11),[15,11],none,none⟩,[])] [9,10,11,12,13,14,15]
theorem aYe:aE Go.Proofs.Tryz.prog bdA=some rcA:=by kernel_rfl
theorem aUl:aE Go.Proofs.Tryz.prog bdH=some rcH:=by kernel_rfl
theorem bHo:aE Go.Proofs.Tryz.prog bdT=some rcT:=by kernel_rfl
theorem bAr:aEz Go.Proofs.Tryz.prog bdF=some fkF:=by kernel_rfl
theorem aGx:∀(cs:List V) {z vs:List V},z.length=vs.length→lM (cs++z) cs.length vs=some (cs++vs)
 |[],z,vs,h=>by
  show lM z 0 vs=some vs
  cases z with
  |nil=>cases vs with
   |nil=>rfl
   |cons _ _=>simp at h
  |cons a z=>
   show rB (a::z) vs=some vs
   rw[zV (by omega),List.drop_eq_nil_iff.2 (by omega),List.append_nil]
 |c::cs,z,vs,h=>by
  show(match lM (cs++z) cs.length vs with|some r=>some (c::r)|none=>none)=_
  rw[aGx cs h];rfl
theorem aEd{gl:List Nat}{tm:TM}{x y:RX}{vs cs z:List V}{opn:Bool}{N k n:Nat}{lc:LM}{p:OL}(hp:keysLt p N)(hN:aC≤N)(hx:rvt gl tm x=some (.v (.ptr N k)))(hy:rv gl tm y=some (.agg vs))(hall:vs.all V.aW=true)
  (hk:cs.length=k) (hz:z.length=vs.length) (hn:vs.length=n):aIm gl tm (p++[(N,.cells opn (cs++z))]) lc (.st x y n)=some (p++[(N,.cells opn (cs++vs))],lc):=by
 subst hk;subst hn
 have hg:Nat.ble aC N=true:=Nat.ble_eq.mpr hN
 simp only[aIm,hx,hy,tY,hall,rowAt _ hp,hg,Nat.beq_refl,aGx cs hz,aDv _ _ hp]
section
variable{P:Program}{gl:List Nat}{fr:Fr}{ds:List Nat}{x:X}{s':S}{hs:List (RI×List RI)}{r:RI}{tm:TM}{df:List AD}{u:Option AMode}{nx:Nat}{ol ol':OL}{lc lc':LM}{es:List ER}
theorem DrR.stS{a y:RX}{n:Nat}(hr:r.ro=some (.st a y n))(hw:aV r.gd (aF tm r.rd)=some true)(hop:aIm gl (aF tm r.rd) ol lc (.st a y n)=some (ol',lc'))(hp:r.dst=none)(pd:PendR P gl fr.nt ⟨nx,og ol',lc'⟩ r.anc es)
  (next:DrR P gl fr ds x s' hs (SL.toS ⟨tm,df,u,nx,ol',lc'⟩) es):DrR P gl fr ds x s' ((r,[])::hs) (SL.toS ⟨tm,df,u,nx,ol,lc⟩) es:=by
 refine .go (v:=.v bG) (s2:=⟨aF tm r.rd,df,u,⟨nx,og ol',lc'⟩⟩) (tm1:=tm) (tm2:=tm) (h2:=⟨nx,og ol',lc'⟩) (es2:=es) hw ?_ (by rw[hp];rfl) .nil pd next
 exact kH (s:=⟨aF tm r.rd,df,u,⟨nx,og ol,lc⟩⟩) (by rw[hr];exact DoesR.store hop rfl)
end
def lO:Nat→V
 |0=>.lst [] (.ex 0)
 |n+1=>.sl (1005+n) 0 (n+1) (.op 11)
def aMt:Nat→List V→OL
 |0,_=>[]
 |n+1,cs=>[(1005+n,.cells true cs)]
def plO(l:List Tz)(a d:Nat)(to:List Nat)(v:V):OL:=[(1000,rdO 1001 l a d),(1001,pD),(1002,aAo),(1003,.cells false [.str to]),(1004,.cells false [v])]
def plM(l:List Tz)(a d:Nat)(to:List Nat)(n:Nat)(cs:List V):OL:=plO l a d to (lO n)++aMt n cs
theorem rY{l:List Tz}{a d:Nat}{to:List Nat}{v:V}{N:Nat}(h:1005≤N):keysLt (plO l a d to v) N:=by
 intro e he
 simp only[plO,List.mem_cons,List.not_mem_nil,or_false]at he
 rcases he with rfl|rfl|rfl|rfl|rfl<;>simp only<;>omega
def flE(l:List Ex):List V:=(jI l).flatten
theorem aOf:∀l:List Ex,(flE l).length=l.length*11
 |[]=>rfl
 |x::l=>by
  show(eA x++flE l).length=_
  rw[List.length_append,eG,aOf l,List.length_cons];omega
theorem aPa(l:List Ex)(x:Ex):flE (l++[x])=flE l++eA x:=by
 unfold flE
 rw[gA,gA,List.map_append,List.flatten_append]
 simp
theorem vK{D:Nat→Prop}:∀l:List Ex,Ins D (flE l)
 |[]=>trivial
 |x::l=>by
  have go:∀(a b:List V),Ins D a→Ins D b→Ins D (a++b):=by
   intro a
   induction a with
   |nil=>intro b _ hb;exact hb
   |cons v a ih=>intro b ha hb;exact⟨ha.1,ih b ha.2 hb⟩
  exact go (eA x) (flE l) (iZ x) (vK l)
end Go.VM
end
section
/- Expressions: the elements of a list. -/
set_option maxRecDepth 100000
namespace Go.VM
open Go.RowKit
section
variable{P:Program}{gl:List Nat}{fr:Fr}{QN:S→Prop}{QX:X→S→Prop}{ds:List Nat}{anc:Nat}{hs:List (RI×List RI)}{r:RI}{tm:TM}{df:List AD}{u:Option AMode}{nx:Nat}{ol:OL}{lc:LM}{es:List ER}{K:X→S→S→List ER→Prop}
theorem DK.aL{l2:List RI}{x:RX}{xs:List RX}{f:FuncId}{first cap vs ws:List V}{ch:List PE}{h':H}{nx':Nat}{ol':OL}{u':Option AMode}(pd:PendR P gl fr.nt ⟨nx,og ol,lc⟩ anc es)(hr:r.ro=some (.call x xs))(hw:aV r.gd (aF tm r.rd)=some true)
  (hx:rv gl (aF tm r.rd) x=some (.fn (.func f) first cap)) (hv:rvs gl (aF tm r.rd) xs=some vs) (ha:(first++vs)++cap=ws) (sc:SCall P gl f ws none ⟨nx,og ol,lc⟩ (.pan ch) u' h') (hl:HL h' nx' ol' lc)
  (h:QX (.panic ch) (SL.toS ⟨mA tm ds,df,u,nx',ol',lc⟩)):DK P gl fr ds K [] anc ((r,l2)::hs) (SL.toS ⟨tm,df,u,nx,ol,lc⟩) es QN QX:=by
 rw[hl.eq]at sc
 refine DK.stop (s:=SL.toS ⟨tm,df,u,nx,ol,lc⟩) (s2:=SL.toS ⟨aF tm r.rd,df,u,nx',ol',lc⟩) pd hw ?_ h
 rw[hr]
 intro o ho
 exact nE (r:=.pan ch) (s:=SL.toS ⟨aF tm r.rd,df,u,nx,ol,lc⟩) ho hx hv (by rw[ha];exact Weak.refl _) sc
end
theorem DK.both{P:Program}{gl:List Nat}{fr:Fr}{QN:S→Prop}{QX:X→S→Prop}{fk:FK}{anc:Nat}{s sA:S}{es:List ER}(pd:PendR P gl fr.nt s.h anc es)(h1:DrR P gl fr fk.ds .norm sA fk.pq s es)(h2:DrR P gl fr fk.ds .norm sA fk.qp s es)(q:QN sA):
  DK P gl fr fk.ds (bIl P gl fr fk) [] anc [] s es QN QX:=DK.fin (x:=.norm) (s':=sA) pd ⟨rfl,h1,sA,h2,SW.refl _⟩ q
def aTk(m:Bool):TM:=[(0,.v (.ptr 1002 0)),(1,.v (.ptr 1003 0)),(2,.v (.ptr 1004 0)),(3,.v (.bool m))]
noncomputable def aHa:Fr:=⟨Go.Proofs.Tryz.f134.ntmps,none,134⟩
def aGr:List V:=[.int .i64 0,.int .i64 0,.int .i64 0,.str [],.int .i64 0,.int .i64 0,.int .i64 0,.str [],.str [],.lst [] .unk,.lst [] .unk]
theorem bAb{QN:S→Prop}{QX:X→S→Prop}(l:List Tz)(hl:l.length<20000)(to:List Nat)(d a:Nat)(ha:a≤l.length)(acc:List Ex)(n:Nat)(hn:acc.length=n)(hna:n≤a)(r:R Ex)(fw:Fwd l a r)(sp:Sp 117 [.int .i64 1] l a d lK r)(ho:r.aY=false)
  (hq:∀y a1,r=.ok y a1→∀tm,TellT tm [] [(0,.v (.ptr 1002 0)),(1,.v (.ptr 1003 0)),(2,.v (.ptr 1004 0))]→QN (SL.toS ⟨tm,[],none,1005+(n+1),plM l a1 d to (n+1) (flE (acc++[y])),[]⟩))
  (hp:∀a1 d1 p c,r=.er a1 d1 p c→∀tm,QX (.panic (cV p c)) (SL.toS ⟨tm,[],none,1005+n,plM l a1 d1 to n (flE acc),[]⟩)):
  WC Go.Proofs.Tryz.prog [] aHa bdF (SL.toS ⟨aTk true,[],none,1005+n,plM l a d to n (flE acc),[]⟩) QN QX:=by
 refine WC.fork aZ bAr ?_
 have hfl:=aOf acc
 rw[hn]at hfl
 cases n with
 |zero=>
  have hacc:acc=[]:=List.eq_nil_of_length_eq_zero hn
  subst hacc
  refine DK.aG [] 1000 _ _ _ _ _ _ rfl ?_
  cases r with
  |out=>cases ho
  |er a1 d1 p c=>exact DK.aL pQ rfl rfl rfl rfl rfl (sp.er ⟨trivial,trivial⟩ (R:=1000) (M:=1001) (by decide) (by decide) (by decide) rfl rfl) (.put .base rfl) (hp _ _ _ _ rfl _)
  |ok y a1=>
   refine DK.eU pQ rfl rfl rfl rfl rfl (sp.ok ⟨trivial,trivial⟩ (cJ _) (R:=1000) (M:=1001) (by decide) (by decide) (by decide) rfl rfl) (.put .base rfl) rfl (DK.aG [] 1000 _ _ _ _ _ _ rfl ?_)
   have hq':=hq y a1 rfl
   rw[aPa]at hq'
   have hq2:∀tm,TellT tm [] [(0,.v (.ptr 1002 0)),(1,.v (.ptr 1003 0)),(2,.v (.ptr 1004 0))]→QN (SL.toS ⟨tm,[],none,1006,plO l a1 d to (lO 1)++[(1005,.cells true (flE []++eA y))],[]⟩):=hq'
   refine DK.dM pQ rfl (bAs (n2:=1) (fl:=flE []++aGr) (p:=plO l a1 d to (lO 0)) (rY (Nat.le_refl _)) rfl rfl (by simp) (by decide) (by decide) rfl rfl) rfl ?_
   refine DK.oW rfl (fun h=>bEw (n:=0) rfl rfl (by decide)) rfl ?_
   refine DK.both pQ
    (DrR.stS rfl rfl (aEd (p:=plO l a1 d to (lO 0)) (cs:=flE []) (z:=aGr) (vs:=eA y) (rY (Nat.le_refl _)) (by decide) rfl rfl (nS y) rfl (eG y).symm (eG y)) rfl pQ
     (DrR.stS (ol':=plO l a1 d to (lO 1)++[(1005,.cells true (flE []++eA y))]) rfl rfl rfl rfl pQ (.fin rfl rfl)))
    (DrR.stS (ol':=plO l a1 d to (lO 1)++[(1005,.cells true (flE []++aGr))]) rfl rfl rfl rfl pQ
     (DrR.stS rfl rfl (aEd (p:=plO l a1 d to (lO 1)) (cs:=flE []) (z:=aGr) (vs:=eA y) (rY (Nat.le_refl _)) (by decide) rfl rfl (nS y) rfl (eG y).symm (eG y)) rfl pQ (.fin rfl rfl)))
    (hq2 _ ?_)
   exact tQ
 |succ k=>
  refine DK.aG [] 1000 _ _ _ _ _ _ rfl ?_
  cases r with
  |out=>cases ho
  |er a1 d1 p c=>exact DK.aL pQ rfl rfl rfl rfl rfl (sp.er ⟨trivial,trivial⟩ (R:=1000) (M:=1001) (by decide) (by decide) (by decide) rfl rfl) (.put .base rfl) (hp _ _ _ _ rfl _)
  |ok y a1=>
   refine DK.eU pQ rfl rfl rfl rfl rfl (sp.ok ⟨trivial,trivial⟩ (cJ _) (R:=1000) (M:=1001) (by decide) (by decide) (by decide) rfl rfl) (.put .base rfl) rfl (DK.aG [] 1000 _ _ _ _ _ _ rfl ?_)
   have hq':=hq y a1 rfl
   rw[aPa]at hq'
   have hq2:∀tm,TellT tm [] [(0,.v (.ptr 1002 0)),(1,.v (.ptr 1003 0)),(2,.v (.ptr 1004 0))]→QN (SL.toS ⟨tm,[],none,1005+(k+1+1),plO l a1 d to (lO (k+1+1))++[(1005+(k+1),.cells true (flE acc++eA y))],[]⟩):=hq'
   have g1:aC≤1005+k:=by show 1000≤_;omega
   have g2:aC≤1005+(k+1):=by show 1000≤_;omega
   refine DK.dM pQ rfl (bHm (n:=k+1) (n2:=k+1+1) (N:=1005+k) (nx:=1005+(k+1)) (cs:=flE acc) (fl:=flE acc++aGr) (p:=plO l a1 d to (lO (k+1))) (rY (by omega)) g1 (by omega) rfl hfl (by omega) rfl (by simp) (by decide) (by show 144*(k+1+1)≤4294967296;omega) rfl rfl) rfl ?_
   refine DK.oW rfl (fun h=>bEw (n:=k+1) rfl rfl (by omega)) rfl ?_
   refine DK.both pQ
    (DrR.stS rfl rfl (aEd (p:=plO l a1 d to (lO (k+1))) (cs:=flE acc) (z:=aGr) (vs:=eA y) (rY (by omega)) g2 rfl rfl (nS y) (by omega) (eG y).symm (eG y)) rfl pQ
     (DrR.stS (ol':=plO l a1 d to (lO (k+1+1))++[(1005+(k+1),.cells true (flE acc++eA y))]) rfl rfl rfl rfl pQ (.fin rfl rfl)))
    (DrR.stS (ol':=plO l a1 d to (lO (k+1+1))++[(1005+(k+1),.cells true (flE acc++aGr))]) rfl rfl rfl rfl pQ
     (DrR.stS rfl rfl (aEd (p:=plO l a1 d to (lO (k+1+1))) (cs:=flE acc) (z:=aGr) (vs:=eA y) (rY (by omega)) g2 rfl rfl (nS y) (by omega) (eG y).symm (eG y)) rfl pQ (.fin rfl rfl)))
    (hq2 _ ?_)
   exact tQ
end Go.VM
end
section
/- Expressions: a list. -/
set_option maxRecDepth 100000
namespace Go.VM
open Go.RowKit
noncomputable def bdB:Code:=.seq bdH (.block 1 (.seq bdF bdT))
theorem aBy{QN:S→Prop}{QX:X→S→Prop}(nx:Nat)(ol:OL){tm:TM}(ht:TellT tm [] (aTk false))(hq:∀tm,QX (.exit 0) (SL.toS ⟨tm,[],none,nx,ol,[]⟩)):WL Go.Proofs.Tryz.prog [] aHa bdB (SL.toS ⟨tm,[],none,nx,ol,[]⟩) QN QX:=by
 refine WL.weak (SW.aM ht .nil) ?_
 show WC _ _ _ _ _ _ _
 refine WC.seq ((?_:WR Go.Proofs.Tryz.prog [] aHa rcH _ _ _) bdH aUl)
 unfold rcH
 repeat apply sQ
 refine WR.q rfl ?_
 exact WR.aO rfl (WR.exit (hq _))
theorem aCk{QN:S→Prop}{QX:X→S→Prop}(l:List Tz)(hl:l.length<20000)(to:List Nat)(d:Nat)(hd:d≤30):∀(n:Nat),(∀m,m<n→SpecF l (fns l m))→∀(acc:List Ex) (a:Nat),a≤l.length→acc.length≤a→((fns l n).elts acc a d).aY=false→
  (∀es a',(fns l n).elts acc a d=.ok es a'→∀tm,QX (.exit 0) (SL.toS ⟨tm,[],none,1005+es.length,plM l a' d to es.length (flE es),[]⟩))→
  (∀a' d' p c,(fns l n).elts acc a d=.er a' d' p c→∀es tm,QX (.panic (cV p c)) (SL.toS ⟨tm,[],none,1005+List.length es,plM l a' d' to es.length (flE es),[]⟩))→
  WL Go.Proofs.Tryz.prog [] aHa bdB (SL.toS ⟨aTk true,[],none,1005+acc.length,plM l a d to acc.length (flE acc),[]⟩) QN QX:=by
 intro n
 induction n with
 |zero=>intro _ acc a _ _ ho;cases ho
 |succ n ih=>
  intro hs acc a ha hna ho hq hp
  have hl':l.length<4294967296:=by omega
  have hb:(fns l (n+1)).elts acc a d=cZ l (fns l n) acc a d:=rfl
  rw[hb]at ho hq hp
  unfold cZ at ho hq hp
  have sp:=(hs n (Nat.lt_succ_self _)).expr 1 a d (by decide) (by decide) ha hd
  have fw:=(dN l n).expr 1 a d
  show WC _ _ _ _ _ _ _
  refine WC.seq ((?_:WR Go.Proofs.Tryz.prog [] aHa rcH _ _ _) bdH aUl)
  unfold rcH
  repeat apply sQ
  refine WR.q rfl ?_
  refine WR.aD rfl (WR.skip ?_)
  refine WI.weak (s:=SL.toS ⟨aTk true,[],none,1005+acc.length,plM l a d to acc.length (flE acc),[]⟩) ?_ (WC.block (WC.seq (bAb l hl to d a ha acc acc.length rfl hna _ fw sp ?_ (fun y a1 e tm ht=>?_) (fun a1 d1 p c e tm=>?_))))
  ·refine SW.aM ?_ ?_
   ·exact tQ
   ·exact lQ
  ·cases hr:(fns l n).expr 1 a d with
   |out=>rw[hr]at ho;cases ho
   |ok _ _=>rfl
   |er _ _ _ _=>rfl
  ·rw[e]at ho hq hp fw
   have fw:=fw _ _ rfl
   have ha1:=fw.2 ha
   refine(?_:WR Go.Proofs.Tryz.prog [] aHa rcT _ _ _) bdT bHo
   refine WR.weak (SW.aM ht .nil) ?_
   unfold rcT
   have hlen:(acc++[y]).length=acc.length+1:=by simp
   repeat apply sQ
   refine WR.m 1 rfl ?_
   refine WQ.c rfl (kC (l:=l) (a:=a1) (d:=d) (M:=1001) hl' (by decide) (by decide) (by decide) rfl rfl) .base rfl (WQ.q rfl ?_)
   repeat apply sQ
   refine WR.q rfl ?_
   cases hi:isF l a1 4 [44]with
   |true=>
    have hlt:=bH hi (by decide)
    have ho:((fns l n).elts (acc++[y]) (a1+1) d).aY=false:=by
     have:=ho;simp only[R.bind,hi]at this;exact this
    have hq:∀es a',(fns l n).elts (acc++[y]) (a1+1) d=.ok es a'→∀tm,QX (.exit 0) (SL.toS ⟨tm,[],none,1005+es.length,plM l a' d to es.length (flE es),[]⟩):=by
     have:=hq;simp only[R.bind,hi]at this;exact this
    have hp:∀a' d' p c,(fns l n).elts (acc++[y]) (a1+1) d=.er a' d' p c→∀es tm,QX (.panic (cV p c)) (SL.toS ⟨tm,[],none,1005+List.length es,plM l a' d' to es.length (flE es),[]⟩):=by
     have:=hp;simp only[R.bind,hi]at this;exact this
    have ih':=ih (fun m hm=>hs m (Nat.lt_succ_of_lt hm)) (acc++[y]) (a1+1) (by omega) (by rw[hlen];omega) ho hq hp
    rw[hlen]at ih'
    refine WR.aD rfl ?_
    repeat apply sQ
    refine WR.m 5 rfl ?_
    rw[bI (by unfold big;omega)]
    refine WQ.q rfl ?_
    refine WL.again (WL.weak ?_ ih')
    refine SW.aM ?_ ?_
    ·exact tQ
    ·exact lQ
   |false=>
    have hq:=hq (acc++[y]) a1 (by simp only[R.bind,hi])
    rw[hlen]at hq
    refine WR.k rfl ?_
    refine WL.again (aBy _ _ ?_ hq)
    exact tQ
  ·rw[e]at hp
   exact hp _ _ _ _ rfl acc tm
end Go.VM
end
section
/- Expressions: a list within two symbols. -/
set_option maxRecDepth 100000
namespace Go.VM
open Go.RowKit
theorem aFh{D:Nat→Prop}(h0:D 1000)(h1:D 1001)(l:List Tz)(a d:Nat)(to:List Nat){n:Nat}(hn:n=0∨D (1004+n)){cs:List V}(hc:Ins D cs):gC D (plM l a d to n cs):=by
 have hb:Obj.In D aAo:=⟨h0,trivial⟩
 cases n with
 |zero=>exact⟨oP h1 l a d,lV,hb,⟨trivial,trivial⟩,⟨⟨trivial,trivial⟩,trivial⟩,trivial⟩
 |succ n=>
  have:D (1005+n):=by
   rcases hn with h|h
   ·omega
   ·rwa[show 1004+(n+1)=1005+n by omega]at h
  exact⟨oP h1 l a d,lV,hb,⟨trivial,trivial⟩,⟨this,trivial⟩,hc,trivial⟩
theorem aNv(l:List Tz)(a d:Nat)(to:List Nat)(n:Nat)(cs:List V):olB (1005+n) (plM l a d to n cs)=true:=by
 have h:∀k,k<1005→Nat.blt k (1005+n)=true:=fun k hk=>by rw[Nat.blt_eq];omega
 cases n with
 |zero=>rfl
 |succ n=>
  show(Nat.blt 1000 _&&(Nat.blt 1001 _&&(Nat.blt 1002 _&&(Nat.blt 1003 _&&(Nat.blt 1004 _&&(Nat.blt (1005+n) (1005+(n+1))&&true))))))=true
  rw[h 1000 (by decide),h 1001 (by decide),h 1002 (by decide),h 1003 (by decide),h 1004 (by decide),show Nat.blt (1005+n) (1005+(n+1))=true by rw[Nat.blt_eq];omega]
  rfl
theorem tB(l:List Tz)(a d:Nat)(to:List Nat)(n:Nat)(cs:List V)(b:Nat)(hb:b<1002):og (rdL l a d) b=og (plM l a d to n cs) b:=by
 have go:og (aMt n cs) b=none:=by
  cases n with
  |zero=>rfl
  |succ n=>simp only[aMt,aR];rw[if_neg (by omega)];rfl
 simp only[plM,sB,plO,aR,rdL]
 by_cases h0:b=1000
 ·simp[h0]
 ·by_cases h1:b=1001
  ·simp[h1]
  ·rw[if_neg h0,if_neg h1,if_neg h0,if_neg h1,if_neg (by omega),if_neg (by omega),if_neg (by omega)]
   simp only[og,go]
theorem aVc(l:List Tz)(hl:l.length<20000)(n:Nat)(hs:∀m,m<n→SpecF l (fns l m))(to:List Nat)(a d:Nat)(ha:a≤l.length)(hd:d≤30){es:List Ex}{a':Nat}(hr:eR l (fns l n) to a d=.ok es a'):
  SCall Go.Proofs.Tryz.prog [] 134 [.ptr 1002 0,.ptr 1003 0,.ptr 1004 0] none ⟨1005,og (plM l a d to 0 []),[]⟩ (.ret (.tup [])) none ⟨1005+es.length,og (plM l a' d to es.length (flE es)),[]⟩:=by
 have hl':l.length<4294967296:=by omega
 unfold eR at hr
 suffices H:∃_i:Unit,SCall Go.Proofs.Tryz.prog [] 134 [.ptr 1002 0,.ptr 1003 0,.ptr 1004 0] none ⟨1005,og (plM l a d to 0 []),[]⟩ (.ret (.tup [])) none ⟨1005+es.length,og (plM l a' d to es.length (flE es)),[]⟩from let⟨_,h⟩:=H;h
 refine SCall.aNz (ι:=Unit) (nx':=fun _=>1005+es.length) (ol':=fun _=>plM l a' d to es.length (flE es)) (fn:=Go.Proofs.Tryz.f134) (body:=bdL) (P:=Go.Proofs.Tryz.prog) (gl:=[]) (f:=134) (args:=[.ptr 1002 0,.ptr 1003 0,.ptr 1004 0]) (nx:=1005) (ol:=plM l a d to 0 []) (r:=.ret (.tup []))
  (by kernel_rfl) aHx (by kernel_rfl) (by kernel_rfl) (fun _=>by omega) (fun _=>aNv _ _ _ _ _ _) (fun _=>aFh (by show 1000<_;omega) (by show 1001<_;omega) _ _ _ _ (.inr (by show 1004+_<_;omega)) (vK _)) (fun _=>trivial) ?_
 rw[aWf]
 refine WC.seq ((?_:WR Go.Proofs.Tryz.prog [] aHa rcA _ _ _) bdA aYe)
 unfold rcA
 repeat apply sQ
 refine WR.m 2 rfl ?_
 refine WQ.c rfl (kC (l:=l) (a:=a) (d:=d) (M:=1001) hl' (by decide) (by decide) (by decide) rfl rfl) .base rfl (WQ.q rfl ?_)
 have fin:∀tm:TM,aAq Go.Proofs.Tryz.prog Go.Proofs.Tryz.f134 (.ret (.tup [])) (1005+es.length) (plM l a' d to es.length (flE es)) (SL.toS ⟨tm,[],none,1005+es.length,plM l a' d to es.length (flE es),[]⟩):=fun tm=>⟨rfl,rfl,⟨_,rfl,VLe.refl _⟩,fun b _=>rfl⟩
 cases hi:isF l a 4 to with
 |true=>
  rw[hi]at hr
  cases hr
  refine WC.block (WC.loop (aBy _ _ ?_ fun tm=>⟨(),fin tm⟩))
  exact tQ
 |false=>
  rw[hi]at hr
  have hr:(fns l n).elts [] a d=.ok es a':=hr
  refine WC.block (WC.loop (WL.weak (s:=SL.toS ⟨aTk true,[],none,1005+([]:List Ex).length,plM l a d to ([]:List Ex).length (flE []),[]⟩) ?_ (aCk l hl to d hd n hs [] a ha (Nat.zero_le _) (by rw[hr];rfl) (fun es2 a2 e tm=>?_) (fun a2 d2 p c e=>by rw[hr]at e;cases e))))
  ·refine SW.aM ?_ ?_
   ·exact tQ
   ·exact lQ
  ·rw[hr]at e
   cases e
   exact⟨(),fin tm⟩
theorem aVj(l:List Tz)(hl:l.length<20000)(n:Nat)(hs:∀m,m<n→SpecF l (fns l m))(to:List Nat)(a d:Nat)(ha:a≤l.length)(hd:d≤30){a' d':Nat}{p c:Int}(hr:eR l (fns l n) to a d=.er a' d' p c):
  ∃es:List Ex,SCall Go.Proofs.Tryz.prog [] 134 [.ptr 1002 0,.ptr 1003 0,.ptr 1004 0] none ⟨1005,og (plM l a d to 0 []),[]⟩ (.pan (cV p c)) none ⟨1005+es.length,og (plM l a' d' to es.length (flE es)),[]⟩:=by
 have hl':l.length<4294967296:=by omega
 unfold eR at hr
 refine SCall.aNz (ι:=List Ex) (nx':=fun es=>1005+es.length) (ol':=fun es=>plM l a' d' to es.length (flE es)) (fn:=Go.Proofs.Tryz.f134) (body:=bdL) (P:=Go.Proofs.Tryz.prog) (gl:=[]) (f:=134) (args:=[.ptr 1002 0,.ptr 1003 0,.ptr 1004 0]) (nx:=1005) (ol:=plM l a d to 0 []) (r:=.pan (cV p c))
  (by kernel_rfl) aHx (by kernel_rfl) (by kernel_rfl) (fun _=>by omega) (fun _=>aNv _ _ _ _ _ _) (fun _=>aFh (by show 1000<_;omega) (by show 1001<_;omega) _ _ _ _ (.inr (by show 1004+_<_;omega)) (vK _)) (fun _=>bA) ?_
 rw[aWf]
 refine WC.seq ((?_:WR Go.Proofs.Tryz.prog [] aHa rcA _ _ _) bdA aYe)
 unfold rcA
 repeat apply sQ
 refine WR.m 2 rfl ?_
 refine WQ.c rfl (kC (l:=l) (a:=a) (d:=d) (M:=1001) hl' (by decide) (by decide) (by decide) rfl rfl) .base rfl (WQ.q rfl ?_)
 cases hi:isF l a 4 to with
 |true=>rw[hi]at hr;cases hr
 |false=>
  rw[hi]at hr
  have hr:(fns l n).elts [] a d=.er a' d' p c:=hr
  refine WC.block (WC.loop (WL.weak (s:=SL.toS ⟨aTk true,[],none,1005+([]:List Ex).length,plM l a d to ([]:List Ex).length (flE []),[]⟩) ?_ (aCk l hl to d hd n hs [] a ha (Nat.zero_le _) (by rw[hr];rfl) (fun es2 a2 e tm=>by rw[hr]at e;cases e) (fun a2 d2 p c e es tm=>?_))))
  ·refine SW.aM ?_ ?_
   ·exact tQ
   ·exact lQ
  ·rw[hr]at e
   cases e
   exact⟨es,rfl,rfl,rfl,fun _ _=>rfl⟩
end Go.VM
end
