/- laid for this seat: VqD VqE VqF VqG -/
import Derived.Test.YtipiffhjilidlaaGreatDoorVh0
import Derived.Test.YtipiffhjilidlaaGreatDoorVmS
set_option linter.unusedVariables false
set_option linter.unusedSimpArgs false
section
/- The document's types. -/
set_option maxRecDepth 100000
namespace Go.VM
open Go.RowKit
theorem oY(t:Tz)(c:Int)(h:H):SCall Go.Proofs.Tryz.prog [] 86 [.agg (bS t),.int .i64 c] none h (.ret (tyV (.er 0 0 t.a c))) none h:=by
 refine SCall.cK rfl ?_ (by exact⟨⟨trivial,trivial,trivial,trivial,trivial⟩,trivial,trivial⟩) (by exact lT _) h
 refine SCall.listed (fn:=Go.Proofs.Tryz.f86) (by kernel_rfl) bDx (by kernel_rfl) (by kernel_rfl) (Nat.le_refl _) rfl (trivial) (by exact lT _) ?_
 unfold bCb
 repeat apply sQ
 refine WR.q rfl ?_
 repeat apply sQ
 refine WR.aO aV (DW.m 1000 rfl ?_)
 refine DW.stS pQ rfl rfl rfl rfl (DW.m 1000 rfl ?_)
 refine DW.stS pQ rfl rfl rfl rfl (DW.m 1000 rfl (DW.cD pQ ?_))
 exact WR.e
theorem aEo{l:List Tz}{a a1 d1:Nat}{p c:Int}(h:dD l a=.er a1 d1 p c):c=5:=by
 unfold dD at h
 split at h
 ·cases h
 ·split at h
  ·split at h
   ·split at h
    ·cases h
    ·cases h;rfl
   ·cases h
  ·cases h;rfl
theorem aEw(l:List Tz):∀m a a1 d1 p c,tyG l m a=.er a1 d1 p c→c≠0
 |0,a,a1,d1,p,c,h=>by
  unfold tyG at h
  split at h
  ·split at h
   ·cases h
   ·rename_i hb;cases h;rw[aEo hb];decide
   ·cases h
  ·cases h;decide
 |m+1,a,a1,d1,p,c,h=>by
  unfold tyG at h
  split at h
  ·split at h
   ·cases h
   ·rename_i hb;cases h;rw[aEo hb];decide
   ·cases h
  ·simp only at h
   split at h
   ·cases h;decide
   ·split at h
    ·cases h
    ·rename_i hb;cases h;exact aEw l m _ _ _ _ _ hb
    ·cases h
theorem sN(l:List Tz)(m a:Nat):(tyG l m a).dP=false:=by
 have hb:∀a,(dD l a).dP=false:=by
  intro a
  unfold dD
  repeat(first|split|rfl)
 induction m generalizing a with
 |zero=>
  unfold tyG
  have:=hb a
  split
  ·split
   ·rfl
   ·rfl
   ·rename_i h;rw[h]at this;cases this
  ·rfl
 |succ m ih=>
  unfold tyG
  have:=hb a
  have:=ih (a+2)
  split
  ·split
   ·rfl
   ·rfl
   ·rename_i h _;simp_all
  ·simp only
   split
   ·rfl
   ·split
    ·rfl
    ·rfl
    ·rename_i h;rw[h]at this;cases this
theorem aXr{a:Nat}(h:a<big)(k:Nat)(hk:k≤3):IntKind.i64.wrap ((a:Int)+(k:Int))=((a+k:Nat):Int):=by
 unfold big at h
 rw[wrap64 (by omega) (by omega)];omega
theorem zC(l:List Tz)(hl:l.length<4294967296)(m:Nat)(ih:∀m',m'+1=m→∀a d:Nat,d+m'=30→a≤l.length→∀h:H,SCall Go.Proofs.Tryz.prog [] 87 [lsV l,.int .i64 a,.int .i64 d] none h (.ret (tyV (tyG l m' a))) none h)(a d:Nat)(hd:d+m=30)(ha:a≤l.length):
  SCall Go.Proofs.Tryz.prog [] 87 [lsV l,.int .i64 a,.int .i64 d] none ⟨1000,og [],[]⟩ (.ret (tyV (tyG l m a))) none ⟨1000,og [],[]⟩:=by
 have tki:=fun i=>aBt l hl i
 have t0:=tki (a:Int)
 have t1:=tki ((a+1:Nat):Int)
 have t2:=tki ((a+2:Nat):Int)
 rw[bJ]at t0 t1 t2
 have hb:a+3<big:=by unfold big;omega
 obtain⟨r,hr⟩:∃r,r=tyG l m a:=⟨_,rfl⟩
 rw[←hr]
 have hlt:(aA l a).k≠0→a<l.length:=cJ
 have hlt1:eX (aA l (a+1)) [93]=true→a+1<l.length:=kJ
 unfold tyG dD at hr
 generalize aA l a=t at t0 hr hlt
 generalize aA l (a+1)=u at t1 hr hlt1
 generalize aA l (a+2)=u2 at t2 hr
 obtain⟨tk,ta,te,tt⟩:=t
 have fl5:=oY ⟨tk,ta,te,tt⟩ 5
 have fl6:=oY ⟨tk,ta,te,tt⟩ 6
 have iq:∀h:H,SCall Go.Proofs.Tryz.prog [] 32 [.agg (bS ⟨tk,ta,te,tt⟩),.int .i64 4,.str [91]] none h (.ret (.bool (eX ⟨tk,ta,te,tt⟩ [91]))) none h:=wJ ⟨tk,ta,te,tt⟩ 4 [91]
 have iq1:∀h:H,SCall Go.Proofs.Tryz.prog [] 32 [.agg (bS u),.int .i64 4,.str [46]] none h (.ret (.bool (eX u [46]))) none h:=wJ u 4 [46]
 have iq2:∀h:H,SCall Go.Proofs.Tryz.prog [] 32 [.agg (bS u),.int .i64 4,.str [93]] none h (.ret (.bool (eX u [93]))) none h:=wJ u 4 [93]
 refine SCall.listed (fn:=Go.Proofs.Tryz.f87) (by kernel_rfl) bBk (by kernel_rfl) (by kernel_rfl) (Nat.le_refl _) rfl (trivial) (by exact lT _) ?_
 unfold bCd
 repeat apply sQ
 refine WR.q rfl ?_
 repeat apply sQ
 refine WR.m 2 rfl ?_
 refine WQ.c rfl (t0 _) .base rfl ?_
 refine WQ.q rfl ?_
 by_cases h5:tk=5
 ·subst h5
  by_cases w1:tt=[105,110,116]
  ·subst w1
   have hr:r=.ok (.mk 1 ta [] [] []) (a+1):=hr
   subst hr
   repeat apply sQ
   refine WR.q rfl ?_
   repeat apply sQ
   refine WR.aB rfl ?_
   repeat apply sQ
   refine WR.m 5 rfl ?_
   rw[aN (by omega)]
   refine WQ.q rfl ?_
   exact WR.e
  by_cases w2:tt=[98,111,111,108]
  ·subst w2
   have hr:r=.ok (.mk 2 ta [] [] []) (a+1):=hr
   subst hr
   repeat apply sQ
   refine WR.q rfl ?_
   repeat apply sQ
   refine WR.k rfl ?_
   repeat apply sQ
   refine WR.q rfl ?_
   repeat apply sQ
   refine WR.aB rfl ?_
   repeat apply sQ
   refine WR.m 5 rfl ?_
   rw[aN (by omega)]
   refine WQ.q rfl ?_
   exact WR.e
  by_cases w3:tt=[116,101,120,116]
  ·subst w3
   have hr:r=.ok (.mk 3 ta [] [] []) (a+1):=hr
   subst hr
   repeat apply sQ
   refine WR.q rfl ?_
   repeat apply sQ
   refine WR.k rfl ?_
   repeat apply sQ
   refine WR.q rfl ?_
   repeat apply sQ
   refine WR.k rfl ?_
   repeat apply sQ
   refine WR.q rfl ?_
   repeat apply sQ
   refine WR.aB rfl ?_
   repeat apply sQ
   refine WR.m 5 rfl ?_
   rw[aN (by omega)]
   refine WQ.q rfl ?_
   exact WR.e
  have hw:nM tt=none:=by unfold nM;rw[decide_eq_false w1,decide_eq_false w2,decide_eq_false w3]
  simp only[hw]at hr
  have hr:r=.er 0 0 ta 5:=hr
  subst hr
  repeat apply sQ
  refine WR.m 7 rfl ?_
  rw[show decide (tt=[105,110,116])=false from decide_eq_false w1]
  refine WQ.q rfl ?_
  repeat apply sQ
  refine WR.k rfl ?_
  repeat apply sQ
  refine WR.m 7 rfl ?_
  rw[show decide (tt=[98,111,111,108])=false from decide_eq_false w2]
  refine WQ.q rfl ?_
  repeat apply sQ
  refine WR.k rfl ?_
  repeat apply sQ
  refine WR.m 7 rfl ?_
  rw[show decide (tt=[116,101,120,116])=false from decide_eq_false w3]
  refine WQ.q rfl ?_
  repeat apply sQ
  refine WR.k rfl ?_
  repeat apply sQ
  refine WR.q rfl ?_
  repeat apply sQ
  refine WR.k rfl ?_
  repeat apply sQ
  refine WR.m 1 rfl ?_
  refine WQ.c rfl (iq _) .base rfl ?_
  refine WQ.q rfl ?_
  repeat apply sQ
  refine WR.q rfl ?_
  repeat apply sQ
  refine WR.aB rfl ?_
  repeat apply sQ
  refine WR.m 1 rfl ?_
  refine WQ.c rfl (fl5 _) .base rfl ?_
  refine WQ.q rfl ?_
  exact WR.e
 by_cases h1:tk=1
 ·subst h1
  have ha1:=hlt (by show(1:Int)≠0;decide)
  repeat apply sQ
  refine WR.q rfl ?_
  repeat apply sQ
  refine WR.k rfl ?_
  repeat apply sQ
  refine WR.q rfl ?_
  repeat apply sQ
  refine WR.k rfl ?_
  repeat apply sQ
  refine WR.q rfl ?_
  repeat apply sQ
  refine WR.k rfl ?_
  repeat apply sQ
  refine WR.q rfl ?_
  repeat apply sQ
  refine WR.aB rfl ?_
  repeat apply sQ
  refine WR.m 2 rfl ?_
  refine WQ.m 1 rfl ?_
  rw[aN (by omega)]
  refine WQ.c rfl (t1 _) .base rfl ?_
  refine WQ.c rfl (iq1 _) .base rfl ?_
  cases hs:eX u [46]with
  |false=>
   rw[hs]at hr
   have hr:r=.ok (.mk 4 ta [] tt []) (a+1):=hr
   subst hr
   refine WQ.q rfl ?_
   repeat apply sQ
   refine WR.q rfl ?_
   repeat apply sQ
   refine WR.aB rfl ?_
   repeat apply sQ
   refine WR.m 7 rfl ?_
   rw[aN (by omega)]
   refine WQ.q rfl ?_
   exact WR.e
  |true=>
   rw[hs]at hr
   refine WQ.q rfl ?_
   repeat apply sQ
   refine WR.q rfl ?_
   repeat apply sQ
   refine WR.k rfl ?_
   repeat apply sQ
   refine WR.m 2 rfl ?_
   refine WQ.m 1 rfl ?_
   rw[show IntKind.i64.wrap ((a:Int)+2)=((a+2:Nat):Int)from aXr (by omega) 2 (by decide)]
   refine WQ.c rfl (t2 _) .base rfl ?_
   have fu:=oY u2 5
   refine WQ.q rfl ?_
   repeat apply sQ
   refine WR.m 2 rfl ?_
   cases hk:decide (u2.k=1)with
   |true=>
    rw[hk]at hr
    have hr:r=.ok (.mk 4 ta tt u2.t []) (a+2+1):=hr
    subst hr
    refine WQ.m 1 rfl ?_
    rw[hk]
    refine WQ.q rfl ?_
    repeat apply sQ
    refine WR.k rfl ?_
    repeat apply sQ
    refine WR.m 8 rfl ?_
    refine WQ.m 1 rfl ?_
    rw[show IntKind.i64.wrap ((a:Int)+3)=((a+3:Nat):Int)from aXr (by omega) 3 (by decide)]
    refine WQ.q rfl ?_
    exact WR.e
   |false=>
    rw[hk]at hr
    have hr:r=.er 0 0 u2.a 5:=hr
    subst hr
    refine WQ.m 1 rfl ?_
    rw[hk]
    refine WQ.q rfl ?_
    repeat apply sQ
    refine WR.aB rfl ?_
    repeat apply sQ
    refine WR.m 1 rfl ?_
    refine WQ.c rfl (fu _) .base rfl ?_
    refine WQ.q rfl ?_
    exact WR.e
 repeat apply sQ
 refine WR.m 2 rfl ?_
 refine WQ.m 1 rfl ?_
 rw[show decide (tk=5)=false from decide_eq_false h5]
 refine WQ.q rfl ?_
 repeat apply sQ
 refine WR.k rfl ?_
 repeat apply sQ
 refine WR.m 2 rfl ?_
 refine WQ.m 1 rfl ?_
 rw[show decide (tk=5)=false from decide_eq_false h5]
 refine WQ.q rfl ?_
 repeat apply sQ
 refine WR.k rfl ?_
 repeat apply sQ
 refine WR.m 2 rfl ?_
 refine WQ.m 1 rfl ?_
 rw[show decide (tk=5)=false from decide_eq_false h5]
 refine WQ.q rfl ?_
 repeat apply sQ
 refine WR.k rfl ?_
 repeat apply sQ
 refine WR.m 2 rfl ?_
 refine WQ.m 1 rfl ?_
 rw[show decide (tk=1)=false from decide_eq_false h1]
 refine WQ.q rfl ?_
 repeat apply sQ
 refine WR.k rfl ?_
 repeat apply sQ
 refine WR.m 1 rfl ?_
 refine WQ.c rfl (iq _) .base rfl ?_
 simp only[decide_eq_false h5,decide_eq_false h1,Bool.false_and]at hr
 cases hs:eX ⟨tk,ta,te,tt⟩ [91]with
 |false=>
  rw[hs]at hr
  have hr:r=.er 0 0 ta 5:=hr
  subst hr
  refine WQ.q rfl ?_
  repeat apply sQ
  refine WR.q rfl ?_
  repeat apply sQ
  refine WR.aB rfl ?_
  repeat apply sQ
  refine WR.m 1 rfl ?_
  refine WQ.c rfl (fl5 _) .base rfl ?_
  refine WQ.q rfl ?_
  exact WR.e
 |true=>
  rw[hs]at hr
  have ha1:a<l.length:=hlt (by
   unfold eX at hs
   simp only[Bool.and_eq_true,decide_eq_true_eq]at hs
   have h4:=hs.1
   show tk≠0
   rw[h4];decide)
  refine WQ.q rfl ?_
  repeat apply sQ
  refine WR.q rfl ?_
  repeat apply sQ
  refine WR.k rfl ?_
  repeat apply sQ
  refine WR.m 2 rfl ?_
  cases m with
  |zero=>
   have hr:r=.er 0 0 ta 6:=hr
   subst hr
   rw[show decide ((d:Int)≥30)=true from decide_eq_true (by omega)]
   refine WQ.q rfl ?_
   repeat apply sQ
   refine WR.aB rfl ?_
   repeat apply sQ
   refine WR.m 1 rfl ?_
   refine WQ.c rfl (fl6 _) .base rfl ?_
   refine WQ.q rfl ?_
   exact WR.e
  |succ m=>
   rw[show decide ((d:Int)≥30)=false from decide_eq_false (by omega)]
   simp only at hr
   have fu:=oY u 5
   refine WQ.q rfl ?_
   repeat apply sQ
   refine WR.k rfl ?_
   repeat apply sQ
   refine WR.m 2 rfl ?_
   refine WQ.m 1 rfl ?_
   rw[aN (by omega)]
   refine WQ.c rfl (t1 _) .base rfl ?_
   refine WQ.c rfl (iq2 _) .base rfl ?_
   cases hs2:eX u [93]with
   |false=>
    rw[hs2]at hr
    have hr:r=.er 0 0 u.a 5:=hr
    subst hr
    refine WQ.q rfl ?_
    repeat apply sQ
    refine WR.q rfl ?_
    repeat apply sQ
    refine WR.aB rfl ?_
    repeat apply sQ
    refine WR.m 2 rfl ?_
    refine WQ.m 1 rfl ?_
    rw[aN (by omega)]
    refine WQ.c rfl (t1 _) .base rfl ?_
    refine WQ.c rfl (fu _) .base rfl ?_
    refine WQ.q rfl ?_
    exact WR.e
   |true=>
    rw[hs2]at hr
    simp only at hr
    have ha2:=hlt1 hs2
    have dp:=ih m rfl (a+2) (d+1) (by omega) (by omega)
    have er:=aEw l m (a+2)
    have kn:=sN l m (a+2)
    generalize tyG l m (a+2)=q at hr dp er kn
    refine WQ.q rfl ?_
    repeat apply sQ
    refine WR.q rfl ?_
    repeat apply sQ
    refine WR.k rfl ?_
    repeat apply sQ
    refine WR.m 2 rfl ?_
    refine WQ.m 1 rfl ?_
    rw[show IntKind.i64.wrap ((a:Int)+2)=((a+2:Nat):Int)from aXr (by omega) 2 (by decide)]
    refine WQ.m 2 rfl ?_
    rw[aN (by unfold big;omega)]
    refine WQ.c rfl (dp _) .base rfl ?_
    cases q with
    |out=>cases kn
    |er a1 d1 p c=>
     have hc:=er _ _ _ _ rfl
     have hr:r=.er 0 0 p c:=hr
     subst hr
     refine WQ.q rfl ?_
     repeat apply sQ
     refine WR.m 2 rfl ?_
     refine WQ.m 1 rfl ?_
     rw[show decide (c=0)=false from decide_eq_false hc]
     refine WQ.q rfl ?_
     repeat apply sQ
     refine WR.aB rfl ?_
     refine WR.seq (WR.aO aV (DW.m 1000 rfl ?_))
     refine DW.stS pQ rfl rfl rfl rfl (DW.m 1000 rfl ?_)
     refine DW.stS pQ rfl rfl rfl rfl (DW.m 1000 rfl (DW.cD pQ ?_))
     exact WR.e
    |ok x a2=>
     have hr:r=.ok (.mk 5 ta [] [] [x]) a2:=hr
     subst hr
     obtain⟨xk,xa,xp,xn,xl⟩:=x
     refine WQ.q rfl ?_
     repeat apply sQ
     refine WR.q rfl ?_
     repeat apply sQ
     refine WR.k rfl ?_
     repeat apply sQ
     refine WR.q rfl ?_
     exact WR.e
theorem aIz(l:List Tz)(hl:l.length<4294967296):∀(m a d:Nat),d+m=30→a≤l.length→∀h:H,SCall Go.Proofs.Tryz.prog [] 87 [lsV l,.int .i64 a,.int .i64 d] none h (.ret (tyV (tyG l m a))) none h
 |0,a,d,hd,ha,h=>SCall.cK rfl (zC l hl 0 (fun m' e=>by cases e) a d hd ha) (by exact⟨gY l,trivial,trivial,trivial⟩) (by exact lT _) h
 |m+1,a,d,hd,ha,h=>SCall.cK rfl (zC l hl (m+1) (fun m' e=>by cases e;exact aIz l hl m) a d hd ha) (by exact⟨gY l,trivial,trivial,trivial⟩) (by exact lT _) h
end Go.VM
end
section
/- The document's types, as its reader reads them. -/
set_option maxRecDepth 100000
namespace Go.VM
open Go.RowKit
theorem aNu(l:List Tz)(hl:l.length<4294967296)(a:Nat)(ha:a≤l.length)(h:H):SCall Go.Proofs.Tryz.prog [] 83 [lsV l,.int .i64 a] none h (.ret (tyV (tyF l a))) none h:=by
 refine SCall.cK rfl ?_ (by exact⟨gY l,trivial,trivial⟩) (by exact lT _) h
 have dp:=aIz l hl 30 a 0 rfl ha
 rw[aSc]at dp
 have kn:=sN l 30 a
 rw[aSc]at kn
 generalize tyF l a=r at dp kn
 refine SCall.listed (fn:=Go.Proofs.Tryz.f83) (by kernel_rfl) aYu (by kernel_rfl) (by kernel_rfl) (Nat.le_refl _) rfl (trivial) (by exact lT _) ?_
 unfold bBo
 unfold lsV at dp⊢
 repeat apply sQ
 refine WR.q rfl ?_
 repeat apply sQ
 refine WR.m 2 rfl ?_
 rw[show decide ((a:Int)<0)=false from decide_eq_false (by omega)]
 refine WQ.m 4 rfl ?_
 rw[List.length_map]
 refine WQ.m 1 rfl ?_
 rw[show decide ((a:Int)>(l.length:Int))=false from decide_eq_false (by omega)]
 refine WQ.q rfl ?_
 repeat apply sQ
 refine WR.k rfl ?_
 repeat apply sQ
 refine WR.m 2 rfl ?_
 refine WQ.c rfl (dp _) .base rfl ?_
 cases r with
 |out=>cases kn
 |er a1 d1 p c=>
  refine WQ.q rfl ?_
  exact WR.e
 |ok x n=>
  obtain⟨xk,xa,xp,xn,xl⟩:=x
  refine WQ.q rfl ?_
  exact WR.e
def SpR{α:Type}(f:FuncId)(xs:List V)(l:List Tz)(a:Nat)(enc:α→V)(r:R α):Prop:=match r with
 |.ok v a'=>SCall Go.Proofs.Tryz.prog [] f (.ptr 1000 0::xs) none ⟨1001,og (rrL l (live a)),[]⟩ (.ret (enc v)) none ⟨1001,og (rrL l (live a')),[]⟩
 |.er _ _ p c=>∃(v:α) (k:Int),SCall Go.Proofs.Tryz.prog [] f (.ptr 1000 0::xs) none ⟨1001,og (rrL l (live a)),[]⟩ (.ret (enc v)) none ⟨1001,og (rrL l ⟨k,p,c⟩),[]⟩
 |.out=>True
def bAs(x:Tx):V:=.agg (gE x)
theorem oO{D:Nat→Prop}(x:Tx):(bAs x).In D:=vU x
theorem tV{o a b:Obj}(x:Nat)(h:x<1001):og [(1000,o)] x=og [(1000,o),(1001,a),(1002,b)] x:=by
 simp only[aQ]
 split
 ·rfl
 ·rw[if_neg (by omega),if_neg (by omega)]
theorem aFg(l:List Tz)(hl:l.length<4294967296)(a:Nat)(ha:a≤l.length):SpR 78 [] l a bAs (tyF l a):=by
 have ps:=aNu l hl a ha
 have kn:=sN l 30 a
 have er:=aEw l 30 a
 rw[aSc]at kn er
 unfold SpR
 cases hr:tyF l a with
 |out=>rw[hr]at kn;cases kn
 |er a1 d1 p c=>
  rw[hr]at ps er
  have hc:=er _ _ _ _ rfl
  refine⟨zT,a,?_⟩
  refine SCall.aG (fn:=Go.Proofs.Tryz.f78) (by kernel_rfl) aVt (by kernel_rfl) (by kernel_rfl) (Nat.le_refl _) rfl ((aX _ _)) (by exact oO _) ?_
  unfold aYk
  repeat apply sQ
  refine WR.q rfl ?_
  repeat apply sQ
  refine WR.q rfl ?_
  repeat apply sQ
  refine WR.k rfl ?_
  refine WR.seq (WR.aO aV (DW.m 1000 rfl ?_))
  refine DW.eR pQ rfl rfl rfl rfl rfl (ps _) .base rfl (DW.m 1000 rfl ?_)
  refine DW.stS pQ rfl rfl rfl rfl (DW.m 1000 rfl ?_)
  refine DW.stS pQ rfl rfl rfl rfl (DW.m 1000 rfl (DW.cD pQ ?_))
  repeat apply sQ
  refine WR.m 2 rfl ?_
  refine WQ.m 1 rfl ?_
  rw[show decide (c=0)=false from decide_eq_false hc]
  refine WQ.q rfl ?_
  repeat apply sQ
  refine WR.aB rfl ?_
  repeat apply sQ
  refine WR.q rfl ?_
  repeat apply sQ
  refine WR.q rfl ?_
  refine WR.ret ⟨rfl,rfl,⟨_,rfl,vQ⟩,fun b hb=>tV b hb⟩
 |ok x n=>
  rw[hr]at ps
  obtain⟨xk,xa,xp,xn,xl⟩:=x
  refine SCall.aG (fn:=Go.Proofs.Tryz.f78) (by kernel_rfl) aVt (by kernel_rfl) (by kernel_rfl) (Nat.le_refl _) rfl ((aX _ _)) (by exact oO _) ?_
  unfold aYk
  repeat apply sQ
  refine WR.q rfl ?_
  repeat apply sQ
  refine WR.q rfl ?_
  repeat apply sQ
  refine WR.k rfl ?_
  refine WR.seq (WR.aO aV (DW.m 1000 rfl ?_))
  refine DW.eR pQ rfl rfl rfl rfl rfl (ps _) .base rfl (DW.m 1000 rfl ?_)
  refine DW.stS pQ rfl rfl rfl rfl (DW.m 1000 rfl ?_)
  refine DW.stS pQ rfl rfl rfl rfl (DW.m 1000 rfl (DW.cD pQ ?_))
  repeat apply sQ
  refine WR.q rfl ?_
  repeat apply sQ
  refine WR.k rfl ?_
  repeat apply sQ
  refine WR.q rfl ?_
  repeat apply sQ
  refine WR.q rfl ?_
  refine WR.ret ⟨rfl,rfl,⟨_,rfl,vQ⟩,fun b hb=>tV b hb⟩
theorem SpR.okA{α:Type}{f:FuncId}{xs:List V}{l:List Tz}{a:Nat}{enc:α→V}{v:α}{a':Nat}(s:SpR f xs l a enc (.ok v a'))(has:Ins (fun _=>False) xs)(hr:(enc v).In (fun _=>False)){h:H}{R:Nat}(hR:aD≤R)(h1:h.ob R=some (rrO l (live a))):
  SCall Go.Proofs.Tryz.prog [] f (.ptr R 0::xs) none h (.ret (enc v)) none (h.put R (rrO l (live a'))):=gX s has hr hR h1
theorem SpR.erA{α:Type}{f:FuncId}{xs:List V}{l:List Tz}{a:Nat}{enc:α→V}{a1 d1:Nat}{p c:Int}(s:SpR f xs l a enc (.er a1 d1 p c))(has:Ins (fun _=>False) xs)(hr:∀v,(enc v).In (fun _=>False)):
  ∃(v:α) (k:Int),∀{h:H} {R:Nat} (hR:aD≤R) (h1:h.ob R=some (rrO l (live a))),SCall Go.Proofs.Tryz.prog [] f (.ptr R 0::xs) none h (.ret (enc v)) none (h.put R (rrO l ⟨k,p,c⟩)):=by
 obtain⟨v,k,s⟩:=s
 exact⟨v,k,fun hR h1=>gX s has (hr v) hR h1⟩
def SpL(f:FuncId)(xs:List V)(l:List Tz)(a:Nat)(r:R (List Ex×Int)):Prop:=match r with
 |.ok v a'=>SCall Go.Proofs.Tryz.prog [] f (.ptr 1000 0::xs) none ⟨1001,og (rrL l (live a)),[]⟩ (.ret (iU v)) none ⟨1001,og (rrL l (live a')),[]⟩
 |.er _ _ p c=>∃(v:List Ex×Int) (k:Int),v.1.length≤20000∧SCall Go.Proofs.Tryz.prog [] f (.ptr 1000 0::xs) none ⟨1001,og (rrL l (live a)),[]⟩ (.ret (iU v)) none ⟨1001,og (rrL l ⟨k,p,c⟩),[]⟩
 |.out=>True
theorem SpL.ok{f:FuncId}{xs:List V}{l:List Tz}{a:Nat}{v:List Ex×Int}{a':Nat}(s:SpL f xs l a (.ok v a')):SpR f xs l a iU (.ok v a'):=s
theorem SpL.erA{f:FuncId}{xs:List V}{l:List Tz}{a:Nat}{a1 d1:Nat}{p c:Int}(s:SpL f xs l a (.er a1 d1 p c))(has:Ins (fun _=>False) xs):
  ∃(v:List Ex×Int) (k:Int),v.1.length≤20000∧∀{h:H} {R:Nat} (hR:aD≤R) (h1:h.ob R=some (rrO l (live a))),SCall Go.Proofs.Tryz.prog [] f (.ptr R 0::xs) none h (.ret (iU v)) none (h.put R (rrO l ⟨k,p,c⟩)):=by
 obtain⟨v,k,hv,s⟩:=s
 exact⟨v,k,hv,fun hR h1=>gX s has (dL v) hR h1⟩
structure SpecR(l:List Tz)(f:Fns):Prop where
 expr:∀lv a d:Nat,1≤lv→lv≤5→a≤l.length→d≤30→SpR 55 [.int .i64 lv,.int .i64 d] l a cF (f.expr lv a d)
 oper:∀a d:Nat,a≤l.length→d≤30→SpR 61 [.int .i64 d] l a cF (f.oper a d)
 prim:∀a d:Nat,a≤l.length→d≤30→SpR 68 [.int .i64 d] l a cF (f.prim a d)
 list:∀(op to:List Nat) (a d:Nat),a<l.length→d≤30→SpL 69 [.str op,.str to,.int .i64 d] l a (f.list to a d)
end Go.VM
end
section
/- The document's expressions: those of a level. -/
set_option maxRecDepth 100000
namespace Go.VM
open Go.RowKit
theorem aTa(t:Tz){lv:Nat}(h:1≤lv):decide ((lvF t:Int)=(lv:Int))=qJ lv t:=by
 unfold lvF qJ
 cases hk:decide (t.k=4)with
 |true=>rfl
 |false=>
  show decide (((0:Nat):Int)=(lv:Int))=_
  rw[decide_eq_false (show ¬((0:Nat):Int)=(lv:Int) by omega)]
  rfl
def vH(lv d:Nat):TM:=[(0,.v (.ptr 1000 0)),(1,.v (.int .i64 lv)),(2,.v (.int .i64 d)),(6,.l 6 0),(7,.l 7 0)]
def kB(x:Ex):LM:=[(7,bG x),(6,zEx)]
theorem yT{QN:S→Prop}{QX:X→S→Prop}(l:List Tz)(lv d:Nat)(x:Ex)(k p c:Int)(hc:c≠0){tm:TM}{lc:LM}(htm:TellT tm (kB x) (vH lv d))(hlc:TellL lc (kB x))
  (h0:∀tm,TellT tm (kB x) (vH lv d)→QX (.exit 0) (SL.toS ⟨tm,[],none,1001,rrL l ⟨k,p,c⟩,kB x⟩)):
  WLr Go.Proofs.Tryz.prog [] ⟨Go.Proofs.Tryz.f55.ntmps,none,55⟩ qN (SL.toS ⟨tm,[],none,1001,rrL l ⟨k,p,c⟩,lc⟩) QN QX:=by
 refine WLr.weak (SW.aP htm hlc) ?_
 unfold qN
 refine WLr.of ?_
 repeat apply sQ
 refine WR.m 5 rfl ?_
 refine WQ.m 1 rfl ?_
 rw[show decide (c=0)=false from decide_eq_false hc]
 refine WQ.q rfl ?_
 repeat apply sQ
 refine WR.aF rfl (WR.exit (h0 _ ?_))
 exact tQ
theorem aMn{QN:S→Prop}{QX:X→S→Prop}(l:List Tz)(hl:l.length<20000)(lv d:Nat)(h1:1≤lv)(h4:lv≤4)(hd:d≤30):∀(n:Nat) (hs:∀m,m<n→SpecR l (fns l m)) (x:Ex) (a:Nat),a≤l.length→((fns l n).bin lv x a d).dP=false→
  (∀x' a',(fns l n).bin lv x a d=.ok x' a'→∀tm,TellT tm (kB x') (vH lv d)→QX (.exit 0) (SL.toS ⟨tm,[],none,1001,rrL l (live a'),kB x'⟩))→
  (∀a1 d1 p c,(fns l n).bin lv x a d=.er a1 d1 p c→∀x' k tm,TellT tm (kB x') (vH lv d)→QX (.exit 0) (SL.toS ⟨tm,[],none,1001,rrL l ⟨k,p,c⟩,kB x'⟩))→
  ∀tm lc,TellT tm (kB x) (vH lv d)→TellL lc (kB x)→
  WLr Go.Proofs.Tryz.prog [] ⟨Go.Proofs.Tryz.f55.ntmps,none,55⟩ qN (SL.toS ⟨tm,[],none,1001,rrL l (live a),lc⟩) QN QX:=by
 intro n
 have hl':l.length<4294967296:=by omega
 induction n with
 |zero=>intro _ x a _ ho;cases ho
 |succ n ih=>
  intro hs x a ha ho hok her tm lc htm hlc
  have nw:=fun lc=>bO hl' (s:=live a) (h:=⟨1001,og (rrL l (live a)),lc⟩) (R:=1000) (by decide) rfl
  have ho:(kM l (fns l n) lv x a d).dP=false:=ho
  have hok:∀x' a',kM l (fns l n) lv x a d=.ok x' a'→∀tm,TellT tm (kB x') (vH lv d)→QX (.exit 0) (SL.toS ⟨tm,[],none,1001,rrL l (live a'),kB x'⟩):=hok
  have her:∀a1 d1 p c,kM l (fns l n) lv x a d=.er a1 d1 p c→∀x' k tm,TellT tm (kB x') (vH lv d)→QX (.exit 0) (SL.toS ⟨tm,[],none,1001,rrL l ⟨k,p,c⟩,kB x'⟩):=her
  have lvs:=aQn (aA l a)
  have hb:=aTa (aA l a) h1
  have hlt:qJ lv (aA l a)=true→a<l.length:=fun h=>by
   unfold qJ at h
   simp only[Bool.and_eq_true,decide_eq_true_eq]at h
   exact cJ (by rw[h.1];decide)
  have tka:cX l (live a).k=aA l a:=bJ l a
  rw[tka]at nw
  unfold kM at ho hok her
  generalize aA l a=t at nw lvs hb hlt ho hok her
  obtain⟨xk,xa,xe,xn,xv,⟨xtk,xta,xtp,xtn,xtl⟩,xs⟩:=x
  refine WLr.weak (SW.aP htm hlc) ?_
  unfold qN
  refine WLr.of ?_
  repeat apply sQ
  refine WR.m 8 rfl ?_
  refine WQ.c rfl (nw _) .base rfl ?_
  refine WQ.c rfl (lvs _) .base rfl ?_
  refine WQ.m 2 rfl ?_
  rw[hb]
  cases hbb:qJ lv t with
  |false=>
   rw[hbb]at hok
   refine WQ.q rfl ?_
   repeat apply sQ
   refine WR.aF rfl (WR.exit (hok _ _ rfl _ ?_))
   exact tQ
  |true=>
   rw[hbb]at ho hok her
   simp only at ho hok her
   have hla:=hlt hbb
   have sp:=(hs n (by omega)).expr (lv+1) (a+1) d (by omega) (by omega) (by omega) hd
   refine WQ.q rfl ?_
   repeat apply sQ
   refine WR.aB rfl (WR.skip ?_)
   repeat(first|refine WR.seq ?_|refine WR.block ?_)
   refine WR.m 1 rfl ?_
   refine WQ.c rfl (nw _) .base rfl ?_
   refine WQ.q rfl ?_
   repeat apply sQ
   refine WR.m 5 rfl ?_
   rw[show IntKind.i64.wrap ((live a).k+1)=(live (a+1)).k from aN (by unfold big;omega)]
   refine WQ.q rfl ?_
   repeat apply sQ
   refine WR.m 3 rfl ?_
   rw[aN (by unfold big;omega)]
   refine WQ.m 1 rfl ?_
   have fw:=(bX l n).expr (lv+1) (a+1) d
   have ec:=(eH (l:=l) n).expr (lv+1) (a+1) d
   cases hx:(fns l n).expr (lv+1) (a+1) d with
   |out=>rw[hx]at ho;cases ho
   |er a1 d1 p c=>
    rw[hx]at sp her ec
    have hc:=ec _ _ _ _ rfl
    obtain⟨y,k,sc⟩:=SpR.erA sp (by exact⟨trivial,trivial,trivial⟩) (fun v=>aI v)
    have her:=her a1 d1 p c rfl
    obtain⟨yk,ya,ye,yn,yv,⟨ytk,yta,ytp,ytn,ytl⟩,ys⟩:=y
    refine WQ.c rfl (sc (by decide) rfl) (.put .base rfl) rfl ?_
    refine WQ.q rfl ?_
    repeat apply sQ
    refine WR.q rfl ?_
    refine WIr.again (yT l lv d (.mk 9 xa ye t.t 0 zT [.mk xk xa xe xn xv (.mk xtk xta xtp xtn xtl) xs,.mk yk ya ye yn yv (.mk ytk yta ytp ytn ytl) ys]) k p c hc ?_ ?_ (fun tm ht=>her _ k tm ht))
    ·exact tQ
    ·refine .cons rfl (.inr ?_) (.cons rfl (.inr ?_) .nil)
     ·exact cQ
     ·exact cQ
   |ok y a2=>
    rw[hx]at sp ho hok her fw
    have fw:=fw _ _ rfl
    have ih:=ih (fun m hm=>hs m (by omega)) (aXv t (.mk xk xa xe xn xv (.mk xtk xta xtp xtn xtl) xs) y) a2 (fw.2 (by omega)) ho hok her
    obtain⟨yk,ya,ye,yn,yv,⟨ytk,yta,ytp,ytn,ytl⟩,ys⟩:=y
    refine WQ.c rfl (SpR.okA sp (by exact⟨trivial,trivial,trivial⟩) (aI _) (by decide) rfl) (.put .base rfl) rfl ?_
    refine WQ.q rfl ?_
    repeat apply sQ
    refine WR.q rfl ?_
    refine WIr.again (ih _ _ ?_ ?_)
    ·exact tQ
    ·refine .cons rfl (.inr ?_) (.cons rfl (.inr ?_) .nil)
     ·exact cQ
     ·exact cQ
theorem aFz(l:List Tz)(hl:l.length<20000)(n:Nat)(hs:∀m,m<n+1→SpecR l (fns l m))(lv a d:Nat)(h1:1≤lv)(h5:lv≤5)(ha:a≤l.length)(hd:d≤30):SpR 55 [.int .i64 lv,.int .i64 d] l a cF (fJ (fns l n) lv a d):=by
 have hso:=(hs n (by omega)).oper a d ha hd
 rcases Nat.lt_or_ge lv 5 with h|h
 ·have e:fJ (fns l n) lv a d=((fns l n).expr (lv+1) a d).bind fun x a1=>(fns l n).bin lv x a1 d:=by
   unfold fJ
   rw[show Nat.blt 4 lv=false from by cases hq:Nat.blt 4 lv with|false=>rfl|true=>rw[Nat.blt_eq]at hq;omega]
  rw[e]
  have sp:=(hs n (by omega)).expr (lv+1) a d (by omega) (by omega) ha hd
  have fw:=(bX l n).expr (lv+1) a d
  have ec:=(eH (l:=l) n).expr (lv+1) a d
  have lp:=fun QN QX x a1 ha1=>aMn (QN:=QN) (QX:=QX) l hl lv d h1 (by omega) hd n (fun m hm=>hs m (by omega)) x a1 ha1
  have ecb:=fun x a1=>(eH (l:=l) n).bin lv x a1 d
  cases hx:(fns l n).expr (lv+1) a d with
  |out=>exact trivial
  |er a1 d1 p c=>
   rw[hx]at sp ec
   have hc:=ec _ _ _ _ rfl
   obtain⟨y,k,sc⟩:=SpR.erA sp (by exact⟨trivial,trivial,trivial⟩) (fun v=>aI v)
   refine⟨y,k,?_⟩
   obtain⟨yk,ya,ye,yn,yv,⟨ytk,yta,ytp,ytn,ytl⟩,ys⟩:=y
   refine SCall.aG (fn:=Go.Proofs.Tryz.f55) (by kernel_rfl) aDy (by kernel_rfl) (by kernel_rfl) (Nat.le_refl _) rfl ((aX _ _)) (by exact aI _) ?_
   unfold aMw
   repeat apply sQ
   refine WR.q rfl ?_
   repeat apply sQ
   refine WR.m 2 rfl ?_
   rw[show decide ((lv:Int)=5)=false from decide_eq_false (by omega)]
   refine WQ.q rfl ?_
   repeat apply sQ
   refine WR.k rfl ?_
   repeat apply sQ
   refine WR.m 3 rfl ?_
   rw[aN (by unfold big;omega)]
   refine WQ.m 1 rfl ?_
   refine WQ.c rfl (sc (by decide) rfl) (.put .base rfl) rfl ?_
   refine WQ.q rfl ?_
   repeat apply sQ
   refine WR.block (WR.loop (yT l lv d (.mk yk ya ye yn yv (.mk ytk yta ytp ytn ytl) ys) k p c hc ?_ ?_ (fun tm ht=>?_)))
   ·exact tQ
   ·refine .cons rfl (.inr ?_) (.cons rfl (.inr ?_) .nil)
    ·exact cQ
    ·exact cQ
   ·refine WR.weak (SW.aP ht (.cons rfl (.inl rfl) (.cons rfl (.inl rfl) .nil))) ?_
    unfold uB
    repeat apply sQ
    refine WR.q rfl ?_
    exact WR.e
  |ok x a1=>
   rw[hx]at sp fw
   have fw:=fw _ _ rfl
   have lp:=fun QN QX=>lp QN QX x a1 (fw.2 ha)
   have ecb:=ecb x a1
   show SpR _ _ _ _ _ ((fns l n).bin lv x a1 d)
   cases hb:(fns l n).bin lv x a1 d with
   |out=>exact trivial
   |er a2 d2 p c=>
    rw[hb]at lp ecb
    obtain⟨xk,xa,xe,xn,xv,⟨xtk,xta,xtp,xtn,xtl⟩,xs⟩:=x
    show ∃(v:Ex) (k:Int),SCall Go.Proofs.Tryz.prog [] 55 (.ptr 1000 0::[.int .i64 lv,.int .i64 d]) none ⟨1001,og (rrL l (live a)),[]⟩ (.ret (cF v)) none ⟨1001,og (rrL l ⟨k,p,c⟩),[]⟩
    suffices H:∃i:Ex×Int,SCall Go.Proofs.Tryz.prog [] 55 [.ptr 1000 0,.int .i64 lv,.int .i64 d] none ⟨1001,og (rrL l (live a)),[]⟩ (.ret (cF i.1)) none ⟨1001,og (rrL l ⟨i.2,p,c⟩),[]⟩from by
     obtain⟨i,h⟩:=H
     exact⟨i.1,i.2,h⟩
    refine SCall.rM (nx':=fun _=>1001) (fn:=Go.Proofs.Tryz.f55) (by kernel_rfl) aDy (by kernel_rfl) (by kernel_rfl) (fun _=>Nat.le_refl _) (fun _=>rfl) (fun _=>aX _ _) (fun i=>by exact aI i.1) ?_
    unfold aMw
    repeat apply sQ
    refine WR.q rfl ?_
    repeat apply sQ
    refine WR.m 2 rfl ?_
    rw[show decide ((lv:Int)=5)=false from decide_eq_false (by omega)]
    refine WQ.q rfl ?_
    repeat apply sQ
    refine WR.k rfl ?_
    repeat apply sQ
    refine WR.m 3 rfl ?_
    rw[aN (by unfold big;omega)]
    refine WQ.m 1 rfl ?_
    refine WQ.c rfl (SpR.okA sp (by exact⟨trivial,trivial,trivial⟩) (aI _) (by decide) rfl) (.put .base rfl) rfl ?_
    refine WQ.q rfl ?_
    repeat apply sQ
    refine WR.block (WR.loop (lp _ _ rfl (fun x' a' e=>by cases e) (fun a3 d3 p3 c3 e x' k tm ht=>?_) _ _ ?_ ?_))
    ·cases e
     obtain⟨yk,ya,ye,yn,yv,⟨ytk,yta,ytp,ytn,ytl⟩,ys⟩:=x'
     refine WR.weak (SW.aP ht (.cons rfl (.inl rfl) (.cons rfl (.inl rfl) .nil))) ?_
     unfold uB
     repeat apply sQ
     refine WR.q rfl ?_
     refine WR.ret ⟨(.mk yk ya ye yn yv (.mk ytk yta ytp ytn ytl) ys,k),rfl,rfl,⟨_,rfl,vQ⟩,fun b _=>rfl⟩
    ·exact tQ
    ·refine .cons rfl (.inr ?_) (.cons rfl (.inr ?_) .nil)
     ·exact cQ
     ·exact cQ
   |ok y a2=>
    rw[hb]at lp
    obtain⟨xk,xa,xe,xn,xv,⟨xtk,xta,xtp,xtn,xtl⟩,xs⟩:=x
    have e2:SCall Go.Proofs.Tryz.prog [] 55 (.ptr 1000 0::[.int .i64 lv,.int .i64 d]) none ⟨1001,og (rrL l (live a)),[]⟩ (.ret (cF y)) none ⟨1001,og (rrL l (live a2)),[]⟩:=by
     refine SCall.aG (fn:=Go.Proofs.Tryz.f55) (by kernel_rfl) aDy (by kernel_rfl) (by kernel_rfl) (Nat.le_refl _) rfl ((aX _ _)) (by exact aI _) ?_
     unfold aMw
     repeat apply sQ
     refine WR.q rfl ?_
     repeat apply sQ
     refine WR.m 2 rfl ?_
     rw[show decide ((lv:Int)=5)=false from decide_eq_false (by omega)]
     refine WQ.q rfl ?_
     repeat apply sQ
     refine WR.k rfl ?_
     repeat apply sQ
     refine WR.m 3 rfl ?_
     rw[aN (by unfold big;omega)]
     refine WQ.m 1 rfl ?_
     refine WQ.c rfl (SpR.okA sp (by exact⟨trivial,trivial,trivial⟩) (aI _) (by decide) rfl) (.put .base rfl) rfl ?_
     refine WQ.q rfl ?_
     repeat apply sQ
     refine WR.block (WR.loop (lp _ _ rfl (fun x' a' e tm ht=>?_) (fun a1 d1 p c e=>by cases e) _ _ ?_ ?_))
     ·cases e
      obtain⟨yk,ya,ye,yn,yv,⟨ytk,yta,ytp,ytn,ytl⟩,ys⟩:=y
      refine WR.weak (SW.aP ht (.cons rfl (.inl rfl) (.cons rfl (.inl rfl) .nil))) ?_
      unfold uB
      repeat apply sQ
      refine WR.q rfl ?_
      exact WR.e
     ·exact tQ
     ·refine .cons rfl (.inr ?_) (.cons rfl (.inr ?_) .nil)
      ·exact cQ
      ·exact cQ
    exact e2
 ·have h:lv=5:=by omega
  subst h
  show SpR _ _ _ _ _ ((fns l n).oper a d)
  cases hx:(fns l n).oper a d with
  |out=>exact trivial
  |er a1 d1 p c=>
   rw[hx]at hso
   obtain⟨y,k,sc⟩:=SpR.erA hso (by exact⟨trivial,trivial⟩) (fun v=>aI v)
   refine⟨y,k,?_⟩
   obtain⟨yk,ya,ye,yn,yv,⟨ytk,yta,ytp,ytn,ytl⟩,ys⟩:=y
   refine SCall.aG (fn:=Go.Proofs.Tryz.f55) (by kernel_rfl) aDy (by kernel_rfl) (by kernel_rfl) (Nat.le_refl _) rfl ((aX _ _)) (by exact aI _) ?_
   unfold aMw
   repeat apply sQ
   refine WR.q rfl ?_
   repeat apply sQ
   refine WR.q rfl ?_
   repeat apply sQ
   refine WR.aB rfl ?_
   repeat apply sQ
   refine WR.m 2 rfl ?_
   refine WQ.c rfl (sc (by decide) rfl) (.put .base rfl) rfl ?_
   refine WQ.q rfl ?_
   exact WR.e
  |ok y a1=>
   rw[hx]at hso
   obtain⟨yk,ya,ye,yn,yv,⟨ytk,yta,ytp,ytn,ytl⟩,ys⟩:=y
   have e2:SCall Go.Proofs.Tryz.prog [] 55 (.ptr 1000 0::[.int .i64 (5:Nat),.int .i64 d]) none ⟨1001,og (rrL l (live a)),[]⟩ (.ret (cF (.mk yk ya ye yn yv (.mk ytk yta ytp ytn ytl) ys))) none ⟨1001,og (rrL l (live a1)),[]⟩:=by
    refine SCall.aG (fn:=Go.Proofs.Tryz.f55) (by kernel_rfl) aDy (by kernel_rfl) (by kernel_rfl) (Nat.le_refl _) rfl ((aX _ _)) (by exact aI _) ?_
    unfold aMw
    repeat apply sQ
    refine WR.q rfl ?_
    repeat apply sQ
    refine WR.q rfl ?_
    repeat apply sQ
    refine WR.aB rfl ?_
    repeat apply sQ
    refine WR.m 2 rfl ?_
    refine WQ.c rfl (SpR.okA hso (by exact⟨trivial,trivial⟩) (aI _) (by decide) rfl) (.put .base rfl) rfl ?_
    refine WQ.q rfl ?_
    exact WR.e
   exact e2
end Go.VM
end
section
/- The document's expressions: lists. -/
set_option maxRecDepth 100000
namespace Go.VM
open Go.RowKit
def lvE:List Ex→V
 |[]=>.lst [] (.ex 0)
 |x::l=>.lst ((x::l).map bG) (.tk 1001)
def aXj:List Ex→OL
 |[]=>[]
 |x::l=>[(1001,.tok (x::l).length)]
def nxE:List Ex→Nat
 |[]=>1001
 |_::_=>1002
def liM(l:List Tz)(s:Rk)(acc:List Ex):OL:=(1000,rrO l s)::aXj acc
def nJ(to:List Nat)(d:Nat)(acc:List Ex):TM:=[(0,.v (.ptr 1000 0)),(2,.v (.str to)),(3,.v (.int .i64 d)),(11,.v (lvE acc))]
theorem aQh{o:Obj}(acc:List Ex)(b:Nat)(h:b<1001):og [(1000,o)] b=og ((1000,o)::aXj acc) b:=by
 cases acc with
 |nil=>rfl
 |cons p l=>
  simp only[aXj,aQ]
  split
  ·rfl
  ·rw[if_neg (by omega)]
theorem aXs(acc:List Ex):VLe (lvE acc) (.lst (dG acc) .unk):=by
 rw[bC]
 cases acc with
 |nil=>exact VLe.unk _ _
 |cons x l=>exact VLe.unk _ _
theorem wK{QN:S→Prop}{QX:X→S→Prop}(l:List Tz)(to:List Nat)(d:Nat)(acc:List Ex)(k p c:Int)(hc:c≠0){tm:TM}{lc:LM}(htm:TellT tm [] (nJ to d acc))
  (h0:∀tm,TellT tm [] (nJ to d acc)→QX (.exit 0) (SL.toS ⟨tm,[],none,nxE acc,liM l ⟨k,p,c⟩ acc,[]⟩)):
  WLr Go.Proofs.Tryz.prog [] ⟨Go.Proofs.Tryz.f69.ntmps,none,69⟩ iG (SL.toS ⟨tm,[],none,nxE acc,liM l ⟨k,p,c⟩ acc,lc⟩) QN QX:=by
 refine WLr.weak (s:=SL.toS ⟨nJ to d acc,[],none,nxE acc,liM l ⟨k,p,c⟩ acc,[]⟩) (SW.aP htm .nil) ?_
 unfold iG
 refine WLr.of ?_
 repeat apply sQ
 refine WR.m 5 rfl ?_
 refine WQ.m 1 rfl ?_
 rw[show decide (c=0)=false from decide_eq_false hc]
 refine WQ.q rfl ?_
 repeat apply sQ
 refine WR.aF rfl (WR.exit (h0 _ ?_))
 exact tQ
theorem aUa{QN:S→Prop}{QX:X→S→Prop}(l:List Tz)(hl:l.length<4294967296)(to:List Nat)(d:Nat)(es:List Ex)(s:Rk){r1 r2 r:RC}(h4:iG=.seq r1 (.block 1 (.seq r2 r))){tm:TM}(htm:TellT tm [] (nJ to d es))
  (hc:isI l s.k 4 [44]=true→∀tm,TellT tm [] (nJ to d es)→QN (SL.toS ⟨tm,[],none,nxE es,liM l (iL s) es,[]⟩))
  (he:isI l s.k 4 [44]=false→∀tm,TellT tm [] (nJ to d es)→QX (.exit 0) (SL.toS ⟨tm,[],none,nxE es,liM l s es,[]⟩)):
  WR Go.Proofs.Tryz.prog [] ⟨Go.Proofs.Tryz.f69.ntmps,none,69⟩ r (SL.toS ⟨tm,[],none,nxE es,liM l s es,[]⟩) QN QX:=by
 refine WR.weak (SW.aP htm .nil) ?_
 unfold iG at h4
 cases h4
 have aw:=fun nx rw=>aU hl (s:=s) (x:=[44]) (h:=⟨nx,og ((1000,rrO l s)::rw),[]⟩) (R:=1000) (by decide) rfl
 repeat apply sQ
 refine WR.m 1 rfl ?_
 refine WQ.c rfl (aw _ _) .base rfl ?_
 cases hb:isI l s.k 4 [44]with
 |false=>
  refine WQ.q rfl ?_
  repeat apply sQ
  refine WR.q rfl ?_
  repeat apply sQ
  refine WR.aB rfl (WR.exit (he hb _ ?_))
  exact tQ
 |true=>
  refine WQ.q rfl ?_
  repeat apply sQ
  refine WR.q rfl ?_
  repeat apply sQ
  refine WR.k rfl ?_
  repeat apply sQ
  refine WR.reg (WQ.m 1000 rfl (WQ.aL (hc hb _ ?_)))
  exact tQ
theorem aHo{QN:S→Prop}{QX:X→S→Prop}(l:List Tz)(hl:l.length<20000)(to:List Nat)(d:Nat)(hd:d<30):∀(n:Nat) (hs:∀m,m<n→SpecR l (fns l m)) (acc:List Ex) (a:Nat),a≤l.length→acc.length≤a→((fns l n).elts acc a (d+1)).dP=false→
  (∀es a',(fns l n).elts acc a (d+1)=.ok es a'→∀tm,TellT tm [] (nJ to d es)→QX (.exit 0) (SL.toS ⟨tm,[],none,nxE es,liM l (live a') es,[]⟩))→
  (∀a1 d1 p c,(fns l n).elts acc a (d+1)=.er a1 d1 p c→c≠0∧∀es k tm,es.length≤20000→TellT tm [] (nJ to d es)→QX (.exit 0) (SL.toS ⟨tm,[],none,nxE es,liM l ⟨k,p,c⟩ es,[]⟩))→
  ∀tm,TellT tm [] (nJ to d acc)→
  WLr Go.Proofs.Tryz.prog [] ⟨Go.Proofs.Tryz.f69.ntmps,none,69⟩ iG (SL.toS ⟨tm,[],none,nxE acc,liM l (live a) acc,[]⟩) QN QX:=by
 intro n
 have hl':l.length<4294967296:=by omega
 induction n with
 |zero=>intro _ acc a _ _ ho;cases ho
 |succ n ih=>
  intro hs acc a ha hacc ho hok her tm htm
  have sp:=(hs n (by omega)).expr 1 a (d+1) (by omega) (by omega) ha (by omega)
  have fw:=(bX l n).expr 1 a (d+1)
  have pg:=(nA l n).expr 1 a (d+1)
  have ho:(fA l (fns l n) acc a (d+1)).dP=false:=ho
  have hok:∀es a',fA l (fns l n) acc a (d+1)=.ok es a'→∀tm,TellT tm [] (nJ to d es)→QX (.exit 0) (SL.toS ⟨tm,[],none,nxE es,liM l (live a') es,[]⟩):=hok
  have her:∀a1 d1 p c,fA l (fns l n) acc a (d+1)=.er a1 d1 p c→c≠0∧∀es k tm,es.length≤20000→TellT tm [] (nJ to d es)→QX (.exit 0) (SL.toS ⟨tm,[],none,nxE es,liM l ⟨k,p,c⟩ es,[]⟩):=her
  unfold fA at ho hok her
  obtain⟨r1,r2,r,h4⟩:∃r1 r2 r,iG=.seq r1 (.block 1 (.seq r2 r)):=by unfold iG;exact⟨_,_,_,rfl⟩
  have rest:=fun QN QX es s tm htm hc he=>aUa (QN:=QN) (QX:=QX) l hl' to d es s h4 (tm:=tm) htm hc he
  refine WLr.weak (SW.aP htm .nil) ?_
  unfold iG at h4⊢
  cases h4
  refine WLr.of ?_
  repeat apply sQ
  refine WR.q rfl ?_
  repeat apply sQ
  refine WR.aB rfl (WR.skip ?_)
  repeat(first|refine WR.seq ?_|refine WR.block ?_)
  refine WR.m 4 rfl ?_
  rw[aN (by unfold big;omega)]
  cases hx:(fns l n).expr 1 a (d+1)with
  |out=>rw[hx]at ho;cases ho
  |er a1 d1 p c=>
   rw[hx]at sp her
   obtain⟨hc,her2⟩:=her a1 d1 p c rfl
   obtain⟨y,k,sc⟩:=SpR.erA sp (by exact⟨trivial,trivial,trivial⟩) (fun v=>aI v)
   obtain⟨yk,ya,ye,yn,yv,⟨ytk,yta,ytp,ytn,ytl⟩,ys⟩:=y
   cases acc with
   |nil=>
    refine WQ.c rfl (sc (by decide) rfl) (.put .base rfl) rfl ?_
    refine WQ.m 1 rfl ?_
    refine WQ.eJ rfl (oM (n2:=1) (es2:=[bG (.mk yk ya ye yn yv (.mk ytk yta ytp ytn ytl) ys)]) rfl rfl (Nat.zero_lt_one) (by simp) (by simp) (by show 144*1≤lim;decide) rfl rfl rfl rfl) rfl ?_
    refine WQ.q rfl ?_
    refine rest _ _ ([]++[.mk yk ya ye yn yv (.mk ytk yta ytp ytn ytl) ys]) ⟨k,p,c⟩ _ ?_ (fun hb tm ht=>?_) (fun hb tm ht=>?_)
    ·exact tQ
    ·exact WIr.again (wK l to d _ (IntKind.i64.wrap (k+1)) p c hc ht (fun tm ht=>her2 _ _ tm (by simp only[List.length_append,List.length_cons,List.length_nil]at hacc⊢;omega) ht))
    ·exact her2 _ _ tm (by simp only[List.length_append,List.length_cons,List.length_nil]at hacc⊢;omega) ht
   |cons q0 q1=>
    refine WQ.c rfl (sc (by decide) rfl) (.put .base rfl) rfl ?_
    refine WQ.m 1 rfl ?_
    refine WQ.eJ rfl (oJ (n:=(q0::q1).length) (n2:=(q0::q1++[Ex.mk yk ya ye yn yv (.mk ytk yta ytp ytn ytl) ys]).length) (es2:=(q0::q1++[Ex.mk yk ya ye yn yv (.mk ytk yta ytp ytn ytl) ys]).map bG) rfl rfl rfl (List.length_map ..).symm ?_ ?_ ?_ rfl ?_ ?_ rfl) rfl ?_
    ·intro e he
     obtain⟨z,_,rfl⟩:=List.mem_map.1 (show e∈(q0::q1).map bG from he)
     exact cH z
    ·simp
    ·simp only[List.length_map,List.length_cons,List.length_nil]at hacc⊢;unfold lim;omega
    ·rw[List.map_append];rfl
    ·simp
    refine WQ.q rfl ?_
    refine rest _ _ (q0::q1++[.mk yk ya ye yn yv (.mk ytk yta ytp ytn ytl) ys]) ⟨k,p,c⟩ _ ?_ (fun hb tm ht=>?_) (fun hb tm ht=>?_)
    ·exact tQ
    ·exact WIr.again (wK l to d _ (IntKind.i64.wrap (k+1)) p c hc ht (fun tm ht=>her2 _ _ tm (by simp only[List.length_append,List.length_cons,List.length_nil]at hacc⊢;omega) ht))
    ·exact her2 _ _ tm (by simp only[List.length_append,List.length_cons,List.length_nil]at hacc⊢;omega) ht
  |ok y a1=>
   rw[hx]at sp fw pg ho hok her
   have fw:=fw _ _ rfl
   have pg:=pg _ _ rfl
   have hla:=fw.2 ha
   have hn:isI l (live a1).k 4 [44]=isF l a1 4 [44]:=aBs l a1 4 [44]
   have hcm:isF l a1 4 [44]=true→a1<l.length:=fun h=>bB h (by decide)
   have ihc:isF l a1 4 [44]=true→∀tm,TellT tm [] (nJ to d (acc++[y]))→WLr Go.Proofs.Tryz.prog [] ⟨Go.Proofs.Tryz.f69.ntmps,none,69⟩ iG (SL.toS ⟨tm,[],none,nxE (acc++[y]),liM l (live (a1+1)) (acc++[y]),[]⟩) QN QX:=by
    intro hc tm ht
    have ho:(match isF l a1 4 [44]with|true=>(fns l n).elts (acc++[y]) (a1+1) (d+1)|false=>.ok (acc++[y]) a1).dP=false:=ho
    rw[hc]at ho
    refine ih (fun m hm=>hs m (by omega)) (acc++[y]) (a1+1) (by have:=hcm hc;omega) (by simp;omega) ho (fun es a' e=>hok es a' ?_) (fun a1' d1 p c e=>her a1' d1 p c ?_) tm ht
    ·show(match isF l a1 4 [44]with|true=>(fns l n).elts (acc++[y]) (a1+1) (d+1)|false=>.ok (acc++[y]) a1)=_
     rw[hc];exact e
    ·show(match isF l a1 4 [44]with|true=>(fns l n).elts (acc++[y]) (a1+1) (d+1)|false=>.ok (acc++[y]) a1)=_
     rw[hc];exact e
   have ihe:isF l a1 4 [44]=false→∀tm,TellT tm [] (nJ to d (acc++[y]))→QX (.exit 0) (SL.toS ⟨tm,[],none,nxE (acc++[y]),liM l (live a1) (acc++[y]),[]⟩):=by
    intro hc tm ht
    refine hok _ _ ?_ tm ht
    show(match isF l a1 4 [44]with|true=>(fns l n).elts (acc++[y]) (a1+1) (d+1)|false=>.ok (acc++[y]) a1)=_
    rw[hc]
   have hbump:iL (live a1)=live (a1+1):=by
    unfold iL live
    rw[aN (by unfold big;omega)]
   obtain⟨yk,ya,ye,yn,yv,⟨ytk,yta,ytp,ytn,ytl⟩,ys⟩:=y
   cases acc with
   |nil=>
    refine WQ.c rfl (SpR.okA sp (by exact⟨trivial,trivial,trivial⟩) (aI _) (by decide) rfl) (.put .base rfl) rfl ?_
    refine WQ.m 1 rfl ?_
    refine WQ.eJ rfl (oM (n2:=1) (es2:=[bG (.mk yk ya ye yn yv (.mk ytk yta ytp ytn ytl) ys)]) rfl rfl (Nat.zero_lt_one) (by simp) (by simp) (by show 144*1≤lim;decide) rfl rfl rfl rfl) rfl ?_
    refine WQ.q rfl ?_
    refine rest _ _ ([]++[.mk yk ya ye yn yv (.mk ytk yta ytp ytn ytl) ys]) (live a1) _ ?_ (fun hb tm ht=>?_) (fun hb tm ht=>?_)
    ·exact tQ
    ·rw[hn]at hb;rw[hbump];exact WIr.again (ihc hb tm ht)
    ·rw[hn]at hb;exact ihe hb tm ht
   |cons q0 q1=>
    refine WQ.c rfl (SpR.okA sp (by exact⟨trivial,trivial,trivial⟩) (aI _) (by decide) rfl) (.put .base rfl) rfl ?_
    refine WQ.m 1 rfl ?_
    refine WQ.eJ rfl (oJ (n:=(q0::q1).length) (n2:=(q0::q1++[Ex.mk yk ya ye yn yv (.mk ytk yta ytp ytn ytl) ys]).length) (es2:=(q0::q1++[Ex.mk yk ya ye yn yv (.mk ytk yta ytp ytn ytl) ys]).map bG) rfl rfl rfl (List.length_map ..).symm ?_ ?_ ?_ rfl ?_ ?_ rfl) rfl ?_
    ·intro e he
     obtain⟨z,_,rfl⟩:=List.mem_map.1 (show e∈(q0::q1).map bG from he)
     exact cH z
    ·simp
    ·simp only[List.length_map,List.length_cons,List.length_nil]at hacc⊢;unfold lim;omega
    ·rw[List.map_append];rfl
    ·simp
    refine WQ.q rfl ?_
    refine rest _ _ (q0::q1++[.mk yk ya ye yn yv (.mk ytk yta ytp ytn ytl) ys]) (live a1) _ ?_ (fun hb tm ht=>?_) (fun hb tm ht=>?_)
    ·exact tQ
    ·rw[hn]at hb;rw[hbump];exact WIr.again (ihc hb tm ht)
    ·rw[hn]at hb;exact ihe hb tm ht
end Go.VM
end
