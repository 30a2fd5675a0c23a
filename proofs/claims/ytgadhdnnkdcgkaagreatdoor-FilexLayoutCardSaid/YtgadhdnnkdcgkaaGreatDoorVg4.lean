/- laid for this seat: VxH VxI VxJ VxK VxL VxM -/
import Derived.Test.YtgadhdnnkdcgkaaGreatDoorVg3
set_option linter.unusedVariables false
set_option linter.unusedSimpArgs false
section
/- Expressions: types: all of it. -/
set_option maxRecDepth 100000
namespace Go.VM
open Go.RowKit
def bDv(ls:List Int):R Tx→R Tx
 |.ok x a2=>.ok (hU ls x) (a2+1)
 |.er _ _ p c=>.er 0 0 p c
 |.out=>.out
theorem aSl{QN:S→Prop}{QX:X→S→Prop}(l:List Tz)(hl:l.length<4294967296)(a:Nat)(ha:a≤l.length)(ls:List Int)(hls:ls.length≤30)(r:R Tx)(ht:cY l a=r)
  (hq:∀s,oB Go.Proofs.Tryz.prog Go.Proofs.Tryz.f88 (tyV (bDv ls r)) 1000 [] s→QX .ret s) {tm:TM} {lc:LM} (htm:TellT tm aQe (bCp l a ls)) (hlc:TellL lc aQe):
  WR Go.Proofs.Tryz.prog [] ⟨Go.Proofs.Tryz.f88.ntmps,none,88⟩ xI (SL.toS ⟨tm,[],none,nxI ls,aGi ls,lc⟩) QN QX:=by
 refine WR.weak (SW.aM htm hlc) ?_
 cases ls with
 |nil=>
  unfold xI
  repeat apply sQ
  refine WR.m 2 rfl ?_
  refine WQ.c rfl (eZ l a hl _) .base rfl ?_
  refine WQ.q rfl ?_
  repeat apply sQ
  refine WR.q rfl ?_
  repeat apply sQ
  refine WR.m 1 rfl ?_
  refine WQ.muS rfl rfl rfl rfl ?_
  refine WQ.muS rfl rfl rfl rfl ?_
  refine WQ.muS rfl rfl rfl rfl ?_
  refine WQ.q rfl ?_
  repeat apply sQ
  refine WR.m 3 rfl ?_
  refine WQ.bD rfl rfl rfl (bJu (M:=1000) rfl rfl rfl) rfl ?_
  refine WQ.q rfl ?_
  have hlow:∀b,b<1000→og [] b=og [(1000,.map xM)] b:=by
   intro b hb
   simp only[aR]
   repeat rw[if_neg (by omega)]
  have hnow:∀h,SCall Go.Proofs.Tryz.prog [] 98 [lsV l,.int .i64 ((a+1:Nat):Int)] none h (.ret (.agg (cD (aA l (a+1))))) none h:=fun h=>eZ l (a+1) hl h
  have hnow2:∀h,SCall Go.Proofs.Tryz.prog [] 98 [lsV l,.int .i64 ((a+2:Nat):Int)] none h (.ret (.agg (cD (aA l (a+2))))) none h:=fun h=>eZ l (a+2) hl h
  have hlt:iS (aA l (a+1)) [46]=true→a+1<l.length:=nY
  unfold cY at ht
  generalize aA l (a+1)=t1 at ht hnow hlt
  generalize aA l (a+2)=t2 at ht hnow2
  generalize aA l a=t at ht⊢
  repeat apply sQ
  refine WR.block ?_
  repeat apply sQ
  refine WR.m 4 rfl ?_
  cases h5:decide (t.k=5)with
  |true=>
   rw[h5,Bool.true_and]at ht
   cases hw:(uE t.t).isSome with
   |true=>
    rw[hw]at ht
    subst ht
    refine WQ.q rfl ?_
    repeat apply sQ
    refine WR.aD rfl ?_
    repeat apply sQ
    refine WR.q rfl ?_
    refine gT l a (by omega) [] _ _ hls (.mk ((uE t.t).getD 0) t.a [] [] []) hlow ?_ ?_ hq
    ·exact tQ
    ·exact .cons rfl (.inl rfl) (.cons rfl (.inl rfl) (.cons rfl (.inr cQ) .nil))
   |false=>
    rw[hw]at ht
    refine WQ.q rfl ?_
    repeat apply sQ
    refine WR.aO rfl ?_
    repeat apply sQ
    refine WR.q rfl ?_
    cases h1:decide (t.k=1)with
    |false=>
     simp only[h1]at ht
     subst ht
     refine WR.aO rfl ?_
     repeat apply sQ
     refine WR.m 2 rfl ?_
     refine WQ.c rfl (fY t 5 _) .base rfl ?_
     refine WQ.q rfl ?_
     exact WR.ret (hq _ ⟨rfl,rfl,⟨_,rfl,VLe.refl _⟩,hlow⟩)
    |true=>
     simp only[h1]at ht
     refine WR.aD rfl ?_
     repeat apply sQ
     refine WR.aP aZ (DW.m 1000 rfl ?_)
     refine DW.stS pQ rfl rfl rfl rfl (DW.m 1000 rfl ?_)
     refine DW.stS pQ rfl rfl rfl rfl (DW.m 1000 rfl (DW.cC pQ ?_))
     repeat apply sQ
     refine WR.m 3 rfl ?_
     rw[bI (by unfold big;omega)]
     refine WQ.c rfl (hnow _) .base rfl ?_
     refine WQ.c rfl (gD t1 [46] _) .base rfl ?_
     refine WQ.q rfl ?_
     cases h46:iS t1 [46]with
     |false=>
      simp only[h46]at ht
      subst ht
      refine WR.k rfl ?_
      refine gT l a (by omega) [] _ _ hls (.mk 4 t.a [] t.t []) hlow ?_ ?_ hq
      ·exact tQ
      ·exact .cons rfl (.inl rfl) (.cons rfl (.inl rfl) (.cons rfl (.inr cQ) .nil))
     |true=>
      have hlt:=hlt h46
      simp only[h46]at ht
      refine WR.aD rfl ?_
      repeat apply sQ
      refine WR.m 2 rfl ?_
      rw[show IntKind.i64.wrap ((a:Int)+2)=((a+2:Nat):Int)from by rw[wrap64 (by omega) (by omega)];rfl]
      refine WQ.q rfl ?_
      repeat apply sQ
      refine WR.m 2 rfl ?_
      refine WQ.c rfl (hnow2 _) .base rfl ?_
      refine WQ.q rfl ?_
      repeat apply sQ
      refine WR.m 3 rfl ?_
      cases h21:decide (t2.k=1)with
      |false=>
       simp only[h21]at ht
       subst ht
       refine WQ.q rfl ?_
       repeat apply sQ
       refine WR.aD rfl ?_
       repeat apply sQ
       refine WR.m 2 rfl ?_
       refine WQ.c rfl (fY t2 5 _) .base rfl ?_
       refine WQ.q rfl ?_
       exact WR.ret (hq _ ⟨rfl,rfl,⟨_,rfl,VLe.refl _⟩,hlow⟩)
      |true=>
       simp only[h21]at ht
       subst ht
       refine WQ.q rfl ?_
       repeat apply sQ
       refine WR.k rfl ?_
       refine WR.aP aZ (DW.m 1000 rfl ?_)
       refine DW.stS pQ rfl rfl rfl rfl (DW.m 1000 rfl ?_)
       refine DW.stS pQ rfl rfl rfl rfl (DW.m 1000 rfl (DW.cC pQ ?_))
       refine gT l (a+2) (by omega) [] _ _ hls (.mk 4 t.a t.t t2.t []) hlow ?_ ?_ hq
       ·exact tQ
       ·exact .cons rfl (.inl rfl) (.cons rfl (.inl rfl) (.cons rfl (.inr cQ) .nil))
  |false=>
   rw[h5,Bool.false_and]at ht
   refine WQ.q rfl ?_
   repeat apply sQ
   refine WR.aO rfl ?_
   repeat apply sQ
   refine WR.q rfl ?_
   cases h1:decide (t.k=1)with
   |false=>
    simp only[h1]at ht
    subst ht
    refine WR.aO rfl ?_
    repeat apply sQ
    refine WR.m 2 rfl ?_
    refine WQ.c rfl (fY t 5 _) .base rfl ?_
    refine WQ.q rfl ?_
    exact WR.ret (hq _ ⟨rfl,rfl,⟨_,rfl,VLe.refl _⟩,hlow⟩)
   |true=>
    simp only[h1]at ht
    refine WR.aD rfl ?_
    repeat apply sQ
    refine WR.aP aZ (DW.m 1000 rfl ?_)
    refine DW.stS pQ rfl rfl rfl rfl (DW.m 1000 rfl ?_)
    refine DW.stS pQ rfl rfl rfl rfl (DW.m 1000 rfl (DW.cC pQ ?_))
    repeat apply sQ
    refine WR.m 3 rfl ?_
    rw[bI (by unfold big;omega)]
    refine WQ.c rfl (hnow _) .base rfl ?_
    refine WQ.c rfl (gD t1 [46] _) .base rfl ?_
    refine WQ.q rfl ?_
    cases h46:iS t1 [46]with
    |false=>
     simp only[h46]at ht
     subst ht
     refine WR.k rfl ?_
     refine gT l a (by omega) [] _ _ hls (.mk 4 t.a [] t.t []) hlow ?_ ?_ hq
     ·exact tQ
     ·exact .cons rfl (.inl rfl) (.cons rfl (.inl rfl) (.cons rfl (.inr cQ) .nil))
    |true=>
     have hlt:=hlt h46
     simp only[h46]at ht
     refine WR.aD rfl ?_
     repeat apply sQ
     refine WR.m 2 rfl ?_
     rw[show IntKind.i64.wrap ((a:Int)+2)=((a+2:Nat):Int)from by rw[wrap64 (by omega) (by omega)];rfl]
     refine WQ.q rfl ?_
     repeat apply sQ
     refine WR.m 2 rfl ?_
     refine WQ.c rfl (hnow2 _) .base rfl ?_
     refine WQ.q rfl ?_
     repeat apply sQ
     refine WR.m 3 rfl ?_
     cases h21:decide (t2.k=1)with
     |false=>
      simp only[h21]at ht
      subst ht
      refine WQ.q rfl ?_
      repeat apply sQ
      refine WR.aD rfl ?_
      repeat apply sQ
      refine WR.m 2 rfl ?_
      refine WQ.c rfl (fY t2 5 _) .base rfl ?_
      refine WQ.q rfl ?_
      exact WR.ret (hq _ ⟨rfl,rfl,⟨_,rfl,VLe.refl _⟩,hlow⟩)
     |true=>
      simp only[h21]at ht
      subst ht
      refine WQ.q rfl ?_
      repeat apply sQ
      refine WR.k rfl ?_
      refine WR.aP aZ (DW.m 1000 rfl ?_)
      refine DW.stS pQ rfl rfl rfl rfl (DW.m 1000 rfl ?_)
      refine DW.stS pQ rfl rfl rfl rfl (DW.m 1000 rfl (DW.cC pQ ?_))
      refine gT l (a+2) (by omega) [] _ _ hls (.mk 4 t.a t.t t2.t []) hlow ?_ ?_ hq
      ·exact tQ
      ·exact .cons rfl (.inl rfl) (.cons rfl (.inl rfl) (.cons rfl (.inr cQ) .nil))
 |cons q ls=>
  unfold xI
  repeat apply sQ
  refine WR.m 2 rfl ?_
  refine WQ.c rfl (eZ l a hl _) .base rfl ?_
  refine WQ.q rfl ?_
  repeat apply sQ
  refine WR.q rfl ?_
  repeat apply sQ
  refine WR.m 1 rfl ?_
  refine WQ.muS rfl rfl rfl rfl ?_
  refine WQ.muS rfl rfl rfl rfl ?_
  refine WQ.muS rfl rfl rfl rfl ?_
  refine WQ.q rfl ?_
  repeat apply sQ
  refine WR.m 3 rfl ?_
  refine WQ.bD rfl rfl rfl (bJu (M:=1001) rfl rfl rfl) rfl ?_
  refine WQ.q rfl ?_
  have hlow:∀b,b<1000→og [] b=og [(1000,.tok (q::ls).length),(1001,.map xM)] b:=by
   intro b hb
   simp only[aR]
   repeat rw[if_neg (by omega)]
  have hnow:∀h,SCall Go.Proofs.Tryz.prog [] 98 [lsV l,.int .i64 ((a+1:Nat):Int)] none h (.ret (.agg (cD (aA l (a+1))))) none h:=fun h=>eZ l (a+1) hl h
  have hnow2:∀h,SCall Go.Proofs.Tryz.prog [] 98 [lsV l,.int .i64 ((a+2:Nat):Int)] none h (.ret (.agg (cD (aA l (a+2))))) none h:=fun h=>eZ l (a+2) hl h
  have hlt:iS (aA l (a+1)) [46]=true→a+1<l.length:=nY
  unfold cY at ht
  generalize aA l (a+1)=t1 at ht hnow hlt
  generalize aA l (a+2)=t2 at ht hnow2
  generalize aA l a=t at ht⊢
  repeat apply sQ
  refine WR.block ?_
  repeat apply sQ
  refine WR.m 4 rfl ?_
  cases h5:decide (t.k=5)with
  |true=>
   rw[h5,Bool.true_and]at ht
   cases hw:(uE t.t).isSome with
   |true=>
    rw[hw]at ht
    subst ht
    refine WQ.q rfl ?_
    repeat apply sQ
    refine WR.aD rfl ?_
    repeat apply sQ
    refine WR.q rfl ?_
    refine gT l a (by omega) (q::ls) _ _ hls (.mk ((uE t.t).getD 0) t.a [] [] []) hlow ?_ ?_ hq
    ·exact tQ
    ·exact .cons rfl (.inl rfl) (.cons rfl (.inl rfl) (.cons rfl (.inr cQ) .nil))
   |false=>
    rw[hw]at ht
    refine WQ.q rfl ?_
    repeat apply sQ
    refine WR.aO rfl ?_
    repeat apply sQ
    refine WR.q rfl ?_
    cases h1:decide (t.k=1)with
    |false=>
     simp only[h1]at ht
     subst ht
     refine WR.aO rfl ?_
     repeat apply sQ
     refine WR.m 2 rfl ?_
     refine WQ.c rfl (fY t 5 _) .base rfl ?_
     refine WQ.q rfl ?_
     exact WR.ret (hq _ ⟨rfl,rfl,⟨_,rfl,VLe.refl _⟩,hlow⟩)
    |true=>
     simp only[h1]at ht
     refine WR.aD rfl ?_
     repeat apply sQ
     refine WR.aP aZ (DW.m 1000 rfl ?_)
     refine DW.stS pQ rfl rfl rfl rfl (DW.m 1000 rfl ?_)
     refine DW.stS pQ rfl rfl rfl rfl (DW.m 1000 rfl (DW.cC pQ ?_))
     repeat apply sQ
     refine WR.m 3 rfl ?_
     rw[bI (by unfold big;omega)]
     refine WQ.c rfl (hnow _) .base rfl ?_
     refine WQ.c rfl (gD t1 [46] _) .base rfl ?_
     refine WQ.q rfl ?_
     cases h46:iS t1 [46]with
     |false=>
      simp only[h46]at ht
      subst ht
      refine WR.k rfl ?_
      refine gT l a (by omega) (q::ls) _ _ hls (.mk 4 t.a [] t.t []) hlow ?_ ?_ hq
      ·exact tQ
      ·exact .cons rfl (.inl rfl) (.cons rfl (.inl rfl) (.cons rfl (.inr cQ) .nil))
     |true=>
      have hlt:=hlt h46
      simp only[h46]at ht
      refine WR.aD rfl ?_
      repeat apply sQ
      refine WR.m 2 rfl ?_
      rw[show IntKind.i64.wrap ((a:Int)+2)=((a+2:Nat):Int)from by rw[wrap64 (by omega) (by omega)];rfl]
      refine WQ.q rfl ?_
      repeat apply sQ
      refine WR.m 2 rfl ?_
      refine WQ.c rfl (hnow2 _) .base rfl ?_
      refine WQ.q rfl ?_
      repeat apply sQ
      refine WR.m 3 rfl ?_
      cases h21:decide (t2.k=1)with
      |false=>
       simp only[h21]at ht
       subst ht
       refine WQ.q rfl ?_
       repeat apply sQ
       refine WR.aD rfl ?_
       repeat apply sQ
       refine WR.m 2 rfl ?_
       refine WQ.c rfl (fY t2 5 _) .base rfl ?_
       refine WQ.q rfl ?_
       exact WR.ret (hq _ ⟨rfl,rfl,⟨_,rfl,VLe.refl _⟩,hlow⟩)
      |true=>
       simp only[h21]at ht
       subst ht
       refine WQ.q rfl ?_
       repeat apply sQ
       refine WR.k rfl ?_
       refine WR.aP aZ (DW.m 1000 rfl ?_)
       refine DW.stS pQ rfl rfl rfl rfl (DW.m 1000 rfl ?_)
       refine DW.stS pQ rfl rfl rfl rfl (DW.m 1000 rfl (DW.cC pQ ?_))
       refine gT l (a+2) (by omega) (q::ls) _ _ hls (.mk 4 t.a t.t t2.t []) hlow ?_ ?_ hq
       ·exact tQ
       ·exact .cons rfl (.inl rfl) (.cons rfl (.inl rfl) (.cons rfl (.inr cQ) .nil))
  |false=>
   rw[h5,Bool.false_and]at ht
   refine WQ.q rfl ?_
   repeat apply sQ
   refine WR.aO rfl ?_
   repeat apply sQ
   refine WR.q rfl ?_
   cases h1:decide (t.k=1)with
   |false=>
    simp only[h1]at ht
    subst ht
    refine WR.aO rfl ?_
    repeat apply sQ
    refine WR.m 2 rfl ?_
    refine WQ.c rfl (fY t 5 _) .base rfl ?_
    refine WQ.q rfl ?_
    exact WR.ret (hq _ ⟨rfl,rfl,⟨_,rfl,VLe.refl _⟩,hlow⟩)
   |true=>
    simp only[h1]at ht
    refine WR.aD rfl ?_
    repeat apply sQ
    refine WR.aP aZ (DW.m 1000 rfl ?_)
    refine DW.stS pQ rfl rfl rfl rfl (DW.m 1000 rfl ?_)
    refine DW.stS pQ rfl rfl rfl rfl (DW.m 1000 rfl (DW.cC pQ ?_))
    repeat apply sQ
    refine WR.m 3 rfl ?_
    rw[bI (by unfold big;omega)]
    refine WQ.c rfl (hnow _) .base rfl ?_
    refine WQ.c rfl (gD t1 [46] _) .base rfl ?_
    refine WQ.q rfl ?_
    cases h46:iS t1 [46]with
    |false=>
     simp only[h46]at ht
     subst ht
     refine WR.k rfl ?_
     refine gT l a (by omega) (q::ls) _ _ hls (.mk 4 t.a [] t.t []) hlow ?_ ?_ hq
     ·exact tQ
     ·exact .cons rfl (.inl rfl) (.cons rfl (.inl rfl) (.cons rfl (.inr cQ) .nil))
    |true=>
     have hlt:=hlt h46
     simp only[h46]at ht
     refine WR.aD rfl ?_
     repeat apply sQ
     refine WR.m 2 rfl ?_
     rw[show IntKind.i64.wrap ((a:Int)+2)=((a+2:Nat):Int)from by rw[wrap64 (by omega) (by omega)];rfl]
     refine WQ.q rfl ?_
     repeat apply sQ
     refine WR.m 2 rfl ?_
     refine WQ.c rfl (hnow2 _) .base rfl ?_
     refine WQ.q rfl ?_
     repeat apply sQ
     refine WR.m 3 rfl ?_
     cases h21:decide (t2.k=1)with
     |false=>
      simp only[h21]at ht
      subst ht
      refine WQ.q rfl ?_
      repeat apply sQ
      refine WR.aD rfl ?_
      repeat apply sQ
      refine WR.m 2 rfl ?_
      refine WQ.c rfl (fY t2 5 _) .base rfl ?_
      refine WQ.q rfl ?_
      exact WR.ret (hq _ ⟨rfl,rfl,⟨_,rfl,VLe.refl _⟩,hlow⟩)
     |true=>
      simp only[h21]at ht
      subst ht
      refine WQ.q rfl ?_
      repeat apply sQ
      refine WR.k rfl ?_
      refine WR.aP aZ (DW.m 1000 rfl ?_)
      refine DW.stS pQ rfl rfl rfl rfl (DW.m 1000 rfl ?_)
      refine DW.stS pQ rfl rfl rfl rfl (DW.m 1000 rfl (DW.cC pQ ?_))
      refine gT l (a+2) (by omega) (q::ls) _ _ hls (.mk 4 t.a t.t t2.t []) hlow ?_ ?_ hq
      ·exact tQ
      ·exact .cons rfl (.inl rfl) (.cons rfl (.inl rfl) (.cons rfl (.inr cQ) .nil))
theorem aZv{D:Nat→Prop}(r:R Tx):(tyV r).In D:=by
 cases r with
 |ok x n=>exact⟨kU x,trivial,⟨trivial,trivial,trivial⟩,trivial⟩
 |er a d p c=>exact⟨⟨trivial,trivial,trivial,trivial,⟨trivial,trivial⟩,trivial⟩,trivial,⟨trivial,trivial,trivial⟩,trivial⟩
 |out=>exact trivial
theorem tF(l:List Tz)(hl:l.length<4294967296)(a:Nat)(ha:a≤l.length)(h:H):SCall Go.Proofs.Tryz.prog [] 88 [lsV l,.int .i64 a] none h (.ret (tyV (tyF l a))) none h:=by
 refine SCall.fL rfl ?_ (by exact⟨rR l,trivial,trivial⟩) (by exact aZv _) h
 refine SCall.listed (fn:=Go.Proofs.Tryz.f88) (by kernel_rfl) bLw (by kernel_rfl) (by kernel_rfl) (Nat.le_refl _) rfl (trivial) (by exact aZv _) ?_
 unfold bMm
 repeat apply sQ
 refine WR.q rfl ?_
 refine WR.scope ?_
 repeat apply sQ
 refine WR.q rfl ?_
 repeat apply sQ
 refine WR.m 3 rfl ?_
 rw[show decide ((a:Int)<0)=false from decide_eq_false (by omega)]
 refine WQ.m 4 rfl ?_
 rw[List.length_map]
 rw[show decide ((a:Int)>(l.length:Int))=false from decide_eq_false (by omega)]
 refine WQ.q rfl ?_
 repeat apply sQ
 refine WR.k rfl ?_
 repeat apply sQ
 refine WR.q rfl ?_
 repeat(first|refine WR.seq ?_|refine WR.skip ?_)
 have hF:tyF l a=match bT l 30 a []with|.er p c=>.er 0 0 p c|.brk a' ls=>bDv ls (cY l a'):=by
  unfold tyF
  cases bT l 30 a []with
  |er p c=>rfl
  |brk a' ls=>simp only;cases cY l a'<;>rfl
 refine WR.block (WR.loop (WLr.weak (s:=SL.toS ⟨bCp l a [],[],none,nxI [],aGi [],aQe⟩) ?_ (aRx l hl 30 a [] rfl ha (fun a' ls' h1 h2 h3 tm htm lc hlc=>?_) (fun p c h1 s hs=>?_))))
 ·refine SW.aM ?_ ?_
  ·exact tQ
  ·exact lQ
 ·refine aSl l hl a' h3 ls' h2 _ rfl (fun s hs=>?_) htm hlc
  rw[hF,h1]
  exact hs
 ·rw[hF,h1]
  exact hs
end Go.VM
end
section
/- Expressions: what the reader's functions come to. -/
set_option maxRecDepth 100000
namespace Go.VM
open Go.RowKit
inductive Ex where
 |mk (k:Nat) (a e:Int) (nm:List Nat) (n:Int) (t:Tx) (args:List Ex)
mutual
def eA:Ex→List V
 |.mk k a e nm n (.mk tk ta tp tn tl) args=>[.int .i64 k,.int .i64 a,.int .i64 e,.str nm,.int .i64 n,.int .i64 tk,.int .i64 ta,.str tp,.str tn,.lst (aFa tl) .unk,.lst (jI args) .unk]
def jI:List Ex→List (List V)
 |[]=>[]
 |x::l=>eA x::jI l
end
mutual
theorem iZ{D:Nat→Prop}:∀x:Ex,Ins D (eA x)
 |.mk k a e nm n (.mk tk ta tp tn tl) args=>⟨trivial,trivial,trivial,trivial,trivial,trivial,trivial,trivial,trivial,⟨gH tl,trivial⟩,⟨nH args,trivial⟩,trivial⟩
theorem nH{D:Nat→Prop}:∀l:List Ex,Inss D (jI l)
 |[]=>trivial
 |x::l=>⟨iZ x,nH l⟩
end
theorem gA:∀l:List Ex,jI l=l.map eA
 |[]=>rfl
 |x::l=>by simp only[jI,List.map_cons,gA l]
theorem eG:∀x:Ex,(eA x).length=11
 |.mk k a e nm n (.mk tk ta tp tn tl) args=>rfl
theorem aHv:∀x:Ex,(eA x).map V.bV=eA x
 |.mk k a e nm n (.mk tk ta tp tn tl) args=>rfl
theorem nS:∀x:Ex,(eA x).all V.aW=true
 |.mk k a e nm n (.mk tk ta tp tn tl) args=>rfl
def zT:Tx:=.mk 0 0 [] [] []
def zEx:List V:=[.int .i64 0,.int .i64 0,.int .i64 0,.str [],.int .i64 0,.int .i64 0,.int .i64 0,.str [],.str [],.lst [] (.ex 0),.lst [] (.ex 0)]
def Ex.kind:Ex→Nat|.mk k .. =>k
def Ex.at':Ex→Int|.mk _ a .. =>a
def Ex.en:Ex→Int|.mk _ _ e .. =>e
def lK(x:Ex):V:=.agg (eA x)
theorem cJ{D:Nat→Prop}(x:Ex):(lK x).In D:=iZ x
def aJd(r:List Ex×Int):V:=.tup [.lst (jI r.1) .unk,.int .i64 r.2]
theorem tJ{D:Nat→Prop}(r:List Ex×Int):(aJd r).In D:=⟨⟨nH _,trivial⟩,trivial,trivial⟩
def lev(s:List Nat):Nat:=match decide (s=[38,38])with
 |true=>1
 |false=>match decide (s=[61,61])with
  |true=>2
  |false=>match decide (s=[60])with
   |true=>2
   |false=>match decide (s=[43])with
    |true=>3
    |false=>match decide (s=[45])with
     |true=>3
     |false=>match decide (s=[42])with
      |true=>4
      |false=>0
structure Fns where
 expr:Nat→Nat→Nat→R Ex
 oper:Nat→Nat→R Ex
 prim:Nat→Nat→R Ex
 list:List Nat→Nat→Nat→R (List Ex×Int)
 bin:Nat→Ex→Nat→Nat→R Ex
 post:Ex→Nat→Nat→R Ex
 elts:List Ex→Nat→Nat→R (List Ex)
def oM(lv:Nat)(t:Tz):Bool:=decide (t.k=4)&&decide ((lev t.t:Int)=lv)
def aPt(t:Tz)(x y:Ex):Ex:=.mk 9 x.at' y.en t.t 0 zT [x,y]
def aWm(s:List Nat):Bool:=!decide (s.length<2)&&(decide (s[0]? =some 34)&&decide (s[s.length-1]? =some 34))
def bEn(s:List Nat):List Nat:=(s.drop 1).take (s.length-1-1)
def cX(f:Fns)(lv a d:Nat):R Ex:=match Nat.blt 4 lv with
 |true=>f.oper a d
 |false=>(f.expr (lv+1) a d).bind fun x a1=>f.bin lv x a1 d
def gG(l:List Tz)(f:Fns)(lv:Nat)(x:Ex)(a d:Nat):R Ex:=match oM lv (aA l a)with
 |true=>(f.expr (lv+1) (a+1) d).bind fun y a2=>f.bin lv (aPt (aA l a) x y) a2 d
 |false=>.ok x a
def dH(l:List Tz)(f:Fns)(a d:Nat):R Ex:=match isF l a 4 [33]with
 |true=>(aX l a d f.oper).bind fun x a1=>.ok (.mk 10 (aA l a).a x.en [] 0 zT [x]) a1
 |false=>(f.prim a d).bind fun x a1=>f.post x a1 d
def dI(l:List Tz)(f:Fns)(x:Ex)(a d:Nat):R Ex:=match isF l a 4 [46]with
 |true=>match decide ((aA l (a+1)).k=1)with
  |true=>f.post (.mk 5 x.at' (aA l (a+1)).e (aA l (a+1)).t 0 zT [x]) (a+1+1) d
  |false=>fD l (a+1) d 5
 |false=>match isF l a 4 [40]with
  |true=>(f.list [41] a d).bind fun r a1=>f.post (.mk 6 x.at' r.2 [] 0 zT (x::r.1)) a1 d
  |false=>match isF l a 4 [91]with
   |true=>(aX l a d (f.expr 1)).bind fun z a1=>(cH l a1 d [93]).bind fun e a2=>f.post (.mk 7 x.at' e [] 0 zT [x,z]) a2 d
   |false=>.ok x a
def eR(l:List Tz)(f:Fns)(to:List Nat)(a d:Nat):R (List Ex):=match isF l a 4 to with
 |true=>.ok [] a
 |false=>f.elts [] a d
def cR(l:List Tz)(f:Fns)(to:List Nat)(a d:Nat):R (List Ex×Int):=(aX l a d (eR l f to)).bind fun es a1=>(cH l a1 d to).bind fun e a2=>.ok (es,e) a2
def cZ(l:List Tz)(f:Fns)(acc:List Ex)(a d:Nat):R (List Ex):=(f.expr 1 a d).bind fun x a1=>match isF l a1 4 [44]with
 |true=>f.elts (acc++[x]) (a1+1) d
 |false=>.ok (acc++[x]) a1
def oL(l:List Tz)(f:Fns)(p:Int)(a d:Nat):R Ex:=match tyF l (a+1)with
 |.ok ty a1=>match isF l a1 4 [123]with
  |true=>(f.list [125] a1 d).bind fun r a2=>.ok (.mk 8 p r.2 [] 0 ty r.1) a2
  |false=>fD l a1 d 5
 |.er _ _ p c=>.er a d p c
 |.out=>.out
def aWx:List Nat:=[116,114,117,101]
def aMg:List Nat:=[102,97,108,115,101]
def bGj:List Nat:=[110,101,119]
def dG(l:List Tz)(f:Fns)(a d:Nat):R Ex:=match decide ((aA l a).k=2)with
 |true=>(fV l (aA l a).t a d).bind fun n _=>.ok (.mk 1 (aA l a).a (aA l a).e [] n zT []) (a+1)
 |false=>match decide ((aA l a).k=3)with
  |true=>match aWm (aA l a).t with
   |true=>.ok (.mk 2 (aA l a).a (aA l a).e (bEn (aA l a).t) 0 zT []) (a+1)
   |false=>fD l a d 3
  |false=>match isF l a 5 aWx with
   |true=>.ok (.mk 3 (aA l a).a (aA l a).e [] 1 zT []) (a+1)
   |false=>match isF l a 5 aMg with
    |true=>.ok (.mk 3 (aA l a).a (aA l a).e [] 0 zT []) (a+1)
    |false=>match decide ((aA l a).k=1)with
     |true=>.ok (.mk 4 (aA l a).a (aA l a).e (aA l a).t 0 zT []) (a+1)
     |false=>match isF l a 4 [40]with
      |true=>(aX l a d (f.expr 1)).bind fun x a1=>(cH l a1 d [41]).bind fun _ a2=>.ok x a2
      |false=>match isF l a 5 bGj with
       |true=>oL l f (aA l a).a a d
       |false=>fD l a d 5
def fns(l:List Tz):Nat→Fns
 |0=>⟨fun _ _ _=>.out,fun _ _=>.out,fun _ _=>.out,fun _ _ _=>.out,fun _ _ _ _=>.out,fun _ _ _=>.out,fun _ _ _=>.out⟩
 |n+1=>⟨cX (fns l n),dH l (fns l n),dG l (fns l n),cR l (fns l n),gG l (fns l n),dI l (fns l n),cZ l (fns l n)⟩
def Fwd{α:Type}(l:List Tz)(a:Nat)(r:R α):Prop:=∀v a',r=.ok v a'→a≤a'∧(a≤l.length→a'≤l.length)
theorem Fwd.bind{α β:Type}{l:List Tz}{a:Nat}{r:R α}{f:α→Nat→R β}(h:Fwd l a r)(k:∀v a1,r=.ok v a1→Fwd l a1 (f v a1)):Fwd l a (r.bind f):=by
 intro v a' e
 cases r with
 |ok x a1=>
  have h1:=h x a1 rfl
  have h2:=k x a1 rfl v a' e
  exact⟨by omega,fun q=>h2.2 (h1.2 q)⟩
 |er _ _ _ _=>cases e
 |out=>cases e
theorem Fwd.ok{α:Type}{l:List Tz}{a a1:Nat}{v:α}(h:a≤a1)(k:a≤l.length→a1≤l.length):Fwd l a (R.ok v a1):=by
 intro v a' e
 cases e
 exact⟨h,k⟩
theorem Fwd.er{α:Type}{l:List Tz}{a a1 d1:Nat}{p c:Int}:Fwd l a (R.er (α:=α) a1 d1 p c):=fun v a' e=>by cases e
theorem Fwd.out{α:Type}{l:List Tz}{a:Nat}:Fwd l a (R.out (α:=α)):=fun v a' e=>by cases e
theorem Fwd.up{α:Type}{l:List Tz}{a a1:Nat}{r:R α}(h:Fwd l a1 r)(h1:a≤a1)(k:a≤l.length→a1≤l.length):Fwd l a r:=by
 intro v a' e
 have:=h v a' e
 exact⟨by omega,fun q=>this.2 (k q)⟩
theorem bH{l:List Tz}{a:Nat}{k:Int}{s:List Nat}(h:isF l a k s=true)(hk:k≠0):a<l.length:=(List.getElem?_eq_some_iff.1 (yF h hk)).1
theorem cP{l:List Tz}{a:Nat}(hk:(aA l a).k≠0):a<l.length:=by
 rcases Nat.lt_or_ge a l.length with h|h
 ·exact h
 ·rw[gJ h]at hk;exact absurd rfl hk
theorem Fwd.dK{l:List Tz}{a d:Nat}{s:List Nat}:Fwd l a (cH l a d s):=by
 unfold cH
 cases h:isF l a 4 s with
 |true=>exact .ok (by omega) (fun _=>bH h (by decide))
 |false=>exact .er
theorem Fwd.within{α:Type}{l:List Tz}{a d:Nat}{f:Nat→Nat→R α}(ha:a<l.length)(h:Fwd l (a+1) (f (a+1) (d+1))):Fwd l a (aX l a d f):=by
 unfold aX
 split
 ·exact .er
 ·exact h.up (by omega) (fun _=>ha)
end Go.VM
end
section
/- Expressions: readings go on. -/
set_option maxRecDepth 100000
namespace Go.VM
open Go.RowKit
theorem kO(l:List Tz):∀(m a:Nat) (ls:List Int) (a':Nat) (ls':List Int),bT l m a ls=.brk a' ls'→a≤a'∧(a≤l.length→a'≤l.length)
 |0,a,ls,a',ls',h=>by
  simp only[bT]at h
  split at h
  ·cases h;exact⟨Nat.le_refl _,fun q=>q⟩
  ·cases h
 |m+1,a,ls,a',ls',h=>by
  simp only[bT]at h
  split at h
  ·cases h;exact⟨Nat.le_refl _,fun q=>q⟩
  ·split at h
   ·cases h
   ·rename_i h1 _ h2
    have:=nY h2
    have ih:=kO l m (a+2) _ a' ls' h
    exact⟨by omega,fun _=>ih.2 (by omega)⟩
theorem rO{l:List Tz}{a:Nat}{x:Tx}{a2:Nat}(h:cY l a=.ok x a2):a≤a2∧a2+1≤l.length:=by
 unfold cY at h
 split at h
 ·rename_i h5
  cases h
  simp only[Bool.and_eq_true,decide_eq_true_eq]at h5
  have:=cP (l:=l) (a:=a) (by rw[h5.1];decide)
  omega
 ·split at h
  ·rename_i h1
   simp only[decide_eq_true_eq]at h1
   have:=cP (l:=l) (a:=a) (by rw[h1];decide)
   split at h
   ·split at h
    ·rename_i h2
     cases h
     simp only[decide_eq_true_eq]at h2
     have:=cP (l:=l) (a:=a+2) (by rw[h2];decide)
     omega
    ·cases h
   ·cases h
    omega
  ·cases h
theorem nO{l:List Tz}{a:Nat}{x:Tx}{a2:Nat}(h:tyF l a=.ok x a2):a<a2∧a2≤l.length:=by
 unfold tyF at h
 split at h
 ·cases h
 ·rename_i a' ls ho
  have h1:=kO l 30 a [] a' ls ho
  split at h
  ·rename_i y a3 hb
   cases h
   have:=rO hb
   omega
  ·cases h
  ·cases h
structure FwdF(l:List Tz)(f:Fns):Prop where
 expr:∀lv a d,Fwd l a (f.expr lv a d)
 oper:∀a d,Fwd l a (f.oper a d)
 prim:∀a d,Fwd l a (f.prim a d)
 list:∀to a d,a<l.length→Fwd l a (f.list to a d)
 bin:∀lv x a d,Fwd l a (f.bin lv x a d)
 post:∀x a d,Fwd l a (f.post x a d)
 elts:∀acc a d,Fwd l a (f.elts acc a d)
theorem aWg{l:List Tz}{f:Fns}(h:FwdF l f):FwdF l ⟨cX f,dH l f,dG l f,cR l f,gG l f,dI l f,cZ l f⟩:=by
 refine⟨fun lv a d=>?_,fun a d=>?_,fun a d=>?_,fun to a d ha=>?_,fun lv x a d=>?_,fun x a d=>?_,fun acc a d=>?_⟩
 ·show Fwd l a (cX f lv a d)
  unfold cX
  split
  ·exact h.oper _ _
  ·exact(h.expr _ _ _).bind fun v a1 _=>h.bin _ _ _ _
 ·show Fwd l a (dH l f a d)
  unfold dH
  split
  ·rename_i hi
   exact(Fwd.within (bH hi (by decide)) (h.oper _ _)).bind fun v a1 _=>.ok (Nat.le_refl _) (fun q=>q)
  ·exact(h.prim _ _).bind fun v a1 _=>h.post _ _ _
 ·show Fwd l a (dG l f a d)
  unfold dG
  split
  ·rename_i hk
   have hk:(aA l a).k=2:=of_decide_eq_true hk
   have:=cP (l:=l) (a:=a) (by rw[hk];decide)
   intro v a' e
   cases hn:fV l (aA l a).t a d with
   |ok n a1=>
    rw[hn]at e
    cases e
    omega
   |er _ _ _ _=>rw[hn]at e;cases e
   |out=>rw[hn]at e;cases e
  ·split
   ·rename_i hk
    have hk:(aA l a).k=3:=of_decide_eq_true hk
    have:=cP (l:=l) (a:=a) (by rw[hk];decide)
    split
    ·exact .ok (by omega) (fun _=>by omega)
    ·exact .er
   ·split
    ·rename_i hi
     have:=bH hi (by decide)
     exact .ok (by omega) (fun _=>by omega)
    ·split
     ·rename_i hi
      have:=bH hi (by decide)
      exact .ok (by omega) (fun _=>by omega)
     ·split
      ·rename_i hk
       have hk:(aA l a).k=1:=of_decide_eq_true hk
       have:=cP (l:=l) (a:=a) (by rw[hk];decide)
       exact .ok (by omega) (fun _=>by omega)
      ·split
       ·rename_i hi
        exact(Fwd.within (bH hi (by decide)) (h.expr _ _ _)).bind fun v a1 _=>Fwd.dK.bind fun _ a2 _=>.ok (Nat.le_refl _) (fun q=>q)
       ·split
        ·unfold oL
         split
         ·rename_i ty a1 ht
          have:=nO ht
          split
          ·rename_i hi
           exact((h.list _ _ _ (bH hi (by decide))).up (by omega) (fun _=>by omega)).bind fun v a2 _=>.ok (Nat.le_refl _) (fun q=>q)
          ·exact .er
         ·exact .er
         ·exact .out
        ·exact .er
 ·show Fwd l a (cR l f to a d)
  unfold cR
  refine(Fwd.within ha ?_).bind fun v a1 _=>Fwd.dK.bind fun _ a2 _=>.ok (Nat.le_refl _) (fun q=>q)
  unfold eR
  split
  ·exact .ok (Nat.le_refl _) (fun q=>q)
  ·exact h.elts _ _ _
 ·show Fwd l a (gG l f lv x a d)
  unfold gG
  split
  ·rename_i hb
   unfold oM at hb
   simp only[Bool.and_eq_true,decide_eq_true_eq]at hb
   have:=cP (l:=l) (a:=a) (by rw[hb.1];decide)
   exact((h.expr _ _ _).up (by omega) (fun _=>by omega)).bind fun v a2 _=>h.bin _ _ _ _
  ·exact .ok (Nat.le_refl _) (fun q=>q)
 ·show Fwd l a (dI l f x a d)
  unfold dI
  split
  ·rename_i hi
   have:=bH hi (by decide)
   split
   ·rename_i hk
    have hk:(aA l (a+1)).k=1:=of_decide_eq_true hk
    have:=cP (l:=l) (a:=a+1) (by rw[hk];decide)
    exact(h.post _ _ _).up (by omega) (fun _=>by omega)
   ·exact .er
  ·split
   ·rename_i hi
    exact(h.list _ _ _ (bH hi (by decide))).bind fun v a2 _=>h.post _ _ _
   ·split
    ·rename_i hi
     exact(Fwd.within (bH hi (by decide)) (h.expr _ _ _)).bind fun v a1 _=>Fwd.dK.bind fun _ a2 _=>h.post _ _ _
    ·exact .ok (Nat.le_refl _) (fun q=>q)
 ·show Fwd l a (cZ l f acc a d)
  unfold cZ
  refine(h.expr _ _ _).bind fun v a1 _=>?_
  split
  ·rename_i hi
   have:=bH hi (by decide)
   exact(h.elts _ _ _).up (by omega) (fun _=>by omega)
  ·exact .ok (Nat.le_refl _) (fun q=>q)
theorem dN(l:List Tz):∀n,FwdF l (fns l n)
 |0=>⟨fun _ _ _=>.out,fun _ _=>.out,fun _ _=>.out,fun _ _ _ _=>.out,fun _ _ _ _=>.out,fun _ _ _=>.out,fun _ _ _=>.out⟩
 |n+1=>aWg (dN l n)
end Go.VM
end
section
/- Expressions: levels. -/
set_option maxRecDepth 100000
namespace Go.VM
open Go.RowKit
structure SpecF(l:List Tz)(f:Fns):Prop where
 expr:∀lv a d:Nat,1≤lv→lv≤5→a≤l.length→d≤30→Sp 117 [.int .i64 lv] l a d lK (f.expr lv a d)
 oper:∀a d:Nat,a≤l.length→d≤30→Sp 122 [] l a d lK (f.oper a d)
 prim:∀a d:Nat,a≤l.length→d≤30→Sp 127 [] l a d lK (f.prim a d)
 list:∀(to:List Nat) (a d:Nat),a<l.length→d≤30→Sp 128 [.str to] l a d aJd (f.list to a d)
theorem bFs{gl:List Nat}{nt nx M:Nat}{tm:TM}{ol:OL}{lc:LM}{x k:RX}{s:List Nat}(hx:rv gl tm x=some (.map M))(hk:rv gl tm k=some (.str s))(hm:og ol M=some pD):
  cG Go.Proofs.Tryz.prog gl nt tm ⟨nx,og ol,lc⟩ (some (.lk x k false (.int .i64 0) .str)) (.v (.int .i64 (lev s))):=by
 refine bJ ?_
 simp only[eM,rl,hx,hk,hm,pD]
 unfold lev
 have fs:∀(w:List Nat) (v:V) (es:List (V×V)),lY (.str s) ((.str w,v)::es)=(match decide (s=w)with|true=>some (some v)|false=>lY (.str s) es):=by
  intro w v es
  show(match jE (.str s) (.str w)with|some true=>some (some v)|some false=>lY (.str s) es|none=>none)=_
  rw[show jE (.str s) (.str w)=some (decide (s=w))from rfl]
  cases decide (s=w)<;>rfl
 show(match lY (.str s) bHa with|some (some v)=>some (TV.v (pL false v true))|some none=>some (TV.v (pL false (.int .i64 0) false))|none=>none)=_
 unfold bHa
 simp only[fs]
 cases decide (s=[38,38])
 ·cases decide (s=[61,61])
  ·cases decide (s=[60])
   ·cases decide (s=[43])
    ·cases decide (s=[45])
     ·cases decide (s=[42])<;>rfl
     ·rfl
    ·rfl
   ·rfl
  ·rfl
 ·rfl
def bCi(lv:Nat):TM:=[(0,.v (.ptr 1000 0)),(1,.v (.int .i64 lv)),(4,.l 4 0),(5,.l 5 0),(6,.l 6 0)]
def aTc(x:Ex)(t:Tz):LM:=[(4,zEx),(5,eA x),(6,cD t)]
theorem aXn{QN:S→Prop}{QX:X→S→Prop}(l:List Tz)(hl:l.length<4294967296)(lv d:Nat)(h1:1≤lv)(h4:lv≤4)(hd:d≤30):∀(n:Nat),(∀m,m<n→SpecF l (fns l m))→∀(x:Ex) (a:Nat),a≤l.length→((fns l n).bin lv x a d).aY=false→
  (∀y a',(fns l n).bin lv x a d=.ok y a'→∀tm lc t,TellT tm (aTc y t) (bCi lv)→TellL lc (aTc y t)→QX (.exit 0) (SL.toS ⟨tm,[],none,1002,rdL l a' d,lc⟩))→
  (∀a' d' p c,(fns l n).bin lv x a d=.er a' d' p c→∀tm lc,QX (.panic (cV p c)) (SL.toS ⟨tm,[],none,1002,rdL l a' d',lc⟩))→
  WLr Go.Proofs.Tryz.prog [] ⟨Go.Proofs.Tryz.f117.ntmps,none,117⟩ aAb (SL.toS ⟨bCi lv,[],none,1002,rdL l a d,aTc x (aA l a)⟩) QN QX:=by
 intro n
 induction n with
 |zero=>intro _ x a _ ho;cases ho
 |succ n ih=>
  intro hs x a ha ho hq hp
  obtain⟨xk,xa,xe,xn,xv,⟨xtk,xta,xtp,xtn,xtl⟩,xs⟩:=x
  have hb:(fns l (n+1)).bin lv (.mk xk xa xe xn xv (.mk xtk xta xtp xtn xtl) xs) a d=gG l (fns l n) lv (.mk xk xa xe xn xv (.mk xtk xta xtp xtn xtl) xs) a d:=rfl
  rw[hb]at ho hq hp
  unfold gG at ho hq hp
  unfold aAb
  refine WLr.of ?_
  repeat apply sQ
  refine WR.aP aZ (DW.m 4 rfl ?_)
  have stop:oM lv (aA l a)=false→∀tm,TellT tm (aTc (.mk xk xa xe xn xv (.mk xtk xta xtp xtn xtl) xs) (aA l a)) (bCi lv)→QX (.exit 0) (SL.toS ⟨tm,[],none,1002,rdL l a d,aTc (.mk xk xa xe xn xv (.mk xtk xta xtp xtn xtl) xs) (aA l a)⟩):=by
   intro e tm ht
   rw[e]at hq
   refine hq _ _ rfl _ _ (aA l a) ht ?_
   exact lQ
  refine DW.guard 21 rfl (fun e=>?_) (fun e=>?_)<;>rw[e]
  ·refine DW.m 6 rfl ?_
   refine DW.bD rfl (bFs (M:=1001) rfl rfl rfl) rfl (DW.m 1000 rfl (DW.cC pQ ?_))
   cases e2:decide ((lev (aA l a).t:Int)=(lv:Int))with
   |false=>
    repeat apply sQ
    refine WR.aO rfl (WR.exit (stop ?_ _ ?_))
    ·unfold oM;rw[e,e2];rfl
    ·exact tQ
   |true=>
    have hbb:oM lv (aA l a)=true:=by unfold oM;rw[e,e2];rfl
    have halt:=cP (l:=l) (a:=a) (by rw[of_decide_eq_true e];decide)
    simp only[hbb]at ho hq hp
    repeat apply sQ
    refine WR.aD rfl (WR.skip ?_)
    repeat apply sQ
    refine WR.block ?_
    repeat apply sQ
    refine WR.m 5 rfl ?_
    rw[bI (by unfold big;omega)]
    refine WQ.q rfl ?_
    repeat apply sQ
    refine WR.m 3 rfl ?_
    rw[bI (by unfold big;omega)]
    have sp:=(hs n (Nat.lt_succ_self _)).expr (lv+1) (a+1) d (by omega) (by omega) (by omega) hd
    have fw:=(dN l n).expr (lv+1) (a+1) d
    cases hy:(fns l n).expr (lv+1) (a+1) d with
    |out=>rw[hy]at ho;cases ho
    |er a1 d1 p c=>
     rw[hy]at sp hp
     refine WQ.aL rfl rfl rfl rfl rfl (sp.er ((by exact⟨trivial,trivial⟩)) (R:=1000) (M:=1001) (by decide) (by decide) (by decide) rfl rfl) (.put .base rfl) (hp _ _ _ _ rfl _ _)
    |ok y a2=>
     rw[hy]at sp hq hp ho fw
     have ha2:=(fw _ _ rfl).2 (by omega)
     obtain⟨yk,ya,ye,yn,yv,⟨ytk,yta,ytp,ytn,ytl⟩,ys⟩:=y
     refine WQ.c rfl (sp.ok ((by exact⟨trivial,trivial⟩)) (cJ _) (R:=1000) (M:=1001) (by decide) (by decide) (by decide) rfl rfl) (.put .base rfl) rfl ?_
     refine WQ.q rfl ?_
     repeat apply sQ
     refine WR.q rfl ?_
     unfold aGc
     repeat apply sQ
     refine WR.q rfl ?_
     repeat apply sQ
     refine WR.q rfl ?_
     repeat apply sQ
     refine WR.m 1 rfl ?_
     refine WQ.c rfl (rZ (l:=l) (a:=a2) (d:=d) (M:=1001) hl (by decide) (by decide) (by decide) rfl rfl) .base rfl (WQ.q rfl ?_)
     refine WIr.again (WLr.weak ?_ (ih (fun m hm=>hs m (Nat.lt_succ_of_lt hm)) (aPt (aA l a) (.mk xk xa xe xn xv (.mk xtk xta xtp xtn xtl) xs) (.mk yk ya ye yn yv (.mk ytk yta ytp ytn ytl) ys)) a2 ha2 ho hq hp))
     refine SW.aM ?_ ?_
     ·exact tQ
     ·refine .cons rfl (.inl rfl) (.cons rfl (.inr ?_) (.cons rfl (.inl rfl) .nil))
      exact cQ
  ·refine DW.m 1000 rfl (DW.cC pQ ?_)
   repeat apply sQ
   refine WR.aO rfl (WR.exit (stop ?_ _ ?_))
   ·unfold oM;rw[e];rfl
   ·exact tQ
end Go.VM
end
section
/- Expressions: an expression of a level. -/
set_option maxRecDepth 100000
namespace Go.VM
open Go.RowKit
theorem aTd(l:List Tz)(hl:l.length<4294967296)(n:Nat)(hs:∀m,m≤n→SpecF l (fns l m))(lv a d:Nat)(h1:1≤lv)(h5:lv≤5)(ha:a≤l.length)(hd:d≤30):
  Sp 117 [.int .i64 lv] l a d lK ((fns l (n+1)).expr lv a d):=by
 have hb:(fns l (n+1)).expr lv a d=cX (fns l n) lv a d:=rfl
 rw[hb]
 unfold cX
 cases h4:Nat.blt 4 lv with
 |true=>
  have h4:4<lv:=by rwa[Nat.blt_eq]at h4
  have sp:=(hs n (Nat.le_refl _)).oper a d ha hd
  simp only
  intro ho
  cases hy:(fns l n).oper a d with
  |out=>rw[hy]at ho;cases ho
  |er a1 d1 p c=>
   rw[hy]at sp
   refine SCall.aI (fn:=Go.Proofs.Tryz.f117) (by kernel_rfl) aEc (by kernel_rfl) (by kernel_rfl) (Nat.le_refl _) rfl ((dU (by show 1001<1002;decide) _ _ _)) bA ?_
   unfold aIl
   repeat apply sQ
   refine WR.q rfl ?_
   repeat apply sQ
   refine WR.m 2 rfl ?_
   rw[show decide ((lv:Int)>4)=true from decide_eq_true (by omega)]
   refine WQ.q rfl ?_
   repeat apply sQ
   refine WR.aD rfl ?_
   repeat apply sQ
   refine WR.m 1 rfl ?_
   refine WQ.aL rfl rfl rfl rfl rfl (sp.er (trivial) (R:=1000) (M:=1001) (by decide) (by decide) (by decide) rfl rfl) (.put .base rfl) ⟨rfl,rfl,rfl,fun _ _=>rfl⟩
  |ok y a2=>
   rw[hy]at sp
   obtain⟨yk,ya,ye,yn,yv,⟨ytk,yta,ytp,ytn,ytl⟩,ys⟩:=y
   refine SCall.aI (fn:=Go.Proofs.Tryz.f117) (by kernel_rfl) aEc (by kernel_rfl) (by kernel_rfl) (Nat.le_refl _) rfl ((dU (by show 1001<1002;decide) _ _ _)) (by exact cJ _) ?_
   unfold aIl
   repeat apply sQ
   refine WR.q rfl ?_
   repeat apply sQ
   refine WR.m 2 rfl ?_
   rw[show decide ((lv:Int)>4)=true from decide_eq_true (by omega)]
   refine WQ.q rfl ?_
   repeat apply sQ
   refine WR.aD rfl ?_
   repeat apply sQ
   refine WR.m 1 rfl ?_
   refine WQ.c rfl (sp.ok (trivial) (cJ _) (R:=1000) (M:=1001) (by decide) (by decide) (by decide) rfl rfl) (.put .base rfl) rfl ?_
   refine WQ.q rfl ?_
   exact WR.e
 |false=>
  have h4:lv≤4:=by
   rcases Nat.lt_or_ge 4 lv with h|h
   ·rw[show Nat.blt 4 lv=true from by rw[Nat.blt_eq];exact h]at h4;cases h4
   ·exact h
  have sp:=(hs n (Nat.le_refl _)).expr (lv+1) a d (by omega) (by omega) ha hd
  have fw:=(dN l n).expr (lv+1) a d
  simp only
  intro ho
  cases hy:(fns l n).expr (lv+1) a d with
  |out=>rw[hy]at ho;cases ho
  |er a1 d1 p c=>
   rw[hy]at sp
   refine SCall.aI (fn:=Go.Proofs.Tryz.f117) (by kernel_rfl) aEc (by kernel_rfl) (by kernel_rfl) (Nat.le_refl _) rfl ((dU (by show 1001<1002;decide) _ _ _)) bA ?_
   unfold aIl
   repeat apply sQ
   refine WR.q rfl ?_
   repeat apply sQ
   refine WR.m 2 rfl ?_
   rw[show decide ((lv:Int)>4)=false from decide_eq_false (by omega)]
   refine WQ.q rfl ?_
   repeat apply sQ
   refine WR.k rfl ?_
   repeat apply sQ
   refine WR.m 3 rfl ?_
   rw[bI (by unfold big;omega)]
   refine WQ.aL rfl rfl rfl rfl rfl (sp.er ((by exact⟨trivial,trivial⟩)) (R:=1000) (M:=1001) (by decide) (by decide) (by decide) rfl rfl) (.put .base rfl) ⟨rfl,rfl,rfl,fun _ _=>rfl⟩
  |ok x a1=>
   rw[hy]at sp fw ho
   have ha1:=(fw _ _ rfl).2 ha
   have ho:((fns l n).bin lv x a1 d).aY=false:=ho
   show SCall _ _ _ _ _ _ ((fns l n).bin lv x a1 d|>.pP lK) _ _
   have lp:=fun(QN:S→Prop) (QX:X→S→Prop)=>aXn (QN:=QN) (QX:=QX) l hl lv d h1 h4 hd n (fun m hm=>hs m (Nat.le_of_lt hm)) x a1 ha1 ho
   obtain⟨xk,xa,xe,xn,xv,⟨xtk,xta,xtp,xtn,xtl⟩,xs⟩:=x
   show SCall _ _ _ _ _ _ _ _ ⟨1002,og (rdL l ((fns l n).bin lv _ a1 d).at' (((fns l n).bin lv _ a1 d).dp d)),[]⟩
   generalize(fns l n).bin lv (.mk xk xa xe xn xv (.mk xtk xta xtp xtn xtl) xs) a1 d=r at lp ho⊢
   have hin:r.pP lK|>.In (· <1002):=by
    cases r with
    |ok y _=>exact cJ y
    |er _ _ _ _=>exact bA
    |out=>cases ho
   refine SCall.aI (fn:=Go.Proofs.Tryz.f117) (by kernel_rfl) aEc (by kernel_rfl) (by kernel_rfl) (Nat.le_refl _) rfl ((dU (by show 1001<1002;decide) _ _ _)) hin ?_
   unfold aIl
   repeat apply sQ
   refine WR.q rfl ?_
   repeat apply sQ
   refine WR.m 2 rfl ?_
   rw[show decide ((lv:Int)>4)=false from decide_eq_false (by omega)]
   refine WQ.q rfl ?_
   repeat apply sQ
   refine WR.k rfl ?_
   repeat apply sQ
   refine WR.m 3 rfl ?_
   rw[bI (by unfold big;omega)]
   refine WQ.c rfl (sp.ok ((by exact⟨trivial,trivial⟩)) (cJ _) (R:=1000) (M:=1001) (by decide) (by decide) (by decide) rfl rfl) (.put .base rfl) rfl ?_
   refine WQ.q rfl ?_
   repeat apply sQ
   refine WR.m 1 rfl ?_
   refine WQ.c rfl (rZ (l:=l) (a:=a1) (d:=d) (M:=1001) hl (by decide) (by decide) (by decide) rfl rfl) .base rfl (WQ.q rfl ?_)
   repeat apply sQ
   refine WR.block (WR.loop (WLr.weak (s:=SL.toS ⟨bCi lv,[],none,1002,rdL l a1 d,aTc (.mk xk xa xe xn xv (.mk xtk xta xtp xtn xtl) xs) (aA l a1)⟩) ?_ (lp _ _ (fun y a' e tm lc t ht hlc=>?_) (fun a' d' p c e tm lc=>?_))))
   ·refine SW.aM ?_ ?_
    ·exact tQ
    ·exact lQ
   ·subst e
    obtain⟨yk,ya,ye,yn,yv,⟨ytk,yta,ytp,ytn,ytl⟩,ys⟩:=y
    refine WR.weak (SW.aM ht hlc) ?_
    unfold aIy
    repeat apply sQ
    refine WR.q rfl ?_
    exact WR.e
   ·subst e
    exact⟨rfl,rfl,rfl,fun _ _=>rfl⟩
end Go.VM
end
section
/- Expressions: what is read within a bracket. -/
set_option maxRecDepth 100000
namespace Go.VM
open Go.RowKit
def aAo:Obj:=.cells false [.ptr 1000 0]
def vmL(cs:List V):OL:=[(1002,aAo),(1003,.cells false cs)]
def mR(l:List Tz)(a d:Nat)(cs:List V):OL:=sH l a d (vmL cs)
theorem aCq{D:Nat→Prop}(h:D 1000){cs:List V}(hc:Ins D cs):gC D (vmL cs):=⟨⟨h,trivial⟩,hc,trivial⟩
theorem xK{D:Nat→Prop}(h:D 1000)(h1:D 1001)(l:List Tz)(a d:Nat){cs:List V}(hc:Ins D cs):gC D (mR l a d cs):=⟨oP h1 l a d,lV,aCq h hc⟩
def InR(f:FuncId)(l:List Tz)(a d:Nat)(r:R Ex):Prop:=∀cs,cs.length=11→Ins (· <1004) cs→match r with
 |.ok y a1=>SCall Go.Proofs.Tryz.prog [] f [.ptr 1002 0,.ptr 1003 0] none ⟨1004,og (mR l a d cs),[]⟩ (.ret (.tup [])) none ⟨1004,og (mR l a1 d (eA y)),[]⟩
 |.er a1 d1 p c=>SCall Go.Proofs.Tryz.prog [] f [.ptr 1002 0,.ptr 1003 0] none ⟨1004,og (mR l a d cs),[]⟩ (.pan (cV p c)) none ⟨1004,og (mR l a1 d1 cs),[]⟩
 |.out=>True
theorem ten{cs:List V}(h:cs.length=11):∃c0 c1 c2 c3 c4 c5 c6 c7 c8 c9 c10,cs=[c0,c1,c2,c3,c4,c5,c6,c7,c8,c9,c10]:=by
 match cs,h with
 |[c0,c1,c2,c3,c4,c5,c6,c7,c8,c9,c10],_=>exact⟨c0,c1,c2,c3,c4,c5,c6,c7,c8,c9,c10,rfl⟩
theorem bMw(l:List Tz)(hl:l.length<4294967296)(a d:Nat)(r:R Ex)(sp:Sp 122 [] l a d lK r):InR 126 l a d r:=by
 intro cs hcs hin
 cases r with
 |out=>trivial
 |er a1 d1 p c=>
  show SCall _ _ _ _ _ _ _ _ _
  refine SCall.aI (fn:=Go.Proofs.Tryz.f126) (by kernel_rfl) aVm (by kernel_rfl) (by kernel_rfl) (Nat.le_refl _) rfl (xK (by show 1000<1004;decide) (by show 1001<1004;decide) _ _ _ hin) bA ?_
  unfold aYa
  repeat apply sQ
  refine WR.m 1 rfl ?_
  refine WQ.aL rfl rfl rfl rfl rfl (sp.er (trivial) (R:=1000) (M:=1001) (by decide) (by decide) (by decide) rfl rfl) (.put .base rfl) ⟨rfl,rfl,rfl,fun _ _=>rfl⟩
 |ok y a1=>
  obtain⟨c0,c1,c2,c3,c4,c5,c6,c7,c8,c9,c10,rfl⟩:=ten hcs
  obtain⟨yk,ya,ye,yn,yv,⟨ytk,yta,ytp,ytn,ytl⟩,ys⟩:=y
  show SCall _ _ _ _ _ _ _ _ _
  refine SCall.aI (fn:=Go.Proofs.Tryz.f126) (by kernel_rfl) aVm (by kernel_rfl) (by kernel_rfl) (Nat.le_refl _) rfl (xK (by show 1000<1004;decide) (by show 1001<1004;decide) _ _ _ (iZ _)) trivial ?_
  unfold aYa
  repeat apply sQ
  refine WR.m 1 rfl ?_
  refine WQ.c rfl (sp.ok (trivial) (cJ _) (R:=1000) (M:=1001) (by decide) (by decide) (by decide) rfl rfl) (.put .base rfl) rfl ?_
  refine WQ.q rfl ?_
  exact⟨rfl,rfl,⟨_,rfl,VLe.refl _⟩,fun b _=>rfl⟩
theorem bNd(l:List Tz)(hl:l.length<4294967296)(a d:Nat)(r:R Ex)(sp:Sp 117 [.int .i64 1] l a d lK r):InR 129 l a d r:=by
 intro cs hcs hin
 cases r with
 |out=>trivial
 |er a1 d1 p c=>
  show SCall _ _ _ _ _ _ _ _ _
  refine SCall.aI (fn:=Go.Proofs.Tryz.f129) (by kernel_rfl) aZp (by kernel_rfl) (by kernel_rfl) (Nat.le_refl _) rfl (xK (by show 1000<1004;decide) (by show 1001<1004;decide) _ _ _ hin) bA ?_
  unfold aVz
  repeat apply sQ
  refine WR.m 1 rfl ?_
  refine WQ.aL rfl rfl rfl rfl rfl (sp.er ((by exact⟨trivial,trivial⟩)) (R:=1000) (M:=1001) (by decide) (by decide) (by decide) rfl rfl) (.put .base rfl) ⟨rfl,rfl,rfl,fun _ _=>rfl⟩
 |ok y a1=>
  obtain⟨c0,c1,c2,c3,c4,c5,c6,c7,c8,c9,c10,rfl⟩:=ten hcs
  obtain⟨yk,ya,ye,yn,yv,⟨ytk,yta,ytp,ytn,ytl⟩,ys⟩:=y
  show SCall _ _ _ _ _ _ _ _ _
  refine SCall.aI (fn:=Go.Proofs.Tryz.f129) (by kernel_rfl) aZp (by kernel_rfl) (by kernel_rfl) (Nat.le_refl _) rfl (xK (by show 1000<1004;decide) (by show 1001<1004;decide) _ _ _ (iZ _)) trivial ?_
  unfold aVz
  repeat apply sQ
  refine WR.m 1 rfl ?_
  refine WQ.c rfl (sp.ok ((by exact⟨trivial,trivial⟩)) (cJ _) (R:=1000) (M:=1001) (by decide) (by decide) (by decide) rfl rfl) (.put .base rfl) rfl ?_
  refine WQ.q rfl ?_
  exact⟨rfl,rfl,⟨_,rfl,VLe.refl _⟩,fun b _=>rfl⟩
theorem bNk(l:List Tz)(hl:l.length<4294967296)(a d:Nat)(r:R Ex)(sp:Sp 117 [.int .i64 1] l a d lK r):InR 132 l a d r:=by
 intro cs hcs hin
 cases r with
 |out=>trivial
 |er a1 d1 p c=>
  show SCall _ _ _ _ _ _ _ _ _
  refine SCall.aI (fn:=Go.Proofs.Tryz.f132) (by kernel_rfl) aZb (by kernel_rfl) (by kernel_rfl) (Nat.le_refl _) rfl (xK (by show 1000<1004;decide) (by show 1001<1004;decide) _ _ _ hin) bA ?_
  unfold aXw
  repeat apply sQ
  refine WR.m 1 rfl ?_
  refine WQ.aL rfl rfl rfl rfl rfl (sp.er ((by exact⟨trivial,trivial⟩)) (R:=1000) (M:=1001) (by decide) (by decide) (by decide) rfl rfl) (.put .base rfl) ⟨rfl,rfl,rfl,fun _ _=>rfl⟩
 |ok y a1=>
  obtain⟨c0,c1,c2,c3,c4,c5,c6,c7,c8,c9,c10,rfl⟩:=ten hcs
  obtain⟨yk,ya,ye,yn,yv,⟨ytk,yta,ytp,ytn,ytl⟩,ys⟩:=y
  show SCall _ _ _ _ _ _ _ _ _
  refine SCall.aI (fn:=Go.Proofs.Tryz.f132) (by kernel_rfl) aZb (by kernel_rfl) (by kernel_rfl) (Nat.le_refl _) rfl (xK (by show 1000<1004;decide) (by show 1001<1004;decide) _ _ _ (iZ _)) trivial ?_
  unfold aXw
  repeat apply sQ
  refine WR.m 1 rfl ?_
  refine WQ.c rfl (sp.ok ((by exact⟨trivial,trivial⟩)) (cJ _) (R:=1000) (M:=1001) (by decide) (by decide) (by decide) rfl rfl) (.put .base rfl) rfl ?_
  refine WQ.q rfl ?_
  exact⟨rfl,rfl,⟨_,rfl,VLe.refl _⟩,fun b _=>rfl⟩
theorem vE{f:FuncId}{l:List Tz}(hl:l.length<4294967296){a d:Nat}(ha:a<l.length)(hd:d≤30){F:Nat→Nat→R Ex}(hf:d≠30→InR f l (a+1) (d+1) (F (a+1) (d+1)))(cs:List V)(hcs:cs.length=11)(hin:Ins (· <1004) cs):
  match aX l a d F with
  |.ok y a1=>SCall Go.Proofs.Tryz.prog [] 125 [.ptr 1000 0,.fn (.func f) [] [.ptr 1002 0,.ptr 1003 0]] none ⟨1004,og (mR l a d cs),[]⟩ (.ret (.tup [])) none ⟨1004,og (mR l a1 d (eA y)),[]⟩
  |.er a1 d1 p c=>SCall Go.Proofs.Tryz.prog [] 125 [.ptr 1000 0,.fn (.func f) [] [.ptr 1002 0,.ptr 1003 0]] none ⟨1004,og (mR l a d cs),[]⟩ (.pan (cV p c)) none ⟨1004,og (mR l a1 d1 cs),[]⟩
  |.out=>True:=by
 by_cases h30:d=30
 ·subst h30
  have e:aX l a 30 F=fD l a 30 6:=by simp[aX]
  rw[e]
  exact vX l a hl 1004 (by decide) (vmL cs) rfl (aCq (by show 1000<1004;decide) hin) _
 ·have e:aX l a d F=F (a+1) (d+1):=by simp[aX,h30]
  have hf:=hf h30 cs hcs hin
  rw[e]
  generalize F (a+1) (d+1)=r at hf⊢
  cases r with
  |out=>trivial
  |er a1 d1 p c=>exact aBo l a d hl ha (by omega) 1004 1004 (by decide) (Nat.le_refl _) (vmL cs) (vmL cs) rfl (aCq (by show 1000<1004;decide) hin) f _ hf
  |ok y a1=>exact aCl l a d hl ha (by omega) 1004 1004 (by decide) (Nat.le_refl _) (vmL cs) (vmL (eA y)) rfl (aCq (by show 1000<1004;decide) (iZ y)) f _ hf
end Go.VM
end
